/- interval.Apply as a function. value.Transfer in plain Lean. value.Address in plain Lean. law28's ValueMonotone: its paths. interval.Apply: the plain law, first part: hulls and corners. interval.Apply: the plain law, second part: sums, products, quotients. interval.Apply: the plain law, third part: division. -/
import Derived.Test.YtdjippdfohlpkaaP1
namespace Go.Vm

structure I.Rng (x : I) : Prop where
  l0 : -2147483648 ≤ x.lo
  l1 : x.lo ≤ 2147483647
  h0 : -2147483648 ≤ x.hi
  h1 : x.hi ≤ 2147483647
def I.rng (x : I) : Bool := decide (-2147483648 ≤ x.lo) && decide (x.lo ≤ 2147483647) && decide (-2147483648 ≤ x.hi) && decide (x.hi ≤ 2147483647)
theorem I.rng_iff {x : I} : x.rng = true ↔ x.Rng := by
  unfold I.rng
  simp only [Bool.and_eq_true, decide_eq_true_eq]
  exact ⟨fun ⟨⟨⟨a, b⟩, c⟩, d⟩ => ⟨a, b, c, d⟩, fun ⟨a, b, c, d⟩ => ⟨⟨⟨a, b⟩, c⟩, d⟩⟩
theorem w64_eq {n : Int} (h0 : -9223372036854775808 ≤ n) (h1 : n < 9223372036854775808) : w64 n = n := wrap64 h0 h1
theorem w32_eq {n : Int} (h0 : -2147483648 ≤ n) (h1 : n < 2147483648) : w32 n = n := wrap32 h0 h1
theorem cntI_in (y : Int) : 0 ≤ cntI y ∧ cntI y < 32 := by
  have h := wrapU (n := y)
  unfold cntI
  rw [Int.tmod_eq_emod_of_nonneg h.1]
  omega
theorem meet_neg {y : I} (hy : y.Rng) (he : (y.meet ⟨-2147483648, -1⟩).emp = false) : (y.meet ⟨-2147483648, -1⟩) = ⟨y.lo, if -1 < y.hi then -1 else y.hi⟩ ∧ y.lo < 0 ∧ y.lo ≤ y.hi := by
  obtain ⟨a, b⟩ := y
  have h0 := hy.l0
  have h1 := hy.h0
  simp only at h0 h1
  unfold I.meet at he ⊢
  cases h : ((I.mk a b).emp || (I.mk (-2147483648) (-1)).emp || ((I.mk a b).meet0 ⟨-2147483648, -1⟩).emp) with
  | true => rw [h] at he; simp [I.none, I.emp] at he
  | false =>
    simp only [Bool.or_eq_false_iff, I.emp, I.meet0, decide_eq_false_iff_not] at h
    obtain ⟨⟨h2, _⟩, h3⟩ := h
    simp only [I.meet0]
    rw [if_neg (show ¬ (-2147483648 > a) by omega)] at h3 ⊢
    refine ⟨rfl, ?_, by omega⟩
    by_cases h4 : -1 < b
    · rw [if_pos h4] at h3; omega
    · rw [if_neg h4] at h3; omega
theorem meet_pos {y : I} (hy : y.Rng) (he : (y.meet ⟨1, 2147483647⟩).emp = false) : (y.meet ⟨1, 2147483647⟩) = ⟨if 1 > y.lo then 1 else y.lo, y.hi⟩ ∧ 0 < y.hi ∧ y.lo ≤ y.hi := by
  obtain ⟨a, b⟩ := y
  have h0 := hy.l1
  have h1 := hy.h1
  simp only at h0 h1
  unfold I.meet at he ⊢
  cases h : ((I.mk a b).emp || (I.mk 1 2147483647).emp || ((I.mk a b).meet0 ⟨1, 2147483647⟩).emp) with
  | true => rw [h] at he; simp [I.none, I.emp] at he
  | false =>
    simp only [Bool.or_eq_false_iff, I.emp, I.meet0, decide_eq_false_iff_not] at h
    obtain ⟨⟨h2, _⟩, h3⟩ := h
    simp only [I.meet0]
    rw [if_neg (show ¬ (2147483647 < b) by omega)] at h3 ⊢
    refine ⟨rfl, ?_, by omega⟩
    by_cases h4 : 1 > a
    · rw [if_pos h4] at h3; omega
    · rw [if_neg h4] at h3; omega

section
variable {γ : Type} (e : I → γ) (f : γ) (g : I)
theorem hullV_map (l0 : Int) (l : List Int) : hullV e l0 l = e (hullV (fun z => z) l0 l) := by unfold hullV; simp only [onB_map]
theorem cornV_map (h : Int → Int → Int) (x y : I) : cornV e h x y = e (cornV (fun z => z) h x y) := hullV_map e ..
theorem andV_map (x y : I) : andV e x y = e (andV (fun z => z) x y) := by unfold andV; simp only [onB_map]
theorem remV_map (x y : I) : remV e x y = e (remV (fun z => z) x y) := by unfold remV; simp only [onB_map]
theorem eqIV_map (x y : I) : eqIV e x y = e (eqIV (fun z => z) x y) := by unfold eqIV; simp only [onB_map]
theorem ltIV_map (x y : I) : ltIV e x y = e (ltIV (fun z => z) x y) := by unfold ltIV; simp only [onB_map]
theorem cnt_false (y : Int) : decide (cntI y < 0) = false := by have := (cntI_in y).1; simp; omega
theorem leftV_map (x y : I) : leftV e f x y = e (leftV (fun z => z) g x y) := by
  unfold leftV
  rw [cnt_false, onB_f, onB_f, hullV_map, onB_map]
theorem rightV_map (x y : I) : rightV e f x y = e (rightV (fun z => z) g x y) := by
  unfold rightV
  simp only [cnt_false, onB_f, onB_map]
theorem cornD_map {x p : I} (h0 : p.lo ≠ 0) (h1 : p.hi ≠ 0) (hp : p.Rng) : cornD e f x p = e (cornD (fun z => z) g x p) := by
  have a := hp.l0
  have b := hp.l1
  have c := hp.h0
  have d := hp.h1
  unfold cornD
  rw [w64_eq (n := p.lo) (by omega) (by omega), w64_eq (n := p.hi) (by omega) (by omega), show decide (p.lo = 0) = false by simpa using h0, show decide (p.hi = 0) = false by simpa using h1]
  simp only [onB_f]
  exact cornV_map e ..
end
theorem meet_neg_ok {y : I} (hy : y.Rng) (he : (y.meet ⟨-2147483648, -1⟩).emp = false) : (y.meet ⟨-2147483648, -1⟩).lo < 0 ∧ (y.meet ⟨-2147483648, -1⟩).hi < 0 ∧ (y.meet ⟨-2147483648, -1⟩).Rng := by
  obtain ⟨h, h1, h2⟩ := meet_neg hy he
  have a := hy.l0
  rw [h]
  by_cases h4 : -1 < y.hi
  · rw [if_pos h4]; exact ⟨h1, by simp, ⟨a, by simp only; omega, by simp only; omega, by simp only; omega⟩⟩
  · rw [if_neg h4]; exact ⟨h1, by simp only; omega, ⟨a, by simp only; omega, by simp only; omega, by simp only; omega⟩⟩
theorem meet_pos_ok {y : I} (hy : y.Rng) (he : (y.meet ⟨1, 2147483647⟩).emp = false) : 0 < (y.meet ⟨1, 2147483647⟩).lo ∧ 0 < (y.meet ⟨1, 2147483647⟩).hi ∧ (y.meet ⟨1, 2147483647⟩).Rng := by
  obtain ⟨h, h1, h2⟩ := meet_pos hy he
  have a := hy.h1
  rw [h]
  by_cases h4 : 1 > y.lo
  · rw [if_pos h4]; exact ⟨by simp, h1, ⟨by simp only; omega, by simp only; omega, by simp only; omega, a⟩⟩
  · rw [if_neg h4]; exact ⟨by simp only; omega, h1, ⟨by simp only; omega, by simp only; omega, by simp only; omega, a⟩⟩
theorem divV_map {γ : Type} (e : I → γ) (f : γ) (g : I) {x y : I} (hy : y.Rng) : divV e f x y = e (divV (fun z => z) g x y) := by
  have k2 : ∀ out : I, div2 e f x (y.meet ⟨1, 2147483647⟩) out = e (div2 (fun z => z) g x (y.meet ⟨1, 2147483647⟩) out) := fun out => by
    unfold div2
    cases he : (y.meet ⟨1, 2147483647⟩).emp with
    | true => rfl
    | false =>
      obtain ⟨h0, h1, h2⟩ := meet_pos_ok hy he
      simp only [Bool.not_false, onB_t]
      rw [cornD_map (fun o => e (out.join o)) f g (by omega) (by omega) h2, cornD_map (fun o => out.join o) g g (by omega) (by omega) h2]
  have k1 : ∀ out : I, div2 (div2 e f x (y.meet ⟨1, 2147483647⟩)) f x (y.meet ⟨-2147483648, -1⟩) out = e (div2 (div2 (fun z => z) g x (y.meet ⟨1, 2147483647⟩)) g x (y.meet ⟨-2147483648, -1⟩) out) := fun out => by
    rw [show div2 e f x (y.meet ⟨1, 2147483647⟩) = fun out => e (div2 (fun z => z) g x (y.meet ⟨1, 2147483647⟩) out) from funext k2]
    unfold div2
    cases he : (y.meet ⟨-2147483648, -1⟩).emp with
    | true => rfl
    | false =>
      obtain ⟨h0, h1, h2⟩ := meet_neg_ok hy he
      simp only [Bool.not_false, onB_t]
      rw [cornD_map _ f g (by omega) (by omega) h2, cornD_map (fun o => onB (!(y.meet ⟨1, 2147483647⟩).emp) (cornD (fun o_1 => (out.join o).join o_1) g x (y.meet ⟨1, 2147483647⟩)) (out.join o)) g g (by omega) (by omega) h2]
  unfold divV
  simp only [k1, onB_map]

/-! The mask. -/
theorem mskE_map {γ : Type} (e : Int → γ) (f : γ) (g : Int) {n : Int} (h0 : n ≤ 2147483647) (h1 : -2147483648 ≤ n) : ∀ (k j : Nat), j ≤ 31 → 32 ≤ k + j → mskE e f k (2 ^ j - 1) n = e (mskE (fun z => z) g k (2 ^ j - 1) n)
  | 0, j, h, h' => by omega
  | k + 1, j, h, h' => by
    simp only [mskE]
    rw [w64_eq (n := n) (by omega) (by omega)]
    by_cases hc : (2 : Int) ^ j - 1 < n
    · have hj : j < 31 := by
        apply Classical.byContradiction
        intro hh
        have : j = 31 := by omega
        subst this
        simp at hc; omega
      rw [show decide ((2 : Int) ^ j - 1 < n) = true by simpa using hc, onB_t, onB_t]
      have e1 : w64 (w64 (2 * ((2 : Int) ^ j - 1)) + 1) = 2 ^ (j + 1) - 1 := by
        have hb : (2 : Int) ^ j ≤ 2 ^ 31 := by
          have : (2 : Nat) ^ j ≤ 2 ^ 31 := Nat.pow_le_pow_right (by omega) (by omega)
          exact_mod_cast this
        have hp : (1 : Int) ≤ 2 ^ j := by
          have : (1 : Nat) ≤ 2 ^ j := Nat.one_le_two_pow
          exact_mod_cast this
        have h31 : (2 : Int) ^ 31 = 2147483648 := by decide
        rw [w64_eq (n := 2 * ((2 : Int) ^ j - 1)) (by omega) (by omega), w64_eq (by omega) (by omega), Int.pow_succ]
        omega
      rw [e1]
      exact mskE_map e f g h0 h1 k (j + 1) (by omega) (by omega)
    · rw [show decide ((2 : Int) ^ j - 1 < n) = false by simpa using hc, onB_f, onB_f]

theorem mx_in {a n b : Int} (h0 : a ≤ b) (h1 : n ≤ b) : mx a n ≤ b := by unfold mx; split <;> assumption
theorem mx_ge (a n : Int) : a ≤ mx a n ∧ n ≤ mx a n := by unfold mx; split <;> omega
theorem mn_le (a n : Int) : mn a n ≤ a ∧ mn a n ≤ n := by unfold mn; split <;> omega
theorem mn_in {a n b : Int} (h0 : b ≤ a) (h1 : b ≤ n) : b ≤ mn a n := by unfold mn; split <;> assumption
theorem msk0 {γ : Type} (e : Int → γ) (f : γ) (g : Int) {n : Int} (h0 : n ≤ 2147483647) (h1 : -2147483648 ≤ n) : mskE e f 40 0 n = e (mskE (fun z => z) g 40 0 n) :=
  mskE_map e f g h0 h1 40 0 (by omega) (by omega)
section
variable {γ : Type} (e : I → γ) (f : γ)
/-- The mask as a function. -/
def mskI (n : Int) : Int := mskE (fun z => z) 0 40 0 n
theorem or2_map (x y : I) : or2 e x y = e (or2 (fun z => z) x y) := by unfold or2; simp only [onB_map]
theorem orV_map {x y : I} (hx : x.Rng) (hy : y.Rng) : orV e f x y = e (orV (fun z => z) I.none x y) := by
  have h0 : mx x.hi y.hi ≤ 2147483647 := mx_in hx.h1 hy.h1
  have h1 : -2147483648 ≤ mx x.hi y.hi := Int.le_trans hx.h0 (mx_ge _ _).1
  unfold orV
  rw [msk0 (fun m => e ⟨mx x.lo y.lo, m⟩) f 0 h0 h1, msk0 (fun m => I.mk (mx x.lo y.lo) m) I.none 0 h0 h1, or2_map e]
  simp only [onB_map]
theorem xorV_map {x y : I} (hx : x.Rng) (hy : y.Rng) : xorV e f x y = e (xorV (fun z => z) I.none x y) := by
  have h0 : mx x.hi y.hi ≤ 2147483647 := mx_in hx.h1 hy.h1
  have h1 : -2147483648 ≤ mx x.hi y.hi := Int.le_trans hx.h0 (mx_ge _ _).1
  unfold xorV
  rw [msk0 (fun m => e ⟨0, m⟩) f 0 h0 h1, msk0 (fun m => I.mk 0 m) I.none 0 h0 h1]
  simp only [onB_map]
theorem wordV_map (op : Nat) (a b : Int) : wordV (fun n => e (I.of n)) (e I.none) f op a b = e (wordV (fun n => I.of n) I.none I.none op a b) := by
  have hd : ∀ z z' : γ, onB (b == 0) z (onB (decide (b = 0)) f z') = onB (b == 0) z z' := fun z z' => by
    by_cases h : b = 0
    · simp [h, onB]
    · simp [h, onB]
  have hd' : ∀ z z' : I, onB (b == 0) z (onB (decide (b = 0)) I.none z') = onB (b == 0) z z' := fun z z' => by
    by_cases h : b = 0
    · simp [h, onB]
    · simp [h, onB]
  unfold wordV
  split <;> simp only [cnt_false, onB_f, hd, hd', onB_map e, onB_map (fun n => I.of n)]
theorem wideV_map (op : Nat) {x y : I} (hx : x.Rng) (hy : y.Rng) : wideV e f op x y = e (wideV (fun z => z) I.none op x y) := by
  unfold wideV
  split
  · exact cornV_map e ..
  · exact cornV_map e ..
  · exact cornV_map e ..
  · exact divV_map e f I.none hy
  · exact remV_map e ..
  · exact andV_map e ..
  · exact orV_map e f hx hy
  · exact xorV_map e f hx hy
  · exact leftV_map e f I.none ..
  · exact rightV_map e f I.none ..
  · exact eqIV_map e ..
  · exact ltIV_map e ..
/-- interval.Apply. -/
def applyI (op : Nat) (x y : I) : I := applyV (fun z => z) I.none op x y
theorem applyV_map (op : Nat) {x y : I} (hx : x.Rng) (hy : y.Rng) : applyV e f op x y = e (applyI op x y) := by
  unfold applyI applyV
  simp only [wordV_map e f, wideV_map e f op hx hy, onB_map]
end
def applyOps : List Nat := [6, 7, 8, 9, 10, 11, 12, 13, 14, 15, 16, 18]
def applyT : List Nat → Int → I → I → Tr I
  | [], _, _, _ => .fail
  | k :: r, op, x, y => .node (decide (op = (k : Int))) (.node (x.rng && y.rng) (.leaf (applyI k x y)) .fail) (applyT r op x y)
theorem applyT_inv {op : Int} {x y z : I} : ∀ {l : List Nat}, (applyT l op x y).eval = some z → ∃ k ∈ l, op = (k : Int) ∧ x.Rng ∧ y.Rng ∧ z = applyI k x y
  | [], h => by cases h
  | k :: r, h => by
    simp only [applyT, eval_node] at h
    by_cases hk : op = (k : Int)
    · rw [if_pos (by simpa using hk)] at h
      by_cases hr : (x.rng && y.rng) = true
      · rw [if_pos hr] at h
        cases h
        rw [Bool.and_eq_true] at hr
        exact ⟨k, List.mem_cons_self, hk, I.rng_iff.1 hr.1, I.rng_iff.1 hr.2, rfl⟩
      · rw [if_neg hr] at h; cases h
    · rw [if_neg (by simpa using hk)] at h
      obtain ⟨k', h1, h2⟩ := applyT_inv h
      exact ⟨k', List.mem_cons_of_mem _ h1, h2⟩
end Go.Vm

namespace Go.Vm

def immI (i : Ins) : I := I.of (w32 i.imm)
section
variable {γ : Type} (e : Rg × Bool → γ) (n : γ) (i : Ins) (r : Rg)
def trEnd (x : I) : γ := onB (i.a != 0) (acc i.a (e (r.put i.a x, true)) n) (e (r, true))
def trApp (op : Nat) (x y : I) : γ := onB (x.rng && y.rng) (trEnd e n i r (applyI op x y)) n
def trBC (op : Nat) : γ := acc i.b (acc i.c (trApp e n i r op (r.get i.b) (r.get i.c)) n) n
def trDiv (op : Nat) : γ := acc i.c (onB (is0 (r.get i.c)) (e (Rg.zero, false)) (trBC e n i r op)) n
def trBI (op : Nat) : γ := acc i.b (trApp e n i r op (r.get i.b) (immI i)) n
def trMt : I := (r.get i.a).meet ⟨0, w32 (w64 (i.imm - 1))⟩
def trBody (k : Nat) : γ := match k with
  | 2 => trBC e n i r 6
  | 3 => trBC e n i r 7
  | 4 => trBC e n i r 8
  | 5 => trDiv e n i r 9
  | 6 => trDiv e n i r 10
  | 7 => trBC e n i r 11
  | 8 => trBC e n i r 12
  | 9 => trBC e n i r 13
  | 10 => trBC e n i r 14
  | 11 => trBC e n i r 15
  | 12 => trBC e n i r 16
  | 13 => trBC e n i r 18
  | 14 => trEnd e n i r (immI i)
  | 15 => trBI e n i r 6
  | 16 => trBI e n i r 14
  | 17 => trBI e n i r 12
  | 18 => trEnd e n i r I.full
  | 20 => trEnd e n i r I.full
  | 26 => trEnd e n i r I.full
  | 25 => onB (trMt i r).emp (e (Rg.zero, false)) (trEnd e n i r (trMt i r))
  | _ => trEnd e n i r (r.get i.a)
def trV (k : Nat) : γ := onB (!r.good i) (e (Rg.zero, false)) (acc i.a (trBody e n i r k) n)
end

def rngB (r : Rg) : Nat → Bool
  | 0 => true
  | n + 1 => decide (-2147483648 ≤ r n) && decide (r n < 2147483648) && rngB r n
theorem rngB_iff {r : Rg} : ∀ {n : Nat}, rngB r n = true ↔ ∀ j, j < n → -2147483648 ≤ r j ∧ r j < 2147483648
  | 0 => by simp [rngB]
  | n + 1 => by
    simp only [rngB, Bool.and_eq_true, decide_eq_true_eq, rngB_iff (n := n)]
    constructor
    · intro ⟨h1, h2⟩ j hj
      by_cases e : j = n
      · subst e; exact h1
      · exact h2 j (by omega)
    · intro h
      exact ⟨h n (by omega), fun j hj => h j (by omega)⟩
theorem Rg.Rng.get {r : Rg} (h : r.Rng) {a : Int} (ha : a.toNat < 16) : (r.get a).Rng := by
  have h0 := h (2 * a.toNat) (by omega)
  have h1 := h (2 * a.toNat + 1) (by omega)
  rw [Rg.get_eq _ ha]
  exact ⟨h0.1, by simp only; omega, h1.1, by simp only; omega⟩
theorem w32_in (n : Int) : -2147483648 ≤ w32 n ∧ w32 n < 2147483648 := by
  have e : IntKind.i32.wrap n = if n % 4294967296 ≥ 2147483648 then n % 4294967296 - 4294967296 else n % 4294967296 := by
    simp [IntKind.wrap, IntKind.bits, IntKind.signed]
  unfold w32
  rw [e]; split <;> omega
theorem immI_rng (i : Ins) : (immI i).Rng := by
  have h := w32_in i.imm
  exact ⟨h.1, by simp only [immI, I.of]; omega, h.1, by simp only [immI, I.of]; omega⟩
/-- value.Transfer. -/
def Rg.transfer (i : Ins) (r : Rg) : Rg × Bool := trV (fun z => z) (Rg.zero, false) i r i.op.toNat
theorem trV_map {γ : Type} (e : Rg × Bool → γ) (n : γ) {i : Ins} {r : Rg} (hr : r.Rng) (k : Nat) : trV e n i r k = e (trV (fun z => z) (Rg.zero, false) i r k) := by
  unfold trV
  cases hg : r.good i with
  | false => rfl
  | true =>
    have hs := Ins.small (Rg.ok_of_good hg).2
    have a0 := hs.a0
    have a1 := hs.a1
    have b0 := hs.b0
    have b1 := hs.b1
    have c0 := hs.c0
    have c1 := hs.c1
    have rb : (r.get i.b).rng = true := I.rng_iff.2 (hr.get (by omega))
    have rc : (r.get i.c).rng = true := I.rng_iff.2 (hr.get (by omega))
    have ri : (immI i).rng = true := I.rng_iff.2 (immI_rng i)
    have hE : ∀ x, trEnd e n i r x = e (trEnd (fun z => z) (Rg.zero, false) i r x) := fun x => by
      unfold trEnd
      simp only [acc_eq a0 (show i.a < 16 by omega), onB_map]
    have hA : ∀ op x y, x.rng = true → y.rng = true → trApp e n i r op x y = e (trApp (fun z => z) (Rg.zero, false) i r op x y) := fun op x y hx hy => by
      unfold trApp
      rw [hx, hy, Bool.and_true, onB_t, onB_t]
      exact hE _
    have hBC : ∀ op, trBC e n i r op = e (trBC (fun z => z) (Rg.zero, false) i r op) := fun op => by
      unfold trBC
      simp only [acc_eq b0 (show i.b < 16 by omega), acc_eq c0 (show i.c < 16 by omega)]
      exact hA _ _ _ rb rc
    have hD : ∀ op, trDiv e n i r op = e (trDiv (fun z => z) (Rg.zero, false) i r op) := fun op => by
      unfold trDiv
      simp only [acc_eq c0 (show i.c < 16 by omega), hBC, onB_map]
    have hI : ∀ op, trBI e n i r op = e (trBI (fun z => z) (Rg.zero, false) i r op) := fun op => by
      unfold trBI
      simp only [acc_eq b0 (show i.b < 16 by omega)]
      exact hA _ _ _ rb ri
    simp only [Bool.not_true, onB_f, acc_eq a0 (show i.a < 16 by omega)]
    unfold trBody
    split <;> first | exact hBC _ | exact hD _ | exact hI _ | exact hE _ | skip
    rw [hE, onB_map]
def transferT (i : Ins) (r : Rg) : Tr (Rg × Bool) := .node (i.byte && rngB r 32) (.leaf (r.transfer i)) .fail
end Go.Vm

namespace Go.Vm
/-- A field of a place in the registers' block. -/
def accF {γ : Type} (k : Nat) (a : Int) (z f : γ) : γ := onB (decide (0 ≤ a)) (onB (decide (a < 16)) (onB (Nat.ble (0 + a.toNat * 2 + k + 1) 32) z f) f) f
theorem accF_eq {γ : Type} {k : Nat} {a : Int} {z f : γ} (hk : k ≤ 1) (h0 : 0 ≤ a) (h1 : a < 16) : accF k a z f = z := by
  unfold accF
  rw [ble_dec]
  rw [show decide (0 ≤ a) = true by simpa using h0, show decide (a < 16) = true by simpa using h1, show decide (0 + a.toNat * 2 + k + 1 ≤ 32) = true by simp; omega]
  rfl
/-- value.word. -/
def nearI (n : Int) : Int := w32 (mn (mx n (-2147483648)) 2147483647)
section
variable {γ : Type} (e : I → γ) (n : γ) (i : Ins) (r : Rg)
def adR : I := ⟨nearI (w64 (w64 (r.get i.b).lo + i.imm)), nearI (w64 (w64 (r.get i.b).hi + i.imm))⟩
def adEnd : γ := acc i.b (onB (r.get i.b).emp (e I.none) (accF 0 i.b (accF 1 i.b (e (adR i r)) n) n)) n
def adV : γ := onB i.byte (onB (!i.valid) (e I.none) (onB (decide (i.op < 18)) (e I.none) (onB (decide (i.op > 21)) (e I.none) (adEnd e n i r)))) n
end
/-- value.Address. -/
def Rg.address (i : Ins) (r : Rg) : I :=
  onB (!i.valid) I.none (onB (decide (i.op < 18)) I.none (onB (decide (i.op > 21)) I.none (onB (r.get i.b).emp I.none (adR i r))))
def addressT (i : Ins) (r : Rg) : Tr I := .node i.byte (.leaf (r.address i)) .fail
theorem adV_eq {γ : Type} (e : I → γ) (n : γ) (i : Ins) (r : Rg) (hb : i.byte = true) : adV e n i r = e (r.address i) := by
  unfold adV Rg.address
  rw [hb, onB_t]
  cases hv : i.valid with
  | false => rfl
  | true =>
    have hs := Ins.small hv
    have h0 := hs.b0
    have h1 := hs.b1
    unfold adEnd
    simp only [acc_eq h0 (show i.b < 16 by omega), accF_eq (k := 0) (by omega) h0 (show i.b < 16 by omega), accF_eq (k := 1) (by omega) h0 (show i.b < 16 by omega), onB_map]
end Go.Vm

namespace Go.Vm
def ivl (r : Rg) (k : Nat) : I := ⟨r (2 * k), r (2 * k + 1)⟩
section
variable (i : Ins) (r m : Rg) (t : Bool)
def mJ : Rg := Rg.dec (r.join m)
def mA : Rg × Bool := r.dec.transfer i
def mB : Rg × Bool := (mJ r m).transfer i
def mC : Rg × Bool := r.dec.refine i t
def mD : Rg × Bool := (mJ r m).refine i t
def wA (k : Nat) : Bool := !(!(ivl (mA i r).1 k).within (ivl (mB i r m).1 k))
def wC (k : Nat) : Bool := !(!(ivl (mC i r t).1 k).within (ivl (mD i r m t).1 k))
def rows (ok fine : Bool) : Nat → Nat → List Bool
  | _, 0 => [i.byte, i.byte]
  | k, n + 1 => (match ok with
    | true => [(mA i r).2, wA i r m k]
    | false => [!(mA i r).2]) ++ ((match fine with
    | true => [(mC i r t).2, wC i r m t k]
    | false => [!(mC i r t).2]) ++ rows ok fine (k + 1) n)
def monC (ok fine : Bool) : List Bool :=
  (!r.bad) :: (!m.bad) :: (i.byte && rngB r.dec 32) :: (i.byte && rngB (mJ r m) 32) :: i.byte :: i.byte ::
  ((match ok with
    | true => [(mA i r).2, !(!(mB i r m).2)]
    | false => [!(mA i r).2]) ++ ((match fine with
    | true => [(mC i r t).2, !(!(mD i r m t).2)]
    | false => [!(mC i r t).2]) ++ rows i r m t ok fine 0 16))
def monL : Value := .bool ((r.dec.address i).within ((mJ r m).address i))
end
end Go.Vm

namespace Go.Vm

def Le (x y : I) : Prop := y.lo ≤ x.lo ∧ x.hi ≤ y.hi
def Has (x : I) (n : Int) : Prop := x.lo ≤ n ∧ n ≤ x.hi
theorem within_le {x y : I} (hy : y.lo ≤ y.hi) (h : Le x y) : x.within y = true := by
  unfold I.within
  have e : y.emp = false := by simp [I.emp]; omega
  rw [e, show decide (y.lo ≤ x.lo) = true by simpa using h.1, show decide (x.hi ≤ y.hi) = true by simpa using h.2]
  simp
theorem full_le {x : I} (h : x.Rng) : Le x I.full := ⟨h.l0, h.h1⟩

theorem fold_mn : ∀ (l : List Int) (a : Int), l.foldl mn a ≤ a ∧ ∀ v ∈ l, l.foldl mn a ≤ v
  | [], a => ⟨Int.le_refl _, fun v h => by cases h⟩
  | b :: r, a => by
    obtain ⟨h1, h2⟩ := fold_mn r (mn a b)
    have h3 := mn_le a b
    refine ⟨Int.le_trans h1 h3.1, fun v hv => ?_⟩
    rcases List.mem_cons.1 hv with rfl | hv
    · exact Int.le_trans h1 h3.2
    · exact h2 v hv
theorem fold_mx : ∀ (l : List Int) (a : Int), a ≤ l.foldl mx a ∧ ∀ v ∈ l, v ≤ l.foldl mx a
  | [], a => ⟨Int.le_refl _, fun v h => by cases h⟩
  | b :: r, a => by
    obtain ⟨h1, h2⟩ := fold_mx r (mx a b)
    have h3 := mx_ge a b
    refine ⟨Int.le_trans h3.1 h1, fun v hv => ?_⟩
    rcases List.mem_cons.1 hv with rfl | hv
    · exact Int.le_trans h3.2 h1
    · exact h2 v hv
theorem le_fold_mn {b : Int} : ∀ (l : List Int) (a : Int), b ≤ a → (∀ v ∈ l, b ≤ v) → b ≤ l.foldl mn a
  | [], _, h, _ => h
  | c :: r, a, h, h' => le_fold_mn r (mn a c) (mn_in h (h' c List.mem_cons_self)) fun v hv => h' v (List.mem_cons_of_mem _ hv)
theorem fold_mx_le {b : Int} : ∀ (l : List Int) (a : Int), a ≤ b → (∀ v ∈ l, v ≤ b) → l.foldl mx a ≤ b
  | [], _, h, _ => h
  | c :: r, a, h, h' => fold_mx_le r (mx a c) (mx_in h (h' c List.mem_cons_self)) fun v hv => h' v (List.mem_cons_of_mem _ hv)

/-- A hull as it stands. -/
def hullI (l0 : Int) (l : List Int) : I := hullV (fun z => z) l0 l
theorem hullI_eq (l0 : Int) (l : List Int) : hullI l0 l = I.full ∨ (hullI l0 l = ⟨l.foldl mn l0, l.foldl mx l0⟩ ∧ -2147483648 ≤ l.foldl mn l0 ∧ l.foldl mx l0 ≤ 2147483647) := by
  unfold hullI hullV
  have h0 := (fold_mn l l0).1
  have h1 := (fold_mx l l0).1
  by_cases h2 : l.foldl mn l0 < -2147483648
  · left; rw [show decide (l.foldl mn l0 < -2147483648) = true by simpa using h2, onB_t]
  · by_cases h3 : l.foldl mx l0 > 2147483647
    · left; rw [show decide (l.foldl mn l0 < -2147483648) = false by simpa using h2, onB_f, show decide (l.foldl mx l0 > 2147483647) = true by simpa using h3, onB_t]
    · right
      rw [show decide (l.foldl mn l0 < -2147483648) = false by simpa using h2, onB_f, show decide (l.foldl mx l0 > 2147483647) = false by simpa using h3, onB_f,
        w32_eq (n := l.foldl mn l0) (by omega) (by omega), w32_eq (n := l.foldl mx l0) (by omega) (by omega)]
      exact ⟨rfl, by omega, by omega⟩
theorem full_rng : I.full.Rng := ⟨by decide, by decide, by decide, by decide⟩
theorem hullI_rng (l0 : Int) (l : List Int) : (hullI l0 l).Rng ∧ (hullI l0 l).lo ≤ (hullI l0 l).hi := by
  have h0 := (fold_mn l l0).1
  have h1 := (fold_mx l l0).1
  rcases hullI_eq l0 l with h | ⟨h, h2, h3⟩
  · rw [h]; exact ⟨full_rng, by decide⟩
  · rw [h]; exact ⟨⟨h2, by simp only; omega, by simp only; omega, h3⟩, by simp only; omega⟩
/-- A number between the least and the greatest. -/
theorem hullI_has {l0 : Int} {l : List Int} {v : Int} (h0 : l.foldl mn l0 ≤ v) (h1 : v ≤ l.foldl mx l0) : Has (hullI l0 l) (w32 v) := by
  have hv := w32_in v
  rcases hullI_eq l0 l with h | ⟨h, h2, h3⟩
  · rw [h]; exact ⟨hv.1, by have : I.full.hi = 2147483647 := rfl; omega⟩
  · rw [h, w32_eq (n := v) (by omega) (by omega)]; exact ⟨h0, h1⟩
theorem hullI_le {l0 l0' : Int} {l l' : List Int} (h0 : l'.foldl mn l0' ≤ l0 ∧ l0 ≤ l'.foldl mx l0') (h : ∀ v ∈ l, l'.foldl mn l0' ≤ v ∧ v ≤ l'.foldl mx l0') : Le (hullI l0 l) (hullI l0' l') := by
  have a := le_fold_mn l l0 h0.1 fun v hv => (h v hv).1
  have b := fold_mx_le l l0 h0.2 fun v hv => (h v hv).2
  rcases hullI_eq l0' l' with e | ⟨e, h2, h3⟩
  · rw [e]; exact full_le (hullI_rng _ _).1
  · rw [e]
    rcases hullI_eq l0 l with e' | ⟨e', _, _⟩
    · have hf := (fold_mn l l0).1
      have hg := (fold_mx l l0).1
      have : hullI l0 l = ⟨l.foldl mn l0, l.foldl mx l0⟩ := by
        unfold hullI hullV
        rw [show decide (l.foldl mn l0 < -2147483648) = false by simp; omega, onB_f, show decide (l.foldl mx l0 > 2147483647) = false by simp; omega, onB_f,
          w32_eq (n := l.foldl mn l0) (by omega) (by omega), w32_eq (n := l.foldl mx l0) (by omega) (by omega)]
      rw [this]; exact ⟨a, b⟩
    · rw [e']; exact ⟨a, b⟩

/-- A function whose values lie between those at the corners. -/
def Corner (g : Int → Int → Int) (x y : I) : Prop := ∀ lo hi, (lo ≤ g x.lo y.lo ∧ g x.lo y.lo ≤ hi) → (lo ≤ g x.lo y.hi ∧ g x.lo y.hi ≤ hi) → (lo ≤ g x.hi y.lo ∧ g x.hi y.lo ≤ hi) → (lo ≤ g x.hi y.hi ∧ g x.hi y.hi ≤ hi) →
  ∀ a b, Has x a → Has y b → lo ≤ g a b ∧ g a b ≤ hi
theorem corn_bnd {g f : Int → Int → Int} {x y : I} (hx : x.Rng) (hy : y.Rng) (hx' : x.lo ≤ x.hi) (hy' : y.lo ≤ y.hi) (hf : ∀ a b, Has x a → Has y b → f a b = g a b) (hc : Corner g x y) {a b : Int} (ha : Has x a) (hb : Has y b) :
    (crn f x y).foldl mn (f (w64 x.lo) (w64 y.lo)) ≤ g a b ∧ g a b ≤ (crn f x y).foldl mx (f (w64 x.lo) (w64 y.lo)) := by
  have e : ∀ n : Int, -2147483648 ≤ n → n ≤ 2147483647 → w64 n = n := fun n h0 h1 => w64_eq (by omega) (by omega)
  have c1 := e x.lo hx.l0 hx.l1
  have c2 := e x.hi hx.h0 hx.h1
  have c3 := e y.lo hy.l0 hy.l1
  have c4 := e y.hi hy.h0 hy.h1
  have h0 := fold_mn (crn f x y) (f (w64 x.lo) (w64 y.lo))
  have h1 := fold_mx (crn f x y) (f (w64 x.lo) (w64 y.lo))
  have m : ∀ u v, Has x u → Has y v → f u v ∈ crn f x y → (crn f x y).foldl mn (f (w64 x.lo) (w64 y.lo)) ≤ g u v ∧ g u v ≤ (crn f x y).foldl mx (f (w64 x.lo) (w64 y.lo)) := fun u v hu hv hm => by
    rw [← hf u v hu hv]; exact ⟨h0.2 _ hm, h1.2 _ hm⟩
  have xl : Has x x.lo := ⟨Int.le_refl _, hx'⟩
  have xh : Has x x.hi := ⟨hx', Int.le_refl _⟩
  have yl : Has y y.lo := ⟨Int.le_refl _, hy'⟩
  have yh : Has y y.hi := ⟨hy', Int.le_refl _⟩
  refine hc _ _ (m _ _ xl yl ?_) (m _ _ xl yh ?_) (m _ _ xh yl ?_) (m _ _ xh yh ?_) a b ha hb <;> simp [crn, c1, c2, c3, c4]
def cornI (f : Int → Int → Int) (x y : I) : I := cornV (fun z => z) f x y
theorem cornI_has {g f : Int → Int → Int} {x y : I} (hx : x.Rng) (hy : y.Rng) (hx' : x.lo ≤ x.hi) (hy' : y.lo ≤ y.hi) (hf : ∀ a b, Has x a → Has y b → f a b = g a b) (hc : Corner g x y) {a b : Int} (ha : Has x a) (hb : Has y b) : Has (cornI f x y) (w32 (g a b)) := by
  obtain ⟨h0, h1⟩ := corn_bnd hx hy hx' hy' hf hc ha hb
  exact hullI_has h0 h1
theorem cornI_le {g f : Int → Int → Int} {x y x' y' : I} (hx : x'.Rng) (hy : y'.Rng) (h1 : x.lo ≤ x.hi) (h2 : y.lo ≤ y.hi) (hxx : Le x x') (hyy : Le y y') (hf : ∀ a b, Has x' a → Has y' b → f a b = g a b) (hc : Corner g x' y') : Le (cornI f x y) (cornI f x' y') := by
  have a0 := hx.l0
  have a1 := hx.h1
  have b0 := hy.l0
  have b1 := hy.h1
  obtain ⟨p, q⟩ := hxx
  obtain ⟨s, t⟩ := hyy
  have e : ∀ n : Int, -2147483648 ≤ n → n ≤ 2147483647 → w64 n = n := fun n h0 h1 => w64_eq (by omega) (by omega)
  have c1 := e x.lo (by omega) (by omega)
  have c2 := e x.hi (by omega) (by omega)
  have c3 := e y.lo (by omega) (by omega)
  have c4 := e y.hi (by omega) (by omega)
  have k : ∀ u v, Has x' u → Has y' v → (crn f x' y').foldl mn (f (w64 x'.lo) (w64 y'.lo)) ≤ f u v ∧ f u v ≤ (crn f x' y').foldl mx (f (w64 x'.lo) (w64 y'.lo)) := fun u v hu hv => by
    rw [hf u v hu hv]
    exact corn_bnd hx hy (by omega) (by omega) hf hc hu hv
  have xl : Has x' x.lo := ⟨p, by omega⟩
  have xh : Has x' x.hi := ⟨by omega, q⟩
  have yl : Has y' y.lo := ⟨s, by omega⟩
  have yh : Has y' y.hi := ⟨by omega, t⟩
  unfold cornI cornV
  refine hullI_le ?_ fun v hv => ?_
  · rw [c1, c3]; exact k _ _ xl yl
  · simp only [crn, c1, c2, c3, c4, List.mem_cons, List.not_mem_nil, or_false] at hv
    rcases hv with rfl | rfl | rfl | rfl
    · exact k _ _ xl yl
    · exact k _ _ xl yh
    · exact k _ _ xh yl
    · exact k _ _ xh yh
end Go.Vm

namespace Go.Vm

theorem corner_add (x y : I) : Corner (· + ·) x y := fun lo hi h1 h2 h3 h4 a b ha hb => by
  obtain ⟨p, q⟩ := ha
  obtain ⟨s, t⟩ := hb
  simp only at *
  omega
theorem corner_sub (x y : I) : Corner (· - ·) x y := fun lo hi h1 h2 h3 h4 a b ha hb => by
  obtain ⟨p, q⟩ := ha
  obtain ⟨s, t⟩ := hb
  simp only at *
  omega
/-- Between the ends in each argument, so between the corners. -/
theorem corner_of {g : Int → Int → Int} {x y : I}
    (h1 : ∀ a b, Has x a → Has y b → (g x.lo b ≤ g a b ∧ g a b ≤ g x.hi b) ∨ (g x.hi b ≤ g a b ∧ g a b ≤ g x.lo b))
    (h2 : ∀ a b, Has x a → Has y b → (g a y.lo ≤ g a b ∧ g a b ≤ g a y.hi) ∨ (g a y.hi ≤ g a b ∧ g a b ≤ g a y.lo)) : Corner g x y := fun lo hi c1 c2 c3 c4 a b ha hb => by
  have xl : Has x x.lo := ⟨Int.le_refl _, Int.le_trans ha.1 ha.2⟩
  have xh : Has x x.hi := ⟨Int.le_trans ha.1 ha.2, Int.le_refl _⟩
  have p := h2 x.lo b xl hb
  have q := h2 x.hi b xh hb
  have r := h1 a b ha hb
  omega
theorem corner_mul (x y : I) : Corner (· * ·) x y := corner_of
  (fun a b ha _ => by
    obtain ⟨p, q⟩ := ha
    rcases Int.le_total 0 b with h | h
    · exact .inl ⟨Int.mul_le_mul_of_nonneg_right p h, Int.mul_le_mul_of_nonneg_right q h⟩
    · exact .inr ⟨Int.mul_le_mul_of_nonpos_right q h, Int.mul_le_mul_of_nonpos_right p h⟩)
  (fun a b _ hb => by
    obtain ⟨p, q⟩ := hb
    rcases Int.le_total 0 a with h | h
    · exact .inl ⟨Int.mul_le_mul_of_nonneg_left p h, Int.mul_le_mul_of_nonneg_left q h⟩
    · exact .inr ⟨Int.mul_le_mul_of_nonpos_left h q, Int.mul_le_mul_of_nonpos_left h p⟩)

/-! Quotients. -/
theorem tdiv_nn {a b : Int} (ha : 0 ≤ a) : a.tdiv b = a / b := Int.tdiv_eq_ediv_of_nonneg ha
/-- For a positive divisor the quotient grows with the dividend. -/
theorem tdiv_mono {a a' b : Int} (hb : 0 < b) (h : a ≤ a') : a.tdiv b ≤ a'.tdiv b := by
  rcases Int.le_total 0 a with ha | ha
  · rw [tdiv_nn ha, tdiv_nn (Int.le_trans ha h)]
    exact Int.ediv_le_ediv hb h
  · rcases Int.le_total 0 a' with ha' | ha'
    · have h1 : 0 ≤ a'.tdiv b := Int.tdiv_nonneg ha' (Int.le_of_lt hb)
      have h2 : a.tdiv b = -((-a).tdiv b) := by rw [Int.neg_tdiv, Int.neg_neg]
      have h3 : 0 ≤ (-a).tdiv b := Int.tdiv_nonneg (by omega) (Int.le_of_lt hb)
      omega
    · have h2 : a.tdiv b = -((-a).tdiv b) := by rw [Int.neg_tdiv, Int.neg_neg]
      have h3 : a'.tdiv b = -((-a').tdiv b) := by rw [Int.neg_tdiv, Int.neg_neg]
      have h4 : (-a').tdiv b ≤ (-a).tdiv b := by
        rw [tdiv_nn (show 0 ≤ -a' by omega), tdiv_nn (show 0 ≤ -a by omega)]
        exact Int.ediv_le_ediv hb (by omega)
      omega
/-- For a dividend of a sign and positive divisors the quotient goes towards 0. -/
theorem tdiv_anti {a b b' : Int} (ha : 0 ≤ a) (hb : 0 < b) (h : b ≤ b') : a.tdiv b' ≤ a.tdiv b := by
  rw [tdiv_nn ha, tdiv_nn ha]
  have h1 : a / b' * b' ≤ a := Int.ediv_mul_le a (by omega)
  have h2 : 0 ≤ a / b' := Int.ediv_nonneg ha (by omega)
  rw [Int.le_ediv_iff_mul_le hb]
  exact Int.le_trans (Int.mul_le_mul_of_nonneg_left h h2) h1
theorem tdiv_negd (a b : Int) : a.tdiv (-b) = -(a.tdiv b) := Int.tdiv_neg a b
theorem tdiv_negn (a b : Int) : (-a).tdiv b = -(a.tdiv b) := Int.neg_tdiv a b
theorem corner_pos {x y : I} (hy : 0 < y.lo) : Corner Int.tdiv x y := corner_of
  (fun a b ha hb => .inl ⟨tdiv_mono (by have := hb.1; omega) ha.1, tdiv_mono (by have := hb.1; omega) ha.2⟩)
  (fun a b _ hb => by
    have h1 := hb.1
    have h2 := hb.2
    rcases Int.le_total 0 a with h | h
    · exact .inr ⟨tdiv_anti h (by omega) h2, tdiv_anti h hy h1⟩
    · have e : ∀ c : Int, a.tdiv c = -((-a).tdiv c) := fun c => by rw [tdiv_negn, Int.neg_neg]
      have k1 := tdiv_anti (a := -a) (b := b) (b' := y.hi) (by omega) (by omega) h2
      have k2 := tdiv_anti (a := -a) (b := y.lo) (b' := b) (by omega) hy h1
      have e1 := e b
      have e2 := e y.lo
      have e3 := e y.hi
      exact .inl ⟨by omega, by omega⟩)
theorem corner_neg {x y : I} (hy : y.hi < 0) : Corner Int.tdiv x y := corner_of
  (fun a b ha hb => by
    have h1 := hb.2
    have e : ∀ c : Int, c.tdiv b = -(c.tdiv (-b)) := fun c => by rw [tdiv_negd, Int.neg_neg]
    have k1 := tdiv_mono (b := -b) (by omega) ha.1
    have k2 := tdiv_mono (b := -b) (by omega) ha.2
    have e1 := e a
    have e2 := e x.lo
    have e3 := e x.hi
    exact .inr ⟨by omega, by omega⟩)
  (fun a b _ hb => by
    have h1 := hb.1
    have h2 := hb.2
    have e : ∀ c : Int, a.tdiv c = -(a.tdiv (-c)) := fun c => by rw [tdiv_negd, Int.neg_neg]
    have e' : ∀ c : Int, a.tdiv (-c) = -((-a).tdiv (-c)) := fun c => by rw [tdiv_negn, Int.neg_neg]
    have e1 := e b
    have e2 := e y.lo
    have e3 := e y.hi
    rcases Int.le_total 0 a with h | h
    · have k1 := tdiv_anti (a := a) (b := -b) (b' := -y.lo) h (by omega) (by omega)
      have k2 := tdiv_anti (a := a) (b := -y.hi) (b' := -b) h (by omega) (by omega)
      exact .inr ⟨by omega, by omega⟩
    · have k1 := tdiv_anti (a := -a) (b := -b) (b' := -y.lo) (by omega) (by omega) (by omega)
      have k2 := tdiv_anti (a := -a) (b := -y.hi) (b' := -b) (by omega) (by omega) (by omega)
      have f1 := e' b
      have f2 := e' y.lo
      have f3 := e' y.hi
      exact .inl ⟨by omega, by omega⟩)
theorem abs_tdiv {a b : Int} (ha : -2147483648 ≤ a) (ha' : a ≤ 2147483647) : -2147483648 ≤ a.tdiv b ∧ a.tdiv b ≤ 2147483648 := by
  have h3 : (a.tdiv b).natAbs ≤ a.natAbs := by rw [Int.natAbs_tdiv]; exact Nat.div_le_self _ _
  omega

/-! ### Sums, differences, products -/
theorem mul_bnd {a b : Int} (ha : -2147483648 ≤ a) (ha' : a ≤ 2147483647) (hb : -2147483648 ≤ b) (hb' : b ≤ 2147483647) : -4611686018427387904 ≤ a * b ∧ a * b ≤ 4611686018427387904 := by
  have h1 : a.natAbs ≤ 2147483648 := by omega
  have h2 : b.natAbs ≤ 2147483648 := by omega
  have h3 : (a * b).natAbs ≤ 2147483648 * 2147483648 := by rw [Int.natAbs_mul]; exact Nat.mul_le_mul h1 h2
  omega
theorem Has.rng {x : I} (hx : x.Rng) {a : Int} (h : Has x a) : -2147483648 ≤ a ∧ a ≤ 2147483647 := by
  have := hx.l0
  have := hx.h1
  obtain ⟨p, q⟩ := h
  omega
theorem ex_add {x y : I} (hx : x.Rng) (hy : y.Rng) : ∀ a b, Has x a → Has y b → addI a b = a + b := fun a b ha hb => by
  have := ha.rng hx
  have := hb.rng hy
  exact w64_eq (by omega) (by omega)
theorem ex_sub {x y : I} (hx : x.Rng) (hy : y.Rng) : ∀ a b, Has x a → Has y b → subI a b = a - b := fun a b ha hb => by
  have := ha.rng hx
  have := hb.rng hy
  exact w64_eq (by omega) (by omega)
theorem ex_mul {x y : I} (hx : x.Rng) (hy : y.Rng) : ∀ a b, Has x a → Has y b → mulI a b = a * b := fun a b ha hb => by
  have h1 := ha.rng hx
  have h2 := hb.rng hy
  have := mul_bnd h1.1 h1.2 h2.1 h2.2
  exact w64_eq (by omega) (by omega)
theorem ex_quo {x y : I} (hx : x.Rng) (_ : y.Rng) : ∀ a b, Has x a → Has y b → quo a b = a.tdiv b := fun a b ha _ => by
  have h1 := ha.rng hx
  have := abs_tdiv (b := b) h1.1 h1.2
  exact w64_eq (by omega) (by omega)

/-! ### Division -/
def Ne (x : I) : Prop := x.lo ≤ x.hi
theorem Ne.emp {x : I} (h : Ne x) : x.emp = false := by unfold Ne at h; simp [I.emp]; omega
theorem emp_ne {x : I} (h : x.emp = false) : Ne x := by simpa [I.emp, Ne] using h
theorem none_emp : I.none.emp = true := rfl
theorem cornI_ok (f : Int → Int → Int) (x y : I) : (cornI f x y).Rng ∧ Ne (cornI f x y) := hullI_rng _ _
theorem join_none {x : I} (h : Ne x) : I.none.join x = x := by
  unfold I.join
  rw [none_emp, h.emp]
theorem join_ne {x y : I} (hx : Ne x) (hy : Ne y) : x.join y = ⟨mn x.lo y.lo, mx x.hi y.hi⟩ := by
  unfold I.join
  rw [hx.emp, hy.emp]
  rfl
end Go.Vm

namespace Go.Vm

theorem cornD_eq {x p : I} (h0 : p.lo ≠ 0) (h1 : p.hi ≠ 0) (hp : p.Rng) (e : I → I) (n : I) : cornD e n x p = e (cornI quo x p) := by
  have a := hp.l0
  have b := hp.l1
  have c := hp.h0
  have d := hp.h1
  unfold cornD
  rw [w64_eq (n := p.lo) (by omega) (by omega), w64_eq (n := p.hi) (by omega) (by omega), show decide (p.lo = 0) = false by simpa using h0, show decide (p.hi = 0) = false by simpa using h1]
  simp only [onB_f]
  exact cornV_map e ..
def pN (y : I) : I := y.meet ⟨-2147483648, -1⟩
def pP (y : I) : I := y.meet ⟨1, 2147483647⟩
def divR (x y : I) : I := div2 (div2 (fun z => z) I.none x (pP y)) I.none x (pN y) I.none
theorem pN_has {y : I} (hy : y.Rng) {b : Int} (hb : Has y b) (h : b < 0) : Has (pN y) b := meet_in hb.1 hb.2 (by have := hb.rng hy; simp only; omega) (by simp only; omega)
theorem pP_has {y : I} (hy : y.Rng) {b : Int} (hb : Has y b) (h : 0 < b) : Has (pP y) b := meet_in hb.1 hb.2 (by simp only; omega) (by have := hb.rng hy; simp only; omega)
theorem Has.ne {x : I} {a : Int} (h : Has x a) : Ne x := Int.le_trans h.1 h.2
theorem pN_ok {y : I} (hy : y.Rng) (h : Ne (pN y)) : (pN y).Rng ∧ (pN y).hi < 0 ∧ (pN y).lo < 0 ∧ Has y (pN y).lo ∧ Has y (pN y).hi := by
  obtain ⟨h1, h2, h3⟩ := meet_neg_ok hy h.emp
  obtain ⟨e, h4, h5⟩ := meet_neg hy h.emp
  refine ⟨h3, h2, h1, ?_⟩
  unfold pN
  rw [e]
  have := h
  unfold Ne pN at this
  rw [e] at this
  simp only at this
  refine ⟨⟨Int.le_refl _, h5⟩, ?_⟩
  by_cases hh : -1 < y.hi
  · rw [if_pos hh] at this ⊢; exact ⟨by simp only; omega, by simp only; omega⟩
  · rw [if_neg hh] at this ⊢; exact ⟨by simp only; omega, Int.le_refl _⟩
theorem pP_ok {y : I} (hy : y.Rng) (h : Ne (pP y)) : (pP y).Rng ∧ 0 < (pP y).lo ∧ 0 < (pP y).hi ∧ Has y (pP y).lo ∧ Has y (pP y).hi := by
  obtain ⟨h1, h2, h3⟩ := meet_pos_ok hy h.emp
  obtain ⟨e, h4, h5⟩ := meet_pos hy h.emp
  refine ⟨h3, h1, h2, ?_⟩
  unfold pP
  rw [e]
  have := h
  unfold Ne pP at this
  rw [e] at this
  simp only at this
  refine ⟨?_, ⟨h5, Int.le_refl _⟩⟩
  by_cases hh : 1 > y.lo
  · rw [if_pos hh] at this ⊢; exact ⟨by simp only; omega, by simp only; omega⟩
  · rw [if_neg hh] at this ⊢; exact ⟨Int.le_refl _, by simp only; omega⟩
def dI (x p : I) : I := cornI quo x p
theorem divR_eq {x y : I} (hy : y.Rng) : divR x y = (match (pN y).emp, (pP y).emp with
    | false, false => (dI x (pN y)).join (dI x (pP y))
    | false, true => dI x (pN y)
    | true, false => dI x (pP y)
    | true, true => I.none) := by
  have k2 : ∀ out : I, (pP y).emp = false → div2 (fun z => z) I.none x (pP y) out = out.join (dI x (pP y)) := fun out he => by
    obtain ⟨h3, h1, h2, _⟩ := pP_ok hy (emp_ne he)
    unfold div2
    rw [he]
    exact cornD_eq (by omega) (by omega) h3 (fun o => out.join o) I.none
  have k2' : ∀ out : I, (pP y).emp = true → div2 (fun z => z) I.none x (pP y) out = out := fun out he => by
    unfold div2
    rw [he]; rfl
  unfold divR
  cases hn : (pN y).emp with
  | true =>
    have e1 : div2 (div2 (fun z => z) I.none x (pP y)) I.none x (pN y) I.none = div2 (fun z => z) I.none x (pP y) I.none := by
      conv => lhs; unfold div2
      rw [hn]; rfl
    rw [e1]
    cases hp : (pP y).emp with
    | true => exact k2' _ hp
    | false => rw [k2 _ hp]; exact join_none (cornI_ok _ _ _).2
  | false =>
    obtain ⟨h3, h1, h2, _⟩ := pN_ok hy (emp_ne hn)
    have e1 : div2 (div2 (fun z => z) I.none x (pP y)) I.none x (pN y) I.none = div2 (fun z => z) I.none x (pP y) (dI x (pN y)) := by
      conv => lhs; unfold div2
      rw [hn, Bool.not_false, onB_t]
      rw [cornD_eq (by omega) (by omega) h3 (fun o => onB (!(pP y).emp) (cornD (fun o_1 => (I.none.join o).join o_1) I.none x (pP y)) (I.none.join o)) I.none]
      rw [join_none (cornI_ok quo x (pN y)).2]
      rfl
    rw [e1]
    cases hp : (pP y).emp with
    | true => exact k2' _ hp
    | false => exact k2 _ hp
theorem dI_hasN {x y : I} (hx : x.Rng) (hy : y.Rng) {a b : Int} (ha : Has x a) (hb : Has y b) (h : b < 0) : Has (dI x (pN y)) (w32 (a.tdiv b)) := by
  have hp := pN_has hy hb h
  obtain ⟨h1, h2, _⟩ := pN_ok hy hp.ne
  exact cornI_has hx h1 ha.ne hp.ne (ex_quo hx h1) (corner_neg h2) ha hp
theorem dI_hasP {x y : I} (hx : x.Rng) (hy : y.Rng) {a b : Int} (ha : Has x a) (hb : Has y b) (h : 0 < b) : Has (dI x (pP y)) (w32 (a.tdiv b)) := by
  have hp := pP_has hy hb h
  obtain ⟨h1, h2, _⟩ := pP_ok hy hp.ne
  exact cornI_has hx h1 ha.ne hp.ne (ex_quo hx h1) (corner_pos h2) ha hp
theorem le_joinL {a b c : I} (hb : Ne b) (hc : Ne c) (h : Le a b) : Le a (b.join c) := by
  rw [join_ne hb hc]
  have h1 := (mn_le b.lo c.lo).1
  have h2 := (mx_ge b.hi c.hi).1
  exact ⟨by have := h.1; simp only; omega, by have := h.2; simp only; omega⟩
theorem le_joinR {a b c : I} (hb : Ne b) (hc : Ne c) (h : Le a c) : Le a (b.join c) := by
  rw [join_ne hb hc]
  have h1 := (mn_le b.lo c.lo).2
  have h2 := (mx_ge b.hi c.hi).2
  exact ⟨by have := h.1; simp only; omega, by have := h.2; simp only; omega⟩
theorem join_le {a b c : I} (ha : Ne a) (hb : Ne b) (h : Le a c) (h' : Le b c) : Le (a.join b) c := by
  rw [join_ne ha hb]
  exact ⟨mn_in h.1 h'.1, mx_in h.2 h'.2⟩
theorem Has.le {x y : I} {a : Int} (h : Has x a) (hl : Le x y) : Has y a := ⟨Int.le_trans hl.1 h.1, Int.le_trans h.2 hl.2⟩
theorem le_refl {x : I} : Le x x := ⟨Int.le_refl _, Int.le_refl _⟩
theorem le_trans {x y z : I} (h : Le x y) (k : Le y z) : Le x z := ⟨Int.le_trans k.1 h.1, Int.le_trans h.2 k.2⟩
theorem join_ok {a b : I} (ha : a.Rng ∧ Ne a) (hb : b.Rng ∧ Ne b) : (a.join b).Rng ∧ Ne (a.join b) := by
  rw [join_ne ha.2 hb.2]
  have h1 := mn_le a.lo b.lo
  have h2 := mx_ge a.hi b.hi
  have n1 := ha.2
  unfold Ne at n1
  have h3 := mn_in ha.1.l0 hb.1.l0
  have h4 := mx_in ha.1.h1 hb.1.h1
  exact ⟨⟨h3, by simp only; omega, by simp only; omega, h4⟩, by unfold Ne; simp only; omega⟩
/-- The parts of a divisor: each within the other's. -/
theorem divR_in {x x' y y' : I} (hx' : x'.Rng) (hy : y.Rng) (hy' : y'.Rng) (hx0 : Ne x) (hxx : Le x x') (hyy : Le y y') (hnz : ∃ b, Has y b ∧ b ≠ 0) :
    ((divR x y).Rng ∧ Ne (divR x y)) ∧ Le (divR x y) (divR x' y') := by
  have dN : Ne (pN y) → Ne (pN y') ∧ Le (dI x (pN y)) (dI x' (pN y')) := fun h => by
    obtain ⟨h1, h2, h3, h4, h5⟩ := pN_ok hy h
    have g1 := pN_has hy' (h4.le hyy) h3
    have g2 := pN_has hy' (h5.le hyy) h2
    obtain ⟨k1, k2, _⟩ := pN_ok hy' g1.ne
    exact ⟨g1.ne, cornI_le hx' k1 hx0 h hxx ⟨g1.1, g2.2⟩ (ex_quo hx' k1) (corner_neg k2)⟩
  have dP : Ne (pP y) → Ne (pP y') ∧ Le (dI x (pP y)) (dI x' (pP y')) := fun h => by
    obtain ⟨h1, h2, h3, h4, h5⟩ := pP_ok hy h
    have g1 := pP_has hy' (h4.le hyy) h2
    have g2 := pP_has hy' (h5.le hyy) h3
    obtain ⟨k1, k2, _⟩ := pP_ok hy' g1.ne
    exact ⟨g1.ne, cornI_le hx' k1 hx0 h hxx ⟨g1.1, g2.2⟩ (ex_quo hx' k1) (corner_pos k2)⟩
  have o : ∀ u v, (dI u v).Rng ∧ Ne (dI u v) := fun u v => cornI_ok _ _ _
  rw [divR_eq hy, divR_eq hy']
  cases hn : (pN y).emp with
  | false =>
    obtain ⟨a1, a2⟩ := dN (emp_ne hn)
    rw [a1.emp]
    cases hp : (pP y).emp with
    | false =>
      obtain ⟨b1, b2⟩ := dP (emp_ne hp)
      rw [b1.emp]
      exact ⟨join_ok (o _ _) (o _ _), join_le (o _ _).2 (o _ _).2 (le_joinL (o _ _).2 (o _ _).2 a2) (le_joinR (o _ _).2 (o _ _).2 b2)⟩
    | true =>
      refine ⟨o _ _, ?_⟩
      cases (pP y').emp with
      | false => exact le_joinL (o _ _).2 (o _ _).2 a2
      | true => exact a2
  | true =>
    cases hp : (pP y).emp with
    | false =>
      obtain ⟨b1, b2⟩ := dP (emp_ne hp)
      rw [b1.emp]
      refine ⟨o _ _, ?_⟩
      cases (pN y').emp with
      | false => exact le_joinR (o _ _).2 (o _ _).2 b2
      | true => exact b2
    | true =>
      exfalso
      obtain ⟨b, hb, h0⟩ := hnz
      rcases Int.lt_or_gt_of_ne h0 with h | h
      · have := (pN_has hy hb h).ne.emp; rw [hn] at this; cases this
      · have := (pP_has hy hb h).ne.emp; rw [hp] at this; cases this
theorem divR_has {x y : I} (hx : x.Rng) (hy : y.Rng) {a b : Int} (ha : Has x a) (hb : Has y b) (h0 : b ≠ 0) : Has (divR x y) (w32 (a.tdiv b)) := by
  have o : ∀ u v, (dI u v).Rng ∧ Ne (dI u v) := fun u v => cornI_ok _ _ _
  rw [divR_eq hy]
  rcases Int.lt_or_gt_of_ne h0 with h | h
  · have h1 := dI_hasN hx hy ha hb h
    rw [(pN_has hy hb h).ne.emp]
    cases (pP y).emp with
    | false => exact h1.le (le_joinL (o _ _).2 (o _ _).2 le_refl)
    | true => exact h1
  · have h1 := dI_hasP hx hy ha hb h
    rw [(pP_has hy hb h).ne.emp]
    cases (pN y).emp with
    | false => exact h1.le (le_joinR (o _ _).2 (o _ _).2 le_refl)
    | true => exact h1
end Go.Vm

