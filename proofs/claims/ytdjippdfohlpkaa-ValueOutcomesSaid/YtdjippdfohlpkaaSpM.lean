/- law28's ValueOutcomes: the plain law. -/
import Derived.Test.YtdjippdfohlpkaaSpL
namespace Go.Vm

/-- Registers hold words. -/
def Rg.Rng (r : Rg) : Prop := ∀ j, j < 32 → -2147483648 ≤ r j ∧ r j < 2147483648
theorem wrapU {n : Int} : 0 ≤ IntKind.u32.wrap n ∧ IntKind.u32.wrap n < 4294967296 := by
  have e : IntKind.u32.wrap n = n % 4294967296 := by simp [IntKind.wrap, IntKind.bits, IntKind.signed]
  rw [e]; omega
theorem spanI_eq {r : Rg} (hr : r.Rng) {k : Nat} (hk : k < 16) : spanI r k = r (2 * k + 1) - r (2 * k) + 1 := by
  have h0 := hr (2 * k) (by omega)
  have h1 := hr (2 * k + 1) (by omega)
  unfold spanI
  rw [wrap64 (n := r (2 * k + 1)) (by omega) (by omega), wrap64 (n := r (2 * k)) (by omega) (by omega), wrap64 (n := r (2 * k + 1) - r (2 * k)) (by omega) (by omega), wrap64 (by omega) (by omega)]
theorem valI_in {r : Rg} (hr : r.Rng) (ho : r.Ok) (xs : List Int) {k : Nat} (hk : k < 16) : r (2 * k) ≤ valI r xs k ∧ valI r xs k ≤ r (2 * k + 1) := by
  have h0 := hr (2 * k) (by omega)
  have h1 := hr (2 * k + 1) (by omega)
  have hl := ho.le k hk
  unfold valI
  split
  · rename_i x _
    have hu := wrapU (n := x)
    unfold pickI
    rw [spanI_eq hr hk, wrap64 (n := r (2 * k)) (by omega) (by omega), wrap64 (n := IntKind.u32.wrap x) (by omega) (by omega), Int.tmod_eq_emod_of_nonneg hu.1]
    have hm0 := Int.emod_nonneg (IntKind.u32.wrap x) (show r (2 * k + 1) - r (2 * k) + 1 ≠ 0 by omega)
    have hm1 := Int.emod_lt_of_pos (IntKind.u32.wrap x) (show 0 < r (2 * k + 1) - r (2 * k) + 1 by omega)
    rw [wrap64 (by omega) (by omega), wrap32 (by omega) (by omega)]
    omega
  · unfold lowI
    rw [wrap64 (n := r (2 * k)) (by omega) (by omega), wrap32 (by omega) (by omega)]
    omega
theorem stSel_eq {d : Value} {V : Nat → Int} {a : Int} (h : a.toNat < 16) : stSel d V a = V a.toNat := by
  unfold stSel stCells selInt
  rw [nth_eq, show 0 + 1 + a.toNat * 1 = a.toNat + 1 by omega, List.getElem?_cons_succ, List.getElem?_append_left (by rw [cellsI_len]; exact h), cellsI_get _ _ _ _ _ h, Nat.zero_add]

theorem Rg.Ok.dec {r : Rg} (h : r.Ok) : r.dec.Ok :=
  ⟨fun k hk => by rw [r.dec_eq (by omega), r.dec_eq (by omega)]; exact h.le k hk, by rw [r.dec_eq (by omega)]; exact h.lo, by rw [r.dec_eq (by omega)]; exact h.hi⟩

/-- An interval that holds a number is not empty; what is left of it holds the number still. -/
theorem meet_in {x y : I} {v : Int} (h0 : x.lo ≤ v) (h1 : v ≤ x.hi) (h2 : y.lo ≤ v) (h3 : v ≤ y.hi) : (x.meet y).lo ≤ v ∧ v ≤ (x.meet y).hi := by
  obtain ⟨a, b⟩ := x
  obtain ⟨c, d⟩ := y
  simp only at h0 h1 h2 h3
  have hx : (I.mk a b).emp = false := by simp [I.emp]; omega
  have hy : (I.mk c d).emp = false := by simp [I.emp]; omega
  have h5 : ((I.mk a b).meet0 ⟨c, d⟩).lo ≤ v ∧ v ≤ ((I.mk a b).meet0 ⟨c, d⟩).hi := by
    simp only [I.meet0]
    constructor
    · by_cases h : c > a
      · rw [if_pos h]; omega
      · rw [if_neg h]; exact h0
    · by_cases h : d < b
      · rw [if_pos h]; omega
      · rw [if_neg h]; exact h1
  have h4 : ((I.mk a b).meet0 ⟨c, d⟩).emp = false := by simp only [I.emp, decide_eq_false_iff_not]; omega
  unfold I.meet
  rw [hx, hy, h4]
  exact h5
theorem meet_of {x : I} {v : Int} (h0 : x.lo ≤ v) (h1 : v ≤ x.hi) {w : Int} (e : v = w) : (x.meet (I.of w)).lo ≤ v ∧ v ≤ (x.meet (I.of w)).hi :=
  meet_in h0 h1 (by rw [e]; exact Int.le_refl _) (by rw [e]; exact Int.le_refl _)
theorem nz_of {x : I} {v : Int} (h0 : x.lo ≤ v) (h1 : v ≤ x.hi) (e : v ≠ 0) : x.nz.lo ≤ v ∧ v ≤ x.nz.hi := by
  unfold I.nz
  by_cases a : x.lo = 0
  · by_cases b : x.hi = 0
    · omega
    · have e1 : (x.lo == 0) = true := by simpa using a
      have e2 : (x.hi == 0) = false := by simpa using b
      rw [e1, e2, Bool.true_and, Bool.false_and, onB_f, onB_t]
      simp only; omega
  · have e1 : (x.lo == 0) = false := by simpa using a
    rw [e1, Bool.false_and, onB_f, onB_f]
    by_cases b : x.hi = 0
    · have e2 : (x.hi == 0) = true := by simpa using b
      rw [e2, onB_t]; simp only; omega
    · have e2 : (x.hi == 0) = false := by simpa using b
      rw [e2, onB_f]; exact ⟨h0, h1⟩

/-- Refine keeps the registers of a job. -/
theorem refine_in {i : Ins} {r : Rg} (ho : r.Ok) (hv : i.valid = true) (hop : i.op = 22 ∨ i.op = 23) {V : Nat → Int} (hV : ∀ k, k < 16 → r (2 * k) ≤ V k ∧ V k ≤ r (2 * k + 1)) {t : Bool} (ht : t = ((V i.a.toNat == 0) == (i.op == 22))) :
    (r.refine i t).2 = true ∧ ∀ k, k < 16 → (r.refine i t).1 (2 * k) ≤ V k ∧ V k ≤ (r.refine i t).1 (2 * k + 1) := by
  have hs := Ins.small hv
  have ha : i.a.toNat < 16 := by have := hs.a0; have := hs.a1; omega
  have hva := hV _ ha
  have key : ∀ x : I, x.lo ≤ V i.a.toNat → V i.a.toNat ≤ x.hi → (refC i r x).2 = true ∧ ∀ k, k < 16 → (refC i r x).1 (2 * k) ≤ V k ∧ V k ≤ (refC i r x).1 (2 * k + 1) := fun x h0 h1 => by
    have he : ((r.put i.a x).get i.a).emp = false := by
      rw [Rg.get_eq _ ha, Rg.put_eq, Rg.put_eq]
      simp [I.emp]; omega
    unfold refC
    rw [he, onB_f]
    refine ⟨rfl, fun k hk => ?_⟩
    simp only [Rg.put_eq]
    by_cases e : k = i.a.toNat
    · subst e
      simp [h0, h1]
    · have hk' := hV k hk
      rw [if_neg (by omega), if_neg (by omega), if_neg (by omega), if_neg (by omega)]
      exact hk'
  have hD : (refD i r t).2 = true ∧ ∀ k, k < 16 → (refD i r t).1 (2 * k) ≤ V k ∧ V k ≤ (refD i r t).1 (2 * k + 1) := by
    have hg : r.get i.a = ⟨r (2 * i.a.toNat), r (2 * i.a.toNat + 1)⟩ := Rg.get_eq _ ha
    have et : (t == (i.op == 22)) = (V i.a.toNat == 0) := by
      rw [ht]; cases (V i.a.toNat == 0) <;> cases (i.op == 22) <;> rfl
    unfold refD
    rw [et, hg]
    by_cases h0 : V i.a.toNat = 0
    · rw [h0, show ((0 : Int) == 0) = true from rfl, onB_t]
      have := meet_of (x := ⟨r (2 * i.a.toNat), r (2 * i.a.toNat + 1)⟩) hva.1 hva.2 h0
      exact key _ this.1 this.2
    · rw [beq_eq_false_iff_ne.2 h0, onB_f]
      have := nz_of (x := ⟨r (2 * i.a.toNat), r (2 * i.a.toNat + 1)⟩) hva.1 hva.2 h0
      exact key _ this.1 this.2
  unfold Rg.refine
  rw [ho.good, hv]
  rcases hop with h | h
  · rw [h]; exact hD
  · rw [h]; exact hD

theorem spans_all {r : Rg} (hr : r.Rng) (ho : r.Ok) {z : List Bool} (hz : ∀ b ∈ z, b = true) : ∀ n k, k + n ≤ 16 → ∀ b ∈ spans r k n z, b = true
  | 0, _, _ => hz
  | n + 1, k, hk => by
    intro b hb
    simp only [spans, List.mem_cons] at hb
    rcases hb with rfl | hb
    · rw [spanI_eq hr (by omega)]
      have := ho.le k (by omega)
      simp; omega
    · exact spans_all hr ho hz n (k + 1) (by omega) b hb
theorem spansL_all {r : Rg} (hr : r.Rng) (ho : r.Ok) {len : Nat} (hl : 16 ≤ len) {z : List Bool} (hz : ∀ b ∈ z, b = true) : ∀ n k, k + n ≤ 16 → ∀ b ∈ spansL r len k n z, b = true
  | 0, _, _ => hz
  | n + 1, k, hk => by
    intro b hb
    simp only [spansL, List.mem_cons] at hb
    rcases hb with rfl | rfl | rfl | hb
    · simp; omega
    · simp; omega
    · rw [spanI_eq hr (by omega)]
      have := ho.le k (by omega)
      simp; omega
    · exact spansL_all hr ho hl hz n (k + 1) (by omega) b hb
theorem endO_all {d : Value} {i : Ins} {r : Rg} {xs : List Int} (hr : r.Rng) (ho : r.Ok) (hv : i.valid = true) (hop : i.op = 22 ∨ i.op = 23) :
    (∀ b ∈ endO d i r xs, b = true) ∧ leafO d i r xs = .bool true := by
  have hs := Ins.small hv
  have h0 := hs.a0
  have h1 := hs.a1
  have ha : i.a.toNat < 16 := by omega
  have hV : ∀ k, k < 16 → r.dec (2 * k) ≤ valI r xs k ∧ valI r xs k ≤ r.dec (2 * k + 1) := fun k hk => by
    rw [r.dec_eq (by omega), r.dec_eq (by omega)]; exact valI_in hr ho xs hk
  obtain ⟨e1, e2⟩ := refine_in (i := i) (t := tkO d i r xs) ho.dec hv hop hV (by unfold tkO; rw [stSel_eq ha])
  constructor
  · intro b hb
    simp only [endO, accS, List.mem_cons, List.not_mem_nil, or_false] at hb
    rcases hb with rfl | rfl | rfl | rfl
    · simpa using h0
    · simp; omega
    · rw [ble_dec, ble_dec]; simp; omega
    · exact e1
  · unfold leafO
    congr 1
    rw [inside_iff]
    intro k hk
    rw [sel_cells hk, Rg.dec_eq _ (by omega), Rg.dec_eq _ (by omega)]
    exact e2 k hk
theorem outC_all {d : Value} {i : Ins} {r : Rg} {xs : List Int} {n : Nat} (hn : n ≤ 16) (hr : r.Rng) (ho : r.Ok) (hv : i.valid = true) (hop : i.op = 22 ∨ i.op = 23) : conj (outC d i r xs n) = true := by
  rw [conj_iff]
  intro b hb
  simp only [outC, List.mem_cons] at hb
  rcases hb with rfl | rfl | hb
  · simp [ho.bad]
  · simp [hv]
  · exact spans_all hr ho (endO_all hr ho hv hop).1 n 0 (by omega) b hb
theorem outL_all {d : Value} {i : Ins} {r : Rg} {xs : List Int} {len : Nat} (hn : 16 ≤ len) (hr : r.Rng) (ho : r.Ok) (hv : i.valid = true) (hop : i.op = 22 ∨ i.op = 23) : conj (outL d i r xs len) = true := by
  rw [conj_iff]
  intro b hb
  simp only [outL, List.mem_cons] at hb
  rcases hb with rfl | rfl | hb
  · simp [ho.bad]
  · simp [hv]
  · exact spansL_all hr ho hn (endO_all hr ho hv hop).1 16 0 (by omega) b hb
end Go.Vm
