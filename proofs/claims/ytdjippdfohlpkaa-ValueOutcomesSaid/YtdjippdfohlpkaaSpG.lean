/- value.Refine in plain Lean. -/
import Derived.Test.YtdjippdfohlpkaaSpF
namespace Go.Vm

def I.nz (x : I) : I := onB (x.lo == 0 && (x.hi == 0 && true)) I.none (onB (x.lo == 0) ⟨1, x.hi⟩ (onB (x.hi == 0) ⟨x.lo, -1⟩ x))
def Rs.two : Rs (Rg × Bool) := Rs.pair tR tBool
/-- A place in the registers' block. -/
def acc {γ : Type} (a : Int) (z f : γ) : γ := onB (decide (0 ≤ a)) (onB (decide (a < 16)) (onB (Nat.ble (0 + a.toNat * 2 + 2) 32) z f) f) f
def refS {γ : Type} (e : Rg × Bool → γ) (n : γ) (i : Ins) (r : Rg) (x : I) : γ :=
  acc i.a (acc i.a (onB (((r.put i.a x).get i.a).emp) (e (Rg.zero, false)) (e (r.put i.a x, true))) n) n
def refB {γ : Type} (e : Rg × Bool → γ) (n : γ) (i : Ins) (r : Rg) (t : Bool) : γ :=
  onB (t == (i.op == 22)) (acc i.a (refS e n i r ((r.get i.a).meet (I.of 0))) n) (acc i.a (refS e n i r (r.get i.a).nz) n)
def refV {γ : Type} (e : Rg × Bool → γ) (n : γ) (i : Ins) (r : Rg) (t : Bool) : γ :=
  onB i.byte (onB (!r.good i) (e (Rg.zero, false)) (onB (i.op == 22) (refB e n i r t) (onB (i.op == 23) (refB e n i r t)
    (onB (!(t == (i.op == 24))) (e (Rg.zero, false)) (e (r, true)))))) n

theorem lims_small : ∀ l ∈ limsL, l.1 ≤ 15 ∧ l.2.1 ≤ 15 ∧ l.2.2.1 ≤ 15 ∧ -131072 ≤ l.2.2.2.1 ∧ l.2.2.2.2 ≤ 131071 := by decide
theorem Ins.valid_lim {i : Ins} (h : i.valid = true) : ∃ l, limsL[i.op.toNat]? = some l ∧ 0 ≤ i.a ∧ i.a ≤ l.1 ∧ 0 ≤ i.b ∧ i.b ≤ l.2.1 ∧ 0 ≤ i.c ∧ i.c ≤ l.2.2.1 ∧ l.2.2.2.1 ≤ i.imm ∧ i.imm ≤ l.2.2.2.2 := by
  unfold Ins.valid at h
  rw [nth_eq] at h
  split at h
  · rename_i l hl
    exact ⟨l, hl, limB_iff.1 h⟩
  · cases h
structure Ins.Small (i : Ins) : Prop where
  op : i.op < 30
  a0 : 0 ≤ i.a
  a1 : i.a ≤ 15
  b0 : 0 ≤ i.b
  b1 : i.b ≤ 15
  c0 : 0 ≤ i.c
  c1 : i.c ≤ 15
  m0 : -131072 ≤ i.imm
  m1 : i.imm ≤ 131071
theorem Ins.small {i : Ins} (h : i.valid = true) : i.Small := by
  obtain ⟨l, hl, h⟩ := i.valid_lim h
  have h1 := lims_small l (List.mem_of_getElem? hl)
  have h2 := (List.getElem?_eq_some_iff.1 hl).1
  have h3 : limsL.length = 30 := rfl
  exact ⟨by omega, by omega, by omega, by omega, by omega, by omega, by omega, by omega, by omega⟩
theorem acc_eq {γ : Type} {a : Int} {z f : γ} (h0 : 0 ≤ a) (h1 : a < 16) : acc a z f = z := by
  unfold acc
  rw [ble_dec]
  rw [show decide (0 ≤ a) = true by simpa using h0, show decide (a < 16) = true by simpa using h1, show decide (0 + a.toNat * 2 + 2 ≤ 32) = true by simp; omega]
  rfl

def refC (i : Ins) (r : Rg) (x : I) : Rg × Bool := onB (((r.put i.a x).get i.a).emp) (Rg.zero, false) (r.put i.a x, true)
def refD (i : Ins) (r : Rg) (t : Bool) : Rg × Bool := onB (t == (i.op == 22)) (refC i r ((r.get i.a).meet (I.of 0))) (refC i r (r.get i.a).nz)
/-- value.Refine. -/
def Rg.refine (i : Ins) (r : Rg) (t : Bool) : Rg × Bool :=
  onB (!r.good i) (Rg.zero, false) (onB (i.op == 22) (refD i r t) (onB (i.op == 23) (refD i r t) (onB (!(t == (i.op == 24))) (Rg.zero, false) (r, true))))
def refineT (i : Ins) (r : Rg) (t : Bool) : Tr (Rg × Bool) := .node i.byte (.leaf (r.refine i t)) .fail
theorem onB_map {γ δ : Type} (f : γ → δ) (b : Bool) (x y : γ) : onB b (f x) (f y) = f (onB b x y) := by cases b <;> rfl
theorem onB_t {γ : Type} (x y : γ) : onB true x y = x := rfl
theorem onB_f {γ : Type} (x y : γ) : onB false x y = y := rfl
theorem refV_eq {γ : Type} (e : Rg × Bool → γ) (n : γ) (i : Ins) (r : Rg) (t : Bool) (hb : i.byte = true) : refV e n i r t = e (r.refine i t) := by
  unfold refV Rg.refine
  rw [hb, onB_t]
  cases hg : r.good i with
  | false => rfl
  | true =>
    have hs := Ins.small (Rg.ok_of_good hg).2
    have key : refB e n i r t = e (refD i r t) := by
      unfold refB refD refS refC
      simp only [acc_eq hs.a0 (show i.a < 16 by have := hs.a1; omega), onB_map]
    simp only [Bool.not_true, onB_f, key, onB_map]
end Go.Vm
