/- A job's state as a value; law28's inside. -/
import Derived.Test.YtdjippdfohlpkaaVmX
import Derived.Test.YtdjippdfohlpkaaSpK
namespace Go.Vm

/-- A job's state: its data are a slice that is handed on. -/
structure Jb where
  pc : Int
  reg : Nat → Int
  a : Option Addr
  n : Nat
  c : Nat
  halted : Bool
  held : Int
def Jb.enc (s : Jb) : Value := .agg (.int .i64 s.pc :: (cellsI .i32 s.reg 0 16 ++ [.slice s.a s.n s.c, .bool s.halted, .int .i64 s.held])).toArray
def plainA : Option Addr → Bool
  | none => true
  | some ⟨_, _, none⟩ => true
  | _ => false
def Jb.dec : Value → Option Jb
  | .agg ⟨.int .i64 pc :: r⟩ => (match allK .i32 (r.take 16) && Nat.beq (r.take 16).length 16 with
      | true => match r.drop 16 with
        | [.slice a n c, .bool h, .int .i64 l] => match plainA a with
          | true => some ⟨pc, selInt (r.take 16), a, n, c, h, l⟩
          | false => none
        | _ => none
      | false => none)
  | _ => none
theorem Jb.dec_inv {v : Value} {s : Jb} (h : Jb.dec v = some s) : v = s.enc ∧ plainA s.a = true := by
  unfold Jb.dec at h
  split at h
  · rename_i pc r
    split at h
    · rename_i hb
      simp only [Bool.and_eq_true] at hb
      have hl := Nat.eq_of_beq_eq_true hb.2
      split at h
      · rename_i a n c hh l hd
        split at h
        · rename_i hp
          cases h
          refine ⟨?_, hp⟩
          have key : r = cellsI .i32 (selInt (r.take 16)) 0 16 ++ [.slice a n c, .bool hh, .int .i64 l] := by
            rw [← hd]
            have : cellsI .i32 (selInt (r.take 16)) 0 16 = r.take 16 := by
              apply List.ext_getElem?
              intro i
              by_cases hi : i < 16
              · rw [cellsI_get _ _ _ _ _ hi, Nat.zero_add, sel_at (allK_spec hb.1) (by omega)]
              · rw [List.getElem?_eq_none (by rw [cellsI_len]; omega), List.getElem?_eq_none (by omega)]
            rw [this, List.take_append_drop]
          unfold Jb.enc
          simp only
          rw [← key]
        · cases h
      · cases h
    · cases h
  · cases h
def insV {γ : Type} (e : Bool → γ) (V : Nat → Int) (x : Rg) : Nat → Nat → γ
  | _, 0 => e true
  | k, n + 1 => onB (decide (V k < x (2 * k))) (e false) (onB (decide (V k > x (2 * k + 1))) (e false) (insV e V x (k + 1) n))
theorem insV_map {γ : Type} (e : Bool → γ) (V : Nat → Int) (x : Rg) : ∀ n k, insV e V x k n = e (insV (fun b => b) V x k n)
  | 0, _ => rfl
  | n + 1, k => by simp only [insV, insV_map e V x n, onB_map]
/-- law28's inside. -/
def inside (V : Nat → Int) (x : Rg) : Bool := insV (fun b => b) V x 0 16
theorem insV_iff (V : Nat → Int) (x : Rg) : ∀ n k, insV (fun b => b) V x k n = true ↔ ∀ j, j < n → x (2 * (k + j)) ≤ V (k + j) ∧ V (k + j) ≤ x (2 * (k + j) + 1)
  | 0, k => by simp [insV]
  | n + 1, k => by
    have ih := insV_iff V x n (k + 1)
    by_cases h0 : V k < x (2 * k)
    · simp only [insV, h0, decide_true, onB_t, Bool.false_eq_true, false_iff]
      intro h
      have := h 0 (by omega)
      simp only [Nat.add_zero] at this; omega
    · by_cases h1 : V k > x (2 * k + 1)
      · simp only [insV, h0, h1, decide_true, decide_false, onB_t, onB_f, Bool.false_eq_true, false_iff]
        intro h
        have := h 0 (by omega)
        simp only [Nat.add_zero] at this; omega
      · simp only [insV, h0, h1, decide_false, onB_f, ih]
        constructor
        · intro h j hj
          cases j with
          | zero => simp only [Nat.add_zero]; omega
          | succ j =>
            have := h j (by omega)
            rw [show k + (j + 1) = k + 1 + j by omega]; exact this
        · intro h j hj
          have := h (j + 1) (by omega)
          rw [show k + 1 + j = k + (j + 1) by omega]; exact this
theorem inside_iff {V : Nat → Int} {x : Rg} : inside V x = true ↔ ∀ k, k < 16 → x (2 * k) ≤ V k ∧ V k ≤ x (2 * k + 1) := by
  unfold inside
  rw [insV_iff]
  simp
def insE : CE
  | [sv, rv], H => match Jb.dec sv with
    | some s => match tR.dec rv with
      | some x => .leaf (.bool (inside s.reg x), H)
      | none => .fail
    | none => .fail
  | _, _ => .fail
/-- An empty heap in which one block is another's. -/
def Hd : Heap := ⟨.leaf, 1, 1⟩
theorem Jb.lr (s : Jb) (hp : plainA s.a = true) (rest : List Value) (hr : rest.all flat = true) : ∃ n ρ a0 H0, (H0 = heap0 ∧ n = 0 ∨ H0 = Hd ∧ n = 1) ∧ LR (sr n ρ) (Jb.enc { s with a := a0 } :: rest) (s.enc :: rest) ∧ ∀ H, Emb n ρ H0 H := by
  obtain ⟨pc, reg, a, m, c, h, l⟩ := s
  have mk : ∀ {σ : Sg} {a0 : Option Addr}, VR σ (.slice a0 m c) (.slice a m c) → LR σ (Jb.enc ⟨pc, reg, a0, m, c, h, l⟩ :: rest) (Jb.enc ⟨pc, reg, a, m, c, h, l⟩ :: rest) := fun hv =>
    .cons (VR.aggL (.cons (.plain rfl) (LR.append (LR.of_plain (cellsI_flat _ _ _ _)) (.cons hv (.cons (.plain rfl) (.cons (.plain rfl) .nil)))))) (LR.of_flat hr)
  match a, hp with
  | none, _ => exact ⟨0, fun _ => 0, none, heap0, .inl ⟨rfl, rfl⟩, mk (.plain rfl), fun H => ⟨rfl, rfl, fun b k hb => by omega⟩⟩
  | some ⟨b, off, none⟩, _ =>
    refine ⟨1, fun _ => b, some ⟨0, off, none⟩, Hd, .inr ⟨rfl, rfl⟩, mk ?_, fun H => ⟨rfl, rfl, fun b k _ hk => by cases hk⟩⟩
    have : VR (sr 1 fun _ => b) (.slice (some ⟨0, off, none⟩) m c) (.slice (some ⟨b, 0 + off, none⟩) m (c + 0)) := .slice rfl
    simpa using this
/-- What law28's ValueOutcomes hands over where it has come to its end. -/
def leafO (d : Value) (i : Ins) (r : Rg) (xs : List Int) : Value := .bool (inside (selInt (cellsI .i32 (valI r xs) 0 16)) (refO d i r xs).1.dec)
end Go.Vm
