/- A verified interpreter: regions that draw their order (second part: what holds between two operations). -/
import Derived.Test.YtdjippdfohlpkaaVmN
namespace Go.Vm
variable {P : Program}

theorem fp_mem_simple {o : Oper} {T : Frm} {r wl : List Nat} (h : fpOf T o = .mem r wl) (call : CallFn) (H : Heap) : (opV P o).run call T H = (simpleV P o.type o.op).run T H := by
  obtain ⟨dst, op, type, pos, after, guard⟩ := o
  unfold opV
  split
  · rename_i f args at_ ho
    simp only at ho
    subst ho
    simp [fpOf] at h
  · rfl
theorem fp_call {o : Oper} {T : Frm} (h : fpOf T o = .call) : ∃ f args at_, o.op = .call ⟨.value f, args, at_⟩ := by
  obtain ⟨dst, op, type, pos, after, guard⟩ := o
  unfold fpOf at h
  simp only at h
  split at h
  all_goals first | (cases h; done) | exact ⟨_, _, _, rfl⟩

/-- What block numbers operation i has written or made. -/
def Kw (ops : List Oper) (fs : Nat → Fp) (i b : Nat) : Prop := match fs i with | .mem _ w => b ∈ w | .call => freeCall (befores ops) ops.length i = true
def Kp (ops : List Oper) (fs : Nat → Fp) (Hs : Nat → Heap) (i b : Nat) : Prop := ((Hs i).next ≤ b ∧ b < (Hs (i + 1)).next) ∨ Kw ops fs i b
def dsOf (ops : List Oper) (i : Nat) : Option Tmp := (ops[i]?).bind (·.dst)

theorem put_get {T T1 : Frm} {dst : Option Tmp} {v : Value} (h : T.put dst v = some T1) (t : Nat) : T1.get t = (if dst = some t then v else T.get t) ∧ T1.n = T.n := by
  cases dst with
  | none => simp only [Frm.put, Option.some.injEq] at h; subst h; simp
  | some d =>
    simp only [Frm.put] at h
    split at h
    · simp only [Option.some.injEq] at h
      subst h
      simp only [Frm.get, PT.get_set, Option.some.injEq]
      by_cases e : t = d
      · subst e; simp
      · simp [e, Ne.symm e]
    · cases h

theorem Fp.clash_mem {r w r' w' : List Nat} {b : Nat} (hb : b ∈ w) (ht : b ∈ r' ∨ b ∈ w') : (Fp.mem r w).clash (.mem r' w') = true ∧ (Fp.mem r' w').clash (.mem r w) = true := by
  have m : ∀ {x y : List Nat}, b ∈ x → b ∈ y → meets x y = true := fun {x y} hx hy =>
    List.any_eq_true.2 ⟨b, hx, List.any_eq_true.2 ⟨b, hy, by simp⟩⟩
  rcases ht with ht | ht
  · exact ⟨by simp [Fp.clash, m hb ht], by simp [Fp.clash, m ht hb]⟩
  · exact ⟨by simp [Fp.clash, m hb ht], by simp [Fp.clash, m ht hb]⟩

theorem free_cmp {ops : List Oper} {i k : Nat} (h : freeCall (befores ops) ops.length i = true) (hk : k < ops.length) (hne : k ≠ i) : Bf ops i k ∨ Bf ops k i := by
  have := List.all_eq_true.1 h k (List.mem_range.2 hk)
  simp only [beq_dec, Bool.or_eq_true, decide_eq_true_eq, cmpB] at this
  rcases this with h | h | h
  · exact absurd h.symm hne
  · exact .inr h
  · exact .inl h

structure Tra (P : Program) (call : CallFn) (ops : List Oper) (Ts : Nat → Frm) (Hs : Nat → Heap) (vs : Nat → Value) (fs : Nat → Fp) (ws : Nat → Bool) : Prop where
  cvf : CallVF call
  sok : ∀ (k : Nat) o, ops[k]? = some o → SOK P call ops (befores ops) k o (Ts k) (Hs k) (vs k) (fs k) (ws k) (Ts (k + 1)) (Hs (k + 1))
  back : ∀ (j : Nat) o, ops[j]? = some o → ∀ e ∈ o.after.toList, Region.binds .any e = true → e.on < j
  apart : ∀ (i j : Nat) oi oj, i < j → ops[i]? = some oi → ops[j]? = some oj → Bf ops i j ∨ Bf ops j i ∨ apartB ops oi oj = true
  clash : ∀ (i j : Nat), i < j → j < ops.length → Bf ops i j ∨ Bf ops j i ∨ (fs i).clash (fs j) = false

section
variable {call : CallFn} {ops : List Oper} {Ts : Nat → Frm} {Hs : Nat → Heap} {vs : Nat → Value} {fs : Nat → Fp} {ws : Nat → Bool} (R : Tra P call ops Ts Hs vs fs ws)
include R

theorem Tra.vf {i : Nat} (hi : i < ops.length) : VF (Hs i) (Hs (i + 1)) (Kw ops fs i) := by
  have ho : ops[i]? = some ops[i] := by simp [hi]
  obtain ⟨hp, h⟩ := R.sok i _ ho
  rcases h with ⟨_, _, hf, H2, hrun, hH⟩ | ⟨_, _, _, hf, hH⟩
  · cases hq : fs i with
    | mem r wl =>
      rw [hq] at hf hrun hH
      rw [fp_mem_simple hf.symm] at hrun
      simp only [quietB, dropF, liftF] at hrun hH
      rw [hH]
      refine (simple_vf (P := P) hrun).mono fun b hb => ?_
      simp only [Wrs, ← hf] at hb
      simp only [Kw, hq]
      exact hb
    | call =>
      rw [hq] at hf hrun hH
      simp only [quietB] at hrun hH
      cases hfr : freeCall (befores ops) ops.length i with
      | true =>
        simp only [hfr, Bool.not_true, dropF, liftF] at hrun hH
        rw [hH]
        exact (op_vf R.cvf hrun).mono fun b _ => by simp only [Kw, hq, hfr]
      | false =>
        simp only [hfr, Bool.not_false, dropF, liftF] at hrun hH
        rw [hH]
        exact (op_vf R.cvf hrun).quiet.mono fun b h => h.elim
  · rw [hH]; exact .refl

theorem Tra.next_mono {i : Nat} : ∀ {j : Nat}, i ≤ j → j ≤ ops.length → (Hs i).next ≤ (Hs j).next
  | 0, h, _ => by have : i = 0 := by omega
                  subst this; exact Nat.le_refl _
  | j + 1, h, hj => by
    by_cases e : i = j + 1
    · subst e; exact Nat.le_refl _
    · exact Nat.le_trans (Tra.next_mono (j := j) (by omega) (by omega)) (R.vf (by omega)).next

theorem Tra.ts {t : Nat} : ∀ {j : Nat}, j ≤ ops.length → (Ts j).get t = LW ((Ts 0).get t) (fun i => dsOf ops i = some t) vs (fun _ => true) j ∧ (Ts j).n = (Ts 0).n
  | 0, _ => ⟨rfl, rfl⟩
  | j + 1, hj => by
    have ho : ops[j]? = some ops[j] := by simp [show j < ops.length by omega]
    obtain ⟨hp, _⟩ := R.sok j _ ho
    have ih := Tra.ts (t := t) (j := j) (by omega)
    have hg := put_get hp t
    have hd : dsOf ops j = ops[j].dst := by simp [dsOf, ho]
    refine ⟨?_, hg.2.trans ih.2⟩
    rw [hg.1, ih.1]
    simp only [LW, true_and, hd]

theorem Tra.hs {b : Nat} : ∀ {j : Nat}, j ≤ ops.length → b < (Hs j).next → (Hs j).get b = LW ((Hs 0).get b) (fun i => Kp ops fs Hs i b) (fun i => (Hs (i + 1)).get b) (fun _ => true) j
  | 0, _, _ => rfl
  | j + 1, hj, hb => by
    simp only [LW]
    by_cases hk : Kp ops fs Hs j b
    · rw [if_pos ⟨rfl, hk⟩]
    · rw [if_neg (fun h => hk h.2)]
      have hlt : b < (Hs j).next := by
        rcases Nat.lt_or_ge b (Hs j).next with h | h
        · exact h
        · exact absurd (.inl ⟨h, hb⟩) hk
      rw [(R.vf (by omega)).same b hlt fun h => hk (.inr h)]
      exact Tra.hs (j := j) (by omega) hlt
end

/-! ### The state between two operations -/
def WRo : Option Blk → Prop
  | some (.cells _ _ ro) => ro = false
  | some (.map _) => True
  | none => False
theorem WRo_iff {H : Heap} {b : Nat} : WRo (H.get b) ↔ WR H b := by
  unfold WR WRo
  cases H.get b with
  | none => exact Iff.rfl
  | some k => cases k <;> exact Iff.rfl

def rs (σ : Sg) (m : Nat) : Sg := fun b => if b < m then σ b else none
theorem rs_some {σ : Sg} {m b : Nat} {x : Nat × Nat × Nat} (h : rs σ m b = some x) : b < m ∧ σ b = some x := by
  unfold rs at h
  split at h
  · exact ⟨by assumption, h⟩
  · cases h
theorem rs_mono {σ σ' : Sg} {m m' : Nat} (hs : ∀ b x, b < m → σ b = some x → σ' b = some x) (hm : m ≤ m') : ∀ b x, rs σ m b = some x → rs σ' m' b = some x := by
  intro b x h
  obtain ⟨h1, h2⟩ := rs_some h
  simp only [rs, show b < m' by omega, if_true]
  exact hs b x h1 h2

noncomputable def TSv (ops : List Oper) (Ts : Nat → Frm) (vs : Nat → Value) (S : Nat → Bool) (t : Nat) : Value :=
  LW ((Ts 0).get t) (fun i => dsOf ops i = some t) vs S ops.length
noncomputable def HSv (ops : List Oper) (fs : Nat → Fp) (Hs : Nat → Heap) (S : Nat → Bool) (b : Nat) : Option Blk :=
  LW ((Hs 0).get b) (fun i => Kp ops fs Hs i b) (fun i => (Hs (i + 1)).get b) S ops.length

structure Inv (ops : List Oper) (Ts : Nat → Frm) (Hs : Nat → Heap) (vs : Nat → Value) (fs : Nat → Fp) (σ0 : Sg) (w0 : World) (S : Nat → Bool) (σ : Sg) (a : Act) (w : World) : Prop where
  defers : a.defers = []
  size : a.tmps.size = (Ts 0).n
  tmp : ∀ t m, m ≤ ops.length → (∀ i, i < ops.length → S i = true → dsOf ops i = some t → i < m) → VR (rs σ (Hs m).next) (TSv ops Ts vs S t) (a.tmps.getD t undef)
  blk : ∀ b x k m, m ≤ ops.length → (∀ i, i < ops.length → S i = true → Kp ops fs Hs i b → i < m) → σ b = some x → HSv ops fs Hs S b = some k → BlkOK (rs σ (Hs m).next) w x k
  dom : ∀ b x, σ b = some x → x.1 < w.heap.size ∧ (b < (Hs 0).next ∨ ∃ i, i < ops.length ∧ S i = true ∧ (Hs i).next ≤ b ∧ b < (Hs (i + 1)).next)
  wrd : ∀ i, i < ops.length → S i = true → ∀ r wl b, fs i = .mem r wl → b ∈ wl → ∃ x, σ b = some x
  inj : ∀ b b' x x', b ≠ b' → σ b = some x → σ b' = some x' → x.1 = x'.1 → WRo (HSv ops fs Hs S b) → HSv ops fs Hs S b' = none
  sub : ∀ b, b < (Hs 0).next → σ b = σ0 b
  os : w.os = w0.os
  tape : w.tape = w0.tape
  output : w.output = w0.output
  wsize : w0.heap.size ≤ w.heap.size
  frame : ∀ r, r < w0.heap.size → ¬ Own σ0 (Hs 0) r → w.heap[r]? = w0.heap[r]?
  own : ∀ b x, (Hs 0).floor ≤ b → WRo (HSv ops fs Hs S b) → σ b = some x → Own σ0 (Hs 0) x.1 ∨ w0.heap.size ≤ x.1
  newr : ∀ b x, (Hs 0).next ≤ b → σ b = some x → Own σ0 (Hs 0) x.1 ∨ w0.heap.size ≤ x.1

section
variable {call : CallFn} {ops : List Oper} {Ts : Nat → Frm} {Hs : Nat → Heap} {vs : Nat → Value} {fs : Nat → Fp} {ws : Nat → Bool} (R : Tra P call ops Ts Hs vs fs ws)
include R

/-- What 'the next operation' means. -/
structure Nx (ops : List Oper) (S : Nat → Bool) (j : Nat) : Prop where
  lt : j < ops.length
  no : S j = false
  closed : Closed ops S
  preds : ∀ o, ops[j]? = some o → ∀ e ∈ o.after.toList, Region.binds .any e = true → S e.on = true

theorem Tra.cmpL {S : Nat → Bool} {i j : Nat} (N : Nx ops S j) (hi : i < ops.length) (h : Bf ops i j ∨ Bf ops j i) : (S i = true ↔ i < j) := by
  have ho : ops[j]? = some (ops[j]'N.lt) := by simp [N.lt]
  rcases h with h | h
  · have hlt := Bf_lt R.back N.lt h
    refine ⟨fun _ => hlt, fun _ => ?_⟩
    obtain ⟨e, he, hb, h⟩ := (Bf_iff R.back ho).1 h
    have hse := N.preds _ ho e he hb
    have hel := R.back j _ ho e he hb
    rcases h with h | h
    · exact h ▸ hse
    · exact N.closed.bf R.back (by have := N.lt; omega) hse h
  · have hlt := Bf_lt R.back hi h
    refine ⟨fun hs => ?_, fun h => by omega⟩
    have := N.closed.bf R.back hi hs h
    rw [N.no] at this; cases this

theorem Tra.cutT {S : Nat → Bool} {j t : Nat} {oj : Oper} (N : Nx ops S j) (hoj : ops[j]? = some oj) (ht : t ∈ looksAt ops oj ∨ oj.dst = some t) {i : Nat} (hi : i < ops.length) (hne : i ≠ j) (hd : dsOf ops i = some t) :
    (S i = true ↔ i < j) := by
  have hoi : ops[i]? = some ops[i] := by simp [hi]
  have hdi : ops[i].dst = some t := by simpa [dsOf, hoi] using hd
  rcases Nat.lt_or_gt_of_ne hne with h | h
  · rcases R.apart i j _ _ h hoi hoj with h1 | h1 | h1
    · exact R.cmpL N hi (.inl h1)
    · exact R.cmpL N hi (.inr h1)
    · simp only [apartB, hdi, Bool.and_eq_true, Bool.not_eq_true'] at h1
      obtain ⟨⟨h1, h2⟩, _⟩ := h1
      rcases ht with ht | ht
      · have := List.any_eq_false.1 h1 t ht
        simp at this
      · simp [ht] at h2
  · rcases R.apart j i _ _ h hoj hoi with h1 | h1 | h1
    · exact R.cmpL N hi (.inr h1)
    · exact R.cmpL N hi (.inl h1)
    · simp only [apartB, hdi, Bool.and_eq_true, Bool.not_eq_true'] at h1
      obtain ⟨h1, h2⟩ := h1
      rcases ht with ht | ht
      · have := List.any_eq_false.1 h2 t ht
        simp at this
      · simp [ht, beq_dec] at h1

/-- A block that operation j touches has been written by just those that come before j in the text. -/
theorem Tra.cutK {σ0 σ : Sg} {w0 w : World} {a : Act} {S : Nat → Bool} {j b : Nat} {x : Nat × Nat × Nat} (N : Nx ops S j) (I : Inv ops Ts Hs vs fs σ0 w0 S σ a w) (hx : σ b = some x) (hb : b < (Hs j).next)
    (ht : fs j = .call ∨ ∃ r wl, fs j = .mem r wl ∧ (b ∈ r ∨ b ∈ wl)) {i : Nat} (hi : i < ops.length) (hk : Kp ops fs Hs i b) : (S i = true ↔ i < j) := by
  by_cases e : i = j
  · subst e; simp [N.no]
  by_cases hc : Bf ops i j ∨ Bf ops j i
  · exact R.cmpL N hi hc
  have hno : (i < j → (fs i).clash (fs j) = false) ∧ (j < i → (fs j).clash (fs i) = false) := by
    refine ⟨fun h => ?_, fun h => ?_⟩
    · rcases R.clash i j h N.lt with h1 | h1 | h1
      · exact absurd (.inl h1) hc
      · exact absurd (.inr h1) hc
      · exact h1
    · rcases R.clash j i h hi with h1 | h1 | h1
      · exact absurd (.inr h1) hc
      · exact absurd (.inl h1) hc
      · exact h1
  rcases hk with ⟨h1, h2⟩ | hk
  · have hij : i < j := by
      rcases Nat.lt_or_gt_of_ne e with h | h
      · exact h
      · have := R.next_mono (i := j) (j := i) (by omega) (by omega); omega
    refine ⟨fun _ => hij, fun _ => ?_⟩
    rcases (I.dom b x hx).2 with h | ⟨i', hi', hs', h3, h4⟩
    · have := R.next_mono (i := 0) (j := i) (by omega) (by omega); omega
    · have : i' = i := by
        rcases Nat.lt_trichotomy i' i with h | h | h
        · have := R.next_mono (i := i' + 1) (j := i) (by omega) (by omega); omega
        · exact h
        · have := R.next_mono (i := i + 1) (j := i') (by omega) (by omega); omega
      exact this ▸ hs'
  · exfalso
    unfold Kw at hk
    split at hk
    · rename_i r wl hf
      rcases Nat.lt_or_gt_of_ne e with h | h
      · have hcl := hno.1 h
        rw [hf] at hcl
        rcases ht with ht | ⟨r', wl', ht, hm⟩
        · rw [ht] at hcl
          cases wl with
          | nil => cases hk
          | cons _ _ => simp [Fp.clash] at hcl
        · rw [ht, (Fp.clash_mem hk hm).1] at hcl; cases hcl
      · have hcl := hno.2 h
        rw [hf] at hcl
        rcases ht with ht | ⟨r', wl', ht, hm⟩
        · rw [ht] at hcl
          cases wl with
          | nil => cases hk
          | cons _ _ => simp [Fp.clash] at hcl
        · rw [ht, (Fp.clash_mem hk hm).2] at hcl; cases hcl
    · exact hc ((free_cmp hk N.lt (fun h => e h.symm)))
end
end Go.Vm
