/- A verified interpreter: how its heap stands to the machine's. -/
import Derived.Test.YtdjippdfohlpkaaVmA
import Derived.Laws.CopyRow
import Derived.Laws.Cells
import Derived.Laws.World
namespace Go.Vm

/-- Where a block of the interpreter lies: the machine's block, the first cell, by how much capacities are greater. -/
abbrev Sg := Nat → Option (Nat × Nat × Nat)

inductive VR (σ : Sg) : Value → Value → Prop where
  | plain {v : Value} (h : plain v = true) : VR σ v v
  | ptr {b off r d s : Nat} (h : σ b = some (r, d, s)) : VR σ (.pointer (some ⟨b, off, none⟩)) (.pointer (some ⟨r, d + off, none⟩))
  | slice {b off r d n c s : Nat} (h : σ b = some (r, d, s)) :
      VR σ (.slice (some ⟨b, off, none⟩) n c) (.slice (some ⟨r, d + off, none⟩) n (c + s))
  | map {b r s : Nat} (h : σ b = some (r, 0, s)) : VR σ (.map (some b)) (.map (some r))
  | func {fn : Fn} {a a' c c' : Array Value} (ha : a.size = a'.size) (hc : c.size = c'.size)
      (h1 : ∀ (i : Nat) v v', a[i]? = some v → a'[i]? = some v' → VR σ v v')
      (h2 : ∀ (i : Nat) v v', c[i]? = some v → c'[i]? = some v' → VR σ v v') : VR σ (.func fn a c) (.func fn a' c')
  | agg {cs cs' : Array Value} (hs : cs.size = cs'.size) (h : ∀ (i : Nat) v v', cs[i]? = some v → cs'[i]? = some v' → VR σ v v') : VR σ (.agg cs) (.agg cs')
  | tuple {cs cs' : Array Value} (hs : cs.size = cs'.size) (h : ∀ (i : Nat) v v', cs[i]? = some v → cs'[i]? = some v' → VR σ v v') : VR σ (.tuple cs) (.tuple cs')

/-- Lists of values, each beside its own. -/
structure LR (σ : Sg) (l l' : List Value) : Prop where
  len : l.length = l'.length
  at_ : ∀ (i : Nat) v v', l[i]? = some v → l'[i]? = some v' → VR σ v v'

def Sub (n : Nat) (σ σ' : Sg) : Prop := ∀ b x, b < n → σ b = some x → σ' b = some x

theorem VR.mono {σ σ' : Sg} (hs : ∀ b x, σ b = some x → σ' b = some x) {v v' : Value} (h : VR σ v v') : VR σ' v v' := by
  induction h with
  | plain h => exact .plain h
  | ptr h => exact .ptr (hs _ _ h)
  | slice h => exact .slice (hs _ _ h)
  | map h => exact .map (hs _ _ h)
  | func ha hc _ _ i1 i2 => exact .func ha hc (fun i v v' a b => i1 i v v' a b) (fun i v v' a b => i2 i v v' a b)
  | agg hs _ ih => exact .agg hs fun i v v' a b => ih i v v' a b
  | tuple hs _ ih => exact .tuple hs fun i v v' a b => ih i v v' a b

theorem LR.mono {σ σ' : Sg} (hs : ∀ b x, σ b = some x → σ' b = some x) {l l' : List Value} (h : LR σ l l') : LR σ' l l' :=
  ⟨h.len, fun i v v' a b => (h.at_ i v v' a b).mono hs⟩

theorem LR.nil {σ : Sg} : LR σ [] [] := ⟨rfl, fun i v v' a _ => by simp at a⟩
theorem LR.cons {σ : Sg} {v v' : Value} {l l' : List Value} (hv : VR σ v v') (h : LR σ l l') : LR σ (v :: l) (v' :: l') :=
  ⟨by simp [h.len], fun i u u' a b => by
    cases i with
    | zero => simp at a b; subst a; subst b; exact hv
    | succ i => simp at a b; exact h.at_ i u u' a b⟩
theorem LR.head {σ : Sg} {v v' : Value} {l l' : List Value} (h : LR σ (v :: l) (v' :: l')) : VR σ v v' := h.at_ 0 v v' rfl rfl
theorem LR.tail {σ : Sg} {v v' : Value} {l l' : List Value} (h : LR σ (v :: l) (v' :: l')) : LR σ l l' :=
  ⟨by simpa using h.len, fun i u u' a b => h.at_ (i + 1) u u' (by simpa using a) (by simpa using b)⟩
theorem LR.append {σ : Sg} {a a' b b' : List Value} (h : LR σ a a') (k : LR σ b b') : LR σ (a ++ b) (a' ++ b') := by
  refine ⟨by simp [h.len, k.len], fun i v v' x y => ?_⟩
  by_cases hi : i < a.length
  · rw [List.getElem?_append_left hi] at x
    rw [List.getElem?_append_left (by have := h.len; omega)] at y
    exact h.at_ i v v' x y
  · rw [List.getElem?_append_right (by omega)] at x
    rw [List.getElem?_append_right (by have := h.len; omega), ← h.len] at y
    exact k.at_ _ v v' x y
theorem LR.take {σ : Sg} {a a' : List Value} (h : LR σ a a') (n : Nat) : LR σ (a.take n) (a'.take n) := by
  refine ⟨by simp [h.len], fun i v v' x y => ?_⟩
  rw [List.getElem?_take] at x y
  by_cases hi : i < n
  · simp only [hi, if_true] at x y; exact h.at_ i v v' x y
  · simp [hi] at x
theorem LR.drop {σ : Sg} {a a' : List Value} (h : LR σ a a') (n : Nat) : LR σ (a.drop n) (a'.drop n) := by
  refine ⟨by simp [h.len], fun i v v' x y => ?_⟩
  rw [List.getElem?_drop] at x y
  exact h.at_ _ v v' x y
theorem LR.of_plain {σ : Sg} : ∀ {l : List Value}, l.all plain = true → LR σ l l
  | [], _ => .nil
  | v :: r, h => by
    simp only [List.all_cons, Bool.and_eq_true] at h
    exact .cons (.plain h.1) (LR.of_plain h.2)

theorem VR.aggL {σ : Sg} {l l' : List Value} (h : LR σ l l') : VR σ (.agg l.toArray) (.agg l'.toArray) :=
  .agg (by simpa using h.len) fun i v v' a b => h.at_ i v v' (by simpa using a) (by simpa using b)
theorem VR.tupleL {σ : Sg} {l l' : List Value} (h : LR σ l l') : VR σ (.tuple l.toArray) (.tuple l'.toArray) :=
  .tuple (by simpa using h.len) fun i v v' a b => h.at_ i v v' (by simpa using a) (by simpa using b)
theorem VR.of_flat {σ : Sg} {v : Value} (h : flat v = true) : VR σ v v := by
  cases v with
  | agg cs => exact VR.aggL (LR.of_plain (l := cs.toList) h)
  | _ => exact .plain h
theorem VR.undef {σ : Sg} : VR σ undef undef := .tuple rfl fun i v v' a _ => by simp at a

theorem VR.plain_eq {σ : Sg} {v v' : Value} (h : VR σ v v') (hp : Vm.plain v = true) : v' = v := by
  cases h with
  | plain _ => rfl
  | _ => simp [Vm.plain] at hp
theorem LR.plain_eq {σ : Sg} : ∀ {l l' : List Value}, LR σ l l' → l.all Vm.plain = true → l' = l
  | [], l', h, _ => by have := h.len; simp at this; exact List.eq_nil_of_length_eq_zero this.symm
  | v :: r, [], h, _ => by have := h.len; simp at this
  | v :: r, v' :: r', h, hp => by
    simp only [List.all_cons, Bool.and_eq_true] at hp
    rw [h.head.plain_eq hp.1, h.tail.plain_eq hp.2]
theorem VR.agg_inv {σ : Sg} {cs : Array Value} {v' : Value} (h : VR σ (.agg cs) v') : ∃ cs' : Array Value, v' = .agg cs' ∧ LR σ cs.toList cs'.toList := by
  cases h with
  | plain h => simp [Vm.plain] at h
  | agg hs h => exact ⟨_, rfl, by simpa using hs, fun i v v' a b => h i v v' (by simpa using a) (by simpa using b)⟩
theorem VR.tuple_inv {σ : Sg} {cs : Array Value} {v' : Value} (h : VR σ (.tuple cs) v') : ∃ cs' : Array Value, v' = .tuple cs' ∧ LR σ cs.toList cs'.toList := by
  cases h with
  | plain h => simp [Vm.plain] at h
  | tuple hs h => exact ⟨_, rfl, by simpa using hs, fun i v v' a b => h i v v' (by simpa using a) (by simpa using b)⟩
theorem VR.flat_eq {σ : Sg} {v v' : Value} (h : VR σ v v') (hp : flat v = true) : v' = v := by
  cases v with
  | agg cs =>
    obtain ⟨cs', rfl, hl⟩ := h.agg_inv
    have := hl.plain_eq hp
    congr 1
    exact Array.toList_inj.1 this
  | _ => exact h.plain_eq hp
theorem VR.cells {σ : Sg} {v v' : Value} (h : VR σ v v') : LR σ v.cells.toList v'.cells.toList := by
  cases v with
  | agg cs => obtain ⟨cs', rfl, hl⟩ := h.agg_inv; exact hl
  | _ =>
    have : ∀ cs : Array Value, v' ≠ .agg cs := by
      intro cs e; subst e; cases h
    cases v' <;> first | exact absurd rfl (this _) | exact .cons h .nil
theorem VR.oneCell {σ : Sg} {v v' : Value} (h : VR σ v v') : v'.oneCell' = Vm.oneCell v := by
  cases h with
  | @plain v _ => cases v <;> rfl
  | _ => rfl
theorem VR.ptr_inv {σ : Sg} {a : Addr} {v' : Value} (h : VR σ (.pointer (some a)) v') :
    ∃ b off r d s, a = ⟨b, off, none⟩ ∧ σ b = some (r, d, s) ∧ v' = .pointer (some ⟨r, d + off, none⟩) := by
  cases h with
  | plain h => simp [Vm.plain] at h
  | ptr h => exact ⟨_, _, _, _, _, rfl, h, rfl⟩
theorem VR.slice_inv {σ : Sg} {a : Addr} {n c : Nat} {v' : Value} (h : VR σ (.slice (some a) n c) v') :
    ∃ b off r d s, a = ⟨b, off, none⟩ ∧ σ b = some (r, d, s) ∧ v' = .slice (some ⟨r, d + off, none⟩) n (c + s) := by
  cases h with
  | plain h => simp [Vm.plain] at h
  | slice h => exact ⟨_, _, _, _, _, rfl, h, rfl⟩
theorem VR.map_inv {σ : Sg} {b : Nat} {v' : Value} (h : VR σ (.map (some b)) v') : ∃ r s, σ b = some (r, 0, s) ∧ v' = .map (some r) := by
  cases h with
  | plain h => simp [Vm.plain] at h
  | map h => exact ⟨_, _, h, rfl⟩

/-! ### Blocks -/
def BlkOK (σ : Sg) (w : World) (x : Nat × Nat × Nat) : Blk → Prop
  | .cells cs lo ro => (lo = none → x.2.2 = 0) ∧ ∃ c t fr, w.heap[x.1]? = some (.cells c t fr) ∧ x.2.1 + cs.length ≤ c.size ∧
      (∀ (i : Nat) (v : Value), cs[i]? = some v → ∃ v', c[x.2.1 + i]? = some v' ∧ VR σ v v') ∧
      (ro = false → fr.1 = fr.2 ∨ c.size ≤ fr.1) ∧
      (∀ z, lo = some z → x.2.1 + cs.length + x.2.2 * z ≤ c.size)
  | .map es => x.2.1 = 0 ∧ ∃ es' clock, w.heap[x.1]? = some (.map es' clock) ∧ es.length = es'.size ∧
      ∀ (i : Nat) (e e' : MapEntry), es[i]? = some e → es'[i]? = some e' → (flat e.key = true → e'.key = e.key) ∧ VR σ e.val e'.val

theorem BlkOK.mono {σ σ' : Sg} {w w' : World} {x : Nat × Nat × Nat} {k : Blk} (h : BlkOK σ w x k) (hs : ∀ b x, σ b = some x → σ' b = some x)
    (hw : w'.heap[x.1]? = w.heap[x.1]?) : BlkOK σ' w' x k := by
  cases k with
  | cells cs lo ro =>
    obtain ⟨he, c, t, fr, h1, h2, h3, h4⟩ := h
    exact ⟨he, c, t, fr, by rw [hw, h1], h2, fun i v hi => let ⟨v', a, b⟩ := h3 i v hi; ⟨v', a, b.mono hs⟩, h4⟩
  | map es =>
    obtain ⟨h0, es', clock, h1, h2, h3⟩ := h
    exact ⟨h0, es', clock, by rw [hw, h1], h2, fun i e e' a b => ⟨(h3 i e e' a b).1, (h3 i e e' a b).2.mono hs⟩⟩

/-- A block that may be written. -/
def WR (H : Heap) (b : Nat) : Prop :=
  match H.get b with
  | some (.cells _ _ ro) => ro = false
  | some (.map _) => True
  | none => False

theorem WR.some {H : Heap} {b : Nat} (h : WR H b) : ∃ k, H.get b = some k := by
  unfold WR at h
  cases hb : H.get b with
  | none => rw [hb] at h; exact h.elim
  | some k => exact ⟨k, rfl⟩

structure St (σ : Sg) (H : Heap) (w : World) : Prop where
  ok : ∀ b x k, σ b = some x → H.get b = some k → BlkOK σ w x k
  lt : ∀ b x, σ b = some x → b < H.next ∧ x.1 < w.heap.size
  inj : ∀ b b' x x', b ≠ b' → σ b = some x → σ b' = some x' → x.1 = x'.1 → WR H b → H.get b' = none

def Own (σ : Sg) (H : Heap) (r : Nat) : Prop := ∃ b x, H.floor ≤ b ∧ WR H b ∧ σ b = some x ∧ x.1 = r

structure Stp (σ : Sg) (H : Heap) (w : World) (σ' : Sg) (H' : Heap) (w' : World) : Prop where
  next : H.next ≤ H'.next
  floor : H'.floor = H.floor
  sub : ∀ b, b < H.next → σ' b = σ b
  low : ∀ b, b < H.floor → b < H.next → H'.get b = H.get b
  alive : ∀ b, b < H.next → H.get b = none → H'.get b = none
  wr : ∀ b, b < H.next → WR H' b → WR H b
  os : w'.os = w.os
  tape : w'.tape = w.tape
  output : w'.output = w.output
  size : w.heap.size ≤ w'.heap.size
  frame : ∀ r, r < w.heap.size → ¬ Own σ H r → w'.heap[r]? = w.heap[r]?
  own : ∀ r, Own σ' H' r → Own σ H r ∨ w.heap.size ≤ r
  newr : ∀ b x, H.next ≤ b → σ' b = some x → Own σ H x.1 ∨ w.heap.size ≤ x.1

theorem Stp.refl {σ : Sg} {H : Heap} {w : World} (hl : ∀ b x, σ b = some x → b < H.next ∧ x.1 < w.heap.size) : Stp σ H w σ H w :=
  ⟨Nat.le_refl _, rfl, fun _ _ => rfl, fun _ _ _ => rfl, fun _ _ h => h, fun _ _ h => h, rfl, rfl, rfl, Nat.le_refl _, fun _ _ _ => rfl, fun _ h => .inl h, fun b x hb hx => by have := (hl b x hx).1; omega⟩

theorem Stp.mono {σ : Sg} {H : Heap} {w : World} {σ' : Sg} {H' : Heap} {w' : World} (h : Stp σ H w σ' H' w') (hl : ∀ b x, σ b = some x → b < H.next) :
    ∀ b x, σ b = some x → σ' b = some x := fun b x hb => (h.sub b (hl b x hb)).trans hb

theorem Stp.trans {σ σ1 σ2 : Sg} {H H1 H2 : Heap} {w w1 w2 : World} (h : Stp σ H w σ1 H1 w1) (k : Stp σ1 H1 w1 σ2 H2 w2) : Stp σ H w σ2 H2 w2 where
  next := Nat.le_trans h.next k.next
  floor := k.floor.trans h.floor
  sub b hb := (k.sub b (Nat.lt_of_lt_of_le hb h.next)).trans (h.sub b hb)
  low b hf hb := (k.low b (h.floor ▸ hf) (Nat.lt_of_lt_of_le hb h.next)).trans (h.low b hf hb)
  alive b hb hn := k.alive b (Nat.lt_of_lt_of_le hb h.next) (h.alive b hb hn)
  wr b hb hw := h.wr b hb (k.wr b (Nat.lt_of_lt_of_le hb h.next) hw)
  os := k.os.trans h.os
  tape := k.tape.trans h.tape
  output := k.output.trans h.output
  size := Nat.le_trans h.size k.size
  frame r hr ho := by
    rw [k.frame r (Nat.lt_of_lt_of_le hr h.size) (fun o => (h.own r o).elim ho (by omega)), h.frame r hr ho]
  own r hr := (k.own r hr).elim (fun o => h.own r o) (fun o => .inr (Nat.le_trans h.size o))
  newr b x hb hx := by
    by_cases hb1 : b < H1.next
    · exact h.newr b x hb (by rw [← k.sub b hb1]; exact hx)
    · exact (k.newr b x (by omega) hx).elim (fun o => h.own _ o) (fun o => .inr (Nat.le_trans h.size o))

/-! ### What one operation does -/
structure LRes (σ : Sg) (H : Heap) (w : World) (σ' : Sg) (H' : Heap) (w' : World) (Wr : Nat → Prop) : Prop where
  next : H.next ≤ H'.next
  next1 : H'.next ≤ H.next + 1
  floor : H'.floor = H.floor
  sub : ∀ b, b < H.next → σ' b = σ b
  lt : ∀ b x, σ' b = some x → b < H'.next ∧ x.1 < w'.heap.size
  same : ∀ b, b < H.next → ¬ Wr b → H'.get b = H.get b
  wr : ∀ b, b < H.next → Wr b → H'.get b = H.get b ∨ (H.floor ≤ b ∧ WR H b ∧ (H'.get b = none ∨ WR H' b))
  ok : ∀ b x k, (Wr b ∨ H.next ≤ b) → σ' b = some x → H'.get b = some k → BlkOK σ' w' x k
  newr : ∀ b x, H.next ≤ b → σ' b = some x → w.heap.size ≤ x.1 ∨ ∃ b0 x0, Wr b0 ∧ H.floor ≤ b0 ∧ WR H b0 ∧ σ b0 = some x0 ∧ x0.1 = x.1 ∧ H'.get b0 = none
  os : w'.os = w.os
  tape : w'.tape = w.tape
  output : w'.output = w.output
  size : w.heap.size ≤ w'.heap.size
  frame : ∀ r, r < w.heap.size → w'.heap[r]? = w.heap[r]? ∨ ∃ b0 x0, Wr b0 ∧ H.floor ≤ b0 ∧ WR H b0 ∧ σ b0 = some x0 ∧ x0.1 = r

theorem WR.congr {H H' : Heap} {b : Nat} (h : H'.get b = H.get b) : WR H' b ↔ WR H b := by unfold WR; rw [h]

theorem LRes.stp {σ σ' : Sg} {H H' : Heap} {w w' : World} {Wr : Nat → Prop} (h : LRes σ H w σ' H' w' Wr) (_ : St σ H w) : Stp σ H w σ' H' w' where
  next := h.next
  floor := h.floor
  sub := h.sub
  low b hf hb := by
    by_cases hw : Wr b
    · rcases h.wr b hb hw with e | ⟨hf', _⟩
      · exact e
      · omega
    · exact h.same b hb hw
  alive b hb hn := by
    by_cases hw : Wr b
    · rcases h.wr b hb hw with e | ⟨_, hw', _⟩
      · rw [e, hn]
      · obtain ⟨k, hk⟩ := hw'.some; rw [hn] at hk; cases hk
    · rw [h.same b hb hw, hn]
  wr b hb hw' := by
    by_cases hw : Wr b
    · rcases h.wr b hb hw with e | ⟨_, hw1, _⟩
      · exact (WR.congr e).1 hw'
      · exact hw1
    · exact (WR.congr (h.same b hb hw)).1 hw'
  os := h.os
  tape := h.tape
  output := h.output
  size := h.size
  frame r hr ho := (h.frame r hr).elim id fun ⟨b0, x0, _, hf, hw, hx, hr'⟩ => absurd ⟨b0, x0, hf, hw, hx, hr'⟩ ho
  own r hr := by
    obtain ⟨b, x, hf, hw', hx, hr'⟩ := hr
    by_cases hb : b < H.next
    · rw [h.sub b hb] at hx
      have hw : WR H b := by
        by_cases hw : Wr b
        · rcases h.wr b hb hw with e | ⟨_, hw1, _⟩
          · exact (WR.congr e).1 hw'
          · exact hw1
        · exact (WR.congr (h.same b hb hw)).1 hw'
      exact .inl ⟨b, x, h.floor ▸ hf, hw, hx, hr'⟩
    · rcases h.newr b x (by omega) hx with hge | ⟨b0, x0, _, hf0, hw0, hx0, he, _⟩
      · exact .inr (hr' ▸ hge)
      · exact .inl ⟨b0, x0, hf0, hw0, hx0, he.trans hr'⟩
  newr b x hb hx := by
    rcases h.newr b x hb hx with hge | ⟨b0, x0, _, hf0, hw0, hx0, he, _⟩
    · exact .inr hge
    · exact .inl ⟨b0, x0, hf0, hw0, hx0, he⟩

theorem LRes.mono {σ σ' : Sg} {H H' : Heap} {w w' : World} {Wr : Nat → Prop} (h : LRes σ H w σ' H' w' Wr) (hl : ∀ b x, σ b = some x → b < H.next ∧ x.1 < w.heap.size) :
    ∀ b x, σ b = some x → σ' b = some x := fun b x hb => (h.sub b (hl b x hb).1).trans hb

theorem LRes.st {σ σ' : Sg} {H H' : Heap} {w w' : World} {Wr : Nat → Prop} (h : LRes σ H w σ' H' w' Wr) (hs : St σ H w) : St σ' H' w' where
  ok b x k hx hk := by
    by_cases hb : b < H.next
    · by_cases hw : Wr b
      · exact h.ok b x k (.inl hw) hx hk
      · have hx' := hx; rw [h.sub b hb] at hx'
        have hk' := hk; rw [h.same b hb hw] at hk'
        refine (hs.ok b x k hx' hk').mono (h.mono hs.lt) ?_
        rcases h.frame x.1 (hs.lt b x hx').2 with e | ⟨b0, x0, hw0, _, hwr0, hx0, he⟩
        · exact e
        · have hne : b0 ≠ b := fun e => hw (e ▸ hw0)
          have := hs.inj b0 b x0 x hne hx0 hx' he hwr0
          rw [hk'] at this; cases this
    · exact h.ok b x k (.inr (by omega)) hx hk
  lt := h.lt
  inj b b' x x' hne hx hx' he hwr := by
    have old : ∀ c, c < H.next → WR H' c → WR H c := (h.stp hs).wr
    have dead : ∀ c, c < H.next → H.get c = none → H'.get c = none := (h.stp hs).alive
    by_cases hb : b < H.next
    · rw [h.sub b hb] at hx
      by_cases hb' : b' < H.next
      · rw [h.sub b' hb'] at hx'
        exact dead b' hb' (hs.inj b b' x x' hne hx hx' he (old b hb hwr))
      · rcases h.newr b' x' (by omega) hx' with hge | ⟨b0, x0, _, _, hw0, hx0, he0, hd⟩
        · have := (hs.lt b x hx).2; omega
        · by_cases e : b = b0
          · subst e
            obtain ⟨k, hk⟩ := hwr.some; rw [hd] at hk; cases hk
          · have := hs.inj b b0 x x0 e hx hx0 (by rw [he, he0]) (old b hb hwr)
            obtain ⟨k, hk⟩ := hw0.some; rw [this] at hk; cases hk
    · by_cases hb' : b' < H.next
      · rw [h.sub b' hb'] at hx'
        rcases h.newr b x (by omega) hx with hge | ⟨b0, x0, _, _, hw0, hx0, he0, hd⟩
        · have := (hs.lt b' x' hx').2; omega
        · by_cases e : b' = b0
          · exact e ▸ hd
          · exact dead b' hb' (hs.inj b0 b' x0 x' (fun h => e h.symm) hx0 hx' (by rw [he0, he]) hw0)
      · have := (h.lt b x hx).1
        have := (h.lt b' x' hx').1
        have := h.next1
        omega

end Go.Vm
