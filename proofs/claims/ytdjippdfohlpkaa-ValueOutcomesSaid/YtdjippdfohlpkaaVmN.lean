/- A verified interpreter: regions that draw their order (first part: the trace, the order, who wrote last). -/
import Derived.Test.YtdjippdfohlpkaaVmM
import Derived.Orders
namespace Go.Vm
variable {P : Program}

/-! ### The trace of a run in the order of the text -/
def SOK (P : Program) (call : CallFn) (ops : List Oper) (bs : List Nat) (i : Nat) (o : Oper) (T : Frm) (H : Heap) (v : Value) (f : Fp) (w : Bool) (T1 : Frm) (H1 : Heap) : Prop :=
  T.put o.dst v = some T1 ∧
  ((w = true ∧ wantedV ops T o = true ∧ f = fpOf T o ∧ ∃ H2, (opV P o).run call T (dropF (quietB bs ops.length i f) H) = some (v, H2) ∧ H1 = liftF (quietB bs ops.length i f) H.floor H2) ∨
   (w = false ∧ wantedV ops T o = false ∧ v = undef ∧ f = .mem [] [] ∧ H1 = H))

theorem opsD_trace {call : CallFn} {ops : List Oper} {bs : List Nat} : ∀ {l : List Oper} {i0 : Nat} {T T' : Frm} {H H' : Heap} {fs0 fs' : List Fp}, (opsD P ops bs l i0).run call T H fs0 = some (T', H', fs') →
    ∃ (Ts : Nat → Frm) (Hs : Nat → Heap) (vs : Nat → Value) (fs : Nat → Fp) (ws : Nat → Bool), Ts 0 = T ∧ Hs 0 = H ∧ Ts l.length = T' ∧ Hs l.length = H' ∧ fs' = fs0 ++ (List.range l.length).map fs ∧
      ∀ k o, l[k]? = some o → SOK P call ops bs (i0 + k) o (Ts k) (Hs k) (vs k) (fs k) (ws k) (Ts (k + 1)) (Hs (k + 1))
  | [], i0, T, T', H, H', fs0, fs', h => by
    simp only [opsD, Option.some.injEq, Prod.mk.injEq] at h
    obtain ⟨rfl, rfl, rfl⟩ := h
    exact ⟨fun _ => T, fun _ => H, fun _ => undef, fun _ => .call, fun _ => false, rfl, rfl, rfl, rfl, by simp, fun k o h => by simp at h⟩
  | o :: r, i0, T, T', H, H', fs0, fs', h => by
    simp only [opsD, stepD] at h
    have glue : ∀ {T1 : Frm} {H1 : Heap} {v : Value} {f : Fp} {w : Bool}, SOK P call ops bs i0 o T H v f w T1 H1 → (opsD P ops bs r (i0 + 1)).run call T1 H1 (fs0 ++ [f]) = some (T', H', fs') →
        ∃ (Ts : Nat → Frm) (Hs : Nat → Heap) (vs : Nat → Value) (fs : Nat → Fp) (ws : Nat → Bool), Ts 0 = T ∧ Hs 0 = H ∧ Ts (o :: r).length = T' ∧ Hs (o :: r).length = H' ∧ fs' = fs0 ++ (List.range (o :: r).length).map fs ∧
          ∀ k o', (o :: r)[k]? = some o' → SOK P call ops bs (i0 + k) o' (Ts k) (Hs k) (vs k) (fs k) (ws k) (Ts (k + 1)) (Hs (k + 1)) := by
      intro T1 H1 v f w hs hrun
      obtain ⟨Ts, Hs, vs, fs, ws, h1, h2, h3, h4, h5, h6⟩ := opsD_trace hrun
      refine ⟨fun k => match k with | 0 => T | k + 1 => Ts k, fun k => match k with | 0 => H | k + 1 => Hs k, fun k => match k with | 0 => v | k + 1 => vs k, fun k => match k with | 0 => f | k + 1 => fs k,
        fun k => match k with | 0 => w | k + 1 => ws k, rfl, rfl, h3, h4, ?_, fun k o' hk => ?_⟩
      · rw [h5, List.length_cons, List.range_succ_eq_map, List.map_cons, List.map_map, List.append_assoc]
        rfl
      · cases k with
        | zero =>
          simp only [List.getElem?_cons_zero, Option.some.injEq] at hk
          subst hk
          simp only [Nat.add_zero, h1, h2]
          exact hs
        | succ k =>
          simp only [List.getElem?_cons_succ] at hk
          have := h6 k o' hk
          rw [show i0 + (k + 1) = i0 + 1 + k by omega]
          exact this
    split at h
    · rename_i hw
      split at h
      · rename_i v H2 hop
        rw [forceV_eq] at h
        split at h
        · rename_i T1 hp
          exact glue ⟨hp, .inl ⟨rfl, hw, rfl, H2, hop, rfl⟩⟩ h
        · cases h
      · cases h
    · rename_i hw
      split at h
      · rename_i T1 hp
        exact glue (w := false) ⟨hp, .inr ⟨rfl, by simpa using hw, rfl, rfl, rfl⟩⟩ h
      · cases h

/-! ### The order -/
def bfOne (bs : List Nat) (o : Oper) : Nat := (o.after.toList.filter (Region.binds .any)).foldl (fun s e => s ||| 2 ^ e.on ||| bs.getD e.on 0) 0

theorem snocInd {α : Type} {C : List α → Prop} (h0 : C []) (h1 : ∀ l x, C l → C (l ++ [x])) (l : List α) : C l := by
  have : ∀ r : List α, C r.reverse := by
    intro r
    induction r with
    | nil => exact h0
    | cons x r ih => rw [List.reverse_cons]; exact h1 _ _ ih
  have := this l.reverse
  rwa [List.reverse_reverse] at this

theorem befores_snoc (l : List Oper) (o : Oper) : befores (l ++ [o]) = befores l ++ [bfOne (befores l) o] := by
  simp only [befores, List.foldl_append, List.foldl_cons, List.foldl_nil]
  rfl
theorem befores_length : ∀ l : List Oper, (befores l).length = l.length := by
  intro l
  refine snocInd (C := fun l => (befores l).length = l.length) rfl (fun l o ih => ?_) l
  rw [befores_snoc]; simp [ih]
theorem befores_stable (l r : List Oper) (j : Nat) (h : j < l.length) : (befores (l ++ r)).getD j 0 = (befores l).getD j 0 := by
  refine snocInd (C := fun r => (befores (l ++ r)).getD j 0 = (befores l).getD j 0) (by simp) (fun r o ih => ?_) r
  rw [← List.append_assoc, befores_snoc, ← ih]
  simp only [List.getD_eq_getElem?_getD]
  rw [List.getElem?_append_left (by rw [befores_length]; simp; omega)]

theorem fold_bits (bs : List Nat) : ∀ (es : List Edge) (s i : Nat), (es.foldl (fun s e => s ||| 2 ^ e.on ||| bs.getD e.on 0) s).testBit i = true ↔
    s.testBit i = true ∨ ∃ e ∈ es, e.on = i ∨ (bs.getD e.on 0).testBit i = true
  | [], s, i => by simp
  | e :: es, s, i => by
    rw [List.foldl_cons, fold_bits bs es]
    simp only [Nat.testBit_or, Nat.testBit_two_pow, Bool.or_eq_true, decide_eq_true_eq, List.mem_cons]
    constructor
    · rintro (((h | h) | h) | ⟨e', h1, h2⟩)
      · exact .inl h
      · exact .inr ⟨e, .inl rfl, .inl h⟩
      · exact .inr ⟨e, .inl rfl, .inr h⟩
      · exact .inr ⟨e', .inr h1, h2⟩
    · rintro (h | ⟨e', rfl | h1, h2⟩)
      · exact .inl (.inl (.inl h))
      · rcases h2 with h2 | h2
        · exact .inl (.inl (.inr h2))
        · exact .inl (.inr h2)
      · exact .inr ⟨e', h1, h2⟩

/-- 'i' must come before 'j'. -/
def Bf (ops : List Oper) (i j : Nat) : Prop := ((befores ops).getD j 0).testBit i = true

theorem Bf_iff {ops : List Oper} (hback : ∀ (j : Nat) o, ops[j]? = some o → ∀ e ∈ o.after.toList, Region.binds .any e = true → e.on < j) {i j : Nat} {o : Oper} (ho : ops[j]? = some o) :
    Bf ops i j ↔ ∃ e ∈ o.after.toList, Region.binds .any e = true ∧ (e.on = i ∨ Bf ops i e.on) := by
  have hj : j < ops.length := (List.getElem?_eq_some_iff.1 ho).1
  have hsplit : ops = ops.take j ++ o :: ops.drop (j + 1) := by
    have := List.take_append_drop j ops
    rw [List.drop_eq_getElem_cons hj] at this
    have e : ops[j] = o := (List.getElem?_eq_some_iff.1 ho).2
    rw [e] at this
    exact this.symm
  have hl : (ops.take j).length = j := by simp; omega
  have h1 : (befores ops).getD j 0 = bfOne (befores (ops.take j)) o := by
    have e1 : befores ops = befores ((ops.take j ++ [o]) ++ ops.drop (j + 1)) := by
      rw [List.append_assoc]
      exact congrArg befores hsplit
    rw [e1, befores_stable _ _ j (by simp; omega), befores_snoc]
    simp only [List.getD_eq_getElem?_getD]
    rw [List.getElem?_append_right (by rw [befores_length]; omega), befores_length, hl]
    simp
  have h2 : ∀ k, k < j → (befores (ops.take j)).getD k 0 = (befores ops).getD k 0 := by
    intro k hk
    have := befores_stable (ops.take j) (ops.drop j) k (by omega)
    rw [List.take_append_drop] at this
    exact this.symm
  unfold Bf
  rw [h1, bfOne, fold_bits]
  simp only [Nat.zero_testBit, Bool.false_eq_true, false_or, List.mem_filter]
  constructor
  · rintro ⟨e, ⟨he, hb⟩, h⟩
    exact ⟨e, he, hb, by rw [h2 _ (hback j o ho e he hb)] at h; exact h⟩
  · rintro ⟨e, he, hb, h⟩
    exact ⟨e, ⟨he, hb⟩, by rw [h2 _ (hback j o ho e he hb)]; exact h⟩

theorem Bf_lt {ops : List Oper} (hback : ∀ (j : Nat) o, ops[j]? = some o → ∀ e ∈ o.after.toList, Region.binds .any e = true → e.on < j) : ∀ {j i : Nat}, j < ops.length → Bf ops i j → i < j := by
  intro j
  induction j using Nat.strongRecOn with
  | _ j ih =>
    intro i hj h
    have ho : ops[j]? = some ops[j] := by simp [hj]
    obtain ⟨e, he, hb, h⟩ := (Bf_iff hback ho).1 h
    have hlt := hback j _ ho e he hb
    rcases h with h | h
    · omega
    · have := ih e.on hlt (by omega) h
      omega

/-- A set of operations that is closed under what must come before. -/
def Closed (ops : List Oper) (S : Nat → Bool) : Prop := ∀ (j : Nat) o, ops[j]? = some o → S j = true → ∀ e ∈ o.after.toList, Region.binds .any e = true → S e.on = true

theorem Closed.bf {ops : List Oper} (hback : ∀ (j : Nat) o, ops[j]? = some o → ∀ e ∈ o.after.toList, Region.binds .any e = true → e.on < j) {S : Nat → Bool} (hS : Closed ops S) :
    ∀ {j i : Nat}, j < ops.length → S j = true → Bf ops i j → S i = true := by
  intro j
  induction j using Nat.strongRecOn with
  | _ j ih =>
    intro i hj hs h
    have ho : ops[j]? = some ops[j] := by simp [hj]
    obtain ⟨e, he, hb, h⟩ := (Bf_iff hback ho).1 h
    have hlt := hback j _ ho e he hb
    have hse := hS j _ ho hs e he hb
    rcases h with h | h
    · exact h ▸ hse
    · exact ih e.on hlt (by omega) hse h

/-! ### Who wrote last -/
open Classical in
noncomputable def LW {α : Type} (init : α) (W : Nat → Prop) (val : Nat → α) (S : Nat → Bool) : Nat → α
  | 0 => init
  | n + 1 => if S n = true ∧ W n then val n else LW init W val S n

theorem LW_congr {α : Type} {init : α} {W : Nat → Prop} {val : Nat → α} {S S' : Nat → Bool} : ∀ {n : Nat}, (∀ i, i < n → W i → S i = S' i) → LW init W val S n = LW init W val S' n
  | 0, _ => rfl
  | n + 1, h => by
    simp only [LW]
    rw [LW_congr (n := n) fun i hi hw => h i (by omega) hw]
    by_cases hw : W n
    · rw [h n (by omega) hw]
    · simp [hw]
theorem LW_cut {α : Type} {init : α} {W : Nat → Prop} {val : Nat → α} {S : Nat → Bool} {j : Nat} : ∀ {n : Nat}, (∀ i, i < n → W i → (S i = true ↔ i < j)) → j ≤ n → LW init W val S n = LW init W val (fun _ => true) j
  | 0, _, hj => by have : j = 0 := by omega
                   subst this; rfl
  | n + 1, h, hj => by
    by_cases e : j = n + 1
    · subst e
      exact LW_congr fun i hi hw => by rw [(h i hi hw).2 hi]
    · simp only [LW]
      rw [← LW_cut (n := n) (fun i hi hw => h i (by omega) hw) (by omega)]
      rw [if_neg]
      rintro ⟨hs, hw⟩
      have := (h n (by omega) hw).1 hs
      omega
theorem LW_skip {α : Type} {init : α} {W : Nat → Prop} {val : Nat → α} {S : Nat → Bool} {j : Nat} (hw : ¬ W j) : ∀ {n : Nat}, LW init W val (fun i => S i || decide (i = j)) n = LW init W val S n := by
  intro n
  refine LW_congr fun i _ hi => ?_
  have : i ≠ j := fun e => hw (e ▸ hi)
  simp [this]
theorem LW_add {α : Type} {init : α} {W : Nat → Prop} {val : Nat → α} {S : Nat → Bool} {j n : Nat} (hj : j < n) (hw : W j) (h : ∀ i, i < n → i ≠ j → W i → (S i = true ↔ i < j)) :
    LW init W val (fun i => S i || decide (i = j)) n = val j := by
  rw [LW_cut (j := j + 1) (fun i hi hwi => ?_) (by omega)]
  · simp [LW, hw]
  · by_cases e : i = j
    · subst e; simp
    · have := h i hi e hwi
      simp only [Bool.or_eq_true, decide_eq_true_eq, e, or_false]
      rw [this]
      omega
end Go.Vm
