/- A verified interpreter: runs over symbols say what the interpreter does. -/
import Derived.Test.YtdjippdfohlpkaaVmS
namespace Go.Vm
variable {P : Program} {β : Type}

def toS (T : Frm) : Fr := ⟨T.get, T.n⟩

theorem evS_eq (T : Frm) (x : Operand) : evS T.get x = evO T x := by cases x <;> rfl
theorem evLS_eq (T : Frm) : ∀ l : List Operand, evLS T.get l = evL T l
  | [] => rfl
  | x :: r => by simp only [evLS, evL, evS_eq, evLS_eq T r] <;> rfl
theorem evPS_eq (T : Frm) : ∀ l : List (Nat × Operand), evPS T.get l = evParts T l
  | [] => rfl
  | (i, x) :: r => by simp only [evPS, evParts, evS_eq, evPS_eq T r] <;> rfl
theorem evMS_eq (T : Frm) (x : Option Operand) : evMS T.get x = evM T x := by cases x <;> simp only [evMS, evM, evS_eq] <;> rfl
theorem toS_f (T : Frm) : (toS T).f = T.get := rfl

theorem allocS_eq {γ : Type} (H : Heap) (cs : List Value) (lo : Option Nat) (k : Nat → Heap → γ) : allocS H cs lo k = allocK H cs lo k := (allocK_eq H cs lo k).symm
theorem putS_eq (H : Heap) (a : Addr) (vs : List Value) : putS H a vs = putCells H a vs := by unfold putS putCells; simp only [forceL_eq] <;> rfl
theorem storeS_eq (H : Heap) (t : TypeId) (a : Addr) (v : Value) : storeS P H t a v = storeV P H t a v := by unfold storeS storeV; simp only [putS_eq] <;> rfl
theorem convS_eq (H : Heap) (s d : TypeId) (x : Value) : convS P H s d x = convV P H s d x := by unfold convS convV; simp only [allocS_eq] <;> rfl
theorem makeSliceS_eq (H : Heap) (t : TypeId) (l c : Value) : makeSliceS P H t l c = makeSliceV P H t l c := by unfold makeSliceS makeSliceV; simp only [allocS_eq] <;> rfl
theorem buildSliceS_eq (H : Heap) (t : TypeId) (n : Nat) (ps : List (Nat × Value)) : buildSliceS P H t n ps = buildSliceV P H t n ps := by unfold buildSliceS buildSliceV; simp only [allocS_eq] <;> rfl
theorem appendS_eq (H : Heap) (ts : Array TypeId) (s x : Value) : appendS P H ts s x = appendV P H ts s x := by unfold appendS appendV; simp only [allocS_eq, putS_eq] <;> rfl
theorem copyS_eq (H : Heap) (ts : Array TypeId) (s x : Value) : copyS P H ts s x = copyV P H ts s x := by unfold copyS copyV; simp only [putS_eq] <;> rfl
theorem builtinS_eq (H : Heap) (b : Builtin) (ts : Array TypeId) (t : TypeId) (args : List Value) : builtinS P H b ts t args = builtinV P H b ts t args := by
  unfold builtinS builtinV; simp only [appendS_eq, copyS_eq] <;> rfl

theorem simpleS_eq (ty : TypeId) (op : Op) (T : Frm) (H : Heap) : (simpleS P ty op).run (toS T) H = (simpleV P ty op).run T H := by
  unfold simpleS simpleV
  split <;> simp only [sMove, oMove, sPick, oPick, sAlloc, oAlloc, sBox, oBox, sBuild, oBuild, sBuildSlice, oBuildSlice, sLoad, oLoad, sStore, oStore, sNil, oNil, sBin, oBin, sUn, oUn, sConv, oConv, sFunc, oFunc,
    sMakeSlice, oMakeSlice, sSlice, oSlice, sFieldAddr, oFieldAddr, sField, oField, sIndexAddr, oIndexAddr, sIndex, oIndex, sLookup, oLookup, sUpdate, oUpdate, sExtract, oExtract, sBuiltin, oBuiltin,
    toS_f, evS_eq, evLS_eq, evPS_eq, evMS_eq, allocS_eq, storeS_eq, convS_eq, makeSliceS_eq, buildSliceS_eq, builtinS_eq] <;> rfl

/-- What the table of equalities must say. -/
structure HkOK (P : Program) (hk : Hk) : Prop where
  eq : ∀ {t x y b}, hk.eq t x y = some b → ∀ xo yo, binV P .eql t xo yo (.agg x.toArray) (.agg y.toArray) = some (.bool b)
  ne : ∀ {t x y b}, hk.eq t x y = some b → ∀ xo yo, binV P .neq t xo yo (.agg x.toArray) (.agg y.toArray) = some (.bool (!b))

def hk0 : Hk := ⟨fun _ _ _ => none⟩
theorem hk0_ok : HkOK P hk0 := ⟨fun h => (by cases h), fun h => (by cases h)⟩

theorem nth_eq {α : Type} : ∀ (l : List α) (i : Nat), nth l i = l[i]?
  | [], i => by cases i <;> rfl
  | x :: r, 0 => rfl
  | x :: r, i + 1 => by simp [nth, nth_eq r i]

theorem allK_spec {k : IntKind} : ∀ {l : List Value}, allK k l = true → ∀ v, v ∈ l → ∃ n, v = .int k n
  | [], _, v, h => by cases h
  | x :: r, h, v, hv => by
    cases x with
    | int k' n =>
      simp only [allK] at h
      split at h
      · rename_i hk
        have hk := of_decide_eq_true hk
        subst hk
        cases hv with
        | head => exact ⟨n, rfl⟩
        | tail _ hv => exact allK_spec h v hv
      · cases h
    | _ => simp [allK] at h
theorem uni_spec {k : IntKind} {l : List Value} (h : uni l = some k) : ∀ v, v ∈ l → ∃ n, v = .int k n := by
  cases l with
  | nil => cases h
  | cons x r =>
    cases x with
    | int k' n =>
      simp only [uni] at h
      split at h
      · rename_i hk
        cases h
        intro v hv
        cases hv with
        | head => exact ⟨n, rfl⟩
        | tail _ hv => exact allK_spec hk v hv
      · cases h
    | _ => simp [uni] at h
theorem cntK_spec {k : IntKind} : ∀ (l : List Value) (i : Nat), i < cntK k l → ∃ n, l[i]? = some (.int k n)
  | [], i, h => by simp [cntK] at h
  | x :: r, i, h => by
    cases x with
    | int k' n =>
      simp only [cntK] at h
      split at h
      · rename_i hk
        have hk : k' = k := by simpa using hk
        subst hk
        cases i with
        | zero => exact ⟨n, rfl⟩
        | succ i =>
          obtain ⟨n', hn⟩ := cntK_spec (k := k') r i (by omega)
          exact ⟨n', by simpa using hn⟩
      · omega
    | _ => simp [cntK] at h
theorem winN_spec {k : IntKind} {lo m : Nat} : ∀ (l : List Value) (j : Nat), winN j l = some (k, lo, m) → j ≤ lo ∧ ∀ i, lo ≤ i → i < lo + m → ∃ n, l[i - j]? = some (.int k n)
  | [], j, h => by cases h
  | x :: r, j, h => by
    have old : winN (j + 1) r = some (k, lo, m) → j ≤ lo ∧ ∀ i, lo ≤ i → i < lo + m → ∃ n, (x :: r)[i - j]? = some (.int k n) := fun h => by
      obtain ⟨h1, h2⟩ := winN_spec r (j + 1) h
      refine ⟨by omega, fun i hi hj => ?_⟩
      obtain ⟨n, hn⟩ := h2 i hi hj
      exact ⟨n, by rw [show i - j = (i - (j + 1)) + 1 by omega]; simpa using hn⟩
    cases x with
    | int k' n0 =>
      have new : k' = k → j = lo → m = cntK k' r + 1 → j ≤ lo ∧ ∀ i, lo ≤ i → i < lo + m → ∃ n, (Value.int k' n0 :: r)[i - j]? = some (.int k n) := fun h1 h2 h3 => by
        subst h1; subst h2
        refine ⟨Nat.le_refl _, fun i hi hj => ?_⟩
        by_cases e : i = j
        · subst e; exact ⟨n0, by simp⟩
        · obtain ⟨n, hn⟩ := cntK_spec (k := k') r (i - j - 1) (by omega)
          exact ⟨n, by rw [show i - j = (i - j - 1) + 1 by omega]; simpa using hn⟩
      simp only [winN] at h
      split at h
      · rename_i hw
        split at h
        · cases h; exact new rfl rfl rfl
        · cases h; exact old hw
      · split at h
        · cases h
        · rename_i hc; cases h; exact new rfl rfl (by omega)
    | _ => exact old (by simpa [winN] using h)
theorem winP {k : IntKind} {lo m : Nat} : ∀ {l : List Value} {j : Nat}, winN j l = some (k, lo, m) → 0 < m
  | [], j, h => by cases h
  | x :: r, j, h => by
    have old : winN (j + 1) r = some (k, lo, m) → 0 < m := winP
    cases x with
    | int k' n0 =>
      simp only [winN] at h
      split at h
      · rename_i hw
        split at h
        · cases h; omega
        · cases h; exact old hw
      · split at h
        · cases h
        · cases h; omega
    | _ => exact old (by simpa [winN] using h)
theorem sel_at {k : IntKind} {l : List Value} (h : ∀ v, v ∈ l → ∃ n, v = .int k n) {i : Nat} (hi : i < l.length) : l[i]? = some (.int k (selInt l i)) := by
  unfold selInt
  rw [nth_eq]
  obtain ⟨n, hn⟩ := h l[i] (List.getElem_mem hi)
  rw [List.getElem?_eq_getElem hi, hn]
theorem ints_len {k : IntKind} {l : List Value} : ∀ (n off : Nat), (ints k l off n).length = n
  | 0, _ => rfl
  | n + 1, off => by simp [ints, ints_len n]
theorem ints_eq {k : IntKind} {l : List Value} (h : ∀ v, v ∈ l → ∃ n, v = .int k n) : ∀ (n off : Nat), off + n ≤ l.length → (l.drop off).take n = ints k l off n
  | 0, off, _ => by simp [ints]
  | n + 1, off, ho => by
    have hlt : off < l.length := by omega
    have hs := sel_at h hlt
    rw [List.getElem?_eq_getElem hlt] at hs
    simp only [Option.some.injEq] at hs
    rw [List.drop_eq_getElem_cons hlt, List.take_succ_cons, hs, ints, ints_eq h n (off + 1) (by omega)]

theorem ints_win {k : IntKind} {l : List Value} {lo m : Nat} (h : ∀ i, lo ≤ i → i < lo + m → ∃ n, l[i]? = some (.int k n)) : ∀ (n off : Nat), lo ≤ off → off + n ≤ lo + m → (l.drop off).take n = ints k l off n
  | 0, off, _, _ => by simp [ints]
  | n + 1, off, h1, ho => by
    obtain ⟨x, hx⟩ := h off h1 (by omega)
    have hlt : off < l.length := (List.getElem?_eq_some_iff.1 hx).1
    have hs : l[off] = .int k x := (List.getElem?_eq_some_iff.1 hx).2
    rw [List.drop_eq_getElem_cons hlt, List.take_succ_cons, hs, ints, ints_win h n (off + 1) (by omega) (by omega)]
    congr 1
    unfold selInt
    rw [nth_eq, hx]
theorem win_len {k : IntKind} {l : List Value} {lo m : Nat} (h : ∀ i, lo ≤ i → i < lo + m → ∃ n, l[i]? = some (.int k n)) (hm : 0 < m) : lo + m ≤ l.length := by
  obtain ⟨x, hx⟩ := h (lo + m - 1) (by omega) (by omega)
  have := (List.getElem?_eq_some_iff.1 hx).1
  omega
theorem updI_len {k : IntKind} {off : Nat} {vs : List Value} : ∀ (l : List Value) (j : Nat), (updI k off vs j l).length = l.length
  | [], _ => rfl
  | x :: r, j => by cases x <;> simp [updI, updI_len r (j + 1)]
theorem updI_at {k : IntKind} {off : Nat} {vs : List Value} : ∀ (l : List Value) (j i : Nat), (∀ v, v ∈ l → ∃ n, v = .int k n) → i < l.length →
    (updI k off vs j l)[i]? = some (.int k (updInt off vs (j + i) (selInt l i)))
  | [], _, i, _, h => by simp at h
  | x :: r, j, i, hk, h => by
    obtain ⟨n, rfl⟩ := hk x List.mem_cons_self
    cases i with
    | zero => simp [updI, selInt, nth]
    | succ i =>
      have := updI_at (off := off) (vs := vs) r (j + 1) i (fun v hv => hk v (List.mem_cons_of_mem _ hv)) (by simpa using h)
      simp only [updI, List.getElem?_cons_succ, this]
      congr 3
      omega
theorem splice_eq {k : IntKind} {off : Nat} {vs l : List Value} (hl : ∀ v, v ∈ l → ∃ n, v = .int k n) (hv : ∀ v, v ∈ vs → ∃ n, v = .int k n) (ho : off + vs.length ≤ l.length) :
    splice l off vs = updI k off vs 0 l := by
  apply List.ext_getElem?
  intro i
  by_cases hi : i < l.length
  · rw [updI_at l 0 i hl hi]
    unfold splice updInt
    rw [Nat.zero_add]
    by_cases h1 : i < off
    · have : Nat.ble off i = false := by
        cases hb : Nat.ble off i
        · rfl
        · exact absurd (Nat.le_of_ble_eq_true hb) (by omega)
      simp only [this]
      rw [List.append_assoc, List.getElem?_append_left (by simp; omega), List.getElem?_take_of_lt h1, sel_at hl hi]
    · simp only [Nat.ble_eq_true_of_le (show off ≤ i by omega), nth_eq]
      by_cases h2 : i < off + vs.length
      · rw [List.append_assoc, List.getElem?_append_right (by simp; omega), List.getElem?_append_left (by simp; omega)]
        have e : i - (l.take off).length = i - off := by simp; omega
        rw [e]
        obtain ⟨n, hn⟩ := hv vs[i - off] (List.getElem_mem (by omega))
        rw [List.getElem?_eq_getElem (by omega), hn]
      · rw [List.getElem?_append_right (by simp; omega), List.getElem?_drop]
        have e : off + vs.length + (i - (l.take off ++ vs).length) = i := by simp; omega
        rw [e, List.getElem?_eq_none (l := vs) (by omega), sel_at hl hi]
  · rw [List.getElem?_eq_none (by unfold splice; simp; omega), List.getElem?_eq_none (by rw [updI_len]; omega)]

theorem eval_node (b : Bool) (x y : Tr β) : (Tr.node b x y).eval = if b then x.eval else y.eval := by cases b <;> rfl
theorem onB_eq {γ : Type} (b : Bool) (x y : γ) : onB b x y = if b then x else y := by cases b <;> rfl

theorem kBin_eq {hk : Hk} (hh : HkOK P hk) (op : BinOp) (t : TypeId) (x y : Operand) (T : Frm) (H : Heap) (κ : Value → Heap → Tr β) :
    (kBin P hk op t x y (toS T) H κ).eval = (onR (oBin P op t x y T H) κ).eval := by
  unfold kBin oBin
  simp only [toS_f, evS_eq]
  cases evO T x with
  | none => rfl
  | some a =>
    cases evO T y with
    | none => rfl
    | some b =>
      simp only
      split
      · rename_i k a k' b
        by_cases hkk : k = k'
        · subst hkk
          by_cases hb : b = 0
          · subst hb; simp [eval_node, binV, flat, plain, eqGuard, binOp, Op.intDiv, keep, flatOnly, onR, runtimePanic]; rfl
          · simp [eval_node, hb, binV, flat, plain, eqGuard, binOp, Op.intDiv, keep, flatOnly, onR]; rfl
        · simp [hkk, binV, flat, plain, eqGuard, binOp, keep, flatOnly, onR]; rfl
      · rename_i k a k' b
        by_cases hkk : k = k'
        · subst hkk
          by_cases hb : b = 0
          · subst hb; simp [eval_node, binV, flat, plain, eqGuard, binOp, Op.intDiv, keep, flatOnly, onR, runtimePanic]; rfl
          · simp [eval_node, hb, binV, flat, plain, eqGuard, binOp, Op.intDiv, keep, flatOnly, onR]; rfl
        · simp [hkk, binV, flat, plain, eqGuard, binOp, keep, flatOnly, onR]; rfl
      · rename_i k a k' b
        by_cases hb : b < 0
        · simp [eval_node, hb, binV, flat, plain, eqGuard, binOp, Op.shift, keep, flatOnly, onR, runtimePanic]; rfl
        · simp [eval_node, hb, binV, flat, plain, eqGuard, binOp, Op.shift, keep, flatOnly, onR]; rfl
      · rename_i k a k' b
        by_cases hb : b < 0
        · simp [eval_node, hb, binV, flat, plain, eqGuard, binOp, Op.shift, keep, flatOnly, onR, runtimePanic]; rfl
        · simp [eval_node, hb, binV, flat, plain, eqGuard, binOp, Op.shift, keep, flatOnly, onR]; rfl
      · rename_i u v
        cases he : hk.eq t u.toList v.toList with
        | none => rfl
        | some b =>
          have := hh.eq he x y
          simp only [Array.toArray_toList] at this
          simp only [this, keep, onR]
      · rename_i u v
        cases he : hk.eq t u.toList v.toList with
        | none => rfl
        | some b =>
          have := hh.ne he x y
          simp only [Array.toArray_toList] at this
          simp only [this, keep, onR]
      · rfl

theorem kIndexAddr_eq (t : TypeId) (x i : Operand) (T : Frm) (H : Heap) (κ : Value → Heap → Tr β) :
    (kIndexAddr P t x i (toS T) H κ).eval = (onR (oIndexAddr P t x i T H) κ).eval := by
  unfold kIndexAddr oIndexAddr
  simp only [toS_f, evS_eq]
  cases evO T x with
  | none => rfl
  | some a =>
    cases evO T i with
    | none => rfl
    | some b =>
      simp only
      unfold indexAddrV
      split
      · rename_i len e b off ki i hu
        simp only [hu]
        cases sizeT P e with
        | none => rfl
        | some s =>
          by_cases h1 : 0 ≤ i
          · by_cases h2 : i < len
            · simp [eval_node, h1, h2, keep, onR] <;> rfl
            · simp [eval_node, h1, h2, keep, onR] <;> rfl
          · simp [eval_node, h1, keep, onR] <;> rfl
      · rename_i e b off len c ki i hu
        simp only [hu]
        cases sizeT P e with
        | none => rfl
        | some s =>
          by_cases h1 : 0 ≤ i
          · by_cases h2 : i < len
            · simp [eval_node, h1, h2, keep, onR] <;> rfl
            · simp [eval_node, h1, h2, keep, onR] <;> rfl
          · simp [eval_node, h1, keep, onR] <;> rfl
      · rename_i h1 h2
        split
        · rename_i hu; exact (h1 _ _ _ _ _ _ hu rfl rfl).elim
        · rename_i hu; exact (h2 _ _ _ _ _ _ _ hu rfl rfl).elim
        · rfl

theorem shapeI_part {k : IntKind} {e : TypeId} {cs : Array Value} {ag : Bool} {s off : Nat} (hu : uni cs.toList = some k) (hag : isAggT P e = some ag) (hs : sizeT P e = some s) (h1 : 1 ≤ s)
    (ho : off + s ≤ cs.toList.length) : partV P e cs off = some (shapeI ag k cs.toList off s) := by
  have hk := uni_spec hu
  unfold partV shapeI
  cases ag with
  | true =>
    simp only [hag, hs]
    congr 2
    apply Array.toList_inj.1
    rw [← ints_eq hk s off ho]
    simp [List.take_drop]
  | false =>
    simp only [hag]
    have := sel_at hk (show off < cs.toList.length by omega)
    simpa using this

theorem splice_win {k : IntKind} {off lo m : Nat} {vs l : List Value} (h : ∀ i, lo ≤ i → i < lo + m → ∃ n, l[i]? = some (.int k n)) (hv : ∀ v, v ∈ vs → ∃ n, v = .int k n) (h0 : lo ≤ off) (ho : off + vs.length ≤ lo + m) (hl : lo + m ≤ l.length) :
    splice l off vs = l.take lo ++ updI k off vs lo ((l.drop lo).take m) ++ l.drop (lo + m) := by
  have hlen : (l.take lo).length = lo := by simp; omega
  have hmid : ((l.drop lo).take m).length = m := by simp; omega
  have hall : ∀ v, v ∈ (l.drop lo).take m → ∃ n, v = .int k n := fun v hv => by
    obtain ⟨i, hi, rfl⟩ := List.getElem_of_mem hv
    obtain ⟨n, hn⟩ := h (lo + i) (by omega) (by omega)
    refine ⟨n, ?_⟩
    simp only [List.getElem_take, List.getElem_drop]
    exact (List.getElem?_eq_some_iff.1 hn).2
  apply List.ext_getElem?
  intro i
  rw [List.append_assoc]
  by_cases h1 : i < lo
  · rw [List.getElem?_append_left (l₁ := l.take lo) (by omega), List.getElem?_take_of_lt h1]
    unfold splice
    rw [List.append_assoc, List.getElem?_append_left (by simp; omega), List.getElem?_take_of_lt (by omega)]
  · rw [List.getElem?_append_right (l₁ := l.take lo) (by omega), hlen]
    by_cases h2 : i < lo + m
    · rw [List.getElem?_append_left (by rw [updI_len]; omega), updI_at _ lo (i - lo) hall (by omega)]
      obtain ⟨x, hx⟩ := h i (by omega) h2
      have hsel : selInt ((l.drop lo).take m) (i - lo) = x := by
        unfold selInt
        rw [nth_eq, List.getElem?_take_of_lt (by omega), List.getElem?_drop, show lo + (i - lo) = i by omega, hx]
      rw [hsel, show lo + (i - lo) = i by omega]
      unfold splice updInt
      by_cases h3 : i < off
      · have : Nat.ble off i = false := by
          cases hb : Nat.ble off i
          · rfl
          · exact absurd (Nat.le_of_ble_eq_true hb) (by omega)
        simp only [this]
        rw [List.append_assoc, List.getElem?_append_left (by simp; omega), List.getElem?_take_of_lt h3, hx]
      · simp only [Nat.ble_eq_true_of_le (show off ≤ i by omega), nth_eq]
        by_cases h4 : i < off + vs.length
        · rw [List.append_assoc, List.getElem?_append_right (by simp; omega), List.getElem?_append_left (by simp; omega)]
          have e : i - (l.take off).length = i - off := by simp; omega
          rw [e]
          obtain ⟨n, hn⟩ := hv vs[i - off] (List.getElem_mem (by omega))
          rw [List.getElem?_eq_getElem (by omega), hn]
        · rw [List.getElem?_append_right (by simp; omega), List.getElem?_drop]
          have e : off + vs.length + (i - (l.take off ++ vs).length) = i := by simp; omega
          rw [e, List.getElem?_eq_none (l := vs) (by omega), hx]
    · rw [List.getElem?_append_right (by rw [updI_len]; omega), updI_len, hmid, List.getElem?_drop]
      unfold splice
      rw [List.getElem?_append_right (by simp; omega), List.getElem?_drop]
      congr 1
      simp; omega

theorem kIndex_eq (t : TypeId) (x i : Operand) (T : Frm) (H : Heap) (κ : Value → Heap → Tr β) :
    (kIndex P t x i (toS T) H κ).eval = (onR (oIndex P t x i T H) κ).eval := by
  unfold kIndex oIndex
  simp only [toS_f, evS_eq]
  cases evO T x with
  | none => rfl
  | some a =>
    cases evO T i with
    | none => rfl
    | some b =>
      simp only
      split
      · rename_i len e cs ki i hu
        split
        · rename_i k ag s huni hag hs
          split
          · rename_i hb
            simp only [Bool.and_eq_true] at hb
            have h1 := Nat.eq_of_beq_eq_true hb.1
            have h2 := Nat.le_of_ble_eq_true hb.2
            simp only [indexV, hu, hs]
            by_cases hi : 0 ≤ i
            · by_cases hj : i < len
              · have hle : i.toNat * s + s ≤ cs.toList.length := by
                  rw [h1, ← Nat.succ_mul]
                  exact Nat.mul_le_mul_right s (by omega)
                simp only [eval_node, hi, hj, decide_true, if_true, and_self]
                rw [shapeI_part huni hag hs h2 hle] <;> rfl
              · simp [eval_node, hi, hj, keep, onR] <;> rfl
            · simp [eval_node, hi, keep, onR] <;> rfl
          · rfl
        · rfl
      · rfl

theorem kLoad_eq (t : TypeId) (a : Operand) (T : Frm) (H : Heap) (κ : Value → Heap → Tr β) :
    (kLoad P t a (toS T) H κ).eval = (onR (oLoad P t a T H) κ).eval := by
  unfold kLoad oLoad
  simp only [toS_f, evS_eq]
  cases ha : (evO T a).bind addrOf with
  | none => rfl
  | some ad =>
    have hsp : ad.spot = none := by
      cases he : evO T a with
      | none => simp [he] at ha
      | some v =>
        simp only [he, Option.bind_some] at ha
        unfold addrOf at ha
        split at ha
        · split at ha
          · rename_i hs; cases ha; exact hs
          · cases ha
        · cases ha
    simp only
    split
    · rename_i cs lo ro ag n hg hag hs
      split
      · rename_i k hu
        have hk := uni_spec hu
        unfold loadV cellsAt
        cases ag with
        | true =>
          simp only [hag, hs, hsp, hg]
          by_cases hle : ad.off + n ≤ cs.length
          · simp only [Nat.ble_eq_true_of_le hle, hle, if_true, eval_node, shapeI, ints_eq hk n ad.off hle, keep, onR] <;> rfl
          · have : Nat.ble (ad.off + n) cs.length = false := by
              cases hb : Nat.ble (ad.off + n) cs.length
              · rfl
              · exact absurd (Nat.le_of_ble_eq_true hb) hle
            simp only [this, hle, if_false, eval_node, keep, onR] <;> rfl
        | false =>
          simp only [hag, hs, hsp, hg]
          by_cases hle : ad.off + 1 ≤ cs.length
          · simp only [Nat.ble_eq_true_of_le hle, hle, if_true, eval_node, shapeI, ints_eq hk 1 ad.off hle, ints, keep, onR] <;> rfl
          · have : Nat.ble (ad.off + 1) cs.length = false := by
              cases hb : Nat.ble (ad.off + 1) cs.length
              · rfl
              · exact absurd (Nat.le_of_ble_eq_true hb) hle
            simp only [this, hle, if_false, eval_node, keep, onR] <;> rfl
      · split
        · rename_i k w m hu
          obtain ⟨_, hk⟩ := winN_spec _ _ hu
          simp only [Nat.sub_zero] at hk
          rw [eval_node]
          cases ag with
          | true =>
            by_cases hb : (Nat.ble w ad.off && Nat.ble (ad.off + n) (w + m)) = true
            · rw [if_pos hb]
              rw [Bool.and_eq_true] at hb
              have hb1 := Nat.le_of_ble_eq_true hb.1
              have hb2 := Nat.le_of_ble_eq_true hb.2
              have hl : ad.off + n ≤ cs.length := by have := win_len hk (winP hu); omega
              unfold loadV cellsAt
              simp only [hag, hs, hsp, hg, hl, if_true, shapeI, ints_win hk n ad.off hb1 hb2, keep, onR] <;> rfl
            · rw [if_neg hb]
          | false =>
            by_cases hb : (Nat.ble w ad.off && Nat.ble (ad.off + 1) (w + m)) = true
            · rw [if_pos hb]
              rw [Bool.and_eq_true] at hb
              have hb1 := Nat.le_of_ble_eq_true hb.1
              have hb2 := Nat.le_of_ble_eq_true hb.2
              have hl : ad.off + 1 ≤ cs.length := by have := win_len hk (winP hu); omega
              unfold loadV cellsAt
              simp only [hag, hs, hsp, hg, hl, if_true, shapeI, ints_win hk 1 ad.off hb1 hb2, ints, keep, onR] <;> rfl
            · rw [if_neg hb]
        · rfl
    · rename_i h1
      unfold loadV cellsAt
      split
      · rename_i n hag hs
        cases hg : H.get ad.block with
        | none => simp [hsp, keep, onR] <;> rfl
        | some k => cases k with
          | cells cs lo ro => exact (h1 _ _ _ _ _ hg hag hs).elim
          | map es => simp [hsp, keep, onR] <;> rfl
      · rename_i n hag hs
        cases hg : H.get ad.block with
        | none => simp [hsp, keep, onR] <;> rfl
        | some k => cases k with
          | cells cs lo ro => exact (h1 _ _ _ _ _ hg hag hs).elim
          | map es => simp [hsp, keep, onR] <;> rfl
      · rfl

theorem kPick_eq (c a b : Operand) (T : Frm) (H : Heap) (κ : Value → Heap → Tr β) : (kPick c a b (toS T) H κ).eval = (onR (oPick c a b T H) κ).eval := by
  unfold kPick oPick
  simp only [toS_f, evS_eq]
  split
  · rename_i c a b h1 h2 h3
    simp only [h1, h2, h3]
    cases c <;> rfl
  · rename_i hne
    split
    · rename_i h1 h2 h3; exact (hne _ _ _ h1 h2 h3).elim
    · rfl

theorem kStore_eq (t : TypeId) (a x : Operand) (T : Frm) (H : Heap) (κ : Value → Heap → Tr β) :
    (kStore P t a x (toS T) H κ).eval = (onR (oStore P t a x T H) κ).eval := by
  unfold kStore oStore
  simp only [toS_f, evS_eq]
  cases ha : (evO T a).bind addrOf with
  | none => rfl
  | some ad =>
    have hsp : ad.spot = none := by
      cases he : evO T a with
      | none => simp [he] at ha
      | some v =>
        simp only [he, Option.bind_some] at ha
        unfold addrOf at ha
        split at ha
        · split at ha
          · rename_i hs; cases ha; exact hs
          · cases ha
        · cases ha
    cases hx : evO T x with
    | none => rfl
    | some v =>
      simp only
      split
      · rename_i cs lo n hg hs
        split
        · rename_i k hu
          split
          · rename_i hb
            simp only [Bool.and_eq_true] at hb
            obtain ⟨hv, hn, hf⟩ := hb
            have hn := Nat.eq_of_beq_eq_true hn
            have hf := Nat.le_of_ble_eq_true hf
            have hone : v.cells.toList.all oneCell = true := by
              rw [List.all_eq_true]
              intro u hu
              obtain ⟨m, rfl⟩ := allK_spec hv u hu
              rfl
            have hsz : v.cells.size = n := by simpa using hn
            unfold storeV putCells
            simp only [hs, hsz, hsp, hg, if_true, hn]
            by_cases hle : ad.off + n ≤ cs.length
            · simp only [Nat.ble_eq_true_of_le hle, hle, if_true, eval_node, hf, hone, forceL_eq, splice_eq (uni_spec hu) (allK_spec hv) (by rw [hn]; exact hle), Option.map_some, onR] <;> rfl
            · have : Nat.ble (ad.off + n) cs.length = false := by
                cases hb : Nat.ble (ad.off + n) cs.length
                · rfl
                · exact absurd (Nat.le_of_ble_eq_true hb) hle
              simp only [this, hle, if_false, eval_node, Option.map_none, onR] <;> rfl
          · simp only [storeS_eq]
        · split
          · rename_i k w m hu
            obtain ⟨_, hk⟩ := winN_spec _ _ hu
            simp only [Nat.sub_zero] at hk
            split
            · rename_i hb
              simp only [Bool.and_eq_true] at hb
              obtain ⟨hv, hn, hf⟩ := hb
              have hn := Nat.eq_of_beq_eq_true hn
              have hf := Nat.le_of_ble_eq_true hf
              have hone : v.cells.toList.all oneCell = true := by
                rw [List.all_eq_true]
                intro u hu
                obtain ⟨m, rfl⟩ := allK_spec hv u hu
                rfl
              have hsz : v.cells.size = n := by simpa using hn
              rw [eval_node]
              split
              · rename_i hb
                rw [Bool.and_eq_true] at hb
                have hb1 := Nat.le_of_ble_eq_true hb.1
                have hb2 := Nat.le_of_ble_eq_true hb.2
                have hm := win_len hk (winP hu)
                unfold storeV putCells
                simp only [hs, hsz, hsp, hg, if_true, hn, show ad.off + n ≤ cs.length by omega, hf, hone, forceL_eq, splice_win hk (allK_spec hv) hb1 (by rw [hn]; exact hb2) hm, Option.map_some, onR] <;> rfl
              · simp only [storeS_eq]
            · simp only [storeS_eq]
          · simp only [storeS_eq]
      · rename_i h1
        unfold storeV putCells
        cases hs : sizeT P t with
        | none => rfl
        | some n =>
          simp only
          split
          · cases hg : H.get ad.block with
            | none => simp [hsp, onR] <;> rfl
            | some k => cases k with
              | cells cs lo ro => cases ro with
                | false => exact (h1 _ _ _ hg hs).elim
                | true => simp [hsp, onR] <;> rfl
              | map es => simp [hsp, onR] <;> rfl
          · rfl

/-- Calls in both manners. -/
def KOK (kc : KCall β) (call : CallFn) : Prop := ∀ g as H κ, (kc g as H κ).eval = (onR (call g as H) κ).eval

theorem opS_eq {hk : Hk} (hh : HkOK P hk) {kc : KCall β} {call : CallFn} (hc : KOK kc call) (o : Oper) (T : Frm) (H : Heap) (κ : Value → Heap → Tr β) :
    ((opS P hk o).run kc (toS T) H κ).eval = (onR ((opV P o).run call T H) κ).eval := by
  unfold opS opV
  split
  · rename_i f args ats h
    simp only [h, kCall, oCall, toS_f, evS_eq, evLS_eq]
    cases evO T f with
    | none => rfl
    | some v =>
      cases evL T args.toList with
      | none => rfl
      | some vs =>
        simp only
        cases calleeOf v vs with
        | none => rfl
        | some x => obtain ⟨g, as⟩ := x; exact hc g as H κ
  · rename_i h; simp only [h, simpleV]; exact kBin_eq hh _ _ _ _ T H κ
  · rename_i h; simp only [h, simpleV]; exact kIndexAddr_eq _ _ _ T H κ
  · rename_i h; simp only [h, simpleV]; exact kIndex_eq _ _ _ T H κ
  · rename_i h; simp only [h, simpleV]; exact kLoad_eq _ _ T H κ
  · rename_i h; simp only [h, simpleV]; exact kStore_eq _ _ _ T H κ
  · rename_i h; simp only [h, simpleV]; exact kPick_eq _ _ _ T H κ
  · rename_i h1 _ _ _ _ _ _
    split
    · rename_i h; exact (h1 _ _ _ h).elim
    · simp only [simpleS_eq]
theorem upd_self {f : Fn} {t : Nat} {v : Value} (h : f t = v) : upd f t v = f := by
  funext i
  unfold upd
  split
  · rename_i hb; rw [Nat.eq_of_beq_eq_true hb, h]
  · rfl

theorem upd_eq (f : Fn) (t : Nat) (v : Value) (i : Nat) : upd f t v i = if i = t then v else f i := by
  unfold upd
  rw [beq_dec]
  by_cases h : i = t <;> simp [h]

theorem putF_eq (T : Frm) (dst : Option Tmp) (v : Value) (κ : Fr → Tr β) : putF (toS T) dst v κ = match T.put dst v with
    | some T' => κ (toS T')
    | none => .fail := by
  cases dst with
  | none => rfl
  | some d =>
    by_cases h : d < T.n
    · have : Nat.ble (d + 1) T.n = true := Nat.ble_eq_true_of_le h
      simp only [putF, Frm.put, toS, this, h, if_true]
      have he : upd T.get d v = Frm.get { T with t := T.t.set d (some v) } := by
        funext i
        rw [upd_eq]
        unfold Frm.get
        simp only [PT.get_set]
        by_cases hi : i = d <;> simp [hi]
      rw [he]
    · have : Nat.ble (d + 1) T.n = false := by
        cases hb : Nat.ble (d + 1) T.n
        · rfl
        · exact absurd (Nat.le_of_ble_eq_true hb) h
      simp only [putF, Frm.put, toS, this, h, if_false]

theorem onT_eq {T : Frm} {t : Tmp} {b : Bool} (h : T.get t = .bool b) (x y : Fr → Tr β) : (onT (toS T) t b x y).eval = if b then (x (toS T)).eval else (y (toS T)).eval := by
  cases b
  · simp only [onT, eval_node, toS, upd_self h]; rfl
  · simp only [onT, eval_node, toS, upd_self h]; rfl

theorem wantedS_eq (ops : List Oper) (T : Frm) (o : Oper) (x y : Fr → Tr β) : (wantedS ops (toS T) o x y).eval = if wantedV ops T o then (x (toS T)).eval else (y (toS T)).eval := by
  unfold wantedS wantedV yieldedV
  cases o.guard with
  | none => rfl
  | some g =>
    obtain ⟨j, want⟩ := g
    obtain ⟨d, hd⟩ : ∃ d, (ops[j]?).bind (·.dst) = d := ⟨_, rfl⟩
    simp only [hd]
    cases d with
    | none => simp
    | some t =>
      simp only [toS_f]
      obtain ⟨v, hv⟩ : ∃ v, T.get t = v := ⟨_, rfl⟩
      simp only [hv]
      cases v with
      | bool b =>
        simp only
        cases want
        · simp only [onT_eq hv]; cases b <;> rfl
        · simp only [onT_eq hv]; cases b <;> rfl
      | _ => rfl

def onP (r : Option (Frm × Heap)) (κ : Fr → Heap → Tr β) : Tr β := match r with
  | some (T, H) => κ (toS T) H
  | none => .fail
def onQ (r : Option (Frm × Heap × List Fp)) (κ : Fr → Heap → List Fp → Tr β) : Tr β := match r with
  | some (T, H, fs) => κ (toS T) H fs
  | none => .fail
def onC (r : CodeR) (κ : Kt β) : Tr β := match r with
  | some (ex, T, H) => κ ex (toS T) H
  | none => .fail

theorem opsS_eq {hk : Hk} (hh : HkOK P hk) {kc : KCall β} {call : CallFn} (hc : KOK kc call) (ops : List Oper) : ∀ (l : List Oper) (T : Frm) (H : Heap) (κ : Fr → Heap → Tr β), ((opsS P hk ops l).run kc (toS T) H κ).eval = (onP ((opsV P ops l).run call T H) κ).eval
  | [], _, _, _ => rfl
  | o :: r, T, H, κ => by
    simp only [opsS, opsV, stepS, stepV, wantedS_eq, opS_eq hh hc]
    split
    · cases hr : (opV P o).run call T H with
      | none => simp only [onR, onP]
      | some x =>
        obtain ⟨v, H'⟩ := x
        simp only [onR, forceV_eq, putF_eq]
        cases hp : T.put o.dst v with
        | none => simp only [onP]
        | some T' => simp only; exact opsS_eq hh hc ops r T' H' κ
    · simp only [putF_eq]
      cases hp : T.put o.dst undef with
      | none => simp only [onP]
      | some T' => simp only; exact opsS_eq hh hc ops r T' H κ

theorem blkS_eq (T : Frm) (x : Operand) : blkS T.get x = blkO T x := by unfold blkS blkO; rw [evS_eq]; rfl
theorem fpS_eq (T : Frm) (o : Oper) : fpS T.get o = fpOf T o := by
  unfold fpS fpOf
  have : blkS T.get = blkO T := funext (blkS_eq T)
  simp only [blkS_eq, this]
  rfl

theorem opsDS_eq {hk : Hk} (hh : HkOK P hk) {kc : KCall β} {call : CallFn} (hc : KOK kc call) (ops : List Oper) (bs : List Nat) : ∀ (l : List Oper) (i : Nat) (T : Frm) (H : Heap) (fs : List Fp) (κ : Fr → Heap → List Fp → Tr β),
    ((opsDS P hk ops bs l i).run kc (toS T) H fs κ).eval = (onQ ((opsD P ops bs l i).run call T H fs) κ).eval
  | [], _, _, _, _, _ => rfl
  | o :: r, i, T, H, fs, κ => by
    simp only [opsDS, opsD, stepDS, stepD, wantedS_eq, opS_eq hh hc, toS_f, fpS_eq]
    split
    · cases hr : (opV P o).run call T (dropF (quietB bs ops.length i (fpOf T o)) H) with
      | none => simp only [onR, onQ]
      | some x =>
        obtain ⟨v, H'⟩ := x
        simp only [onR, forceV_eq, putF_eq]
        cases hp : T.put o.dst v with
        | none => simp only [onQ]
        | some T' => simp only; exact opsDS_eq hh hc ops bs r (i + 1) T' _ _ κ
    · simp only [putF_eq]
      cases hp : T.put o.dst undef with
      | none => simp only [onQ]
      | some T' => simp only; exact opsDS_eq hh hc ops bs r (i + 1) T' H _ κ

theorem regionDS_eq {hk : Hk} (hh : HkOK P hk) {kc : KCall β} {call : CallFn} (hc : KOK kc call) (ops : List Oper) (T : Frm) (H : Heap) (κ : Fr → Heap → Tr β) : (regionDS P hk ops kc (toS T) H κ).eval = (onP (regionD P ops call T H) κ).eval := by
  unfold regionDS regionD
  cases regionOk ops with
  | false => rfl
  | true =>
    simp only [opsDS_eq hh hc, if_true]
    cases (opsD P ops (befores ops) ops 0).run call T H [] with
    | none => rfl
    | some x =>
      obtain ⟨T', H', fs⟩ := x
      simp only [onQ]
      cases clashFree (befores ops) fs <;> rfl

theorem loopS_eq {b : Frm → Heap → CodeR} {bS : Fr → Heap → Kt β → Tr β} (hb : ∀ T H κ, (bS (toS T) H κ).eval = (onC (b T H) κ).eval) : ∀ (k : Nat) (T : Frm) (H : Heap) (κ : Kt β), (loopS bS k (toS T) H κ).eval = (onC (loopV b k T H) κ).eval
  | 0, _, _, _ => rfl
  | k + 1, T, H, κ => by
    simp only [loopS, loopV, hb]
    cases b T H with
    | none => rfl
    | some x =>
      obtain ⟨ex, T', H'⟩ := x
      cases ex with
      | normal => simp only [onC]; exact loopS_eq hb k T' H' κ
      | _ => rfl

theorem denS_eq {hk : Hk} (hh : HkOK P hk) {kc : KCall β} {call : CallFn} (hc : KOK kc call) (k : Nat) : ∀ (c : Code) (T : Frm) (H : Heap) (κ : Kt β), ((denS P hk c).run kc k (toS T) H κ).eval = (onC ((denC P c).run call k T H) κ).eval := by
  intro c
  induction c with
  | skip => intro T H κ; rfl
  | label _ => intro T H κ; rfl
  | exit _ => intro T H κ; rfl
  | ret => intro T H κ; rfl
  | seq a b iha ihb =>
    intro T H κ
    simp only [denS, denC, iha, seqV]
    cases (denC P a).run call k T H with
    | none => rfl
    | some x =>
      obtain ⟨ex, T', H'⟩ := x
      cases ex with
      | normal => simp only [onC, ihb]
      | _ => rfl
  | cond x a b iha ihb =>
    intro T H κ
    simp only [denS, denC, toS_f, condV, evS_eq]
    cases hx : evO T x with
    | none => rfl
    | some v =>
      cases v with
      | bool c =>
        simp only
        cases x with
        | tmp t =>
          have ht : T.get t = .bool c := by simpa [evO] using hx
          simp only [onT_eq ht, iha, ihb]
          cases c <;> rfl
        | _ =>
          cases c
          · exact ihb T H κ
          · exact iha T H κ
      | _ => rfl
  | block id b ih =>
    intro T H κ
    simp only [denS, denC, ih, blockV]
    cases (denC P b).run call k T H with
    | none => rfl
    | some x =>
      obtain ⟨ex, T', H'⟩ := x
      cases ex with
      | exit i => simp only [onC]; cases hi : i.beq id <;> simp only
      | _ => rfl
  | loop b ih =>
    intro T H κ
    simp only [denS, denC]
    exact loopS_eq (fun T H κ => ih T H κ) k T H κ
  | scope b ih => intro T H κ; simp only [denS, denC]; exact ih T H κ
  | region p ops d =>
    intro T H κ
    cases d with
    | true =>
      simp only [denS, denC, regionDS_eq hh hc]
      cases regionD P ops.toList call T H with
      | none => rfl
      | some x => rfl
    | false =>
      simp only [denS, denC, opsS_eq hh hc]
      cases (opsV P ops.toList ops.toList).run call T H with
      | none => rfl
      | some x => rfl
  | _ => intro T H κ; rfl

theorem resS_eq (T : Frm) (H : Heap) (r : ResultVar) : resS P (toS T) H r = resultV P T H r := by cases r <;> rfl
theorem ressS_eq (T : Frm) (H : Heap) : ∀ rs : List ResultVar, ressS P (toS T) H rs = resultsV P T H rs
  | [] => rfl
  | r :: rs => by simp only [ressS, resultsV, resS_eq, ressS_eq T H rs] <;> rfl

theorem args_get (args : List Value) (n : Nat) : (Frm.get ⟨argsT .leaf 0 args, n⟩) = fun i => (nth args i).getD undef := by
  funext i
  unfold Frm.get
  simp only [argsT_get, nth_eq]
  by_cases h : i < args.length
  · simp [h]
  · simp [h, PT.get]

/-- A run over symbols is a call. -/
theorem callS_eq {hk : Hk} (hh : HkOK P hk) {kc : KCall β} {call : CallFn} (hc : KOK kc call) (k : Nat) (f : FuncId) (args : List Value) (H : Heap) (κ : Value → Heap → Tr β) : (callS P hk kc k f args H κ).eval = (onR (stepC P call k f args H) κ).eval := by
  unfold callS stepC denF
  cases nth P.funcs.toList f with
  | none => rfl
  | some fn =>
    simp only
    cases fn.body with
    | none => rfl
    | some c =>
      simp only
      by_cases h : args.length ≤ fn.ntmps
      · simp only [Nat.ble_eq_true_of_le h, h, if_true]
        have := denS_eq (P := P) (β := β) hh hc k c ⟨argsT .leaf 0 args, fn.ntmps⟩ H (retS P fn.results.toList κ)
        simp only [toS, args_get] at this
        simp only [this]
        cases (denC P c).run call k ⟨argsT .leaf 0 args, fn.ntmps⟩ H with
        | none => rfl
        | some x =>
          obtain ⟨ex, T', H'⟩ := x
          have key : ∀ ex' : Ex, (∀ i, ex' ≠ .exit i) → onC (some (ex', T', H')) (retS P fn.results.toList κ) = onR (retV P fn.results.toList (some (ex', T', H'))) κ := by
            intro ex' hne
            cases ex' with
            | exit i => exact absurd rfl (hne i)
            | _ =>
              simp only [onC, retS, retV, ressS_eq]
              cases resultsV P T' H' fn.results.toList with
              | none => rfl
              | some vs =>
                cases vs with
                | nil => rfl
                | cons v r => cases r <;> rfl
          cases ex with
          | exit i => rfl
          | normal => exact congrArg Tr.eval (key _ (fun i e => by cases e))
          | ret => exact congrArg Tr.eval (key _ (fun i e => by cases e))
      · have : Nat.ble args.length fn.ntmps = false := by
          cases hb : Nat.ble args.length fn.ntmps
          · rfl
          · exact absurd (Nat.le_of_ble_eq_true hb) h
        simp only [this, h, if_false]
        rfl

/-- What a run over symbols gives. -/
theorem step_of_callS {hk : Hk} (hh : HkOK P hk) {kc : KCall Value} {call : CallFn} (hc : KOK kc call) {k : Nat} {f : FuncId} {args : List Value} {H : Heap} {v : Value} (h : (runT P hk kc k f args H).eval = some v) :
    ∃ H', stepC P call k f args H = some (v, H') := by
  unfold runT at h
  rw [callS_eq hh hc] at h
  cases hs : stepC P call k f args H with
  | none => simp [hs, onR, Tr.eval] at h
  | some x => obtain ⟨u, H'⟩ := x; simp [hs, onR, Tr.eval] at h; subst h; exact ⟨H', rfl⟩

theorem follow_eval : ∀ {bits : List Bool} {t : Tr β} {c : Bool} {v : β}, t.follow bits = some (c, v) → c = true → t.eval = some v
  | [], .leaf x, c, v, h, hc => by cases h; rfl
  | [], .fail, c, v, h, hc => by cases h
  | [], .node _ _ _, c, v, h, hc => by cases h
  | b :: r, .fail, c, v, h, hc => by cases h
  | b :: r, .leaf _, c, v, h, hc => by cases h
  | b :: r, .node d x y, c, v, h, hc => by
    simp only [Tr.follow] at h
    cases b with
    | true =>
      simp only at h
      split at h
      · rename_i e u hu
        cases h
        simp only [Bool.and_eq_true] at hc
        rw [eval_node, hc.1]
        exact follow_eval hu hc.2
      · cases h
    | false =>
      simp only at h
      split at h
      · rename_i e u hu
        cases h
        simp only [Bool.and_eq_true, Bool.not_eq_true'] at hc
        rw [eval_node, hc.1]
        exact follow_eval hu hc.2
      · cases h
end Go.Vm
