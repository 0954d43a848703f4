/- A verified interpreter: typed contracts. -/
import Derived.Test.YtdjippdfohlpkaaVmU
namespace Go.Vm
variable {P : Program}

/-- A Go type of numbers, read as a Lean type. -/
structure Ty (α : Type) where
  enc : α → Value
  dec : Value → Option α
  inv : ∀ {v a}, dec v = some a → v = enc a
  fl : ∀ a, flat (enc a) = true

def tInt (k : IntKind) : Ty Int where
  enc n := .int k n
  dec | .int k' n => (match decide (k' = k) with
        | true => some n
        | false => none)
      | _ => none
  inv {v a} h := by
    split at h
    · rename_i k' n
      by_cases hk : k' = k
      · subst hk; simp at h; subst h; rfl
      · simp [hk] at h
    · cases h
  fl _ := rfl
def tBool : Ty Bool where
  enc b := .bool b
  dec | .bool b => some b
      | _ => none
  inv {v a} h := by
    split at h
    · cases h; rfl
    · cases h
  fl _ := rfl

def cellsI (k : IntKind) (f : Nat → Int) : Nat → Nat → List Value
  | _, 0 => []
  | i, n + 1 => .int k (f i) :: cellsI k f (i + 1) n
theorem cellsI_flat (k : IntKind) (f : Nat → Int) : ∀ n i, (cellsI k f i n).all plain = true
  | 0, _ => rfl
  | n + 1, i => by simp only [cellsI, List.all_cons, cellsI_flat k f n (i + 1), plain, Bool.and_self]
theorem cellsI_len (k : IntKind) (f : Nat → Int) : ∀ n i, (cellsI k f i n).length = n
  | 0, _ => rfl
  | n + 1, i => by simp [cellsI, cellsI_len k f n (i + 1)]
theorem cellsI_get (k : IntKind) (f : Nat → Int) : ∀ n i j, j < n → (cellsI k f i n)[j]? = some (.int k (f (i + j)))
  | 0, _, _, h => by omega
  | n + 1, i, 0, _ => rfl
  | n + 1, i, j + 1, h => by
    simp only [cellsI, List.getElem?_cons_succ]
    rw [cellsI_get k f n (i + 1) j (by omega)]
    congr 3; omega
theorem cellsI_congr {k : IntKind} {f g : Nat → Int} : ∀ n i, (∀ j, i ≤ j → j < i + n → f j = g j) → cellsI k f i n = cellsI k g i n
  | 0, _, _ => rfl
  | n + 1, i, h => by
    simp only [cellsI]
    rw [h i (by omega) (by omega), cellsI_congr n (i + 1) fun j h1 h2 => h j (by omega) (by omega)]
theorem sel_cells {k : IntKind} {f : Nat → Int} {n i : Nat} (h : i < n) : selInt (cellsI k f 0 n) i = f i := by
  unfold selInt
  rw [nth_eq, cellsI_get k f n 0 i h, Nat.zero_add]

/-- Structs and arrays of numbers of one kind. -/
def tU {α : Type} (k : IntKind) (n : Nat) (toF : α → Nat → Int) (ofF : (Nat → Int) → α) (h : ∀ f i, i < n → toF (ofF f) i = f i) : Ty α where
  enc a := .agg (cellsI k (toF a) 0 n).toArray
  dec | .agg cs => (match allK k cs.toList && Nat.beq cs.toList.length n with
        | true => some (ofF (selInt cs.toList))
        | false => none)
      | _ => none
  inv {v a} hd := by
    split at hd
    · rename_i cs
      split at hd
      · rename_i hb
        cases hd
        simp only [Bool.and_eq_true] at hb
        have hl := Nat.eq_of_beq_eq_true hb.2
        congr 1
        apply Array.toList_inj.1
        simp only
        apply List.ext_getElem?
        intro i
        by_cases hi : i < n
        · rw [cellsI_get _ _ _ _ _ hi, Nat.zero_add, h _ _ hi, sel_at (allK_spec hb.1) (by omega)]
        · rw [List.getElem?_eq_none (by omega), List.getElem?_eq_none (by rw [cellsI_len]; omega)]
      · cases hd
    · cases hd
  fl a := cellsI_flat _ _ _ _

/-- Results. -/
structure Rs (ρ : Type) where
  enc : ρ → Value
  fl : ∀ r, flat2 (enc r) = true
def Ty.rs {α : Type} (A : Ty α) : Rs α := ⟨A.enc, fun a => by
  have := A.fl a
  unfold flat2
  split
  · rename_i h; rw [h] at this; cases this
  · exact this⟩
def Rs.pair {α β : Type} (A : Ty α) (B : Ty β) : Rs (α × β) := ⟨fun p => .tuple #[A.enc p.1, B.enc p.2], fun p => by simp [flat2, A.fl, B.fl]⟩

/-! ### Contracts that stand for calls -/
def Tr.bind {γ β : Type} : Tr γ → (γ → Tr β) → Tr β
  | .fail, _ => .fail
  | .leaf x, κ => κ x
  | .node b x y, κ => .node b (x.bind κ) (y.bind κ)
theorem eval_bind {γ β : Type} (κ : γ → Tr β) : ∀ t : Tr γ, (t.bind κ).eval = t.eval.bind fun x => (κ x).eval
  | .fail => rfl
  | .leaf x => rfl
  | .node b x y => by
    simp only [Tr.bind, eval_node, eval_bind κ x, eval_bind κ y]
    cases b <;> rfl
/-- What comes, by branches. -/
abbrev CE := List Value → Heap → Tr (Value × Heap)
def CE.ent (c : CE) : Ent := fun args H => (c args H).eval
abbrev Tab := List (Nat × CE)
def tabK {β : Type} : Tab → KCall β
  | [], _, _, _, _ => .fail
  | (g, c) :: r, f, args, H, κ => match g.beq f with
    | true => (c args H).bind fun x => κ x.1 x.2
    | false => tabK r f args H κ
def Tab.ents (t : Tab) : List (Nat × Ent) := t.map fun p => (p.1, CE.ent p.2)
theorem tabK_ok {β : Type} : ∀ t : Tab, KOK (tabK (β := β) t) (tabC t.ents)
  | [], _, _, _, _ => rfl
  | (g, c) :: r, f, args, H, κ => by
    simp only [tabK, Tab.ents, List.map_cons, tabC]
    cases hg : g.beq f with
    | true =>
      simp only [CE.ent, eval_bind]
      cases (c args H).eval <;> rfl
    | false => simp only; exact tabK_ok r f args H κ
abbrev TabOK (P : Program) (t : Tab) : Prop := ∀ p ∈ t, EntOK P p.1 (CE.ent p.2)
theorem TabOK.call {t : Tab} (h : TabOK P t) : CallOK P (tabC t.ents) := tabC_ok fun p hp => by
  obtain ⟨q, hq, rfl⟩ := List.mem_map.1 hp
  exact h q hq
theorem tab_nil : TabOK P [] := fun p h => by cases h
theorem tab_cons {f : Nat} {c : CE} {r : Tab} (h : EntOK P f (CE.ent c)) (hr : TabOK P r) : TabOK P ((f, c) :: r) := fun p hp => by
  cases hp with
  | head => exact h
  | tail _ hp => exact hr p hp
theorem tab_app {a b : Tab} (ha : TabOK P a) (hb : TabOK P b) : TabOK P (a ++ b) := fun p hp =>
  (List.mem_append.1 hp).elim (ha p) (hb p)

/-- What the program must be. -/
structure Okay (P : Program) : Prop where
  m : P.follows .mixedOrders = true
  n : NamesOk P

def namesB (P : Program) : Bool := P.funcs.toList.all fun fn => !(fn.name == "runtime.NumGoroutine")
theorem Okay.of (hm : P.follows .mixedOrders = true) (hn : namesB P = true) : Okay P := ⟨hm, fun f fn hf _ => by
  unfold namesB at hn
  rw [List.all_eq_true] at hn
  have := hn fn (by rw [Array.mem_toList_iff]; exact Array.mem_of_getElem? hf)
  simpa using this⟩

abbrev runS (P : Program) (tab : Tab) (k : Nat) (f : FuncId) (args : List Value) : Option Value := (runT P (hkP P) (tabK tab) k f args heap0).eval

/-- From numbers to numbers: what comes is shown by a run from the empty heap. -/
theorem pure_ok (hP : Okay P) {tab : Tab} (ht : TabOK P tab) {f : FuncId} {c : CE} {e : List Value → Option Value} (hc : ∀ args H, (c args H).eval = (e args).map fun v => (v, H))
    (h : ∀ args v, e args = some v → args.all flat = true ∧ flat2 v = true ∧ ∃ k, runS P tab k f args = some v) : EntOK P f (CE.ent c) := by
  have := pureE_ok (P := P) ht.call hP.m hP.n (f := f) (e := e) fun args v he => by
    obtain ⟨h1, h2, k, hk⟩ := h args v he
    exact ⟨h1, h2, k, step_of_callS hkP_ok (tabK_ok tab) hk⟩
  have e1 : CE.ent c = pureE e := by
    funext args H
    simp only [CE.ent, pureE, hc]
    cases e args <;> rfl
  rw [e1]; exact this

variable {α β γ δ ρ : Type}
def leafE (v : Value) (H : Heap) : Tr (Value × Heap) := .leaf (v, H)
def fn0 (R : Rs ρ) (x : ρ) : CE
  | [], H => leafE (R.enc x) H
  | _, _ => .fail
def fn1 (A : Ty α) (R : Rs ρ) (g : α → Tr ρ) : CE
  | [x], H => match A.dec x with
    | some a => (g a).bind fun r => leafE (R.enc r) H
    | none => .fail
  | _, _ => .fail
def fn2 (A : Ty α) (B : Ty β) (R : Rs ρ) (g : α → β → Tr ρ) : CE
  | [x, y], H => match A.dec x with
    | some a => match B.dec y with
      | some b => (g a b).bind fun r => leafE (R.enc r) H
      | none => .fail
    | none => .fail
  | _, _ => .fail
def fn3 (A : Ty α) (B : Ty β) (C : Ty γ) (R : Rs ρ) (g : α → β → γ → Tr ρ) : CE
  | [x, y, z], H => match A.dec x with
    | some a => match B.dec y with
      | some b => match C.dec z with
        | some c => (g a b c).bind fun r => leafE (R.enc r) H
        | none => .fail
      | none => .fail
    | none => .fail
  | _, _ => .fail

theorem leaf_bind (R : Rs ρ) (H : Heap) (t : Tr ρ) : (t.bind fun r => leafE (R.enc r) H).eval = (t.eval.map R.enc).map fun v => (v, H) := by
  rw [eval_bind]; cases t.eval <;> rfl

theorem fn0_ok (hP : Okay P) {tab : Tab} (ht : TabOK P tab) {f : FuncId} {R : Rs ρ} {x : ρ} (h : ∃ k, runS P tab k f [] = some (R.enc x)) :
    EntOK P f (CE.ent (fn0 R x)) :=
  pure_ok hP ht (e := fun
    | [] => some (R.enc x)
    | _ => none) (fun args H => by cases args <;> rfl) fun args v he => by
    split at he
    · cases he
      obtain ⟨k, hk⟩ := h
      exact ⟨rfl, R.fl _, k, hk⟩
    · cases he
theorem fn1_ok (hP : Okay P) {tab : Tab} (ht : TabOK P tab) {f : FuncId} {A : Ty α} {R : Rs ρ} {g : α → Tr ρ}
    (h : ∀ a r, (g a).eval = some r → ∃ k, runS P tab k f [A.enc a] = some (R.enc r)) : EntOK P f (CE.ent (fn1 A R g)) :=
  pure_ok hP ht (e := fun
    | [x] => match A.dec x with
      | some a => (g a).eval.map R.enc
      | none => none
    | _ => none) (fun args H => by
      rcases args with _ | ⟨x, _ | ⟨y, r⟩⟩
      · rfl
      · simp only [fn1]
        cases A.dec x with
        | none => rfl
        | some a => exact leaf_bind R H _
      · rfl) fun args v he => by
    split at he
    · rename_i x
      split at he
      · rename_i a ha
        cases hg : (g a).eval with
        | none => simp [hg] at he
        | some r =>
          simp only [hg, Option.map_some, Option.some.injEq] at he
          subst he
          obtain ⟨k, hk⟩ := h a r hg
          rw [A.inv ha]
          exact ⟨by simp [A.fl], R.fl _, k, hk⟩
      · cases he
    · cases he

theorem fn2_ok (hP : Okay P) {tab : Tab} (ht : TabOK P tab) {f : FuncId} {A : Ty α} {B : Ty β} {R : Rs ρ} {g : α → β → Tr ρ}
    (h : ∀ a b r, (g a b).eval = some r → ∃ k, runS P tab k f [A.enc a, B.enc b] = some (R.enc r)) : EntOK P f (CE.ent (fn2 A B R g)) :=
  pure_ok hP ht (e := fun
    | [x, y] => match A.dec x with
      | some a => match B.dec y with
        | some b => (g a b).eval.map R.enc
        | none => none
      | none => none
    | _ => none) (fun args H => by
      rcases args with _ | ⟨x, _ | ⟨y, _ | ⟨z, r⟩⟩⟩
      · rfl
      · rfl
      · simp only [fn2]
        cases A.dec x with
        | none => rfl
        | some a =>
          cases B.dec y with
          | none => rfl
          | some b => exact leaf_bind R H _
      · rfl) fun args v he => by
    split at he
    · rename_i x y
      split at he
      · rename_i a ha
        split at he
        · rename_i b hb
          cases hg : (g a b).eval with
          | none => simp [hg] at he
          | some r =>
            simp only [hg, Option.map_some, Option.some.injEq] at he
            subst he
            obtain ⟨k, hk⟩ := h a b r hg
            rw [A.inv ha, B.inv hb]
            exact ⟨by simp [A.fl, B.fl], R.fl _, k, hk⟩
        · cases he
      · cases he
    · cases he
theorem fn3_ok (hP : Okay P) {tab : Tab} (ht : TabOK P tab) {f : FuncId} {A : Ty α} {B : Ty β} {C : Ty γ} {R : Rs ρ} {g : α → β → γ → Tr ρ}
    (h : ∀ a b c r, (g a b c).eval = some r → ∃ k, runS P tab k f [A.enc a, B.enc b, C.enc c] = some (R.enc r)) : EntOK P f (CE.ent (fn3 A B C R g)) :=
  pure_ok hP ht (e := fun
    | [x, y, z] => match A.dec x with
      | some a => match B.dec y with
        | some b => match C.dec z with
          | some c => (g a b c).eval.map R.enc
          | none => none
        | none => none
      | none => none
    | _ => none) (fun args H => by
      rcases args with _ | ⟨x, _ | ⟨y, _ | ⟨z, _ | ⟨u, r⟩⟩⟩⟩
      · rfl
      · rfl
      · rfl
      · simp only [fn3]
        cases A.dec x with
        | none => rfl
        | some a =>
          cases B.dec y with
          | none => rfl
          | some b =>
            cases C.dec z with
            | none => rfl
            | some c => exact leaf_bind R H _
      · rfl) fun args v he => by
    split at he
    · rename_i x y z
      split at he
      · rename_i a ha
        split at he
        · rename_i b hb
          split at he
          · rename_i c hc
            cases hg : (g a b c).eval with
            | none => simp [hg] at he
            | some r =>
              simp only [hg, Option.map_some, Option.some.injEq] at he
              subst he
              obtain ⟨k, hk⟩ := h a b c r hg
              rw [A.inv ha, B.inv hb, C.inv hc]
              exact ⟨by simp [A.fl, B.fl, C.fl], R.fl _, k, hk⟩
          · cases he
        · cases he
      · cases he
    · cases he

/-! Without branches. -/
theorem fn1_t (hP : Okay P) {tab : Tab} (ht : TabOK P tab) {f : FuncId} {A : Ty α} {R : Rs ρ} {g : α → ρ}
    (h : ∀ a, ∃ k, runS P tab k f [A.enc a] = some (R.enc (g a))) : EntOK P f (CE.ent (fn1 A R fun a => .leaf (g a))) :=
  fn1_ok hP ht fun a r hr => by cases hr; exact h a
theorem fn2_t (hP : Okay P) {tab : Tab} (ht : TabOK P tab) {f : FuncId} {A : Ty α} {B : Ty β} {R : Rs ρ} {g : α → β → ρ}
    (h : ∀ a b, ∃ k, runS P tab k f [A.enc a, B.enc b] = some (R.enc (g a b))) : EntOK P f (CE.ent (fn2 A B R fun a b => .leaf (g a b))) :=
  fn2_ok hP ht fun a b r hr => by cases hr; exact h a b
theorem fn3_t (hP : Okay P) {tab : Tab} (ht : TabOK P tab) {f : FuncId} {A : Ty α} {B : Ty β} {C : Ty γ} {R : Rs ρ} {g : α → β → γ → ρ}
    (h : ∀ a b c, ∃ k, runS P tab k f [A.enc a, B.enc b, C.enc c] = some (R.enc (g a b c))) : EntOK P f (CE.ent (fn3 A B C R fun a b c => .leaf (g a b c))) :=
  fn3_ok hP ht fun a b c r hr => by cases hr; exact h a b c

/-! A function's own code in place of a contract. -/
def inl (P : Program) (tab : Tab) (k : Nat) (f : FuncId) : CE := fun args H => callS P (hkP P) (tabK tab) k f args H fun v H' => .leaf (v, H')
theorem inl_eq (tab : Tab) (k : Nat) (f : FuncId) (args : List Value) (H : Heap) : CE.ent (inl P tab k f) args H = stepC P (tabC tab.ents) k f args H := by
  unfold CE.ent inl
  rw [callS_eq hkP_ok (tabK_ok tab)]
  cases stepC P (tabC tab.ents) k f args H with
  | none => rfl
  | some x => rfl
theorem inl_ok (hP : Okay P) {tab : Tab} (ht : TabOK P tab) (k : Nat) (f : FuncId) : EntOK P f (CE.ent (inl P tab k f)) where
  body h := (ht.call.step hP.m hP.n k).s.body (by rw [← inl_eq]; exact h)
  runs h := (ht.call.step hP.m hP.n k).s.runs (by rw [← inl_eq]; exact h)
  vf h := (ht.call.step hP.m hP.n k).vf (by rw [← inl_eq]; exact h)
end Go.Vm
