/- A verified interpreter: equality of values of several numbers. A verified interpreter: typed contracts. A verified interpreter: closed runs in which a table stands for some of the functions. A verified interpreter: contracts of functions that read memory and hand over numbers. A verified interpreter: from a run to what a row asks. -/
import Derived.Test.YtdjippdfohlpkaaW3
import Derived.Carry
import Derived.ClaimOpenTies
namespace Go.Vm
variable {P : Program}

theorem pureBind {α β : Type} (s : Sem α) (f : α → Sem β) : pureRun P (s >>= f) = (pureRun P s).bind fun a => pureRun P (f a) := by
  induction s with
  | pure x => rfl
  | program k ih => exact ih P
  | mark m k ih => exact ih
  | _ => rfl

theorem pureRun_pure {α : Type} (a : α) : pureRun P (pure a) = some a := rfl
theorem pureRun_program : pureRun P program = some P := rfl
theorem pureUnderlying {t : TypeId} {d : TypeDesc} (h : P.underlying t = some d) : pureRun P (underlying t) = some d := by
  unfold underlying
  rw [pureBind, pureRun_program]
  simp only [Option.bind_some, h]
  rfl
theorem pureRun_sizeOf {t : TypeId} {n : Nat} (h : sizeT P t = some n) : pureRun P (sizeOf t) = some n := by
  unfold sizeT at h
  cases hi : P.info? t with
  | none => simp [hi] at h
  | some i =>
    simp only [hi, Option.map_some, Option.some.injEq] at h
    unfold sizeOf typeInfo
    rw [pureBind, pureBind, pureRun_program]
    simp only [Option.bind_some, hi]
    subst h
    rfl
theorem pureRun_part {t : TypeId} {cs : Array Value} {off : Nat} {v : Value} (h : partV P t cs off = some v) : pureRun P (part t cs off) = some v := by
  unfold partV isAggT at h
  cases hu : P.underlying t with
  | none => simp [hu] at h
  | some d =>
    have hagg : ∀ b, (match d with | .struct _ | .array _ _ => true | _ => false) = b → pureRun P (isAgg t) = some b := by
      intro b hb
      unfold isAgg
      rw [pureBind, pureUnderlying hu]
      subst hb
      cases d <;> rfl
    unfold part
    rw [pureBind]
    cases d <;> (simp only [hu] at h; rw [hagg _ rfl]; simp only [Option.bind_some])
    case struct fs =>
      split at h
      · rename_i hs
        simp only [Option.some.injEq] at h
        simp only [if_true, pureBind, pureRun_sizeOf hs, Option.bind_some, pureRun_pure, h]
      · rename_i he; cases he
      · cases h
    case array n e =>
      split at h
      · rename_i hs
        simp only [Option.some.injEq] at h
        simp only [if_true, pureBind, pureRun_sizeOf hs, Option.bind_some, pureRun_pure, h]
      · rename_i he; cases he
      · cases h
    all_goals (simp only [h]; rfl)

def eqFs (P : Program) (eq : TypeId → Value → Value → Option Bool) (xs ys : Array Value) : List Field → Option Bool
  | [] => some true
  | f :: r => match decide (f.name = "_") with
    | true => eqFs P eq xs ys r
    | false => match partV P f.type xs f.offset, partV P f.type ys f.offset with
      | some a, some b => match eq f.type a b, eqFs P eq xs ys r with
        | some p, some q => some (p && q)
        | _, _ => none
      | _, _ => none
def eqIs (P : Program) (eq : TypeId → Value → Value → Option Bool) (e : TypeId) (n : Nat) (xs ys : Array Value) : List Nat → Option Bool
  | [] => some true
  | i :: r => match partV P e xs (i * n), partV P e ys (i * n) with
    | some a, some b => match eq e a b, eqIs P eq e n xs ys r with
      | some p, some q => some (p && q)
      | _, _ => none
    | _, _ => none
def eqV (P : Program) : Nat → TypeId → Value → Value → Option Bool
  | 0, _, _, _ => none
  | d + 1, t, x, y => match P.underlying t, x, y with
    | some .bool, .bool a, .bool b => some (a == b)
    | some (.int _), .int k a, .int k' b => match decide (k = k') with
      | true => some (a == b)
      | false => none
    | some (.struct fs), .agg xs, .agg ys => match P.stoodInHeld t with
      | false => eqFs P (eqV P d) xs ys fs.toList
      | true => none
    | some (.array n e), .agg xs, .agg ys => match sizeT P e with
      | some s => eqIs P (eqV P d) e s xs ys (List.range n)
      | none => none
    | _, _, _ => none


abbrev EqS (P : Program) (eq : TypeId → Value → Value → Option Bool) (d : Nat) : Prop := ∀ t a b r, eq t a b = some r → pureRun P (Op.equalIn d t a b) = some r

theorem eqFs_sound {eq : TypeId → Value → Value → Option Bool} {d : Nat} (heq : EqS P eq d) (xs ys : Array Value) :
    ∀ (fs : List Field) (r : Bool), eqFs P eq xs ys fs = some r →
      pureRun P (forIn (m := Sem) fs ((none, ()) : Option Bool × Unit) fun f _ =>
            if f.name ≠ "_" then do
              let __do_lift ← part f.type xs f.offset
              let __do_lift_1 ← part f.type ys f.offset
              let __do_lift ← Op.equalIn d f.type __do_lift __do_lift_1
              if (!__do_lift) = true then pure (ForInStep.done (some false, ())) else pure (ForInStep.yield (none, ()))
            else pure (ForInStep.yield (none, ()))) = some (if r then (none, ()) else (some false, ()))
  | [], r, h => by simp only [eqFs, Option.some.injEq] at h; subst h; rfl
  | f :: fs, r, h => by
    simp only [eqFs] at h
    rw [List.forIn_cons]
    by_cases hn : f.name = "_"
    · simp only [hn, decide_true] at h
      have := eqFs_sound heq xs ys fs r h
      simpa only [hn, ne_eq, not_true_eq_false, if_false, pureBind, pureRun_pure, Option.bind_some] using this
    · simp only [hn, decide_false] at h
      split at h
      · rename_i a b ha hb
        split at h
        · rename_i p q hp hq
          simp only [Option.some.injEq] at h
          subst h
          have := eqFs_sound heq xs ys fs q hq
          simp only [hn, ne_eq, not_false_eq_true, if_true, pureBind, pureRun_part ha, pureRun_part hb, heq _ _ _ _ hp, Option.bind_some]
          cases p
          · rfl
          · simpa only [Bool.not_true, Bool.false_eq_true, if_false, pureRun_pure, Option.bind_some, Bool.true_and] using this
        · cases h
      · cases h

theorem eqIs_sound {eq : TypeId → Value → Value → Option Bool} {d : Nat} (heq : EqS P eq d) (e : TypeId) (n : Nat) (xs ys : Array Value) :
    ∀ (is : List Nat) (r : Bool), eqIs P eq e n xs ys is = some r →
      pureRun P (forIn (m := Sem) is ((none, ()) : Option Bool × Unit) fun i _ => do
            let __do_lift ← part e xs (i * n)
            let __do_lift_1 ← part e ys (i * n)
            let __do_lift ← Op.equalIn d e __do_lift __do_lift_1
            if (!__do_lift) = true then pure (ForInStep.done (some false, ()))
              else pure (ForInStep.yield (none, ()))) = some (if r then (none, ()) else (some false, ()))
  | [], r, h => by simp only [eqIs, Option.some.injEq] at h; subst h; rfl
  | i :: is, r, h => by
    simp only [eqIs] at h
    split at h
    · rename_i a b ha hb
      split at h
      · rename_i p q hp hq
        simp only [Option.some.injEq] at h
        subst h
        have := eqIs_sound heq e n xs ys is q hq
        rw [List.forIn_cons]
        simp only [pureBind, pureRun_part ha, pureRun_part hb, heq _ _ _ _ hp, Option.bind_some]
        cases p
        · rfl
        · simpa only [Bool.not_true, Bool.false_eq_true, if_false, pureRun_pure, Option.bind_some, Bool.true_and] using this
      · cases h
    · cases h

theorem eqV_sound : ∀ (d D : Nat), d ≤ D → EqS P (eqV P d) D
  | 0, _, _, _, _, _, _, h => by cases h
  | d + 1, 0, hD, _, _, _, _, _ => by omega
  | d + 1, D + 1, hD, t, x, y, r, h => by
    have ih := eqV_sound d D (by omega)
    unfold eqV at h
    split at h
    · rename_i a b hu
      simp only [Option.some.injEq] at h
      simp only [Op.equalIn, pureBind, pureUnderlying hu, Option.bind_some, pureRun_pure, h]
    · rename_i k a k' b hu
      by_cases hk : k = k'
      · simp only [hk, decide_true, Option.some.injEq] at h
        simp only [Op.equalIn, pureBind, pureUnderlying hu, Option.bind_some, hk, if_true, pureRun_pure, h]
      · simp [hk] at h
    · rename_i fs xs ys hu
      split at h
      · rename_i hs
        have := eqFs_sound ih xs ys _ _ h
        simp only [Op.equalIn, pureBind, pureUnderlying hu, Option.bind_some, pureRun_program, hs, Bool.false_eq_true, if_false]
        rw [← Array.forIn_toList, this]
        cases r <;> rfl
      · cases h
    · rename_i n e xs ys hu
      split at h
      · rename_i s hs
        have := eqIs_sound ih e s xs ys _ _ h
        simp only [Op.equalIn, pureBind, pureUnderlying hu, Option.bind_some, pureRun_sizeOf hs]
        simp only [Std.Legacy.Range.forIn_eq_forIn_range', Std.Legacy.Range.size, Nat.sub_zero, Nat.add_one_sub_one, Nat.div_one, ← List.range_eq_range']
        rw [this]
        cases r <;> rfl
      · cases h
    · cases h

/-- The table of equalities that the types give. -/
def hkP (P : Program) : Hk := ⟨fun t x y => match P.eqGuardType P.depth t && true, x.all plain && y.all plain with
  | false, true => eqV P 8 t (.agg x.toArray) (.agg y.toArray)
  | _, _ => none⟩

theorem hkP_ok : HkOK P (hkP P) := by
  have key : ∀ {t x y b}, (hkP P).eq t x y = some b → ∀ xo yo, (flat (.agg x.toArray) && flat (.agg y.toArray)) = true ∧
      (∀ op, op = .eql ∨ op = .neq → pureRun P (eqGuard op t xo yo (.agg x.toArray) (.agg y.toArray)) = some ()) ∧ pureRun P (Op.equal t (.agg x.toArray) (.agg y.toArray)) = some b := by
    intro t x y b h xo yo
    unfold hkP at h
    simp only at h
    split at h
    · rename_i hg hp
      refine ⟨by simpa [flat] using hp, ?_, eqV_sound 8 Op.maxDepth (by decide) _ _ _ _ h⟩
      intro op hop
      unfold eqGuard
      simp only [Bool.and_true] at hg
      rcases hop with rfl | rfl
      · simp only [Bool.not_true, Bool.false_eq_true, if_false, pureBind, pureRun_program, Option.bind_some, hg, Bool.not_false, if_true]; rfl
      · simp only [Bool.not_true, Bool.false_eq_true, if_false, pureBind, pureRun_program, Option.bind_some, hg, Bool.not_false, if_true]; rfl
    · cases h
  refine ⟨fun {t x y b} h xo yo => ?_, fun {t x y b} h xo yo => ?_⟩
  · obtain ⟨hf, hg, he⟩ := key h xo yo
    unfold binV
    rw [if_pos hf]
    simp only [pureBind, hg _ (.inl rfl), Option.bind_some, binOp, he, pureRun_pure, flatOnly, flat, plain, if_true]
  · obtain ⟨hf, hg, he⟩ := key h xo yo
    unfold binV
    rw [if_pos hf]
    simp only [pureBind, hg _ (.inr rfl), Option.bind_some, binOp, he, pureRun_pure, flatOnly, flat, plain, if_true]
end Go.Vm

namespace Go.Vm
variable {P : Program}

/-- A Go type of numbers, read as a Lean type. -/
structure Ty (α : Type) where
  enc : α → Value
  dec : Value → Option α
  inv : ∀ {v a}, dec v = some a → v = enc a
  fl : ∀ a, flat (enc a) = true

def tInt (k : IntKind) : Ty Int where
  enc n := .int k n
  dec | .int k' n => (match decide (k' = k) with
        | true => some n
        | false => none)
      | _ => none
  inv {v a} h := by
    split at h
    · rename_i k' n
      by_cases hk : k' = k
      · subst hk; simp at h; subst h; rfl
      · simp [hk] at h
    · cases h
  fl _ := rfl
def tBool : Ty Bool where
  enc b := .bool b
  dec | .bool b => some b
      | _ => none
  inv {v a} h := by
    split at h
    · cases h; rfl
    · cases h
  fl _ := rfl

def cellsI (k : IntKind) (f : Nat → Int) : Nat → Nat → List Value
  | _, 0 => []
  | i, n + 1 => .int k (f i) :: cellsI k f (i + 1) n
theorem cellsI_flat (k : IntKind) (f : Nat → Int) : ∀ n i, (cellsI k f i n).all plain = true
  | 0, _ => rfl
  | n + 1, i => by simp only [cellsI, List.all_cons, cellsI_flat k f n (i + 1), plain, Bool.and_self]
theorem cellsI_len (k : IntKind) (f : Nat → Int) : ∀ n i, (cellsI k f i n).length = n
  | 0, _ => rfl
  | n + 1, i => by simp [cellsI, cellsI_len k f n (i + 1)]
theorem cellsI_get (k : IntKind) (f : Nat → Int) : ∀ n i j, j < n → (cellsI k f i n)[j]? = some (.int k (f (i + j)))
  | 0, _, _, h => by omega
  | n + 1, i, 0, _ => rfl
  | n + 1, i, j + 1, h => by
    simp only [cellsI, List.getElem?_cons_succ]
    rw [cellsI_get k f n (i + 1) j (by omega)]
    congr 3; omega
theorem cellsI_congr {k : IntKind} {f g : Nat → Int} : ∀ n i, (∀ j, i ≤ j → j < i + n → f j = g j) → cellsI k f i n = cellsI k g i n
  | 0, _, _ => rfl
  | n + 1, i, h => by
    simp only [cellsI]
    rw [h i (by omega) (by omega), cellsI_congr n (i + 1) fun j h1 h2 => h j (by omega) (by omega)]
theorem sel_cells {k : IntKind} {f : Nat → Int} {n i : Nat} (h : i < n) : selInt (cellsI k f 0 n) i = f i := by
  unfold selInt
  rw [nth_eq, cellsI_get k f n 0 i h, Nat.zero_add]

/-- Structs and arrays of numbers of one kind. -/
def tU {α : Type} (k : IntKind) (n : Nat) (toF : α → Nat → Int) (ofF : (Nat → Int) → α) (h : ∀ f i, i < n → toF (ofF f) i = f i) : Ty α where
  enc a := .agg (cellsI k (toF a) 0 n).toArray
  dec | .agg cs => (match allK k cs.toList && Nat.beq cs.toList.length n with
        | true => some (ofF (selInt cs.toList))
        | false => none)
      | _ => none
  inv {v a} hd := by
    split at hd
    · rename_i cs
      split at hd
      · rename_i hb
        cases hd
        simp only [Bool.and_eq_true] at hb
        have hl := Nat.eq_of_beq_eq_true hb.2
        congr 1
        apply Array.toList_inj.1
        simp only
        apply List.ext_getElem?
        intro i
        by_cases hi : i < n
        · rw [cellsI_get _ _ _ _ _ hi, Nat.zero_add, h _ _ hi, sel_at (allK_spec hb.1) (by omega)]
        · rw [List.getElem?_eq_none (by omega), List.getElem?_eq_none (by rw [cellsI_len]; omega)]
      · cases hd
    · cases hd
  fl a := cellsI_flat _ _ _ _

/-- Results. -/
structure Rs (ρ : Type) where
  enc : ρ → Value
  fl : ∀ r, flat2 (enc r) = true
def Ty.rs {α : Type} (A : Ty α) : Rs α := ⟨A.enc, fun a => by
  have := A.fl a
  unfold flat2
  split
  · rename_i h; rw [h] at this; cases this
  · exact this⟩
def Rs.pair {α β : Type} (A : Ty α) (B : Ty β) : Rs (α × β) := ⟨fun p => .tuple #[A.enc p.1, B.enc p.2], fun p => by simp [flat2, A.fl, B.fl]⟩

/-! ### Contracts that stand for calls -/
def Tr.bind {γ β : Type} : Tr γ → (γ → Tr β) → Tr β
  | .fail, _ => .fail
  | .leaf x, κ => κ x
  | .node b x y, κ => .node b (x.bind κ) (y.bind κ)
theorem eval_bind {γ β : Type} (κ : γ → Tr β) : ∀ t : Tr γ, (t.bind κ).eval = t.eval.bind fun x => (κ x).eval
  | .fail => rfl
  | .leaf x => rfl
  | .node b x y => by
    simp only [Tr.bind, eval_node, eval_bind κ x, eval_bind κ y]
    cases b <;> rfl
/-- What comes, by branches. -/
abbrev CE := List Value → Heap → Tr (Value × Heap)
def CE.ent (c : CE) : Ent := fun args H => (c args H).eval
abbrev Tab := List (Nat × CE)
def tabK {β : Type} : Tab → KCall β
  | [], _, _, _, _ => .fail
  | (g, c) :: r, f, args, H, κ => match g.beq f with
    | true => (c args H).bind fun x => κ x.1 x.2
    | false => tabK r f args H κ
def Tab.ents (t : Tab) : List (Nat × Ent) := t.map fun p => (p.1, CE.ent p.2)
theorem tabK_ok {β : Type} : ∀ t : Tab, KOK (tabK (β := β) t) (tabC t.ents)
  | [], _, _, _, _ => rfl
  | (g, c) :: r, f, args, H, κ => by
    simp only [tabK, Tab.ents, List.map_cons, tabC]
    cases hg : g.beq f with
    | true =>
      simp only [CE.ent, eval_bind]
      cases (c args H).eval <;> rfl
    | false => simp only; exact tabK_ok r f args H κ
abbrev TabOK (P : Program) (t : Tab) : Prop := ∀ p ∈ t, EntOK P p.1 (CE.ent p.2)
theorem TabOK.call {t : Tab} (h : TabOK P t) : CallOK P (tabC t.ents) := tabC_ok fun p hp => by
  obtain ⟨q, hq, rfl⟩ := List.mem_map.1 hp
  exact h q hq
theorem tab_nil : TabOK P [] := fun p h => by cases h
theorem tab_cons {f : Nat} {c : CE} {r : Tab} (h : EntOK P f (CE.ent c)) (hr : TabOK P r) : TabOK P ((f, c) :: r) := fun p hp => by
  cases hp with
  | head => exact h
  | tail _ hp => exact hr p hp
theorem tab_app {a b : Tab} (ha : TabOK P a) (hb : TabOK P b) : TabOK P (a ++ b) := fun p hp =>
  (List.mem_append.1 hp).elim (ha p) (hb p)

/-- What the program must be. -/
structure Okay (P : Program) : Prop where
  m : P.follows .mixedOrders = true
  n : NamesOk P

def namesB (P : Program) : Bool := P.funcs.toList.all fun fn => !(fn.name == "runtime.NumGoroutine")
theorem Okay.of (hm : P.follows .mixedOrders = true) (hn : namesB P = true) : Okay P := ⟨hm, fun f fn hf _ => by
  unfold namesB at hn
  rw [List.all_eq_true] at hn
  have := hn fn (by rw [Array.mem_toList_iff]; exact Array.mem_of_getElem? hf)
  simpa using this⟩

abbrev runS (P : Program) (tab : Tab) (k : Nat) (f : FuncId) (args : List Value) : Option Value := (runT P (hkP P) (tabK tab) k f args heap0).eval

/-- From numbers to numbers: what comes is shown by a run from the empty heap. -/
theorem pure_ok (hP : Okay P) {tab : Tab} (ht : TabOK P tab) {f : FuncId} {c : CE} {e : List Value → Option Value} (hc : ∀ args H, (c args H).eval = (e args).map fun v => (v, H))
    (h : ∀ args v, e args = some v → args.all flat = true ∧ flat2 v = true ∧ ∃ k, runS P tab k f args = some v) : EntOK P f (CE.ent c) := by
  have := pureE_ok (P := P) ht.call hP.m hP.n (f := f) (e := e) fun args v he => by
    obtain ⟨h1, h2, k, hk⟩ := h args v he
    exact ⟨h1, h2, k, step_of_callS hkP_ok (tabK_ok tab) hk⟩
  have e1 : CE.ent c = pureE e := by
    funext args H
    simp only [CE.ent, pureE, hc]
    cases e args <;> rfl
  rw [e1]; exact this

variable {α β γ δ ρ : Type}
def leafE (v : Value) (H : Heap) : Tr (Value × Heap) := .leaf (v, H)
def fn0 (R : Rs ρ) (x : ρ) : CE
  | [], H => leafE (R.enc x) H
  | _, _ => .fail
def fn1 (A : Ty α) (R : Rs ρ) (g : α → Tr ρ) : CE
  | [x], H => match A.dec x with
    | some a => (g a).bind fun r => leafE (R.enc r) H
    | none => .fail
  | _, _ => .fail
def fn2 (A : Ty α) (B : Ty β) (R : Rs ρ) (g : α → β → Tr ρ) : CE
  | [x, y], H => match A.dec x with
    | some a => match B.dec y with
      | some b => (g a b).bind fun r => leafE (R.enc r) H
      | none => .fail
    | none => .fail
  | _, _ => .fail
def fn3 (A : Ty α) (B : Ty β) (C : Ty γ) (R : Rs ρ) (g : α → β → γ → Tr ρ) : CE
  | [x, y, z], H => match A.dec x with
    | some a => match B.dec y with
      | some b => match C.dec z with
        | some c => (g a b c).bind fun r => leafE (R.enc r) H
        | none => .fail
      | none => .fail
    | none => .fail
  | _, _ => .fail

theorem leaf_bind (R : Rs ρ) (H : Heap) (t : Tr ρ) : (t.bind fun r => leafE (R.enc r) H).eval = (t.eval.map R.enc).map fun v => (v, H) := by
  rw [eval_bind]; cases t.eval <;> rfl

theorem fn0_ok (hP : Okay P) {tab : Tab} (ht : TabOK P tab) {f : FuncId} {R : Rs ρ} {x : ρ} (h : ∃ k, runS P tab k f [] = some (R.enc x)) :
    EntOK P f (CE.ent (fn0 R x)) :=
  pure_ok hP ht (e := fun
    | [] => some (R.enc x)
    | _ => none) (fun args H => by cases args <;> rfl) fun args v he => by
    split at he
    · cases he
      obtain ⟨k, hk⟩ := h
      exact ⟨rfl, R.fl _, k, hk⟩
    · cases he
theorem fn1_ok (hP : Okay P) {tab : Tab} (ht : TabOK P tab) {f : FuncId} {A : Ty α} {R : Rs ρ} {g : α → Tr ρ}
    (h : ∀ a r, (g a).eval = some r → ∃ k, runS P tab k f [A.enc a] = some (R.enc r)) : EntOK P f (CE.ent (fn1 A R g)) :=
  pure_ok hP ht (e := fun
    | [x] => match A.dec x with
      | some a => (g a).eval.map R.enc
      | none => none
    | _ => none) (fun args H => by
      rcases args with _ | ⟨x, _ | ⟨y, r⟩⟩
      · rfl
      · simp only [fn1]
        cases A.dec x with
        | none => rfl
        | some a => exact leaf_bind R H _
      · rfl) fun args v he => by
    split at he
    · rename_i x
      split at he
      · rename_i a ha
        cases hg : (g a).eval with
        | none => simp [hg] at he
        | some r =>
          simp only [hg, Option.map_some, Option.some.injEq] at he
          subst he
          obtain ⟨k, hk⟩ := h a r hg
          rw [A.inv ha]
          exact ⟨by simp [A.fl], R.fl _, k, hk⟩
      · cases he
    · cases he

theorem fn2_ok (hP : Okay P) {tab : Tab} (ht : TabOK P tab) {f : FuncId} {A : Ty α} {B : Ty β} {R : Rs ρ} {g : α → β → Tr ρ}
    (h : ∀ a b r, (g a b).eval = some r → ∃ k, runS P tab k f [A.enc a, B.enc b] = some (R.enc r)) : EntOK P f (CE.ent (fn2 A B R g)) :=
  pure_ok hP ht (e := fun
    | [x, y] => match A.dec x with
      | some a => match B.dec y with
        | some b => (g a b).eval.map R.enc
        | none => none
      | none => none
    | _ => none) (fun args H => by
      rcases args with _ | ⟨x, _ | ⟨y, _ | ⟨z, r⟩⟩⟩
      · rfl
      · rfl
      · simp only [fn2]
        cases A.dec x with
        | none => rfl
        | some a =>
          cases B.dec y with
          | none => rfl
          | some b => exact leaf_bind R H _
      · rfl) fun args v he => by
    split at he
    · rename_i x y
      split at he
      · rename_i a ha
        split at he
        · rename_i b hb
          cases hg : (g a b).eval with
          | none => simp [hg] at he
          | some r =>
            simp only [hg, Option.map_some, Option.some.injEq] at he
            subst he
            obtain ⟨k, hk⟩ := h a b r hg
            rw [A.inv ha, B.inv hb]
            exact ⟨by simp [A.fl, B.fl], R.fl _, k, hk⟩
        · cases he
      · cases he
    · cases he
theorem fn3_ok (hP : Okay P) {tab : Tab} (ht : TabOK P tab) {f : FuncId} {A : Ty α} {B : Ty β} {C : Ty γ} {R : Rs ρ} {g : α → β → γ → Tr ρ}
    (h : ∀ a b c r, (g a b c).eval = some r → ∃ k, runS P tab k f [A.enc a, B.enc b, C.enc c] = some (R.enc r)) : EntOK P f (CE.ent (fn3 A B C R g)) :=
  pure_ok hP ht (e := fun
    | [x, y, z] => match A.dec x with
      | some a => match B.dec y with
        | some b => match C.dec z with
          | some c => (g a b c).eval.map R.enc
          | none => none
        | none => none
      | none => none
    | _ => none) (fun args H => by
      rcases args with _ | ⟨x, _ | ⟨y, _ | ⟨z, _ | ⟨u, r⟩⟩⟩⟩
      · rfl
      · rfl
      · rfl
      · simp only [fn3]
        cases A.dec x with
        | none => rfl
        | some a =>
          cases B.dec y with
          | none => rfl
          | some b =>
            cases C.dec z with
            | none => rfl
            | some c => exact leaf_bind R H _
      · rfl) fun args v he => by
    split at he
    · rename_i x y z
      split at he
      · rename_i a ha
        split at he
        · rename_i b hb
          split at he
          · rename_i c hc
            cases hg : (g a b c).eval with
            | none => simp [hg] at he
            | some r =>
              simp only [hg, Option.map_some, Option.some.injEq] at he
              subst he
              obtain ⟨k, hk⟩ := h a b c r hg
              rw [A.inv ha, B.inv hb, C.inv hc]
              exact ⟨by simp [A.fl, B.fl, C.fl], R.fl _, k, hk⟩
          · cases he
        · cases he
      · cases he
    · cases he

/-! Without branches. -/
theorem fn1_t (hP : Okay P) {tab : Tab} (ht : TabOK P tab) {f : FuncId} {A : Ty α} {R : Rs ρ} {g : α → ρ}
    (h : ∀ a, ∃ k, runS P tab k f [A.enc a] = some (R.enc (g a))) : EntOK P f (CE.ent (fn1 A R fun a => .leaf (g a))) :=
  fn1_ok hP ht fun a r hr => by cases hr; exact h a
theorem fn2_t (hP : Okay P) {tab : Tab} (ht : TabOK P tab) {f : FuncId} {A : Ty α} {B : Ty β} {R : Rs ρ} {g : α → β → ρ}
    (h : ∀ a b, ∃ k, runS P tab k f [A.enc a, B.enc b] = some (R.enc (g a b))) : EntOK P f (CE.ent (fn2 A B R fun a b => .leaf (g a b))) :=
  fn2_ok hP ht fun a b r hr => by cases hr; exact h a b
theorem fn3_t (hP : Okay P) {tab : Tab} (ht : TabOK P tab) {f : FuncId} {A : Ty α} {B : Ty β} {C : Ty γ} {R : Rs ρ} {g : α → β → γ → ρ}
    (h : ∀ a b c, ∃ k, runS P tab k f [A.enc a, B.enc b, C.enc c] = some (R.enc (g a b c))) : EntOK P f (CE.ent (fn3 A B C R fun a b c => .leaf (g a b c))) :=
  fn3_ok hP ht fun a b c r hr => by cases hr; exact h a b c

/-! A function's own code in place of a contract. -/
def inl (P : Program) (tab : Tab) (k : Nat) (f : FuncId) : CE := fun args H => callS P (hkP P) (tabK tab) k f args H fun v H' => .leaf (v, H')
theorem inl_eq (tab : Tab) (k : Nat) (f : FuncId) (args : List Value) (H : Heap) : CE.ent (inl P tab k f) args H = stepC P (tabC tab.ents) k f args H := by
  unfold CE.ent inl
  rw [callS_eq hkP_ok (tabK_ok tab)]
  cases stepC P (tabC tab.ents) k f args H with
  | none => rfl
  | some x => rfl
theorem inl_ok (hP : Okay P) {tab : Tab} (ht : TabOK P tab) (k : Nat) (f : FuncId) : EntOK P f (CE.ent (inl P tab k f)) where
  body h := (ht.call.step hP.m hP.n k).s.body (by rw [← inl_eq]; exact h)
  runs h := (ht.call.step hP.m hP.n k).s.runs (by rw [← inl_eq]; exact h)
  vf h := (ht.call.step hP.m hP.n k).vf (by rw [← inl_eq]; exact h)
end Go.Vm

namespace Go.Vm
variable {P : Program}

def inTab : Tab → Nat → Bool
  | [], _ => false
  | (g, _) :: r, f => match g.beq f with
    | true => true
    | false => inTab r f
def tabV : Tab → CallFn
  | [], _, _, _ => none
  | (g, c) :: r, f, args, H => match g.beq f with
    | true => (c args H).eval
    | false => tabV r f args H
theorem tabV_eq : ∀ (t : Tab), tabV t = tabC t.ents
  | [] => rfl
  | (g, c) :: r => by
    funext f args H
    simp only [tabV, Tab.ents, List.map_cons, tabC, CE.ent]
    cases g.beq f with
    | true => rfl
    | false => simp only; rw [tabV_eq r]; rfl
/-- Calls: by the table where it has the function, else by the function's own code. -/
def callT (P : Program) (tab : Tab) (k : Nat) : Nat → CallFn
  | 0, f, args, H => tabV tab f args H
  | n + 1, f, args, H => match inTab tab f with
    | true => tabV tab f args H
    | false => stepC P (callT P tab k n) k f args H
theorem callT_ok (hP : Okay P) {tab : Tab} (ht : TabOK P tab) (k : Nat) : ∀ n, CallOK P (callT P tab k n)
  | 0 => by
    have := ht.call
    rw [← tabV_eq] at this
    exact this
  | n + 1 => by
    have h1 := ht.call
    rw [← tabV_eq] at h1
    have h2 := (callT_ok hP ht k n).step hP.m hP.n k
    refine ⟨⟨fun {f args H v H'} hr => ?_, fun {f args H v H'} hr => ?_⟩, fun {f args H v H'} hr => ?_⟩
    all_goals
      simp only [callT] at hr
      split at hr
    · exact h1.s.body hr
    · exact h2.s.body hr
    · exact h1.s.runs hr
    · exact h2.s.runs hr
    · exact h1.vf hr
    · exact h2.vf hr
/-- A function without arguments that hands over numbers: what it hands over, shown by one closed run. -/
theorem callT_pure {ρ : Type} (hP : Okay P) {tab : Tab} (ht : TabOK P tab) (k n : Nat) {f : FuncId} {R : Rs ρ} {x : ρ} (h : (stepC P (callT P tab k n) k f [] heap0).map (·.1) = some (R.enc x)) : EntOK P f (CE.ent (fn0 R x)) := by
  have := pureE_ok (P := P) (callT_ok hP ht k n) hP.m hP.n (f := f) (e := fun
    | [] => some (R.enc x)
    | _ => none) fun args v he => by
      split at he
      · cases he
        cases hs : stepC P (callT P tab k n) k f [] heap0 with
        | none => rw [hs] at h; cases h
        | some y =>
          rw [hs] at h
          simp only [Option.map_some, Option.some.injEq] at h
          exact ⟨rfl, R.fl _, k, y.2, by rw [hs, ← h]⟩
      · cases he
  have e1 : CE.ent (fn0 R x) = pureE (fun
    | [] => some (R.enc x)
    | _ => none) := by
    funext args H
    cases args <;> rfl
  rw [e1]; exact this
end Go.Vm

namespace Go.Vm
variable {P : Program}

/-- A small heap's blocks as blocks of a greater one. -/
def sr (n : Nat) (ρ : Nat → Nat) : Sg := fun b => if b < n then some (ρ b, 0, 0) else none
def sc (n : Nat) (ρ : Nat → Nat) (σ : Sg) : Sg := fun b => if b < n then σ (ρ b) else none
theorem sr_some {n : Nat} {ρ : Nat → Nat} {b r d s : Nat} (h : sr n ρ b = some (r, d, s)) : b < n ∧ r = ρ b ∧ d = 0 ∧ s = 0 := by
  unfold sr at h
  split at h
  · simp only [Option.some.injEq, Prod.mk.injEq] at h
    exact ⟨by assumption, h.1.symm, h.2.1.symm, h.2.2.symm⟩
  · cases h
theorem VR.comp {n : Nat} {ρ : Nat → Nat} {σ : Sg} {v0 v v' : Value} (h : VR (sr n ρ) v0 v) (h2 : VR σ v v') : VR (sc n ρ σ) v0 v' := by
  induction h generalizing v' with
  | plain hp => rw [h2.plain_eq hp]; exact .plain hp
  | ptr hb =>
    obtain ⟨h1, rfl, rfl, rfl⟩ := sr_some hb
    obtain ⟨b1, off1, r, d, s, he, hs, rfl⟩ := h2.ptr_inv
    simp only [Addr.mk.injEq, and_true] at he
    obtain ⟨rfl, rfl⟩ := he
    rw [Nat.zero_add]
    exact .ptr (s := s) (by simp only [sc, h1, if_true]; exact hs)
  | slice hb =>
    obtain ⟨h1, rfl, rfl, rfl⟩ := sr_some hb
    obtain ⟨b1, off1, r, d, s, he, hs, rfl⟩ := h2.slice_inv
    simp only [Addr.mk.injEq, and_true] at he
    obtain ⟨rfl, rfl⟩ := he
    rw [Nat.zero_add, Nat.add_zero]
    exact .slice (by simp only [sc, h1, if_true]; exact hs)
  | map hb =>
    obtain ⟨h1, rfl, _, rfl⟩ := sr_some hb
    obtain ⟨r, s, hs, rfl⟩ := h2.map_inv
    exact .map (s := s) (by simp only [sc, h1, if_true]; exact hs)
  | func ha hc _ _ i1 i2 =>
    cases h2 with
    | plain hp => simp [Vm.plain] at hp
    | func ha' hc' h1 h2 =>
      refine .func (ha.trans ha') (hc.trans hc') (fun i u u' x y => ?_) (fun i u u' x y => ?_)
      · have hi := (Array.getElem?_eq_some_iff.1 x).1
        exact i1 i u _ x (Array.getElem?_eq_getElem (by omega)) (h1 i _ u' (Array.getElem?_eq_getElem (by omega)) y)
      · have hi := (Array.getElem?_eq_some_iff.1 x).1
        exact i2 i u _ x (Array.getElem?_eq_getElem (by omega)) (h2 i _ u' (Array.getElem?_eq_getElem (by omega)) y)
  | agg hs _ ih =>
    cases h2 with
    | plain hp => simp [Vm.plain] at hp
    | agg hs' h1 =>
      refine .agg (hs.trans hs') fun i u u' x y => ?_
      have hi := (Array.getElem?_eq_some_iff.1 x).1
      exact ih i u _ x (Array.getElem?_eq_getElem (by omega)) (h1 i _ u' (Array.getElem?_eq_getElem (by omega)) y)
  | tuple hs _ ih =>
    cases h2 with
    | plain hp => simp [Vm.plain] at hp
    | tuple hs' h1 =>
      refine .tuple (hs.trans hs') fun i u u' x y => ?_
      have hi := (Array.getElem?_eq_some_iff.1 x).1
      exact ih i u _ x (Array.getElem?_eq_getElem (by omega)) (h1 i _ u' (Array.getElem?_eq_getElem (by omega)) y)
theorem LR.comp {n : Nat} {ρ : Nat → Nat} {σ : Sg} {l0 l l' : List Value} (h : LR (sr n ρ) l0 l) (h2 : LR σ l l') : LR (sc n ρ σ) l0 l' := by
  refine ⟨h.len.trans h2.len, fun i u u' x y => ?_⟩
  have hi := (List.getElem?_eq_some_iff.1 x).1
  have e1 := h.len
  have e2 := h2.len
  exact (h.at_ i u _ x (List.getElem?_eq_getElem (by omega))).comp (h2.at_ i _ u' (List.getElem?_eq_getElem (by omega)) y)

/-- A small heap of what may only be read, within a greater one. -/
structure Emb (n : Nat) (ρ : Nat → Nat) (H0 H : Heap) : Prop where
  next : H0.next = n
  floor : H0.floor = n
  blk : ∀ b k, b < n → H0.get b = some k → ∃ cs lo cs' ro', k = .cells cs lo true ∧ H.get (ρ b) = some (.cells cs' lo ro') ∧ LR (sr n ρ) cs cs'

theorem Emb.st {n : Nat} {ρ : Nat → Nat} {H0 H : Heap} (h : Emb n ρ H0 H) {σ : Sg} {w : World} (hs : St σ H w) : St (sc n ρ σ) H0 w where
  ok b x k hx hk := by
    have hb : b < n := by
      unfold sc at hx
      split at hx
      · assumption
      · cases hx
    simp only [sc, hb, if_true] at hx
    obtain ⟨cs, lo, cs', ro', rfl, h1, h2⟩ := h.blk b k hb hk
    obtain ⟨e1, c, t, fr, e2, e3, e4, _, e6⟩ := hs.ok _ _ _ hx h1
    have hl := h2.len
    refine ⟨e1, c, t, fr, e2, by omega, fun i v hi => ?_, (fun h => nomatch h), fun z hz => (by have := e6 z hz; omega)⟩
    have hi' := (List.getElem?_eq_some_iff.1 hi).1
    obtain ⟨v', a, b⟩ := e4 i _ (List.getElem?_eq_getElem (show i < cs'.length by omega))
    exact ⟨v', a, (h2.at_ i v _ hi (List.getElem?_eq_getElem (by omega))).comp b⟩
  lt b x hx := by
    unfold sc at hx
    split at hx
    · rw [h.next]; exact ⟨by assumption, (hs.lt _ _ hx).2⟩
    · cases hx
  inj b b' x x' hne hx hx' he hw := by
    exfalso
    have hb : b < n := by
      unfold sc at hx
      split at hx
      · assumption
      · cases hx
    obtain ⟨k, hk⟩ := hw.some
    obtain ⟨cs, lo, cs', ro', rfl, h1, h2⟩ := h.blk b k hb hk
    unfold WR at hw
    rw [hk] at hw
    cases hw

theorem Emb.grow {n : Nat} {ρ : Nat → Nat} {H0 H : Heap} (h : Emb n ρ H0 H) {σ σ' : Sg} {H' : Heap} {w w' : World} (hs : Stp (sc n ρ σ) H0 w σ' H' w') : Grow w w' where
  os := hs.os
  tape := hs.tape
  output := hs.output
  size := hs.size
  frame r hr := hs.frame r hr fun ⟨b, x, hf, hw, hx, _⟩ => by
    unfold sc at hx
    split at hx
    · rw [h.floor] at hf; omega
    · cases hx

/-- From what may be read to numbers: what comes is shown by a run from a small heap. -/
theorem ro_ok (hP : Okay P) {tab : Tab} (ht : TabOK P tab) {f : FuncId} {c : CE}
    (h : ∀ args H v H', (c args H).eval = some (v, H') → H' = H ∧ flat2 v = true ∧ ∃ n ρ args0 H0 k, LR (sr n ρ) args0 args ∧ Emb n ρ H0 H ∧ (runT P (hkP P) (tabK tab) k f args0 H0).eval = some v) : EntOK P f (CE.ent c) where
  body {args H v H'} hr := by
    obtain ⟨_, _, n, ρ, args0, H0, k, _, _, hk⟩ := h args H v H' hr
    obtain ⟨H1, hk⟩ := step_of_callS hkP_ok (tabK_ok tab) hk
    exact (ht.call.step hP.m hP.n k).s.body hk
  runs {args H v H'} hr σ w args' hl hst := by
    obtain ⟨rfl, hv, n, ρ, args0, H0, k, h1, h2, hk⟩ := h args H v H' hr
    obtain ⟨H1, hk⟩ := step_of_callS hkP_ok (tabK_ok tab) hk
    refine ((ht.call.step hP.m hP.n k).s.runs hk _ w args' (h1.comp hl) (h2.st hst)).mono ?_
    rintro e w' ⟨v', σ', rfl, h3, h4, h5⟩
    have hg := h2.grow h5
    refine ⟨v, σ, by rw [h3.flat2_eq hv], VR.of_flat2 hv, hg.st hst, hg.stp hst⟩
  vf {args H v H'} hr := by
    obtain ⟨rfl, _⟩ := h args H v H' hr
    exact VF.refl
end Go.Vm

namespace Go.Vm
open Go.RowKit
variable {P : Program}

/-- What a run answers, the machine answers; what was there before is as it was. -/
theorem run_calls (hP : Okay P) {tab : Tab} (ht : TabOK P tab) {k : Nat} {f : FuncId} {args : List Value} {H : Heap} {v : Value} (h : (runT P (hkP P) (tabK tab) k f args H).eval = some v) (hv : flat2 v = true) (hf : H.next ≤ H.floor)
    {σ : Sg} {W : World} {args' : Array Value} (hl : LR σ args args'.toList) (hst : St σ H W) : Calls P f args' W fun e W' => e = .returned v ∧ Below W.heap.size W W' := by
  obtain ⟨H1, hk⟩ := step_of_callS hkP_ok (tabK_ok tab) h
  refine ((ht.call.step hP.m hP.n k).s.runs hk σ W args' hl hst).mono ?_
  rintro e w' ⟨v', σ', rfl, h3, h4, h5⟩
  refine ⟨by rw [h3.flat2_eq hv], h5.os, h5.tape, h5.output, h5.size, fun r hr => h5.frame r hr ?_⟩
  rintro ⟨b, x, h1, _, h2, _⟩
  have := (hst.lt b x h2).1
  omega

theorem Heap.get_new0 (l : List Value) (b : Nat) : (⟨(PT.leaf : PT Blk).set 0 (some (.cells l none true)), 1, 1⟩ : Heap).get b = if b = 0 then some (.cells l none true) else none := by
  unfold Heap.get
  rw [PT.get_set]
  rfl
def sg1 (r d : Nat) : Sg := fun b => if b = 0 then some (r, d, 0) else none
/-- One slice's cells. -/
theorem st_one {W : World} {r d : Nat} {l : List Value} {c : Array Value} {t : TypeId} {fr : Nat × Nat} (hh : W.heap[r]? = some (.cells c t fr)) (hd : d + l.length ≤ c.size) (hp : l.all plain = true)
    (hc : ∀ (i : Nat) v, l[i]? = some v → c[d + i]? = some v) : St (sg1 r d) ⟨(PT.leaf : PT Blk).set 0 (some (.cells l none true)), 1, 1⟩ W where
  ok b x k hx hk := by
    rw [Heap.get_new0] at hk
    unfold sg1 at hx
    split at hx
    · rename_i hb
      rw [if_pos hb] at hk
      cases hx; cases hk
      refine ⟨fun _ => rfl, c, t, fr, hh, hd, fun i v hi => ⟨v, hc i v hi, .plain ?_⟩, (fun h => nomatch h), (fun z hz => nomatch hz)⟩
      exact List.all_eq_true.1 hp v (List.mem_of_getElem? hi)
    · cases hx
  lt b x hx := by
    unfold sg1 at hx
    split at hx
    · cases hx
      refine ⟨by simp_all, ?_⟩
      exact (Array.getElem?_eq_some_iff.1 hh).1
    · cases hx
  inj b b' x x' hne hx hx' _ _ := by
    unfold sg1 at hx hx'
    split at hx
    · split at hx'
      · omega
      · cases hx'
    · cases hx

/-! ### Arguments of numbers -/
theorem okWide_agg {W : World} {r : Reach} {base : Nat} {t : TypeId} {v : Value} {ts : List TypeId} (ht : P.cellTypes P.depth t = some ts) (hs : P.cellsOf t = ts.length) (ha : isAggT P t = some true) (h : Value.okWide P W r base t v) :
    ∃ cs : Array Value, v = .agg cs ∧ cs.size = ts.length ∧ ∀ (i : Nat) u x, ts[i]? = some u → cs[i]? = some x → Cell.okWide P W r base u x := by
  unfold isAggT at ha
  have key : (∃ cs, v = .agg cs ∧ cs.size = P.cellsOf t ∧ Row.okWide P W r base t cs) := by
    unfold Value.okWide at h
    split at ha
    · rename_i he; rw [he] at h; exact h
    · rename_i he; rw [he] at h; exact h
    · cases ha
    · cases ha
  obtain ⟨cs, rfl, h1, ts', h2, _, h3⟩ := key
  rw [ht] at h2
  cases h2
  refine ⟨cs, rfl, by rw [h1, hs], fun i u x hu hx => ?_⟩
  obtain ⟨u', hu', hc⟩ := h3 i x hx
  have hi := (List.getElem?_eq_some_iff.1 hu).1
  rw [Nat.mod_eq_of_lt hi, hu] at hu'
  cases hu'
  exact hc
theorem cell_int {W : World} {r : Reach} {base : Nat} {u : TypeId} {k : IntKind} {x : Value} (hu : P.underlying u = some (.int k)) (h : Cell.okWide P W r base u x) : ∃ n, x = .int k n ∧ k.min ≤ n ∧ n ≤ k.max := by
  simp only [Cell.okWide, hu, Cell.ok] at h
  cases x with
  | int k' n =>
    simp only at h
    obtain ⟨rfl, h⟩ := h
    exact ⟨n, rfl, h.1, h.2⟩
  | _ => simp at h

/-- A value of numbers of one kind. -/
theorem okWide_uni {W : World} {r : Reach} {base : Nat} {t u : TypeId} {k : IntKind} {n : Nat} {v : Value} (ht : P.cellTypes P.depth t = some (List.replicate n u)) (hs : P.cellsOf t = n) (ha : isAggT P t = some true) (hu : P.underlying u = some (.int k))
    (h : Value.okWide P W r base t v) : ∃ f : Nat → Int, v = .agg (cellsI k f 0 n).toArray ∧ ∀ j, j < n → k.min ≤ f j ∧ f j ≤ k.max := by
  obtain ⟨cs, rfl, h1, h2⟩ := okWide_agg ht (by simpa using hs) ha h
  simp only [List.length_replicate] at h1
  have hcell : ∀ i (hi : i < n), ∃ m, cs[i]? = some (.int k m) ∧ k.min ≤ m ∧ m ≤ k.max := fun i hi => by
    obtain ⟨m, hm, h⟩ := cell_int hu (h2 i u cs[i] (by simp [hi]) (Array.getElem?_eq_getElem (by omega)))
    exact ⟨m, by rw [Array.getElem?_eq_getElem (by omega), hm], h⟩
  refine ⟨selInt cs.toList, ?_, fun j hj => ?_⟩
  · congr 1
    apply Array.toList_inj.1
    simp only
    apply List.ext_getElem?
    intro i
    by_cases hi : i < n
    · obtain ⟨m, hm, _⟩ := hcell i hi
      rw [cellsI_get _ _ _ _ _ hi, Nat.zero_add]
      unfold selInt
      rw [nth_eq]
      simp [hm]
    · rw [List.getElem?_eq_none (by simp; omega), List.getElem?_eq_none (by rw [cellsI_len]; omega)]
  · obtain ⟨m, hm, h⟩ := hcell j hj
    unfold selInt
    rw [nth_eq]
    simpa [hm] using h
end Go.Vm

