/- A verified interpreter: equality of values of several numbers. -/
import Derived.Test.YtdjippdfohlpkaaVmT
namespace Go.Vm
variable {P : Program}

theorem pureBind {α β : Type} (s : Sem α) (f : α → Sem β) : pureRun P (s >>= f) = (pureRun P s).bind fun a => pureRun P (f a) := by
  induction s with
  | pure x => rfl
  | program k ih => exact ih P
  | mark m k ih => exact ih
  | _ => rfl

theorem pureRun_pure {α : Type} (a : α) : pureRun P (pure a) = some a := rfl
theorem pureRun_program : pureRun P program = some P := rfl
theorem pureUnderlying {t : TypeId} {d : TypeDesc} (h : P.underlying t = some d) : pureRun P (underlying t) = some d := by
  unfold underlying
  rw [pureBind, pureRun_program]
  simp only [Option.bind_some, h]
  rfl
theorem pureRun_sizeOf {t : TypeId} {n : Nat} (h : sizeT P t = some n) : pureRun P (sizeOf t) = some n := by
  unfold sizeT at h
  cases hi : P.info? t with
  | none => simp [hi] at h
  | some i =>
    simp only [hi, Option.map_some, Option.some.injEq] at h
    unfold sizeOf typeInfo
    rw [pureBind, pureBind, pureRun_program]
    simp only [Option.bind_some, hi]
    subst h
    rfl
theorem pureRun_part {t : TypeId} {cs : Array Value} {off : Nat} {v : Value} (h : partV P t cs off = some v) : pureRun P (part t cs off) = some v := by
  unfold partV isAggT at h
  cases hu : P.underlying t with
  | none => simp [hu] at h
  | some d =>
    have hagg : ∀ b, (match d with | .struct _ | .array _ _ => true | _ => false) = b → pureRun P (isAgg t) = some b := by
      intro b hb
      unfold isAgg
      rw [pureBind, pureUnderlying hu]
      subst hb
      cases d <;> rfl
    unfold part
    rw [pureBind]
    cases d <;> (simp only [hu] at h; rw [hagg _ rfl]; simp only [Option.bind_some])
    case struct fs =>
      split at h
      · rename_i hs
        simp only [Option.some.injEq] at h
        simp only [if_true, pureBind, pureRun_sizeOf hs, Option.bind_some, pureRun_pure, h]
      · rename_i he; cases he
      · cases h
    case array n e =>
      split at h
      · rename_i hs
        simp only [Option.some.injEq] at h
        simp only [if_true, pureBind, pureRun_sizeOf hs, Option.bind_some, pureRun_pure, h]
      · rename_i he; cases he
      · cases h
    all_goals (simp only [h]; rfl)

def eqFs (P : Program) (eq : TypeId → Value → Value → Option Bool) (xs ys : Array Value) : List Field → Option Bool
  | [] => some true
  | f :: r => match decide (f.name = "_") with
    | true => eqFs P eq xs ys r
    | false => match partV P f.type xs f.offset, partV P f.type ys f.offset with
      | some a, some b => match eq f.type a b, eqFs P eq xs ys r with
        | some p, some q => some (p && q)
        | _, _ => none
      | _, _ => none
def eqIs (P : Program) (eq : TypeId → Value → Value → Option Bool) (e : TypeId) (n : Nat) (xs ys : Array Value) : List Nat → Option Bool
  | [] => some true
  | i :: r => match partV P e xs (i * n), partV P e ys (i * n) with
    | some a, some b => match eq e a b, eqIs P eq e n xs ys r with
      | some p, some q => some (p && q)
      | _, _ => none
    | _, _ => none
def eqV (P : Program) : Nat → TypeId → Value → Value → Option Bool
  | 0, _, _, _ => none
  | d + 1, t, x, y => match P.underlying t, x, y with
    | some .bool, .bool a, .bool b => some (a == b)
    | some (.int _), .int k a, .int k' b => match decide (k = k') with
      | true => some (a == b)
      | false => none
    | some (.struct fs), .agg xs, .agg ys => match P.stoodInHeld t with
      | false => eqFs P (eqV P d) xs ys fs.toList
      | true => none
    | some (.array n e), .agg xs, .agg ys => match sizeT P e with
      | some s => eqIs P (eqV P d) e s xs ys (List.range n)
      | none => none
    | _, _, _ => none


abbrev EqS (P : Program) (eq : TypeId → Value → Value → Option Bool) (d : Nat) : Prop := ∀ t a b r, eq t a b = some r → pureRun P (Op.equalIn d t a b) = some r

theorem eqFs_sound {eq : TypeId → Value → Value → Option Bool} {d : Nat} (heq : EqS P eq d) (xs ys : Array Value) :
    ∀ (fs : List Field) (r : Bool), eqFs P eq xs ys fs = some r →
      pureRun P (forIn (m := Sem) fs ((none, ()) : Option Bool × Unit) fun f _ =>
            if f.name ≠ "_" then do
              let __do_lift ← part f.type xs f.offset
              let __do_lift_1 ← part f.type ys f.offset
              let __do_lift ← Op.equalIn d f.type __do_lift __do_lift_1
              if (!__do_lift) = true then pure (ForInStep.done (some false, ())) else pure (ForInStep.yield (none, ()))
            else pure (ForInStep.yield (none, ()))) = some (if r then (none, ()) else (some false, ()))
  | [], r, h => by simp only [eqFs, Option.some.injEq] at h; subst h; rfl
  | f :: fs, r, h => by
    simp only [eqFs] at h
    rw [List.forIn_cons]
    by_cases hn : f.name = "_"
    · simp only [hn, decide_true] at h
      have := eqFs_sound heq xs ys fs r h
      simpa only [hn, ne_eq, not_true_eq_false, if_false, pureBind, pureRun_pure, Option.bind_some] using this
    · simp only [hn, decide_false] at h
      split at h
      · rename_i a b ha hb
        split at h
        · rename_i p q hp hq
          simp only [Option.some.injEq] at h
          subst h
          have := eqFs_sound heq xs ys fs q hq
          simp only [hn, ne_eq, not_false_eq_true, if_true, pureBind, pureRun_part ha, pureRun_part hb, heq _ _ _ _ hp, Option.bind_some]
          cases p
          · rfl
          · simpa only [Bool.not_true, Bool.false_eq_true, if_false, pureRun_pure, Option.bind_some, Bool.true_and] using this
        · cases h
      · cases h

theorem eqIs_sound {eq : TypeId → Value → Value → Option Bool} {d : Nat} (heq : EqS P eq d) (e : TypeId) (n : Nat) (xs ys : Array Value) :
    ∀ (is : List Nat) (r : Bool), eqIs P eq e n xs ys is = some r →
      pureRun P (forIn (m := Sem) is ((none, ()) : Option Bool × Unit) fun i _ => do
            let __do_lift ← part e xs (i * n)
            let __do_lift_1 ← part e ys (i * n)
            let __do_lift ← Op.equalIn d e __do_lift __do_lift_1
            if (!__do_lift) = true then pure (ForInStep.done (some false, ()))
              else pure (ForInStep.yield (none, ()))) = some (if r then (none, ()) else (some false, ()))
  | [], r, h => by simp only [eqIs, Option.some.injEq] at h; subst h; rfl
  | i :: is, r, h => by
    simp only [eqIs] at h
    split at h
    · rename_i a b ha hb
      split at h
      · rename_i p q hp hq
        simp only [Option.some.injEq] at h
        subst h
        have := eqIs_sound heq e n xs ys is q hq
        rw [List.forIn_cons]
        simp only [pureBind, pureRun_part ha, pureRun_part hb, heq _ _ _ _ hp, Option.bind_some]
        cases p
        · rfl
        · simpa only [Bool.not_true, Bool.false_eq_true, if_false, pureRun_pure, Option.bind_some, Bool.true_and] using this
      · cases h
    · cases h

theorem eqV_sound : ∀ (d D : Nat), d ≤ D → EqS P (eqV P d) D
  | 0, _, _, _, _, _, _, h => by cases h
  | d + 1, 0, hD, _, _, _, _, _ => by omega
  | d + 1, D + 1, hD, t, x, y, r, h => by
    have ih := eqV_sound d D (by omega)
    unfold eqV at h
    split at h
    · rename_i a b hu
      simp only [Option.some.injEq] at h
      simp only [Op.equalIn, pureBind, pureUnderlying hu, Option.bind_some, pureRun_pure, h]
    · rename_i k a k' b hu
      by_cases hk : k = k'
      · simp only [hk, decide_true, Option.some.injEq] at h
        simp only [Op.equalIn, pureBind, pureUnderlying hu, Option.bind_some, hk, if_true, pureRun_pure, h]
      · simp [hk] at h
    · rename_i fs xs ys hu
      split at h
      · rename_i hs
        have := eqFs_sound ih xs ys _ _ h
        simp only [Op.equalIn, pureBind, pureUnderlying hu, Option.bind_some, pureRun_program, hs, Bool.false_eq_true, if_false]
        rw [← Array.forIn_toList, this]
        cases r <;> rfl
      · cases h
    · rename_i n e xs ys hu
      split at h
      · rename_i s hs
        have := eqIs_sound ih e s xs ys _ _ h
        simp only [Op.equalIn, pureBind, pureUnderlying hu, Option.bind_some, pureRun_sizeOf hs]
        simp only [Std.Legacy.Range.forIn_eq_forIn_range', Std.Legacy.Range.size, Nat.sub_zero, Nat.add_one_sub_one, Nat.div_one, ← List.range_eq_range']
        rw [this]
        cases r <;> rfl
      · cases h
    · cases h

/-- The table of equalities that the types give. -/
def hkP (P : Program) : Hk := ⟨fun t x y => match P.eqGuardType P.depth t && true, x.all plain && y.all plain with
  | false, true => eqV P 8 t (.agg x.toArray) (.agg y.toArray)
  | _, _ => none⟩

theorem hkP_ok : HkOK P (hkP P) := by
  have key : ∀ {t x y b}, (hkP P).eq t x y = some b → ∀ xo yo, (flat (.agg x.toArray) && flat (.agg y.toArray)) = true ∧
      (∀ op, op = .eql ∨ op = .neq → pureRun P (eqGuard op t xo yo (.agg x.toArray) (.agg y.toArray)) = some ()) ∧ pureRun P (Op.equal t (.agg x.toArray) (.agg y.toArray)) = some b := by
    intro t x y b h xo yo
    unfold hkP at h
    simp only at h
    split at h
    · rename_i hg hp
      refine ⟨by simpa [flat] using hp, ?_, eqV_sound 8 Op.maxDepth (by decide) _ _ _ _ h⟩
      intro op hop
      unfold eqGuard
      simp only [Bool.and_true] at hg
      rcases hop with rfl | rfl
      · simp only [Bool.not_true, Bool.false_eq_true, if_false, pureBind, pureRun_program, Option.bind_some, hg, Bool.not_false, if_true]; rfl
      · simp only [Bool.not_true, Bool.false_eq_true, if_false, pureBind, pureRun_program, Option.bind_some, hg, Bool.not_false, if_true]; rfl
    · cases h
  refine ⟨fun {t x y b} h xo yo => ?_, fun {t x y b} h xo yo => ?_⟩
  · obtain ⟨hf, hg, he⟩ := key h xo yo
    unfold binV
    rw [if_pos hf]
    simp only [pureBind, hg _ (.inl rfl), Option.bind_some, binOp, he, pureRun_pure, flatOnly, flat, plain, if_true]
  · obtain ⟨hf, hg, he⟩ := key h xo yo
    unfold binV
    rw [if_pos hf]
    simp only [pureBind, hg _ (.inr rfl), Option.bind_some, binOp, he, pureRun_pure, flatOnly, flat, plain, if_true]
end Go.Vm
