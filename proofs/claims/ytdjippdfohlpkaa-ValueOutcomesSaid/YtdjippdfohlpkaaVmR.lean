/- A verified interpreter: contracts of functions, and tables of them. -/
import Derived.Test.YtdjippdfohlpkaaVmQ
namespace Go.Vm
variable {P : Program}

/-! ### Values without addresses -/
def flat2 : Value → Bool
  | .tuple vs => vs.toList.all flat
  | v => flat v

theorem LR.flat_eq {σ : Sg} : ∀ {l l' : List Value}, LR σ l l' → l.all flat = true → l' = l
  | [], l', h, _ => by have := h.len; simp at this; exact List.eq_nil_of_length_eq_zero this.symm
  | v :: r, [], h, _ => by have := h.len; simp at this
  | v :: r, v' :: r', h, hp => by
    simp only [List.all_cons, Bool.and_eq_true] at hp
    rw [h.head.flat_eq hp.1, h.tail.flat_eq hp.2]

theorem VR.flat2_eq {σ : Sg} {v v' : Value} (h : VR σ v v') (hp : flat2 v = true) : v' = v := by
  cases v with
  | tuple cs =>
    obtain ⟨cs', rfl, hl⟩ := h.tuple_inv
    have := hl.flat_eq hp
    congr 1
    exact Array.toList_inj.1 this
  | _ => exact h.flat_eq hp

theorem LR.of_flat {σ : Sg} : ∀ {l : List Value}, l.all flat = true → LR σ l l
  | [], _ => .nil
  | v :: r, h => by
    simp only [List.all_cons, Bool.and_eq_true] at h
    exact .cons (VR.of_flat h.1) (LR.of_flat h.2)

theorem VR.of_flat2 {σ : Sg} {v : Value} (h : flat2 v = true) : VR σ v v := by
  cases v with
  | tuple cs => exact VR.tupleL (LR.of_flat (l := cs.toList) h)
  | _ => exact VR.of_flat h

/-! ### What one call may do where it owns nothing -/
structure Grow (w w' : World) : Prop where
  os : w'.os = w.os
  tape : w'.tape = w.tape
  output : w'.output = w.output
  size : w.heap.size ≤ w'.heap.size
  frame : ∀ r, r < w.heap.size → w'.heap[r]? = w.heap[r]?

theorem Grow.st {w w' : World} (h : Grow w w') {σ : Sg} {H : Heap} (hs : St σ H w) : St σ H w' where
  ok b x k hx hk := (hs.ok b x k hx hk).mono (fun _ _ h => h) (h.frame x.1 (hs.lt b x hx).2)
  lt b x hx := ⟨(hs.lt b x hx).1, Nat.lt_of_lt_of_le (hs.lt b x hx).2 h.size⟩
  inj := hs.inj

theorem Grow.stp {w w' : World} (h : Grow w w') {σ : Sg} {H : Heap} (hs : St σ H w) : Stp σ H w σ H w' where
  next := Nat.le_refl _
  floor := rfl
  sub _ _ := rfl
  low _ _ _ := rfl
  alive _ _ h := h
  wr _ _ h := h
  os := h.os
  tape := h.tape
  output := h.output
  size := h.size
  frame r hr _ := h.frame r hr
  own _ h := .inl h
  newr b x hb hx := by have := (hs.lt b x hx).1; omega

def sg0 : Sg := fun _ => none
theorem st0 (w : World) : St sg0 heap0 w := ⟨(fun b x k h => by cases h), (fun b x h => by cases h), (fun b b' x x' _ h => by cases h)⟩

theorem Stp.grow {w w' : World} {σ' : Sg} {H' : Heap} (h : Stp sg0 heap0 w σ' H' w') : Grow w w' :=
  ⟨h.os, h.tape, h.output, h.size, fun r hr => h.frame r hr fun ⟨b, x, _, hw, _⟩ => (by obtain ⟨k, hk⟩ := hw.some; cases hk)⟩

/-- From numbers to numbers. -/
def PureS (P : Program) (f : FuncId) (args : List Value) (v : Value) : Prop :=
  ∀ w : World, Calls P f args.toArray w fun e w' => e = .returned v ∧ Grow w w'

theorem pure_of_run {call : CallFn} (hc : CallS P call) {f : FuncId} {args : List Value} {v : Value} {H' : Heap} (h : call f args heap0 = some (v, H'))
    (ha : args.all flat = true) (hv : flat2 v = true) : PureS P f args v := by
  intro w
  refine (hc.runs h sg0 w args.toArray (by simpa using LR.of_flat ha) (st0 w)).mono ?_
  rintro e w' ⟨v', σ', rfl, h1, h2, h3⟩
  exact ⟨by rw [h1.flat2_eq hv], h3.grow⟩

/-! ### Tables -/
abbrev Ent := List Value → Heap → R

/-- A contract: what stands for the calls of one function. -/
structure EntOK (P : Program) (f : FuncId) (e : Ent) : Prop where
  body : ∀ {args H v H'}, e args H = some (v, H') → ∃ fn c, P.funcs[f]? = some fn ∧ fn.body = some c
  runs : ∀ {args H v H'}, e args H = some (v, H') → ∀ (σ : Sg) (w : World) (args' : Array Value), LR σ args args'.toList → St σ H w →
    Calls P f args' w fun e w' => ∃ v' σ', e = .returned v' ∧ VR σ' v v' ∧ St σ' H' w' ∧ Stp σ H w σ' H' w'
  vf : ∀ {args H v H'}, e args H = some (v, H') → VF H H' fun _ => True

def tabC : List (Nat × Ent) → CallFn
  | [], _, _, _ => none
  | (g, e) :: r, f, args, H => match g.beq f with
    | true => e args H
    | false => tabC r f args H

theorem tabC_mem : ∀ {tab : List (Nat × Ent)} {f args H x}, tabC tab f args H = some x → ∃ e, (f, e) ∈ tab ∧ e args H = some x
  | [], f, args, H, x, h => by cases h
  | (g, e) :: r, f, args, H, x, h => by
    unfold tabC at h
    split at h
    · rename_i hb
      have := Nat.eq_of_beq_eq_true hb
      subst this
      exact ⟨e, List.mem_cons_self, h⟩
    · obtain ⟨e', h1, h2⟩ := tabC_mem h
      exact ⟨e', List.mem_cons_of_mem _ h1, h2⟩

theorem tabC_ok {tab : List (Nat × Ent)} (h : ∀ p ∈ tab, EntOK P p.1 p.2) : CallOK P (tabC tab) where
  s := ⟨fun hr => let ⟨_, h1, h2⟩ := tabC_mem hr; (h _ h1).body h2, fun hr => let ⟨_, h1, h2⟩ := tabC_mem hr; (h _ h1).runs h2⟩
  vf hr := let ⟨_, h1, h2⟩ := tabC_mem hr; (h _ h1).vf h2

/-- The calls of functions from numbers to numbers. -/
def pureE (e : List Value → Option Value) : Ent := fun args H => match e args with
  | some v => some (v, H)
  | none => none

theorem pureE_ok {call : CallFn} (hc : CallOK P call) (hm : P.follows .mixedOrders = true) (hN : NamesOk P) {f : FuncId} {e : List Value → Option Value}
    (h : ∀ args v, e args = some v → args.all flat = true ∧ flat2 v = true ∧ ∃ k H', stepC P call k f args heap0 = some (v, H')) : EntOK P f (pureE e) where
  body {args H v H'} hr := by
    unfold pureE at hr
    split at hr
    · rename_i u hu
      obtain ⟨_, _, k, H', hk⟩ := h _ _ hu
      exact (hc.step hm hN k).s.body hk
    · cases hr
  runs {args H v H'} hr σ w args' hl hst := by
    unfold pureE at hr
    split at hr
    · rename_i u hu
      simp only [Option.some.injEq, Prod.mk.injEq] at hr
      obtain ⟨rfl, rfl⟩ := hr
      obtain ⟨ha, hv, k, H', hk⟩ := h _ _ hu
      have hp := pure_of_run (hc.step hm hN k).s hk ha hv w
      have he : args' = args.toArray := by
        have := hl.flat_eq ha
        exact Array.toList_inj.1 (by simpa using this)
      rw [he]
      refine hp.mono ?_
      rintro e w' ⟨rfl, hg⟩
      exact ⟨u, σ, rfl, VR.of_flat2 hv, hg.st hst, hg.stp hst⟩
    · cases hr
  vf {args H v H'} hr := by
    unfold pureE at hr
    split at hr
    · simp only [Option.some.injEq, Prod.mk.injEq] at hr
      obtain ⟨rfl, rfl⟩ := hr
      exact VF.refl
    · cases hr

end Go.Vm
