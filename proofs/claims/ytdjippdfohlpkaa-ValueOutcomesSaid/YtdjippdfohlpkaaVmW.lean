/- A verified interpreter: closed runs in which a table stands for some of the functions. -/
import Derived.Test.YtdjippdfohlpkaaVmV
namespace Go.Vm
variable {P : Program}

def inTab : Tab → Nat → Bool
  | [], _ => false
  | (g, _) :: r, f => match g.beq f with
    | true => true
    | false => inTab r f
def tabV : Tab → CallFn
  | [], _, _, _ => none
  | (g, c) :: r, f, args, H => match g.beq f with
    | true => (c args H).eval
    | false => tabV r f args H
theorem tabV_eq : ∀ (t : Tab), tabV t = tabC t.ents
  | [] => rfl
  | (g, c) :: r => by
    funext f args H
    simp only [tabV, Tab.ents, List.map_cons, tabC, CE.ent]
    cases g.beq f with
    | true => rfl
    | false => simp only; rw [tabV_eq r]; rfl
/-- Calls: by the table where it has the function, else by the function's own code. -/
def callT (P : Program) (tab : Tab) (k : Nat) : Nat → CallFn
  | 0, f, args, H => tabV tab f args H
  | n + 1, f, args, H => match inTab tab f with
    | true => tabV tab f args H
    | false => stepC P (callT P tab k n) k f args H
theorem callT_ok (hP : Okay P) {tab : Tab} (ht : TabOK P tab) (k : Nat) : ∀ n, CallOK P (callT P tab k n)
  | 0 => by
    have := ht.call
    rw [← tabV_eq] at this
    exact this
  | n + 1 => by
    have h1 := ht.call
    rw [← tabV_eq] at h1
    have h2 := (callT_ok hP ht k n).step hP.m hP.n k
    refine ⟨⟨fun {f args H v H'} hr => ?_, fun {f args H v H'} hr => ?_⟩, fun {f args H v H'} hr => ?_⟩
    all_goals
      simp only [callT] at hr
      split at hr
    · exact h1.s.body hr
    · exact h2.s.body hr
    · exact h1.s.runs hr
    · exact h2.s.runs hr
    · exact h1.vf hr
    · exact h2.vf hr
/-- A function without arguments that hands over numbers: what it hands over, shown by one closed run. -/
theorem callT_pure {ρ : Type} (hP : Okay P) {tab : Tab} (ht : TabOK P tab) (k n : Nat) {f : FuncId} {R : Rs ρ} {x : ρ} (h : (stepC P (callT P tab k n) k f [] heap0).map (·.1) = some (R.enc x)) : EntOK P f (CE.ent (fn0 R x)) := by
  have := pureE_ok (P := P) (callT_ok hP ht k n) hP.m hP.n (f := f) (e := fun
    | [] => some (R.enc x)
    | _ => none) fun args v he => by
      split at he
      · cases he
        cases hs : stepC P (callT P tab k n) k f [] heap0 with
        | none => rw [hs] at h; cases h
        | some y =>
          rw [hs] at h
          simp only [Option.map_some, Option.some.injEq] at h
          exact ⟨rfl, R.fl _, k, y.2, by rw [hs, ← h]⟩
      · cases he
  have e1 : CE.ent (fn0 R x) = pureE (fun
    | [] => some (R.enc x)
    | _ => none) := by
    funext args H
    cases args <;> rfl
  rw [e1]; exact this
end Go.Vm
