/- A verified interpreter: code without draws, and calls. -/
import Derived.Test.YtdjippdfohlpkaaVmK
import Derived.LoopN
import Derived.Scope
import Derived.Tactics
namespace Go.Vm
variable {P : Program}

/-- What a call must do. -/
structure CallS (P : Program) (call : CallFn) : Prop where
  body : ∀ {f args H v H'}, call f args H = some (v, H') → ∃ fn c, P.funcs[f]? = some fn ∧ fn.body = some c
  runs : ∀ {f args H v H'}, call f args H = some (v, H') → ∀ (σ : Sg) (w : World) (args' : Array Value), LR σ args args'.toList → St σ H w →
    Calls P f args' w fun e w' => ∃ v' σ', e = .returned v' ∧ VR σ' v v' ∧ St σ' H' w' ∧ Stp σ H w σ' H' w'

/-- No function of the program is the one that the machine treats by its name. -/
def NamesOk (P : Program) : Prop := ∀ (f : Nat) fn, P.funcs[f]? = some fn → fn.body.isSome = true → (fn.name == "runtime.NumGoroutine") = false

theorem callee_inv {σ : Sg} {f f' : Value} {vs : List Value} {vs' : Array Value} {g : FuncId} {as : List Value} (h : calleeOf f vs = some (g, as)) (hf : VR σ f f') (hv : LR σ vs vs'.toList) :
    ∃ first captured, f' = .func (.func g) first captured ∧ LR σ as (first ++ vs' ++ captured).toList := by
  unfold calleeOf at h
  split at h
  · rename_i fi ca
    simp only [Option.some.injEq, Prod.mk.injEq] at h
    obtain ⟨rfl, rfl⟩ := h
    cases hf with
    | plain h => simp [plain] at h
    | func ha hc h1 h2 =>
      refine ⟨_, _, rfl, ?_⟩
      simp only [Array.toList_append]
      refine ((LR.append ?_ hv).append ?_)
      · exact ⟨by simpa using ha, fun i v v' a b => h1 i v v' (by simpa using a) (by simpa using b)⟩
      · exact ⟨by simpa using hc, fun i v v' a b => h2 i v v' (by simpa using a) (by simpa using b)⟩
  · cases h

/-- A call, met in the machine. -/
theorem call_wp {call : CallFn} (hc : CallS P call) (hN : NamesOk P) {o : Oper} {f : Operand} {args : Array Operand} {at_ : Array TypeId} (ho : o.op = .call ⟨.value f, args, at_⟩)
    {T : Frm} {H H' : Heap} {v : Value} (h : oCall f args.toList call T H = some (v, H')) {σ : Sg} {a b : Act} {w : World} (hfr : FR σ T a.tmps) (hst : St σ H w) (hab : execOp b.eval o = execOp a.eval o)
    {K : Act → World → Prop} {Q : Exit → Act → World → Prop} (hK : ∀ v' w' σ', VR σ' v v' → St σ' H' w' → Stp σ H w σ' H' w' → K (b.put o.dst v') w') : o.wp P b w K Q := by
  unfold oCall at h
  split at h
  · rename_i fv vs hf hv
    split at h
    · rename_i g as hg
      have hrf := evO_sound hfr hf
      have hrv := evL_sound hfr hv
      obtain ⟨first, captured, e, hl⟩ := callee_inv (vs' := args.map a.eval) hg hrf (by simpa using hrv)
      obtain ⟨fn, c, hfn, hb⟩ := hc.body h
      have hname : ¬ fn.name = "runtime.NumGoroutine" := by simpa using hN g fn hfn (by simp [hb])
      have hrun : (execOp a.eval o).run P w = .ok (.enter g (first ++ args.map a.eval ++ captured)) w := by
        simp [execOp, ho, resolve, e, Deferred.ofValue, invoke, callFunc, hfn, hname, hb]
      unfold Oper.wp
      rw [hab, hrun]
      refine (hc.runs h σ w _ hl hst).mono ?_
      rintro e w' ⟨v', σ', rfl, h1, h2, h3⟩
      exact hK v' w' σ' h1 h2 h3
    · cases h
  · cases h

/-- Every operation, met in the machine. -/
theorem op_wp {call : CallFn} (hc : CallS P call) (hN : NamesOk P) {o : Oper} {T : Frm} {H H' : Heap} {v : Value} (h : (opV P o).run call T H = some (v, H')) {σ : Sg} {a : Act} {w : World} (hfr : FR σ T a.tmps) (hst : St σ H w)
    {K : Act → World → Prop} {Q : Exit → Act → World → Prop} (hK : ∀ v' w' σ', VR σ' v v' → St σ' H' w' → Stp σ H w σ' H' w' → K (a.put o.dst v') w') : o.wp P a w K Q := by
  unfold opV at h
  split at h
  · rename_i f args at_ ho
    exact call_wp hc hN ho h hfr hst rfl hK
  · obtain ⟨nx, v', w', σ', hr, hn, hv, hL⟩ := simple_sound (P := P) h σ a w hfr hst.lt (fun b x k _ hx hk => hst.ok b x k hx hk)
    have hk := hK v' w' σ' hv (hL.st hst) (hL.stp hst)
    unfold Oper.wp
    rw [hr]
    cases nx with
    | value u => simp only [nxv, Option.some.injEq] at hn; subst hn; exact hk
    | skip => simp only [nxv, Option.some.injEq] at hn; subst hn; exact hk
    | _ => simp [nxv] at hn

theorem VR.bool_right {σ : Sg} {v : Value} {b : Bool} (h : VR σ v (.bool b)) : v = .bool b := by cases h; rfl

theorem yielded_eq {σ : Sg} {ops : Array Oper} {T : Frm} {a : Act} (hfr : FR σ T a.tmps) (j : Nat) : yieldedV ops.toList T j = yielded ops a.tmps j := by
  unfold yieldedV yielded
  rw [Array.getElem?_toList]
  cases hd : (ops[j]?).bind (·.dst) with
  | none => rfl
  | some t =>
    simp only [Option.bind_some]
    have h := hfr.at_ t
    rw [Array.getD_eq_getD_getElem?] at h
    cases ht : a.tmps[t]? with
    | none =>
      simp only [ht, Option.getD_none] at h
      generalize T.get t = x at h
      cases x with
      | bool b => have := h.plain_eq rfl; simp [undef] at this
      | _ => rfl
    | some y =>
      simp only [ht, Option.getD_some] at h
      generalize T.get t = x at h
      cases y with
      | bool b => rw [h.bool_right]
      | _ =>
        cases x with
        | bool b => have := h.plain_eq rfl; cases this
        | _ => rfl

theorem wanted_eq {σ : Sg} {ops : Array Oper} {T : Frm} {a : Act} (hfr : FR σ T a.tmps) (o : Oper) : wantedV ops.toList T o = Region.wanted o (yielded ops a.tmps) := by
  unfold wantedV Region.wanted
  cases o.guard with
  | none => rfl
  | some x =>
    obtain ⟨j, want⟩ := x
    simp only [yielded_eq hfr j]
    cases yielded ops a.tmps j with
    | none => rfl
    | some b => cases b <;> cases want <;> rfl

/-- The operations of a region in the order of the text. -/
theorem ops_wp {call : CallFn} (hc : CallS P call) (hN : NamesOk P) {ops : Array Oper} {Q : Exit → Act → World → Prop} : ∀ {l : List Oper} {T T' : Frm} {H H' : Heap}, (opsV P ops.toList l).run call T H = some (T', H') →
    ∀ {σ : Sg} {a : Act} {w : World}, FR σ T a.tmps → St σ H w → a.defers = [] →
    (∀ a' w' σ', FR σ' T' a'.tmps → St σ' H' w' → Stp σ H w σ' H' w' → a'.defers = [] → Q .normal a' w') → wpList P ops Q l a w
  | [], T, T', H, H', h, σ, a, w, hfr, hst, hd, hQ => by
    simp only [opsV, Option.some.injEq, Prod.mk.injEq] at h
    obtain ⟨rfl, rfl⟩ := h
    exact hQ a w σ hfr hst (.refl hst.lt) hd
  | o :: r, T, T', H, H', h, σ, a, w, hfr, hst, hd, hQ => by
    simp only [opsV, stepV] at h
    split at h
    · rename_i hw
      rw [wanted_eq hfr] at hw
      split at h
      · rename_i v H1 hop
        rw [forceV_eq] at h
        split at h
        · rename_i T1 hp
          simp only [wpList, hw, if_true]
          refine .inl (op_wp hc hN hop hfr hst fun v' w' σ' hv hst' hstp => ?_)
          exact ops_wp hc hN h ((hfr.mono (hstp.mono fun b x hb => (hst.lt b x hb).1)).put hp hv) hst' (by rw [put_defers]; exact hd) fun a2 w2 σ2 h1 h2 h3 h4 => hQ a2 w2 σ2 h1 h2 (hstp.trans h3) h4
        · cases h
      · cases h
    · rename_i hw
      rw [wanted_eq hfr] at hw
      split at h
      · rename_i T1 hp
        simp only [wpList]
        rw [if_neg hw]
        exact ops_wp hc hN h (hfr.put hp .undef) hst (by rw [put_defers]; exact hd) hQ
      · cases h

def Ex.out : Ex → Exit
  | .normal => .normal
  | .exit id => .exit id
  | .ret => .ret

/-- What is asked of a piece of code that the interpreter has run. -/
def CodeS (P : Program) (run : Frm → Heap → CodeR) (c : Code) : Prop :=
  ∀ {T H ex T' H'}, run T H = some (ex, T', H') → ∀ {σ : Sg} {a : Act} {w : World} {Q : Exit → Act → World → Prop}, FR σ T a.tmps → St σ H w → a.defers = [] →
    (∀ a' w' σ', FR σ' T' a'.tmps → St σ' H' w' → Stp σ H w σ' H' w' → a'.defers = [] → Q ex.out a' w') → c.wp P Q a w

/-- What is asked of the regions that draw their order. -/
def DrawS (P : Program) (call : CallFn) : Prop :=
  ∀ (id : Nat) (ops : Array Oper), CodeS P (fun T H => asCode (regionD P ops.toList call T H)) (.region id ops true)

theorem asCode_some {r : Option (Frm × Heap)} {ex : Ex} {T' : Frm} {H' : Heap} (h : asCode r = some (ex, T', H')) : ex = .normal ∧ r = some (T', H') := by
  cases r with
  | none => simp [asCode] at h
  | some x => simp only [asCode, Option.some.injEq, Prod.mk.injEq] at h; exact ⟨h.1.symm, by rw [← h.2.1, ← h.2.2]⟩

theorem seq_wp {x y : Code} {f g : Frm → Heap → CodeR} (hf : CodeS P f x) (hg : CodeS P g y) : CodeS P (seqV f g) (.seq x y) := by
  intro T H ex T' H' h σ a w Q hfr hst hd hQ
  unfold seqV at h
  split at h
  · rename_i T1 H1 h1
    refine wp_seq (hf h1 hfr hst hd fun a1 w1 σ1 f1 s1 p1 d1 => ?_)
    exact hg h f1 s1 d1 fun a2 w2 σ2 f2 s2 p2 d2 => hQ a2 w2 σ2 f2 s2 (p1.trans p2) d2
  · rename_i hn
    refine wp_seq (hf h hfr hst hd fun a1 w1 σ1 f1 s1 p1 d1 => ?_)
    have := hQ a1 w1 σ1 f1 s1 p1 d1
    cases ex with
    | normal => exact absurd h (hn _ _)
    | exit id => exact this
    | ret => exact this

theorem loop_wp {x : Code} {f : Frm → Heap → CodeR} (hf : CodeS P f x) : ∀ k, CodeS P (fun T H => loopV f k T H) (.loop x) := by
  intro k T H ex T' H' h σ a w Q hfr hst hd hQ
  refine wp_loop_rounds k ?_
  induction k generalizing T H σ a w with
  | zero => simp [loopV] at h
  | succ k ih =>
    simp only [loopV] at h
    rw [rounds_succ]
    split at h
    · rename_i T1 H1 h1
      refine hf h1 hfr hst hd fun a1 w1 σ1 f1 s1 p1 d1 => ?_
      exact ih h f1 s1 d1 fun a2 w2 σ2 f2 s2 p2 d2 => hQ a2 w2 σ2 f2 s2 (p1.trans p2) d2
    · rename_i hn
      refine hf h hfr hst hd fun a1 w1 σ1 f1 s1 p1 d1 => ?_
      have := hQ a1 w1 σ1 f1 s1 p1 d1
      cases ex with
      | normal => exact absurd h (hn _ _)
      | exit id => exact this
      | ret => exact this

theorem code_wp {call : CallFn} (hc : CallS P call) (hN : NamesOk P) (hD : DrawS P call) (k : Nat) : ∀ c : Code, CodeS P ((denC P c).run call k) c := by
  intro c
  induction c with
  | skip =>
    intro T H ex T' H' h σ a w Q hfr hst hd hQ
    simp only [denC, Option.some.injEq, Prod.mk.injEq] at h
    obtain ⟨rfl, rfl, rfl⟩ := h
    exact wp_skip (hQ a w σ hfr hst (.refl hst.lt) hd)
  | label l =>
    intro T H ex T' H' h σ a w Q hfr hst hd hQ
    simp only [denC, Option.some.injEq, Prod.mk.injEq] at h
    obtain ⟨rfl, rfl, rfl⟩ := h
    exact wp_label (hQ a w σ hfr hst (.refl hst.lt) hd)
  | exit id =>
    intro T H ex T' H' h σ a w Q hfr hst hd hQ
    simp only [denC, Option.some.injEq, Prod.mk.injEq] at h
    obtain ⟨rfl, rfl, rfl⟩ := h
    exact wp_exit (hQ a w σ hfr hst (.refl hst.lt) hd)
  | ret =>
    intro T H ex T' H' h σ a w Q hfr hst hd hQ
    simp only [denC, Option.some.injEq, Prod.mk.injEq] at h
    obtain ⟨rfl, rfl, rfl⟩ := h
    exact wp_ret (hQ a w σ hfr hst (.refl hst.lt) hd)
  | seq x y ihx ihy => exact seq_wp ihx ihy
  | cond x t e iht ihe =>
    intro T H ex T' H' h σ a w Q hfr hst hd hQ
    simp only [denC, condV] at h
    split at h
    · rename_i b hx
      have hb := (evO_sound hfr hx).bool_inv
      cases b with
      | true => exact wp_cond hb (iht h hfr hst hd hQ)
      | false => exact wp_cond hb (ihe h hfr hst hd hQ)
    · cases h
  | block id b ih =>
    intro T H ex T' H' h σ a w Q hfr hst hd hQ
    simp only [denC, blockV] at h
    split at h
    · rename_i i T1 H1 h1
      refine wp_block (ih h1 hfr hst hd fun a1 w1 σ1 f1 s1 p1 d1 => ?_)
      simp only [Ex.out, Exit.inBlock]
      split at h
      · rename_i hi
        rw [beq_dec] at hi
        simp only [Option.some.injEq, Prod.mk.injEq] at h
        obtain ⟨rfl, rfl, rfl⟩ := h
        rw [if_pos (by simpa using hi)]
        exact hQ a1 w1 σ1 f1 s1 p1 d1
      · rename_i hi
        rw [beq_dec] at hi
        simp only [Option.some.injEq, Prod.mk.injEq] at h
        obtain ⟨rfl, rfl, rfl⟩ := h
        rw [if_neg (by simpa using hi)]
        exact hQ a1 w1 σ1 f1 s1 p1 d1
    · rename_i hn
      refine wp_block (ih h hfr hst hd fun a1 w1 σ1 f1 s1 p1 d1 => ?_)
      have := hQ a1 w1 σ1 f1 s1 p1 d1
      cases ex with
      | normal => exact this
      | exit id => exact absurd h (hn _ _ _)
      | ret => exact this
  | loop b ih => exact loop_wp ih k
  | scope b ih =>
    intro T H ex T' H' h σ a w Q hfr hst hd hQ
    simp only [denC] at h
    refine wp_scope_straight (ih h hfr hst hd fun a1 w1 σ1 f1 s1 p1 d1 => ?_)
    have := hQ a1 w1 σ1 f1 s1 p1 d1
    cases ex <;> exact this
  | region id ops draw =>
    cases draw with
    | true => exact hD id ops
    | false =>
      intro T H ex T' H' h σ a w Q hfr hst hd hQ
      simp only [denC] at h
      obtain ⟨rfl, h2⟩ := asCode_some h
      exact wp_region_list (ops_wp hc hN h2 hfr hst hd fun a' w' σ' f1 s1 p1 d1 => hQ a' w' σ' f1 s1 p1 d1)
  | goto l => intro T H ex T' H' h; simp [denC] at h
  | rangeFunc f ps x y => intro T H ex T' H' h; simp [denC] at h
  | refuse why => intro T H ex T' H' h; simp [denC] at h

/-! ### Calls -/
theorem argsT_get : ∀ (vs : List Value) (t : PT Value) (i j : Nat), (argsT t i vs).get j = if i ≤ j ∧ j < i + vs.length then vs[j - i]? else t.get j
  | [], t, i, j => by simp [argsT]; intro h1 h2; omega
  | v :: r, t, i, j => by
    simp only [argsT, argsT_get r, PT.get_set, List.length_cons]
    by_cases h1 : i + 1 ≤ j ∧ j < i + 1 + r.length
    · have h2 : i ≤ j ∧ j < i + (r.length + 1) := by omega
      rw [if_pos h1, if_pos h2, show j - i = (j - (i + 1)) + 1 by omega]
      simp
    · rw [if_neg h1]
      by_cases h3 : j = i
      · subst h3
        have h2 : j ≤ j ∧ j < j + (r.length + 1) := by omega
        rw [if_pos rfl, if_pos h2]
        simp
      · have h2 : ¬ (i ≤ j ∧ j < i + (r.length + 1)) := by omega
        rw [if_neg h3, if_neg h2]

theorem FR.enter {σ : Sg} {args : List Value} {args' : Array Value} {n : Nat} (hl : LR σ args args'.toList) (hn : args.length ≤ n) :
    FR σ ⟨argsT .leaf 0 args, n⟩ (args' ++ Array.replicate (n - args'.size) undef) := by
  have hsz := hl.len
  simp only [Array.length_toList] at hsz
  refine ⟨by simp; omega, fun i => ?_⟩
  simp only [Frm.get, argsT_get, PT.get_leaf, Array.getD_eq_getD_getElem?, Nat.zero_add, Nat.sub_zero, Nat.zero_le, true_and]
  by_cases hi : i < args.length
  · rw [if_pos hi, Array.getElem?_append_left (by omega)]
    have h1 : args[i]? = some args[i] := by simp [hi]
    have h2 : args'[i]? = some (args'[i]'(by omega)) := by simp [show i < args'.size by omega]
    rw [h1, h2]
    exact hl.at_ i _ _ h1 (by simp)
  · rw [if_neg hi, Array.getElem?_append_right (by omega)]
    rw [Array.getElem?_replicate]
    split <;> exact VR.undef

theorem resultV_sound {σ : Sg} {T : Frm} {H : Heap} {w : World} {tmps : Array Value} (hfr : FR σ T tmps) (hst : St σ H w) {r : ResultVar} {v : Value} (h : resultV P T H r = some v) :
    ∃ v', ((match r with
      | .tmp t => pure (tmps.getD t undef)
      | .cell a t => do loadVar t (← asAddr (tmps.getD a undef)) : Sem Value)).run P w = .ok v' w ∧ VR σ v v' := by
  cases r with
  | tmp t =>
    simp only [resultV, Option.some.injEq] at h
    subst h
    exact ⟨_, rfl, hfr.at_ t⟩
  | cell a t =>
    simp only [resultV] at h
    split at h
    · rename_i ad had
      obtain ⟨he, hsp⟩ := addrOf_some had
      have hr := hfr.at_ a
      rw [he] at hr
      obtain ⟨b, off, rr, d, s, rfl, hσ, e⟩ := hr.ptr_inv
      obtain ⟨v', hrun, hv⟩ := loadV_sound h hσ (fun k hk => hst.ok b _ k hσ hk)
      exact ⟨v', by simp only [e, asAddr]; simpa using hrun, hv⟩
    · cases h

theorem resultsV_sound {σ : Sg} {T : Frm} {H : Heap} {w : World} {tmps : Array Value} (hfr : FR σ T tmps) (hst : St σ H w) : ∀ {rs : List ResultVar} {vs : List Value}, resultsV P T H rs = some vs →
    ∃ vs', (rs.mapM fun r => (match r with
      | .tmp t => pure (tmps.getD t undef)
      | .cell a t => do loadVar t (← asAddr (tmps.getD a undef)) : Sem Value)).run P w = .ok vs' w ∧ LR σ vs vs'
  | [], vs, h => by simp only [resultsV, Option.some.injEq] at h; subst h; exact ⟨[], rfl, .nil⟩
  | r :: rs, vs, h => by
    simp only [resultsV] at h
    split at h
    · rename_i v us hv hus
      simp only [Option.some.injEq] at h
      subst h
      obtain ⟨v', h1, h2⟩ := resultV_sound hfr hst hv
      obtain ⟨us', h3, h4⟩ := resultsV_sound hfr hst hus
      refine ⟨v' :: us', ?_, .cons h2 h4⟩
      simp only [List.mapM_cons, Sem.run_bind, h1, h3, Result.andThen_ok, Sem.run_pure]
    · cases h

/-- One call, those that it makes in its turn going by 'call'. -/
def stepC (P : Program) (call : CallFn) (k : Nat) : CallFn := fun f args H => (denF P f).run call k args H

theorem step_sound (hN : NamesOk P) (k : Nat) {call : CallFn} (ih : CallS P call) (hD : DrawS P call) : CallS P (stepC P call k) := by
  have nth_eq : ∀ (l : List Func) (i : Nat), nth l i = l[i]? := by
    intro l
    induction l with
    | nil => intro i; cases i <;> rfl
    | cons x r ihl => intro i; cases i with
      | zero => rfl
      | succ i => simp [nth, ihl]
  have key : ∀ {f args H v H'}, stepC P call k f args H = some (v, H') → ∃ fn c, P.funcs[f]? = some fn ∧ fn.body = some c ∧ args.length ≤ fn.ntmps ∧
      retV P fn.results.toList ((denC P c).run call k ⟨argsT .leaf 0 args, fn.ntmps⟩ H) = some (v, H') := by
    intro f args H v H' h
    simp only [stepC, denF] at h
    rw [nth_eq, Array.getElem?_toList] at h
    cases hf : P.funcs[f]? with
    | none => simp [hf] at h
    | some fn =>
      simp only [hf] at h
      cases hb : fn.body with
      | none => simp [hb] at h
      | some c =>
        simp only [hb] at h
        split at h
        · exact ⟨fn, c, rfl, hb, by assumption, h⟩
        · cases h
  refine ⟨fun h => let ⟨fn, c, h1, h2, _⟩ := key h; ⟨fn, c, h1, h2⟩, fun {f args H v H'} h σ w args' hl hst => ?_⟩
  obtain ⟨fn, c, hf, hb, hn, hr⟩ := key h
  refine calls_of_wp hf hb ?_
  unfold retV at hr
  have fin : ∀ {ex T H2}, (denC P c).run call k ⟨argsT .leaf 0 args, fn.ntmps⟩ H = some (ex, T, H2) → (∀ id, ex ≠ .exit id) →
      (match resultsV P T H2 fn.results.toList with
        | some [v] => some (v, H2)
        | some vs => some (.tuple vs.toArray, H2)
        | none => none) = some (v, H') → c.wp P (bodyPost P fn fun e w' => ∃ v' σ', e = .returned v' ∧ VR σ' v v' ∧ St σ' H' w' ∧ Stp σ H w σ' H' w')
        { tmps := args' ++ Array.replicate (fn.ntmps - args'.size) undef, defers := [] } w := by
    intro ex T H2 hrun hex hres
    refine code_wp ih hN (hD) k c hrun (FR.enter hl hn) hst rfl fun a' w' σ' f1 s1 p1 d1 => ?_
    cases hvs : resultsV P T H2 fn.results.toList with
    | none => simp [hvs] at hres
    | some vs =>
      obtain ⟨vs', h1, h2⟩ := resultsV_sound f1 s1 hvs
      have hrr : (results fn a'.tmps).run P w' = .ok (if h : vs'.toArray.size = 1 then vs'.toArray[0] else .tuple vs'.toArray) w' := by
        unfold results
        rw [Array.mapM_eq_mapM_toList]
        simp only [Sem.run_bind, Sem.run_map]
        erw [h1]
        rfl
      simp only [hvs] at hres
      have hout : ∃ v', (if h : vs'.toArray.size = 1 then vs'.toArray[0] else .tuple vs'.toArray) = v' ∧ VR σ' v v' ∧ H2 = H' := by
        cases vs with
        | nil =>
          have : vs' = [] := by have := h2.len; exact List.eq_nil_of_length_eq_zero (by simpa using this.symm)
          subst this
          simp only [Option.some.injEq, Prod.mk.injEq] at hres
          obtain ⟨rfl, rfl⟩ := hres
          exact ⟨_, rfl, by simp; exact VR.tupleL h2, rfl⟩
        | cons x r =>
          cases vs' with
          | nil => have := h2.len; simp at this
          | cons x' r' =>
            cases r with
            | nil =>
              have : r' = [] := by have := h2.tail.len; exact List.eq_nil_of_length_eq_zero (by simpa using this.symm)
              subst this
              simp only [Option.some.injEq, Prod.mk.injEq] at hres
              obtain ⟨rfl, rfl⟩ := hres
              exact ⟨_, rfl, by simp; exact h2.head, rfl⟩
            | cons y q =>
              cases r' with
              | nil => have := h2.tail.len; simp at this
              | cons y' q' =>
                simp only [Option.some.injEq, Prod.mk.injEq] at hres
                obtain ⟨rfl, rfl⟩ := hres
                exact ⟨_, rfl, by simp; exact VR.tupleL h2, rfl⟩
      obtain ⟨v', he, hv', rfl⟩ := hout
      rw [he] at hrr
      have hpost : a'.defers = [] ∧ ∃ v, (results fn a'.tmps).run P w' = .ok v w' ∧ (∃ v'' σ', Ending.returned v = .returned v'' ∧ VR σ' _ v'' ∧ St σ' H2 w' ∧ Stp σ H w σ' H2 w') := ⟨d1, v', hrr, v', σ', rfl, hv', s1, p1⟩
      cases ex with
      | normal => exact hpost
      | ret => exact hpost
      | exit id => exact absurd rfl (hex id)
  split at hr
  · cases hr
  · rename_i ex T H2 hne hrun
    exact fin hrun (fun id e => hne id e) hr
  · cases hr

theorem callV_sound (hN : NamesOk P) (k : Nat) (hD : ∀ n, CallS P (callV P k n) → DrawS P (callV P k n)) : ∀ n, CallS P (callV P k n)
  | 0 => ⟨fun h => by simp [callV] at h, fun h => by simp [callV] at h⟩
  | n + 1 => step_sound hN k (callV_sound hN k hD n) (hD n (callV_sound hN k hD n))
end Go.Vm
