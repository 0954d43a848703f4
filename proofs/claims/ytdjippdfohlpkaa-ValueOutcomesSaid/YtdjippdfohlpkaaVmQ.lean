/- A verified interpreter: regions that draw their order (fourth part: the theorem); calls. -/
import Derived.Test.YtdjippdfohlpkaaVmP
namespace Go.Vm
variable {P : Program}

def opT (o : Oper) : List Nat := o.op.operands.toList.filterMap fun | .tmp t => some t | _ => none
theorem mem_opT {o : Oper} {t : Nat} : t ∈ opT o ↔ Operand.tmp t ∈ o.op.operands.toList := by
  unfold opT
  rw [List.mem_filterMap]
  constructor
  · rintro ⟨x, hx, h⟩
    cases x <;> simp at h
    subst h; exact hx
  · intro h; exact ⟨_, h, rfl⟩

def maskT (l : List Nat) (T : Frm) : Frm := ⟨l.foldl (fun p t => p.set t (some (T.get t))) .leaf, T.n⟩
theorem mask_get (T : Frm) (t : Nat) : ∀ (l : List Nat) (p : PT Value), ((l.foldl (fun p t => p.set t (some (T.get t))) p).get t) = if t ∈ l then some (T.get t) else p.get t
  | [], p => by simp
  | x :: r, p => by
    rw [List.foldl_cons, mask_get T t r]
    by_cases h : t ∈ r
    · simp [h]
    · simp only [h, if_false, PT.get_set, List.mem_cons, or_false]
      by_cases e : t = x <;> simp [e]
theorem maskT_get (l : List Nat) (T : Frm) (t : Nat) : (maskT l T).get t = if t ∈ l then T.get t else undef := by
  show (((l.foldl (fun (p : PT Value) t => p.set t (some (T.get t))) PT.leaf).get t)).getD undef = _
  rw [mask_get T t l .leaf]
  by_cases h : t ∈ l
  · simp only [h, if_true, Option.getD_some]
  · simp [h, PT.get_leaf]

def maskA (l : List Nat) (a : Act) : Act := { tmps := (Array.range a.tmps.size).map fun t => if t ∈ l then a.tmps.getD t undef else undef, defers := [] }
theorem maskA_get (l : List Nat) (a : Act) (t : Nat) : (maskA l a).tmps.getD t undef = if t ∈ l then a.tmps.getD t undef else undef := by
  simp only [maskA, Array.getD_eq_getD_getElem?, Array.getElem?_map, Array.getElem?_range]
  by_cases h : t < a.tmps.size
  · simp [h]
  · simp [h]

theorem blk_dom {σ : Sg} {v v' : Value} {b : Nat} (h : VR σ v v') (hb : b ∈ blkOf v) : ∃ x, σ b = some x := by
  cases h with
  | plain h =>
    exfalso
    unfold blkOf at hb
    split at hb <;> simp_all [plain]
  | ptr h => simp only [blkOf, List.mem_singleton] at hb; subst hb; exact ⟨_, h⟩
  | slice h => simp only [blkOf, List.mem_singleton] at hb; subst hb; exact ⟨_, h⟩
  | map h => simp only [blkOf, List.mem_singleton] at hb; subst hb; exact ⟨_, h⟩
  | _ => simp [blkOf] at hb

theorem blkO_dom {σ : Sg} {T : Frm} {a : Act} (hfr : FR σ T a.tmps) {x : Operand} {b : Nat} (hb : b ∈ blkO T x) : ∃ y, σ b = some y := by
  unfold blkO at hb
  split at hb
  · rename_i v hv; exact blk_dom (evO_sound hfr hv) hb
  · cases hb

theorem fp_dom {σ : Sg} {T : Frm} {a : Act} (hfr : FR σ T a.tmps) {o : Oper} {r wl : List Nat} (h : fpOf T o = .mem r wl) {b : Nat} (hb : b ∈ wl) : ∃ y, σ b = some y := by
  unfold fpOf at h
  split at h
  all_goals first
    | (cases h; done)
    | (simp only [Fp.mem.injEq] at h; obtain ⟨_, rfl⟩ := h; first | (cases hb; done) | exact blkO_dom hfr hb | (obtain ⟨x, _, hx⟩ := List.mem_flatMap.1 hb; exact blkO_dom hfr hx))

section
variable {call : CallFn} {ops : List Oper} {Ts : Nat → Frm} {Hs : Nat → Heap} {vs : Nat → Value} {fs : Nat → Fp} {ws : Nat → Bool} (R : Tra P call ops Ts Hs vs fs ws)
  {σ0 σ : Sg} {w0 w : World} {a : Act} {S : Nat → Bool} {j : Nat} {oj : Oper}
include R

theorem Tra.slot (N : Nx ops S j) (I : Inv ops Ts Hs vs fs σ0 w0 S σ a w) (hoj : ops[j]? = some oj) {t : Nat} (ht : t ∈ looksAt ops oj) : VR (rs σ (Hs j).next) ((Ts j).get t) (a.tmps.getD t undef) := by
  have hcut : ∀ i, i < ops.length → dsOf ops i = some t → (S i = true ↔ i < j) := by
    intro i hi hd
    by_cases e : i = j
    · subst e; simp [N.no]
    · exact R.cutT N hoj (.inl ht) hi e hd
  have hv : TSv ops Ts vs S t = (Ts j).get t := by
    rw [(R.ts (t := t) (Nat.le_of_lt N.lt)).1]
    exact LW_cut (fun i hi hd => hcut i hi hd) (Nat.le_of_lt N.lt)
  rw [← hv]
  exact I.tmp t j (Nat.le_of_lt N.lt) fun i hi hs hd => (hcut i hi hd).1 hs

theorem Tra.masked (N : Nx ops S j) (I : Inv ops Ts Hs vs fs σ0 w0 S σ a w) (hoj : ops[j]? = some oj) :
    FR (rs σ (Hs j).next) (maskT (opT oj) (Ts j)) (maskA (opT oj) a).tmps ∧ Agree oj (Ts j) (maskT (opT oj) (Ts j)) ∧ ((∀ cs b, oj.op ≠ .select cs b) → execOp a.eval oj = execOp (maskA (opT oj) a).eval oj) := by
  refine ⟨⟨?_, fun i => ?_⟩, fun t ht => ?_, fun hsel => ?_⟩
  · simp only [maskA, Array.size_map, Array.size_range, I.size, maskT]
    rw [(R.ts (t := 0) (Nat.le_of_lt N.lt)).2]
  · rw [maskT_get, maskA_get]
    by_cases h : i ∈ opT oj
    · rw [if_pos h, if_pos h]
      exact R.slot N I hoj (by simp only [looksAt]; exact List.mem_append_left _ h)
    · rw [if_neg h, if_neg h]; exact .undef
  · rw [maskT_get, if_pos (mem_opT.2 ht)]
  · refine execOp_congr oj hsel fun x hx => ?_
    cases x with
    | tmp t =>
      have := maskA_get (opT oj) a t
      rw [if_pos (mem_opT.2 (by simpa using hx))] at this
      simp only [Act.eval]
      exact this.symm
    | _ => rfl

theorem Tra.wanted (N : Nx ops S j) (I : Inv ops Ts Hs vs fs σ0 w0 S σ a w) (hoj : ops[j]? = some oj) {opsA : Array Oper} (hA : opsA.toList = ops) :
    wantedV ops (Ts j) oj = Region.wanted oj (yielded opsA a.tmps) := by
  subst hA
  unfold wantedV Region.wanted
  cases hg : oj.guard with
  | none => rfl
  | some x =>
    obtain ⟨g, want⟩ := x
    have hy : yieldedV opsA.toList (Ts j) g = yielded opsA a.tmps g := by
      unfold yieldedV yielded
      rw [Array.getElem?_toList]
      cases hd : (opsA[g]?).bind (·.dst) with
      | none => rfl
      | some t =>
        simp only [Option.bind_some]
        have h := R.slot N I hoj (t := t) (by simp only [looksAt, hg]; refine List.mem_append_right _ ?_; rw [Array.getElem?_toList, hd]; simp)
        rw [Array.getD_eq_getD_getElem?] at h
        cases ht : a.tmps[t]? with
        | none =>
          simp only [ht, Option.getD_none] at h
          generalize (Ts j).get t = x at h
          cases x with
          | bool b => have := h.plain_eq rfl; simp [undef] at this
          | _ => rfl
        | some y =>
          simp only [ht, Option.getD_some] at h
          generalize (Ts j).get t = x at h
          cases y with
          | bool b => rw [h.bool_right]
          | _ =>
            cases x with
            | bool b => have := h.plain_eq rfl; cases this
            | _ => rfl
    simp only [hy]
    cases yielded opsA a.tmps g with
    | none => rfl
    | some b => cases b <;> cases want <;> rfl

theorem Tra.blkOK (N : Nx ops S j) (I : Inv ops Ts Hs vs fs σ0 w0 S σ a w) {b : Nat} {x : Nat × Nat × Nat} {k : Blk} (hx : rs σ (Hs j).next b = some x) (hk : (Hs j).get b = some k)
    (ht : fs j = .call ∨ ∃ r wl, fs j = .mem r wl ∧ (b ∈ r ∨ b ∈ wl)) : BlkOK (rs σ (Hs j).next) w x k := by
  obtain ⟨hb, hx'⟩ := rs_some hx
  refine I.blk b x k j (Nat.le_of_lt N.lt) (fun i hi hs hki => (R.cutK N I hx' hb ht hi hki).1 hs) hx' ?_
  rw [R.hcut N I hx' hb ht, hk]

theorem Tra.st (N : Nx ops S j) (I : Inv ops Ts Hs vs fs σ0 w0 S σ a w) (hf : fs j = .call) {H : Heap} (hg : ∀ b, H.get b = (Hs j).get b) (hn : H.next = (Hs j).next) : St (rs σ (Hs j).next) H w where
  ok b x k hx hk := R.blkOK N I hx (by rw [← hg, hk]) (.inl hf)
  lt b x hx := by
    obtain ⟨hb, hx'⟩ := rs_some hx
    exact ⟨by omega, (I.dom b x hx').1⟩
  inj b b' x x' hne hx hx' he hwr := by
    obtain ⟨hb, hx⟩ := rs_some hx
    obtain ⟨hb', hx'⟩ := rs_some hx'
    rw [hg, ← R.hcut N I hx' hb' (.inl hf)]
    refine I.inj b b' x x' hne hx hx' he ?_
    rw [R.hcut N I hx hb (.inl hf), ← hg]
    exact WRo_iff.2 hwr

/-- ONE OPERATION, WHENEVER ITS TURN COMES. -/
theorem Tra.turn (hc : CallS P call) (hN : NamesOk P) (N : Nx ops S j) (I : Inv ops Ts Hs vs fs σ0 w0 S σ a w) (hoj : ops[j]? = some oj) {opsA : Array Oper} (hA : opsA.toList = ops)
    {K : Act → World → Prop} {Q : Exit → Act → World → Prop} (hK : ∀ a' w' σ', Inv ops Ts Hs vs fs σ0 w0 (Sj S j) σ' a' w' → K a' w') : wpOp P opsA Q j K a w := by
  unfold wpOp
  have hA' : opsA[j]? = some oj := by rw [← Array.getElem?_toList, hA]; exact hoj
  simp only [hA']
  have hw := R.wanted N I hoj hA
  obtain ⟨hfr, hag, hex⟩ := R.masked N I hoj
  obtain ⟨hput, hs⟩ := R.sok j oj hoj
  have hlt : Lt (rs σ (Hs j).next) (Hs j) w := fun b x hx => by
    obtain ⟨hb, hx'⟩ := rs_some hx
    exact ⟨hb, (I.dom b x hx').1⟩
  rcases hs with ⟨_, hwt, hf, H2, hrun, hH⟩ | ⟨_, hwt, hv, hf, hH⟩
  · rw [← hw, hwt, if_pos rfl]
    left
    cases hq : fs j with
    | mem r wl =>
      rw [hq] at hf hrun hH
      rw [fp_mem_simple hf.symm] at hrun
      simp only [quietB, dropF, liftF] at hrun hH
      rw [simple_congr hag] at hrun
      have hfm : fpOf (maskT (opT oj) (Ts j)) oj = .mem r wl := by rw [← fp_congr hag]; exact hf.symm
      have hsel : ∀ cs b, oj.op ≠ .select cs b := by
        intro cs b e
        rw [e] at hrun
        simp [simpleV] at hrun
      obtain ⟨nx, v', w', σ', hr, hn, hv, hL⟩ := simple_sound (P := P) hrun (rs σ (Hs j).next) (maskA (opT oj) a) w hfr hlt (fun b x k hT hx hk =>
        R.blkOK N I hx hk (.inr ⟨r, wl, hq, by simpa only [Touch, hfm] using hT⟩))
      rw [← hH] at hL
      have hWr : ∀ b, Wrs (maskT (opT oj) (Ts j)) oj b ↔ Kw ops fs j b := fun b => by simp only [Wrs, hfm, Kw, hq]
      have E : Eff ops Hs vs fs j σ σ' w w' v' := {
        v := hv
        sub := hL.sub
        lt := hL.lt
        ok := fun b x k hk hx hg => hL.ok b x k (hk.elim (fun h => .inr h.1) (fun h => .inl ((hWr b).2 h))) hx hg
        newr := fun b x hb hx => (hL.newr b x hb hx).imp id fun ⟨b0, x0, h1, h2, h3, h4, h5, _⟩ => ⟨b0, x0, (hWr b0).1 h1, (rs_some h4).1, h2, h3, (rs_some h4).2, h5⟩
        kdom := fun b x hk hx => by
          have : b ∈ wl := by simpa only [Kw, hq] using hk
          obtain ⟨y, hy⟩ := fp_dom hfr hfm this
          exact (rs_some hy).1
        wrd := fun r' wl' b hf' hb => by
          rw [hq] at hf'
          simp only [Fp.mem.injEq] at hf'
          obtain ⟨_, rfl⟩ := hf'
          obtain ⟨y, hy⟩ := fp_dom hfr hfm hb
          exact ⟨y, (rs_some hy).2⟩
        os := hL.os
        tape := hL.tape
        output := hL.output
        size := hL.size
        frame := fun r' hr' => (hL.frame r' hr').imp id fun ⟨b0, x0, h1, h2, h3, h4, h5⟩ => ⟨b0, x0, (hWr b0).1 h1, (rs_some h4).1, h2, h3, (rs_some h4).2, h5⟩ }
      have hI := R.step N I E hoj (R.stepInj N I E
        (fun b x hb hx => (hL.newr b x hb hx).imp id fun ⟨b0, x0, h1, h2, h3, h4, h5, h6⟩ => ⟨b0, x0, (hWr b0).1 h1, (rs_some h4).1, h3, (rs_some h4).2, h5, h6⟩)
        (fun b b' x x' hb hb' hne hx hx' _ _ => by
          have h1 := (hL.lt b x hx).1
          have h2 := (hL.lt b' x' hx').1
          have h3 := hL.next1
          omega))
      have hk := hK _ _ _ hI
      unfold Oper.wp
      rw [hex hsel, hr]
      cases nx with
      | value u => simp only [nxv, Option.some.injEq] at hn; subst hn; exact hk
      | skip => simp only [nxv, Option.some.injEq] at hn; subst hn; exact hk
      | _ => simp [nxv] at hn
    | call =>
      rw [hq] at hf hrun hH
      obtain ⟨f, args, at_, ho⟩ := fp_call hf.symm
      have hsel : ∀ cs b, oj.op ≠ .select cs b := by
        intro cs b e
        rw [ho] at e; cases e
      rw [op_congr hag] at hrun
      have hrun' : ∀ {H : Heap}, (opV P oj).run call (maskT (opT oj) (Ts j)) H = oCall f args.toList call (maskT (opT oj) (Ts j)) H := by
        intro H
        simp only [opV, ho]
      simp only [quietB] at hrun hH
      cases hfree : freeCall (befores ops) ops.length j with
      | true =>
        simp only [hfree, Bool.not_true, dropF, liftF] at hrun hH
        rw [hrun'] at hrun
        refine call_wp hc hN ho hrun hfr (R.st N I hq (fun _ => rfl) rfl) (hex hsel) fun v' w' σ' hv hst hstp => ?_
        rw [← hH] at hst hstp
        have hKw : ∀ b, Kw ops fs j b := fun b => by simp only [Kw, hq, hfree]
        have hkd : ∀ b x, σ b = some x → b < (Hs j).next := by
          intro b x hx
          rcases (I.dom b x hx).2 with h | ⟨i, hi, hs, _, h⟩
          · have := R.next_mono (i := 0) (j := j) (by omega) (Nat.le_of_lt N.lt); omega
          · have hij : i < j := by
              by_cases e : i = j
              · subst e; rw [N.no] at hs; cases hs
              · exact (R.cmpL N hi ((free_cmp hfree hi e).symm)).1 hs
            have := R.next_mono (i := i + 1) (j := j) (by omega) (Nat.le_of_lt N.lt); omega
        have E : Eff ops Hs vs fs j σ σ' w w' v' := {
          v := hv
          sub := hstp.sub
          lt := hst.lt
          ok := fun b x k _ hx hg => hst.ok b x k hx hg
          newr := fun b x hb hx => (hstp.newr b x hb hx).symm.imp id fun ⟨b0, x0, h1, h2, h3, h4⟩ => ⟨b0, x0, hKw b0, (rs_some h3).1, h1, h2, (rs_some h3).2, h4⟩
          kdom := fun b x _ hx => hkd b x hx
          wrd := fun r wl b h _ => by rw [hq] at h; cases h
          os := hstp.os
          tape := hstp.tape
          output := hstp.output
          size := hstp.size
          frame := fun r hr => by
            by_cases ho : Own (rs σ (Hs j).next) (Hs j) r
            · obtain ⟨b0, x0, h1, h2, h3, h4⟩ := ho
              exact .inr ⟨b0, x0, hKw b0, (rs_some h3).1, h1, h2, (rs_some h3).2, h4⟩
            · exact .inl (hstp.frame r hr ho) }
        refine hK _ _ _ (R.step N I E hoj fun b b' x x' hne hx hx' he hwr => ?_)
        have hg : ∀ {c y}, glue Hs j σ σ' c = some y → σ' c = some y := by
          intro c y hc
          simp only [glue] at hc
          split at hc
          · exact hc
          · rw [E.sub c (hkd c y hc)]
            simp [rs, hkd c y hc, hc]
        rw [R.hadd N I E hx' (.inr (hKw b'))]
        rw [R.hadd N I E hx (.inr (hKw b))] at hwr
        exact hst.inj b b' x x' hne (hg hx) (hg hx') he (WRo_iff.1 hwr)
      | false =>
        simp only [hfree, Bool.not_false, dropF, liftF] at hrun hH
        rw [hrun'] at hrun
        refine call_wp hc hN ho hrun hfr (R.st N I hq (fun _ => rfl) rfl) (hex hsel) fun v' w' σ' hv hst hstp => ?_
        have hKw : ∀ b, ¬ Kw ops fs j b := fun b => by simp only [Kw, hq, hfree]; simp
        have hown : ∀ r, ¬ Own (rs σ (Hs j).next) { (Hs j) with floor := (Hs j).next } r := by
          rintro r ⟨b0, x0, h1, _, h3, _⟩
          have := (rs_some h3).1
          have h1' : (Hs j).next ≤ b0 := h1
          omega
        have hget : ∀ b, (Hs (j + 1)).get b = H2.get b := fun b => by rw [hH]; rfl
        have hnx : (Hs (j + 1)).next = H2.next := by rw [hH]
        have E : Eff ops Hs vs fs j σ σ' w w' v' := {
          v := hv
          sub := hstp.sub
          lt := fun b x hx => by rw [hnx]; exact hst.lt b x hx
          ok := fun b x k _ hx hg => hst.ok b x k hx (by rw [← hget, hg])
          newr := fun b x hb hx => (hstp.newr b x hb hx).elim (fun h => absurd h (hown _)) .inl
          kdom := fun b x h _ => absurd h (hKw b)
          wrd := fun r wl b h _ => by rw [hq] at h; cases h
          os := hstp.os
          tape := hstp.tape
          output := hstp.output
          size := hstp.size
          frame := fun r hr => .inl (hstp.frame r hr (hown r)) }
        exact hK _ _ _ (R.step N I E hoj (R.stepInj N I E
          (fun b x hb hx => (hstp.newr b x hb hx).elim (fun h => absurd h (hown _)) .inl)
          (fun b b' x x' _ _ hne hx hx' he hwr => by
            rw [hget]
            exact hst.inj b b' x x' hne hx hx' he ((WR.congr (hget b)).1 hwr))))
  · rw [← hw, hwt, if_neg (by simp)]
    have hnx : (Hs (j + 1)).next = (Hs j).next := by rw [hH]
    have hKw : ∀ b, ¬ Kw ops fs j b := fun b => by simp [Kw, hf]
    have E : Eff ops Hs vs fs j σ (rs σ (Hs j).next) w w undef := {
      v := by rw [hv]; exact .undef
      sub := fun _ _ => rfl
      lt := fun b x hx => by rw [hnx]; exact hlt b x hx
      ok := fun b x k hk _ _ => by
        rcases hk with h | h
        · omega
        · exact absurd h (hKw b)
      newr := fun b x hb hx => by have := (rs_some hx).1; omega
      kdom := fun b x h _ => absurd h (hKw b)
      wrd := fun r wl b h hb => by rw [hf] at h; simp only [Fp.mem.injEq] at h; obtain ⟨_, rfl⟩ := h; cases hb
      os := rfl
      tape := rfl
      output := rfl
      size := Nat.le_refl _
      frame := fun r hr => .inl rfl }
    exact hK _ _ _ (R.step N I E hoj (R.stepInj N I E (fun b x hb hx => by have := (rs_some hx).1; omega) (fun b b' x x' hb _ _ hx _ _ _ => by have := (rs_some hx).1; omega)))
end

theorem countP_lt {n j : Nat} {f g : Nat → Bool} (hj : j < n) (hf : f j = true) (hg : g j = false) (hsub : ∀ i, g i = true → f i = true) :
    ((List.range n).filter g).length < ((List.range n).filter f).length := by
  rw [← List.countP_eq_length_filter, ← List.countP_eq_length_filter]
  induction n with
  | zero => omega
  | succ n ih =>
    rw [List.range_succ, List.countP_append, List.countP_append]
    by_cases e : j = n
    · subst e
      have h1 : List.countP g (List.range j) ≤ List.countP f (List.range j) := List.countP_mono_left fun i _ h => hsub i h
      simp [hf, hg]
      omega
    · have := ih (by omega)
      have h2 : List.countP g [n] ≤ List.countP f [n] := List.countP_mono_left fun i _ h => hsub i h
      omega

/-- REGIONS THAT DRAW THEIR ORDER. -/
theorem draw_wp {call : CallFn} (hm : P.follows .mixedOrders = true) (hc : CallS P call) (hcv : CallVF call) (hN : NamesOk P) : DrawS P call := by
  intro id opsA T H ex T' H' h σ a w Q hfr hst hd hQ
  obtain ⟨rfl, h2⟩ := asCode_some h
  clear h
  have h := h2
  clear h2
  generalize hops : opsA.toList = ops at h
  unfold regionD at h
  split at h
  · rename_i hok
    split at h
    · rename_i T1 H1 fs' hrun
      split at h
      · rename_i hcl
        simp only [Option.some.injEq, Prod.mk.injEq] at h
        obtain ⟨rfl, rfl⟩ := h
        obtain ⟨Ts, Hs, vs, fs, ws, hT0, hH0, hTn, hHn, hfs, hsok⟩ := opsD_trace hrun
        simp only [List.nil_append] at hfs
        have R : Tra P call ops Ts Hs vs fs ws := by
          refine ⟨hcv, fun k o ho => by have := hsok k o ho; rwa [Nat.zero_add] at this, ?_, ?_, ?_⟩
          · intro j o ho e he hb
            simp only [regionOk, Bool.and_eq_true] at hok
            have h1 := List.all_eq_true.1 hok.1 (o, j) (List.mem_zipIdx_iff_getElem?.2 ho)
            have h2 := List.all_eq_true.1 h1 e he
            simpa [hb] using h2
          · intro i j oi oj hij hoi hoj
            simp only [regionOk, Bool.and_eq_true] at hok
            have hi : i < ops.length := (List.getElem?_eq_some_iff.1 hoi).1
            have hj : j < ops.length := (List.getElem?_eq_some_iff.1 hoj).1
            have h1 := List.all_eq_true.1 (List.all_eq_true.1 hok.2 i (List.mem_range.2 hi)) j (List.mem_range.2 hj)
            simp only [hij, decide_true, Bool.not_true, Bool.false_or, hoi, hoj, cmpB, Bool.or_eq_true] at h1
            rcases h1 with (h1 | h1) | h1
            · exact .inr (.inl h1)
            · exact .inl h1
            · exact .inr (.inr h1)
          · intro i j hij hj
            have hl : fs'.length = ops.length := by rw [hfs]; simp
            have h1 := List.all_eq_true.1 (List.all_eq_true.1 hcl i (List.mem_range.2 (by omega))) j (List.mem_range.2 (by omega))
            have hfi : fs'[i]? = some (fs i) := by rw [hfs]; simp [show i < ops.length by omega]
            have hfj : fs'[j]? = some (fs j) := by rw [hfs]; simp [hj]
            simp only [hij, decide_true, Bool.not_true, Bool.false_or, hfi, hfj, cmpB, Bool.or_eq_true, Bool.not_eq_true'] at h1
            rcases h1 with (h1 | h1) | h1
            · exact .inr (.inl h1)
            · exact .inl h1
            · exact .inr (.inr h1)
        refine wp_region_any hm ?_
        -- the claim for whatever has been done
        have main : ∀ (fuel : Nat) (listed : Array Bool) (S : Nat → Bool) (σ' : Sg) (a' : Act) (w' : World), listed.size = ops.length → (∀ i, i < ops.length → listed.getD i false = S i) → (∀ i, ops.length ≤ i → S i = false) →
            Closed ops S → Inv ops Ts Hs vs fs σ w S σ' a' w' → ((List.range ops.length).filter fun i => !S i).length ≤ fuel → wpAny P .any opsA Q fuel listed a' w' := by
          intro fuel
          have hrd : ∀ {listed : Array Bool} {S : Nat → Bool}, listed.size = ops.length → (∀ i, i < ops.length → listed.getD i false = S i) → (∀ i, ops.length ≤ i → S i = false) → Closed ops S → ∀ j, j ∈ Region.ready .any opsA listed ↔ Nx ops S j := by
            intro listed S hsz hlS hbig hcS j
            have hback := R.back
            rw [mem_ready]
            constructor
            · rintro ⟨h0, o, ho, he⟩
              rw [← Array.getElem?_toList, hops] at ho
              have hj : j < ops.length := (List.getElem?_eq_some_iff.1 ho).1
              refine ⟨hj, ?_, hcS, fun o' ho' e hee hb => ?_⟩
              · rw [← hlS j hj]
                have hjs : j < listed.size := by omega
                simpa [Array.getD_eq_getD_getElem?, hjs] using h0
              · rw [ho] at ho'
                simp only [Option.some.injEq] at ho'
                subst ho'
                have h1 := he e (by simpa using hee) hb
                rw [hlS e.on (by have := hback j o ho e hee hb; omega)] at h1
                exact h1
            · intro N
              have ho : ops[j]? = some (ops[j]'N.lt) := by simp [N.lt]
              refine ⟨?_, ops[j]'N.lt, by rw [← Array.getElem?_toList, hops]; exact ho, fun e he hb => ?_⟩
              · have h1 := hlS j N.lt
                rw [N.no] at h1
                have hjs : j < listed.size := by have := N.lt; omega
                simpa [Array.getD_eq_getD_getElem?, hjs] using h1
              · have he' : e ∈ (ops[j]'N.lt).after.toList := by simpa using he
                have h1 := N.preds _ ho e he' hb
                rw [hlS e.on (by have := hback j _ ho e he' hb; have := N.lt; omega)]
                exact h1
          -- where nothing is ready all has been done
          have hall : ∀ {listed : Array Bool} {S : Nat → Bool} {σ' : Sg} {a' : Act} {w' : World}, listed.size = ops.length → (∀ i, i < ops.length → listed.getD i false = S i) → (∀ i, ops.length ≤ i → S i = false) → Closed ops S →
              Inv ops Ts Hs vs fs σ w S σ' a' w' → Region.ready .any opsA listed = [] → Q .normal a' w' := by
            intro listed S σ' a' w' hsz hlS hbig hcS I hr
            have hS : ∀ i, i < ops.length → S i = true := by
              intro i
              induction i using Nat.strongRecOn with
              | _ i ih =>
                intro hi
                cases hs : S i with
                | true => rfl
                | false =>
                  have N : Nx ops S i := ⟨hi, hs, hcS, fun o ho e he hb => ih e.on (R.back i o ho e he hb) (by have := R.back i o ho e he hb; omega)⟩
                  have := (hrd hsz hlS hbig hcS i).2 N
                  rw [hr] at this; cases this
            have hTv : ∀ t, TSv ops Ts vs S t = T1.get t := by
              intro t
              rw [← hTn, (R.ts (t := t) (Nat.le_refl _)).1]
              exact LW_congr fun i hi _ => hS i hi
            have hHv : ∀ b, b < (Hs ops.length).next → HSv ops fs Hs S b = H1.get b := by
              intro b hb
              rw [← hHn, R.hs (Nat.le_refl _) hb]
              exact LW_congr fun i hi _ => hS i hi
            have hdom : ∀ b x, σ' b = some x → b < (Hs ops.length).next ∧ x.1 < w'.heap.size := by
              intro b x hx
              obtain ⟨h1, h2⟩ := I.dom b x hx
              refine ⟨?_, h1⟩
              rcases h2 with h | ⟨i, hi, _, _, h⟩
              · have := R.next_mono (i := 0) (j := ops.length) (by omega) (Nat.le_refl _); omega
              · have := R.next_mono (i := i + 1) (j := ops.length) (by omega) (Nat.le_refl _); omega
            have hrs : ∀ b x, rs σ' (Hs ops.length).next b = some x → σ' b = some x := fun b x h => (rs_some h).2
            have hvf : ∀ m, m ≤ ops.length → VF (Hs 0) (Hs m) fun _ => True := by
              intro m
              induction m with
              | zero => intro _; exact .refl
              | succ m ih => intro hm; exact (ih (by omega)).trans ((R.vf (by omega)).mono fun _ _ => trivial)
            have hvf := hvf ops.length (Nat.le_refl _)
            refine hQ a' w' σ' ⟨?_, fun i => ?_⟩ ⟨fun b x k hx hk => ?_, fun b x hx => by rw [← hHn]; exact hdom b x hx, fun b b' x x' hne hx hx' he hwr => ?_⟩ ?_ I.defers
            · rw [I.size, ← hTn, (R.ts (t := 0) (Nat.le_refl _)).2]
            · rw [← hTv]
              exact (I.tmp i ops.length (Nat.le_refl _) fun i hi _ _ => hi).mono hrs
            · exact (I.blk b x k ops.length (Nat.le_refl _) (fun i hi _ _ => hi) hx (by rw [hHv b (hdom b x hx).1, hk])).mono hrs rfl
            · have := I.inj b b' x x' hne hx hx' he (by rw [hHv b (hdom b x hx).1]; exact WRo_iff.2 hwr)
              rwa [hHv b' (hdom b' x' hx').1] at this
            · rw [← hH0, ← hHn]
              exact {
                next := hvf.next
                floor := hvf.floor
                sub := I.sub
                low := fun b hf hb => hvf.low b hb hf
                alive := hvf.alive
                wr := hvf.wrk
                os := I.os
                tape := I.tape
                output := I.output
                size := I.wsize
                frame := I.frame
                own := fun r ⟨b, x, hf, hw, hx, hr⟩ => by
                  rw [← hr]
                  exact I.own b x (by rw [← hvf.floor]; exact hf) (by rw [hHv b (hdom b x hx).1, ← hHn]; exact WRo_iff.2 hw) hx
                newr := I.newr }
          induction fuel with
          | zero =>
            intro listed S σ' a' w' hsz hlS hbig hcS I hcnt
            have hr : Region.ready .any opsA listed = [] := by
              cases hrr : Region.ready .any opsA listed with
              | nil => rfl
              | cons j r =>
                have N := (hrd hsz hlS hbig hcS j).1 (by rw [hrr]; simp)
                have : j ∈ (List.range ops.length).filter fun i => !S i := List.mem_filter.2 ⟨List.mem_range.2 N.lt, by simp [N.no]⟩
                have := List.length_pos_of_mem this
                omega
            exact ⟨hr, hall hsz hlS hbig hcS I hr⟩
          | succ fuel ih =>
            intro listed S σ' a' w' hsz hlS hbig hcS I hcnt
            refine ⟨fun hr => hall hsz hlS hbig hcS I hr, fun j hj => ?_⟩
            have N := (hrd hsz hlS hbig hcS j).1 hj
            have hoj : ops[j]? = some (ops[j]'N.lt) := by simp [N.lt]
            refine R.turn hc hN N I hoj hops fun a2 w2 σ2 I2 => ?_
            refine ih (listed.setIfInBounds j true) (Sj S j) σ2 a2 w2 (by simpa using hsz) (fun i hi => ?_) (fun i hi => ?_) (fun k o ho hs e he hb => ?_) I2 ?_
            · by_cases e : i = j
              · subst e
                have : i < listed.size := by omega
                simp [Sj, Array.getD_eq_getD_getElem?, this]
              · rw [getD_set_ne false (fun h => e h.symm), hlS i hi]
                simp [Sj, e]
            · have : i ≠ j := by have := N.lt; omega
              simp [Sj, hbig i hi, this]
            · have hk : k < ops.length := (List.getElem?_eq_some_iff.1 ho).1
              simp only [Sj, Bool.or_eq_true, decide_eq_true_eq] at hs ⊢
              rcases hs with hs | hs
              · exact .inl (hcS k o ho hs e he hb)
              · subst hs; exact .inl (N.preds o ho e he hb)
            · have := countP_lt (n := ops.length) (j := j) (f := fun i => !S i) (g := fun i => !(Sj S j i)) N.lt (by simp [N.no]) (by simp [Sj]) (fun i h => by simp [Sj] at h ⊢; exact h.1)
              omega
        have hsz : opsA.size = ops.length := by rw [← hops]; simp
        rw [hsz]
        refine main ops.length _ (fun _ => false) σ a _ (by simp) (fun i hi => by simp [Array.getD_eq_getD_getElem?, hi]) (fun _ _ => rfl) (fun j o ho hs => by cases hs) ?_ (Nat.le_trans (List.length_filter_le _ _) (by simp))
        have hinit : ∀ {α : Type} (init : α) (W : Nat → Prop) (val : Nat → α) (n : Nat), LW init W val (fun _ => false) n = init := by
          intro α init W val n
          induction n with
          | zero => rfl
          | succ n ih => simp [LW, ih]
        have hT : ∀ t, TSv ops Ts vs (fun _ => false) t = T.get t := fun t => by rw [TSv, hinit, hT0]
        have hHg : ∀ b, HSv ops fs Hs (fun _ => false) b = H.get b := fun b => by rw [HSv, hinit, hH0]
        have hrs : ∀ m, m ≤ ops.length → ∀ b x, σ b = some x → rs σ (Hs m).next b = some x := by
          intro m hm b x hx
          have h1 := (hst.lt b x hx).1
          have h2 := R.next_mono (i := 0) (j := m) (by omega) hm
          rw [hH0] at h2
          simp only [rs, show b < (Hs m).next by omega, if_true, hx]
        exact {
          defers := hd
          size := by rw [hT0]; exact hfr.size
          tmp := fun t m hm _ => by rw [hT]; exact (hfr.at_ t).mono (hrs m hm)
          blk := fun b x k m hm _ hx hk => by rw [hHg] at hk; exact (hst.ok b x k hx hk).mono (hrs m hm) rfl
          dom := fun b x hx => ⟨(hst.lt b x hx).2, .inl (by rw [hH0]; exact (hst.lt b x hx).1)⟩
          wrd := fun i _ hs => by cases hs
          inj := fun b b' x x' hne hx hx' he hwr => by rw [hHg] at hwr ⊢; exact hst.inj b b' x x' hne hx hx' he (WRo_iff.1 hwr)
          sub := fun _ _ => rfl
          os := rfl
          tape := rfl
          output := rfl
          wsize := Nat.le_refl _
          frame := fun _ _ _ => rfl
          own := fun b x hf hwr hx => by rw [hHg] at hwr; exact .inl ⟨b, x, hf, by rw [hH0]; exact WRo_iff.1 hwr, hx, rfl⟩
          newr := fun b x hb hx => by have := (hst.lt b x hx).1; rw [hH0] at hb; omega }
      · cases h
    · cases h
  · cases h

/-- ALL CALLS. -/
theorem call_sound (hm : P.follows .mixedOrders = true) (hN : NamesOk P) (k n : Nat) : CallS P (callV P k n) :=
  callV_sound hN k (fun n h => draw_wp hm h (callV_vf k n) hN) n

/-- Calls that are sound and leave alone what they do not own. -/
structure CallOK (P : Program) (call : CallFn) : Prop where
  s : CallS P call
  vf : CallVF call

theorem CallOK.step (hm : P.follows .mixedOrders = true) (hN : NamesOk P) {call : CallFn} (h : CallOK P call) (k : Nat) : CallOK P (stepC P call k) :=
  ⟨step_sound hN k h.s (draw_wp hm h.s h.vf hN), step_vf k h.vf⟩
end Go.Vm
