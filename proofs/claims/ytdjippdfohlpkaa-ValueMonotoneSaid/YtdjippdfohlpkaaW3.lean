/- A verified interpreter: regions that draw their order (third part: one operation). A verified interpreter: regions that draw their order (fourth part: the theorem); calls. A verified interpreter: contracts of functions, and tables of them. A verified interpreter: the same over frames that are functions, in the manner of what comes next, nothing forced: for runs over symbols. A verified interpreter: runs over symbols say what the interpreter does. -/
import Derived.Test.YtdjippdfohlpkaaW2
namespace Go.Vm
variable {P : Program}

theorem LW_add' {α : Type} {init : α} {W : Nat → Prop} {val : Nat → α} {S : Nat → Bool} {j : Nat} (hw : W j) : ∀ {n : Nat}, j < n → (∀ i, i < n → i ≠ j → W i → S i = true → i < j) →
    LW init W val (fun i => S i || decide (i = j)) n = val j
  | 0, hj, _ => by omega
  | n + 1, hj, h => by
    simp only [LW]
    by_cases e : n = j
    · subst e; rw [if_pos ⟨by simp, hw⟩]
    · rw [if_neg, LW_add' hw (n := n) (by omega) fun i hi => h i (by omega)]
      rintro ⟨hs, hwn⟩
      have hs' : S n = true := by simpa [e] using hs
      have := h n (by omega) e hwn hs'
      omega

def Sj (S : Nat → Bool) (j : Nat) : Nat → Bool := fun i => S i || decide (i = j)

structure Eff (ops : List Oper) (Hs : Nat → Heap) (vs : Nat → Value) (fs : Nat → Fp) (j : Nat) (σ σ' : Sg) (w w' : World) (v' : Value) : Prop where
  v : VR σ' (vs j) v'
  sub : ∀ b, b < (Hs j).next → σ' b = rs σ (Hs j).next b
  lt : ∀ b x, σ' b = some x → b < (Hs (j + 1)).next ∧ x.1 < w'.heap.size
  ok : ∀ b x k, Kp ops fs Hs j b → σ' b = some x → (Hs (j + 1)).get b = some k → BlkOK σ' w' x k
  newr : ∀ b x, (Hs j).next ≤ b → σ' b = some x → w.heap.size ≤ x.1 ∨ ∃ b0 x0, Kw ops fs j b0 ∧ b0 < (Hs j).next ∧ (Hs j).floor ≤ b0 ∧ WR (Hs j) b0 ∧ σ b0 = some x0 ∧ x0.1 = x.1
  kdom : ∀ b x, Kw ops fs j b → σ b = some x → b < (Hs j).next
  wrd : ∀ r wl b, fs j = .mem r wl → b ∈ wl → ∃ x, σ b = some x
  os : w'.os = w.os
  tape : w'.tape = w.tape
  output : w'.output = w.output
  size : w.heap.size ≤ w'.heap.size
  frame : ∀ r, r < w.heap.size → w'.heap[r]? = w.heap[r]? ∨ ∃ b0 x0, Kw ops fs j b0 ∧ b0 < (Hs j).next ∧ (Hs j).floor ≤ b0 ∧ WR (Hs j) b0 ∧ σ b0 = some x0 ∧ x0.1 = r

def glue (Hs : Nat → Heap) (j : Nat) (σ σ' : Sg) : Sg := fun b => if (Hs j).next ≤ b ∧ b < (Hs (j + 1)).next then σ' b else σ b

section
variable {call : CallFn} {ops : List Oper} {Ts : Nat → Frm} {Hs : Nat → Heap} {vs : Nat → Value} {fs : Nat → Fp} {ws : Nat → Bool} (R : Tra P call ops Ts Hs vs fs ws)
  {σ0 σ σ' : Sg} {w0 w w' : World} {a : Act} {S : Nat → Bool} {j : Nat} {v' : Value}
include R

theorem Tra.floor : ∀ {i : Nat}, i ≤ ops.length → (Hs i).floor = (Hs 0).floor
  | 0, _ => rfl
  | i + 1, h => (R.vf (by omega)).floor.trans (Tra.floor (by omega))

theorem Tra.uniq {i k b : Nat} (hi : i < ops.length) (hk : k < ops.length) (h1 : (Hs i).next ≤ b) (h2 : b < (Hs (i + 1)).next) (h3 : (Hs k).next ≤ b) (h4 : b < (Hs (k + 1)).next) : i = k := by
  rcases Nat.lt_trichotomy i k with h | h | h
  · have := R.next_mono (i := i + 1) (j := k) (by omega) (by omega); omega
  · exact h
  · have := R.next_mono (i := k + 1) (j := i) (by omega) (by omega); omega

theorem Tra.notNew (N : Nx ops S j) (I : Inv ops Ts Hs vs fs σ0 w0 S σ a w) {b : Nat} {x : Nat × Nat × Nat} (hx : σ b = some x) : ¬ ((Hs j).next ≤ b ∧ b < (Hs (j + 1)).next) := by
  rintro ⟨h1, h2⟩
  rcases (I.dom b x hx).2 with h | ⟨i, hi, hs, h3, h4⟩
  · have := R.next_mono (i := 0) (j := j) (by omega) (Nat.le_of_lt N.lt); omega
  · have := R.uniq hi N.lt h3 h4 h1 h2
    subst this
    rw [N.no] at hs; cases hs

theorem Tra.glue_mono (N : Nx ops S j) (I : Inv ops Ts Hs vs fs σ0 w0 S σ a w) : ∀ b x, σ b = some x → glue Hs j σ σ' b = some x := by
  intro b x hx
  simp only [glue]
  rw [if_neg (R.notNew N I hx), hx]

omit R in
theorem glue_some (E : Eff ops Hs vs fs j σ σ' w w' v') : ∀ b x, σ' b = some x → glue Hs j σ σ' b = some x ∧ b < (Hs (j + 1)).next := by
  intro b x hx
  have hl := (E.lt b x hx).1
  refine ⟨?_, hl⟩
  simp only [glue]
  by_cases h : (Hs j).next ≤ b
  · rw [if_pos ⟨h, hl⟩, hx]
  · rw [if_neg (fun h' => h h'.1)]
    rw [E.sub b (by omega)] at hx
    exact (rs_some hx).2

/-- A block that operation j has written, in the state behind it. -/
theorem Tra.hadd (N : Nx ops S j) (I : Inv ops Ts Hs vs fs σ0 w0 S σ a w) (E : Eff ops Hs vs fs j σ σ' w w' v') {b : Nat} {x : Nat × Nat × Nat} (hx : glue Hs j σ σ' b = some x) (hk : Kp ops fs Hs j b) :
    HSv ops fs Hs (Sj S j) b = (Hs (j + 1)).get b := by
  refine LW_add' (W := fun i => Kp ops fs Hs i b) (j := j) hk N.lt fun i hi hne hki hs => ?_
  by_cases hn : (Hs j).next ≤ b ∧ b < (Hs (j + 1)).next
  · rcases hki with ⟨h1, h2⟩ | hki
    · exact absurd (R.uniq hi N.lt h1 h2 hn.1 hn.2) hne
    · unfold Kw at hki
      split at hki
      · rename_i r wl hf
        obtain ⟨y, hy⟩ := I.wrd i hi hs r wl b hf hki
        exact absurd hn (R.notNew N I hy)
      · exact (R.cmpL N hi ((free_cmp hki N.lt (fun h => hne h.symm)))).1 hs
  · simp only [glue, hn, if_false] at hx
    have hkw : Kw ops fs j b := hk.resolve_left hn
    refine (R.cutK N I hx (E.kdom b x hkw hx) ?_ hi hki).1 hs
    unfold Kw at hkw
    split at hkw
    · rename_i r wl hf; exact .inr ⟨r, wl, hf, .inr hkw⟩
    · rename_i hf; exact .inl hf
theorem Tra.hskip {b : Nat} (hk : ¬ Kp ops fs Hs j b) : HSv ops fs Hs (Sj S j) b = HSv ops fs Hs S b := by
  have _ := R
  exact LW_skip (W := fun i => Kp ops fs Hs i b) (j := j) hk
/-- A block that operation j touches, in the state before it. -/
theorem Tra.hcut (N : Nx ops S j) (I : Inv ops Ts Hs vs fs σ0 w0 S σ a w) {b : Nat} {x : Nat × Nat × Nat} (hx : σ b = some x) (hb : b < (Hs j).next) (ht : fs j = .call ∨ ∃ r wl, fs j = .mem r wl ∧ (b ∈ r ∨ b ∈ wl)) :
    HSv ops fs Hs S b = (Hs j).get b := by
  rw [R.hs (Nat.le_of_lt N.lt) hb]
  exact LW_cut (fun i hi hk => R.cutK N I hx hb ht hi hk) (Nat.le_of_lt N.lt)
omit R in
theorem kw_touch {b : Nat} (hkw : Kw ops fs j b) : fs j = .call ∨ ∃ r wl, fs j = .mem r wl ∧ (b ∈ r ∨ b ∈ wl) := by
  unfold Kw at hkw
  split at hkw
  · rename_i r wl hf; exact .inr ⟨r, wl, hf, .inr hkw⟩
  · rename_i hf; exact .inl hf

/-- One operation more. -/
theorem Tra.step (N : Nx ops S j) (I : Inv ops Ts Hs vs fs σ0 w0 S σ a w) (E : Eff ops Hs vs fs j σ σ' w w' v') {oj : Oper} (hoj : ops[j]? = some oj)
    (hinj : ∀ b b' x x', b ≠ b' → glue Hs j σ σ' b = some x → glue Hs j σ σ' b' = some x' → x.1 = x'.1 → WRo (HSv ops fs Hs (Sj S j) b) → HSv ops fs Hs (Sj S j) b' = none) :
    Inv ops Ts Hs vs fs σ0 w0 (Sj S j) (glue Hs j σ σ') (a.put oj.dst v') w' where
  defers := by rw [put_defers]; exact I.defers
  size := by
    rw [← I.size]
    cases oj.dst <;> simp [Act.put]
  tmp t m hm hlast := by
    have hput := (R.sok j oj hoj).1
    have hd : dsOf ops j = oj.dst := by simp [dsOf, hoj]
    by_cases e : oj.dst = some t
    · have hjm : j < m := hlast j N.lt (by simp [Sj]) (by rw [hd, e])
      have hval : TSv ops Ts vs (Sj S j) t = vs j := LW_add' (W := fun i => dsOf ops i = some t) (j := j) (by rw [hd, e]) N.lt fun i hi hne hdi hs => (R.cutT N hoj (.inr e) hi hne hdi).1 hs
      rw [hval, e]
      have hlt : t < (Ts 0).n := by
        rw [e] at hput
        simp only [Frm.put] at hput
        split at hput
        · rename_i h; rw [(R.ts (t := t) (Nat.le_of_lt N.lt)).2] at h; exact h
        · cases hput
      have hg : (a.put (some t) v').tmps.getD t undef = v' := by
        simp [Act.put, Array.getD_eq_getD_getElem?, I.size, hlt]
      rw [hg]
      refine E.v.mono fun b x hx => ?_
      obtain ⟨h1, h2⟩ := glue_some E b x hx
      have := R.next_mono (i := j + 1) (j := m) (by omega) hm
      simp only [rs, show b < (Hs m).next by omega, if_true, h1]
    · have hval : TSv ops Ts vs (Sj S j) t = TSv ops Ts vs S t := LW_skip (W := fun i => dsOf ops i = some t) (j := j) (by rw [hd]; exact e)
      rw [hval]
      have hg : (a.put oj.dst v').tmps.getD t undef = a.tmps.getD t undef := by
        cases hdst : oj.dst with
        | none => rfl
        | some d =>
          have : ¬ d = t := fun h => e (by rw [hdst, h])
          simp [Act.put, Array.getD_eq_getD_getElem?, this]
      rw [hg]
      exact (I.tmp t m hm fun i hi hs hdi => hlast i hi (by simp [Sj, hs]) hdi).mono (rs_mono (fun b x _ hx => R.glue_mono N I b x hx) (Nat.le_refl _))
  blk b x k m hm hlast hx hk := by
    by_cases hkp : Kp ops fs Hs j b
    · have hjm : j < m := hlast j N.lt (by simp [Sj]) hkp
      rw [R.hadd N I E hx hkp] at hk
      have hx' : σ' b = some x := by
        simp only [glue] at hx
        split at hx
        · exact hx
        · rename_i hn
          have hkw := hkp.resolve_left hn
          have hb := E.kdom b x hkw hx
          rw [E.sub b hb]
          simp [rs, hb, hx]
      refine (E.ok b x k hkp hx' hk).mono (fun b' x' hx'' => ?_) rfl
      obtain ⟨h1, h2⟩ := glue_some E b' x' hx''
      have := R.next_mono (i := j + 1) (j := m) (by omega) hm
      simp only [rs, show b' < (Hs m).next by omega, if_true, h1]
    · rw [R.hskip hkp] at hk
      have hx' : σ b = some x := by
        simp only [glue] at hx
        rw [if_neg (fun h => hkp (.inl h))] at hx
        exact hx
      refine (I.blk b x k m hm (fun i hi hs hki => hlast i hi (by simp [Sj, hs]) hki) hx' hk).mono (rs_mono (fun b x _ hx => R.glue_mono N I b x hx) (Nat.le_refl _)) ?_
      rcases E.frame x.1 (I.dom b x hx').1 with h | ⟨b0, x0, hk0, hb0, hf0, hw0, hx0, he⟩
      · exact h
      · have hne : b0 ≠ b := fun e => hkp (.inr (e ▸ hk0))
        have hc := R.hcut N I hx0 hb0 (kw_touch hk0)
        have := I.inj b0 b x0 x hne hx0 hx' he (by rw [hc]; exact WRo_iff.2 hw0)
        rw [hk] at this; cases this
  dom b x hx := by
    simp only [glue] at hx
    split at hx
    · rename_i hn
      exact ⟨(E.lt b x hx).2, .inr ⟨j, N.lt, by simp [Sj], hn.1, hn.2⟩⟩
    · obtain ⟨h1, h2⟩ := I.dom b x hx
      exact ⟨Nat.lt_of_lt_of_le h1 E.size, h2.imp id fun ⟨i, hi, hs, h⟩ => ⟨i, hi, by simp [Sj, hs], h⟩⟩
  wrd i hi hs r wl b hf hb := by
    by_cases e : i = j
    · subst e
      obtain ⟨x, hx⟩ := E.wrd r wl b hf hb
      exact ⟨x, R.glue_mono N I b x hx⟩
    · obtain ⟨x, hx⟩ := I.wrd i hi (by simpa [Sj, e] using hs) r wl b hf hb
      exact ⟨x, R.glue_mono N I b x hx⟩
  inj := hinj
  sub b hb := by
    have := R.next_mono (i := 0) (j := j) (by omega) (Nat.le_of_lt N.lt)
    simp only [glue]
    rw [if_neg (by omega), I.sub b hb]
  os := E.os.trans I.os
  tape := E.tape.trans I.tape
  output := E.output.trans I.output
  wsize := Nat.le_trans I.wsize E.size
  frame r hr ho := by
    rcases E.frame r (Nat.lt_of_lt_of_le hr I.wsize) with h | ⟨b0, x0, hk0, hb0, hf0, hw0, hx0, he⟩
    · rw [h, I.frame r hr ho]
    · have hc := R.hcut N I hx0 hb0 (kw_touch hk0)
      have := I.own b0 x0 (by rw [← R.floor (Nat.le_of_lt N.lt)]; exact hf0) (by rw [hc]; exact WRo_iff.2 hw0) hx0
      rw [he] at this
      exact this.elim (fun h => absurd h ho) (by omega)
  own b x hf hwr hx := by
    have hx2 := hx
    simp only [glue] at hx
    split at hx
    · rename_i hn
      rcases E.newr b x hn.1 hx with h | ⟨b0, x0, hk0, hb0, hf0, hw0, hx0, he⟩
      · exact .inr (Nat.le_trans I.wsize h)
      · have hc := R.hcut N I hx0 hb0 (kw_touch hk0)
        rw [← he]
        exact I.own b0 x0 (by rw [← R.floor (Nat.le_of_lt N.lt)]; exact hf0) (by rw [hc]; exact WRo_iff.2 hw0) hx0
    · rename_i hn
      refine I.own b x hf ?_ hx
      by_cases hkp : Kp ops fs Hs j b
      · have hkw := hkp.resolve_left hn
        have hb := E.kdom b x hkw hx
        rw [R.hadd N I E hx2 hkp] at hwr
        rw [R.hcut N I hx hb (kw_touch hkw)]
        exact WRo_iff.2 ((R.vf N.lt).wrk b hb (WRo_iff.1 hwr))
      · rwa [R.hskip hkp] at hwr
  newr b x hb hx := by
    simp only [glue] at hx
    split at hx
    · rename_i hn
      rcases E.newr b x hn.1 hx with h | ⟨b0, x0, hk0, hb0, hf0, hw0, hx0, he⟩
      · exact .inr (Nat.le_trans I.wsize h)
      · have hc := R.hcut N I hx0 hb0 (kw_touch hk0)
        rw [← he]
        exact I.own b0 x0 (by rw [← R.floor (Nat.le_of_lt N.lt)]; exact hf0) (by rw [hc]; exact WRo_iff.2 hw0) hx0
    · exact I.newr b x hb hx

/-- Two blocks do not lie in one place, if what is new lies in new memory or where a block has died. -/
theorem Tra.stepInj (N : Nx ops S j) (I : Inv ops Ts Hs vs fs σ0 w0 S σ a w) (E : Eff ops Hs vs fs j σ σ' w w' v')
    (hdead : ∀ b x, (Hs j).next ≤ b → σ' b = some x → w.heap.size ≤ x.1 ∨ ∃ b0 x0, Kw ops fs j b0 ∧ b0 < (Hs j).next ∧ WR (Hs j) b0 ∧ σ b0 = some x0 ∧ x0.1 = x.1 ∧ (Hs (j + 1)).get b0 = none)
    (hnew : ∀ b b' x x', (Hs j).next ≤ b → (Hs j).next ≤ b' → b ≠ b' → σ' b = some x → σ' b' = some x' → x.1 = x'.1 → WR (Hs (j + 1)) b → (Hs (j + 1)).get b' = none) :
    ∀ b b' x x', b ≠ b' → glue Hs j σ σ' b = some x → glue Hs j σ σ' b' = some x' → x.1 = x'.1 → WRo (HSv ops fs Hs (Sj S j) b) → HSv ops fs Hs (Sj S j) b' = none := by
  intro b b' x x' hne hx hx' he hwr
  -- an old block: alive behind the operation only if before it
  have oldW : ∀ {c y}, σ c = some y → WRo (HSv ops fs Hs (Sj S j) c) → WRo (HSv ops fs Hs S c) := by
    intro c y hc hw
    have hcn := R.notNew N I hc
    by_cases hkp : Kp ops fs Hs j c
    · have hkw := hkp.resolve_left hcn
      have hb := E.kdom c y hkw hc
      rw [R.hadd N I E (R.glue_mono N I c y hc) hkp] at hw
      rw [R.hcut N I hc hb (kw_touch hkw)]
      exact WRo_iff.2 ((R.vf N.lt).wrk c hb (WRo_iff.1 hw))
    · rwa [R.hskip hkp] at hw
  have oldN : ∀ {c y}, σ c = some y → HSv ops fs Hs S c = none → HSv ops fs Hs (Sj S j) c = none := by
    intro c y hc hn
    have hcn := R.notNew N I hc
    by_cases hkp : Kp ops fs Hs j c
    · have hkw := hkp.resolve_left hcn
      have hb := E.kdom c y hkw hc
      rw [R.hadd N I E (R.glue_mono N I c y hc) hkp]
      rw [R.hcut N I hc hb (kw_touch hkw)] at hn
      exact (R.vf N.lt).alive c hb hn
    · rw [R.hskip hkp, hn]
  have dead : ∀ {c y}, σ c = some y → Kw ops fs j c → (Hs (j + 1)).get c = none → HSv ops fs Hs (Sj S j) c = none := by
    intro c y hc hk hn
    rw [R.hadd N I E (R.glue_mono N I c y hc) (.inr hk), hn]
  have cut : ∀ {c y}, σ c = some y → Kw ops fs j c → c < (Hs j).next → WR (Hs j) c → WRo (HSv ops fs Hs S c) := by
    intro c y hc hk hb hw
    rw [R.hcut N I hc hb (kw_touch hk)]
    exact WRo_iff.2 hw
  by_cases hn : (Hs j).next ≤ b ∧ b < (Hs (j + 1)).next
  · have hxs : σ' b = some x := by simpa only [glue, hn, if_true, and_self] using hx
    by_cases hn' : (Hs j).next ≤ b' ∧ b' < (Hs (j + 1)).next
    · have hxs' : σ' b' = some x' := by simpa only [glue, hn', if_true, and_self] using hx'
      rw [R.hadd N I E hx' (.inl hn')]
      rw [R.hadd N I E hx (.inl hn)] at hwr
      exact hnew b b' x x' hn.1 hn'.1 hne hxs hxs' he (WRo_iff.1 hwr)
    · have hxs' : σ b' = some x' := by simpa only [glue, hn', if_false] using hx'
      rcases hdead b x hn.1 hxs with h | ⟨b0, x0, hk0, hb0, hw0, hx0, he0, hd0⟩
      · have := (I.dom b' x' hxs').1; omega
      · by_cases e : b0 = b'
        · subst e; exact dead hx0 hk0 hd0
        · exact oldN hxs' (I.inj b0 b' x0 x' e hx0 hxs' (by rw [he0, he]) (cut hx0 hk0 hb0 hw0))
  · have hxs : σ b = some x := by simpa only [glue, hn, if_false] using hx
    by_cases hn' : (Hs j).next ≤ b' ∧ b' < (Hs (j + 1)).next
    · have hxs' : σ' b' = some x' := by simpa only [glue, hn', if_true, and_self] using hx'
      rcases hdead b' x' hn'.1 hxs' with h | ⟨b0, x0, hk0, hb0, hw0, hx0, he0, hd0⟩
      · have := (I.dom b x hxs).1; omega
      · by_cases e : b0 = b
        · subst e
          rw [dead hx0 hk0 hd0] at hwr
          exact hwr.elim
        · have := oldN hxs (I.inj b0 b x0 x e hx0 hxs (by rw [he0, he]) (cut hx0 hk0 hb0 hw0))
          rw [this] at hwr
          exact hwr.elim
    · have hxs' : σ b' = some x' := by simpa only [glue, hn', if_false] using hx'
      exact oldN hxs' (I.inj b b' x x' hne hxs hxs' he (oldW hxs hwr))
end
end Go.Vm

namespace Go.Vm
variable {P : Program}

def opT (o : Oper) : List Nat := o.op.operands.toList.filterMap fun | .tmp t => some t | _ => none
theorem mem_opT {o : Oper} {t : Nat} : t ∈ opT o ↔ Operand.tmp t ∈ o.op.operands.toList := by
  unfold opT
  rw [List.mem_filterMap]
  constructor
  · rintro ⟨x, hx, h⟩
    cases x <;> simp at h
    subst h; exact hx
  · intro h; exact ⟨_, h, rfl⟩

def maskT (l : List Nat) (T : Frm) : Frm := ⟨l.foldl (fun p t => p.set t (some (T.get t))) .leaf, T.n⟩
theorem mask_get (T : Frm) (t : Nat) : ∀ (l : List Nat) (p : PT Value), ((l.foldl (fun p t => p.set t (some (T.get t))) p).get t) = if t ∈ l then some (T.get t) else p.get t
  | [], p => by simp
  | x :: r, p => by
    rw [List.foldl_cons, mask_get T t r]
    by_cases h : t ∈ r
    · simp [h]
    · simp only [h, if_false, PT.get_set, List.mem_cons, or_false]
      by_cases e : t = x <;> simp [e]
theorem maskT_get (l : List Nat) (T : Frm) (t : Nat) : (maskT l T).get t = if t ∈ l then T.get t else undef := by
  show (((l.foldl (fun (p : PT Value) t => p.set t (some (T.get t))) PT.leaf).get t)).getD undef = _
  rw [mask_get T t l .leaf]
  by_cases h : t ∈ l
  · simp only [h, if_true, Option.getD_some]
  · simp [h, PT.get_leaf]

def maskA (l : List Nat) (a : Act) : Act := { tmps := (Array.range a.tmps.size).map fun t => if t ∈ l then a.tmps.getD t undef else undef, defers := [] }
theorem maskA_get (l : List Nat) (a : Act) (t : Nat) : (maskA l a).tmps.getD t undef = if t ∈ l then a.tmps.getD t undef else undef := by
  simp only [maskA, Array.getD_eq_getD_getElem?, Array.getElem?_map, Array.getElem?_range]
  by_cases h : t < a.tmps.size
  · simp [h]
  · simp [h]

theorem blk_dom {σ : Sg} {v v' : Value} {b : Nat} (h : VR σ v v') (hb : b ∈ blkOf v) : ∃ x, σ b = some x := by
  cases h with
  | plain h =>
    exfalso
    unfold blkOf at hb
    split at hb <;> simp_all [plain]
  | ptr h => simp only [blkOf, List.mem_singleton] at hb; subst hb; exact ⟨_, h⟩
  | slice h => simp only [blkOf, List.mem_singleton] at hb; subst hb; exact ⟨_, h⟩
  | map h => simp only [blkOf, List.mem_singleton] at hb; subst hb; exact ⟨_, h⟩
  | _ => simp [blkOf] at hb

theorem blkO_dom {σ : Sg} {T : Frm} {a : Act} (hfr : FR σ T a.tmps) {x : Operand} {b : Nat} (hb : b ∈ blkO T x) : ∃ y, σ b = some y := by
  unfold blkO at hb
  split at hb
  · rename_i v hv; exact blk_dom (evO_sound hfr hv) hb
  · cases hb

theorem fp_dom {σ : Sg} {T : Frm} {a : Act} (hfr : FR σ T a.tmps) {o : Oper} {r wl : List Nat} (h : fpOf T o = .mem r wl) {b : Nat} (hb : b ∈ wl) : ∃ y, σ b = some y := by
  unfold fpOf at h
  split at h
  all_goals first
    | (cases h; done)
    | (simp only [Fp.mem.injEq] at h; obtain ⟨_, rfl⟩ := h; first | (cases hb; done) | exact blkO_dom hfr hb | (obtain ⟨x, _, hx⟩ := List.mem_flatMap.1 hb; exact blkO_dom hfr hx))

section
variable {call : CallFn} {ops : List Oper} {Ts : Nat → Frm} {Hs : Nat → Heap} {vs : Nat → Value} {fs : Nat → Fp} {ws : Nat → Bool} (R : Tra P call ops Ts Hs vs fs ws)
  {σ0 σ : Sg} {w0 w : World} {a : Act} {S : Nat → Bool} {j : Nat} {oj : Oper}
include R

theorem Tra.slot (N : Nx ops S j) (I : Inv ops Ts Hs vs fs σ0 w0 S σ a w) (hoj : ops[j]? = some oj) {t : Nat} (ht : t ∈ looksAt ops oj) : VR (rs σ (Hs j).next) ((Ts j).get t) (a.tmps.getD t undef) := by
  have hcut : ∀ i, i < ops.length → dsOf ops i = some t → (S i = true ↔ i < j) := by
    intro i hi hd
    by_cases e : i = j
    · subst e; simp [N.no]
    · exact R.cutT N hoj (.inl ht) hi e hd
  have hv : TSv ops Ts vs S t = (Ts j).get t := by
    rw [(R.ts (t := t) (Nat.le_of_lt N.lt)).1]
    exact LW_cut (fun i hi hd => hcut i hi hd) (Nat.le_of_lt N.lt)
  rw [← hv]
  exact I.tmp t j (Nat.le_of_lt N.lt) fun i hi hs hd => (hcut i hi hd).1 hs

theorem Tra.masked (N : Nx ops S j) (I : Inv ops Ts Hs vs fs σ0 w0 S σ a w) (hoj : ops[j]? = some oj) :
    FR (rs σ (Hs j).next) (maskT (opT oj) (Ts j)) (maskA (opT oj) a).tmps ∧ Agree oj (Ts j) (maskT (opT oj) (Ts j)) ∧ ((∀ cs b, oj.op ≠ .select cs b) → execOp a.eval oj = execOp (maskA (opT oj) a).eval oj) := by
  refine ⟨⟨?_, fun i => ?_⟩, fun t ht => ?_, fun hsel => ?_⟩
  · simp only [maskA, Array.size_map, Array.size_range, I.size, maskT]
    rw [(R.ts (t := 0) (Nat.le_of_lt N.lt)).2]
  · rw [maskT_get, maskA_get]
    by_cases h : i ∈ opT oj
    · rw [if_pos h, if_pos h]
      exact R.slot N I hoj (by simp only [looksAt]; exact List.mem_append_left _ h)
    · rw [if_neg h, if_neg h]; exact .undef
  · rw [maskT_get, if_pos (mem_opT.2 ht)]
  · refine execOp_congr oj hsel fun x hx => ?_
    cases x with
    | tmp t =>
      have := maskA_get (opT oj) a t
      rw [if_pos (mem_opT.2 (by simpa using hx))] at this
      simp only [Act.eval]
      exact this.symm
    | _ => rfl

theorem Tra.wanted (N : Nx ops S j) (I : Inv ops Ts Hs vs fs σ0 w0 S σ a w) (hoj : ops[j]? = some oj) {opsA : Array Oper} (hA : opsA.toList = ops) :
    wantedV ops (Ts j) oj = Region.wanted oj (yielded opsA a.tmps) := by
  subst hA
  unfold wantedV Region.wanted
  cases hg : oj.guard with
  | none => rfl
  | some x =>
    obtain ⟨g, want⟩ := x
    have hy : yieldedV opsA.toList (Ts j) g = yielded opsA a.tmps g := by
      unfold yieldedV yielded
      rw [Array.getElem?_toList]
      cases hd : (opsA[g]?).bind (·.dst) with
      | none => rfl
      | some t =>
        simp only [Option.bind_some]
        have h := R.slot N I hoj (t := t) (by simp only [looksAt, hg]; refine List.mem_append_right _ ?_; rw [Array.getElem?_toList, hd]; simp)
        rw [Array.getD_eq_getD_getElem?] at h
        cases ht : a.tmps[t]? with
        | none =>
          simp only [ht, Option.getD_none] at h
          generalize (Ts j).get t = x at h
          cases x with
          | bool b => have := h.plain_eq rfl; simp [undef] at this
          | _ => rfl
        | some y =>
          simp only [ht, Option.getD_some] at h
          generalize (Ts j).get t = x at h
          cases y with
          | bool b => rw [h.bool_right]
          | _ =>
            cases x with
            | bool b => have := h.plain_eq rfl; cases this
            | _ => rfl
    simp only [hy]
    cases yielded opsA a.tmps g with
    | none => rfl
    | some b => cases b <;> cases want <;> rfl

theorem Tra.blkOK (N : Nx ops S j) (I : Inv ops Ts Hs vs fs σ0 w0 S σ a w) {b : Nat} {x : Nat × Nat × Nat} {k : Blk} (hx : rs σ (Hs j).next b = some x) (hk : (Hs j).get b = some k)
    (ht : fs j = .call ∨ ∃ r wl, fs j = .mem r wl ∧ (b ∈ r ∨ b ∈ wl)) : BlkOK (rs σ (Hs j).next) w x k := by
  obtain ⟨hb, hx'⟩ := rs_some hx
  refine I.blk b x k j (Nat.le_of_lt N.lt) (fun i hi hs hki => (R.cutK N I hx' hb ht hi hki).1 hs) hx' ?_
  rw [R.hcut N I hx' hb ht, hk]

theorem Tra.st (N : Nx ops S j) (I : Inv ops Ts Hs vs fs σ0 w0 S σ a w) (hf : fs j = .call) {H : Heap} (hg : ∀ b, H.get b = (Hs j).get b) (hn : H.next = (Hs j).next) : St (rs σ (Hs j).next) H w where
  ok b x k hx hk := R.blkOK N I hx (by rw [← hg, hk]) (.inl hf)
  lt b x hx := by
    obtain ⟨hb, hx'⟩ := rs_some hx
    exact ⟨by omega, (I.dom b x hx').1⟩
  inj b b' x x' hne hx hx' he hwr := by
    obtain ⟨hb, hx⟩ := rs_some hx
    obtain ⟨hb', hx'⟩ := rs_some hx'
    rw [hg, ← R.hcut N I hx' hb' (.inl hf)]
    refine I.inj b b' x x' hne hx hx' he ?_
    rw [R.hcut N I hx hb (.inl hf), ← hg]
    exact WRo_iff.2 hwr

/-- ONE OPERATION, WHENEVER ITS TURN COMES. -/
theorem Tra.turn (hc : CallS P call) (hN : NamesOk P) (N : Nx ops S j) (I : Inv ops Ts Hs vs fs σ0 w0 S σ a w) (hoj : ops[j]? = some oj) {opsA : Array Oper} (hA : opsA.toList = ops)
    {K : Act → World → Prop} {Q : Exit → Act → World → Prop} (hK : ∀ a' w' σ', Inv ops Ts Hs vs fs σ0 w0 (Sj S j) σ' a' w' → K a' w') : wpOp P opsA Q j K a w := by
  unfold wpOp
  have hA' : opsA[j]? = some oj := by rw [← Array.getElem?_toList, hA]; exact hoj
  simp only [hA']
  have hw := R.wanted N I hoj hA
  obtain ⟨hfr, hag, hex⟩ := R.masked N I hoj
  obtain ⟨hput, hs⟩ := R.sok j oj hoj
  have hlt : Lt (rs σ (Hs j).next) (Hs j) w := fun b x hx => by
    obtain ⟨hb, hx'⟩ := rs_some hx
    exact ⟨hb, (I.dom b x hx').1⟩
  rcases hs with ⟨_, hwt, hf, H2, hrun, hH⟩ | ⟨_, hwt, hv, hf, hH⟩
  · rw [← hw, hwt, if_pos rfl]
    left
    cases hq : fs j with
    | mem r wl =>
      rw [hq] at hf hrun hH
      rw [fp_mem_simple hf.symm] at hrun
      simp only [quietB, dropF, liftF] at hrun hH
      rw [simple_congr hag] at hrun
      have hfm : fpOf (maskT (opT oj) (Ts j)) oj = .mem r wl := by rw [← fp_congr hag]; exact hf.symm
      have hsel : ∀ cs b, oj.op ≠ .select cs b := by
        intro cs b e
        rw [e] at hrun
        simp [simpleV] at hrun
      obtain ⟨nx, v', w', σ', hr, hn, hv, hL⟩ := simple_sound (P := P) hrun (rs σ (Hs j).next) (maskA (opT oj) a) w hfr hlt (fun b x k hT hx hk =>
        R.blkOK N I hx hk (.inr ⟨r, wl, hq, by simpa only [Touch, hfm] using hT⟩))
      rw [← hH] at hL
      have hWr : ∀ b, Wrs (maskT (opT oj) (Ts j)) oj b ↔ Kw ops fs j b := fun b => by simp only [Wrs, hfm, Kw, hq]
      have E : Eff ops Hs vs fs j σ σ' w w' v' := {
        v := hv
        sub := hL.sub
        lt := hL.lt
        ok := fun b x k hk hx hg => hL.ok b x k (hk.elim (fun h => .inr h.1) (fun h => .inl ((hWr b).2 h))) hx hg
        newr := fun b x hb hx => (hL.newr b x hb hx).imp id fun ⟨b0, x0, h1, h2, h3, h4, h5, _⟩ => ⟨b0, x0, (hWr b0).1 h1, (rs_some h4).1, h2, h3, (rs_some h4).2, h5⟩
        kdom := fun b x hk hx => by
          have : b ∈ wl := by simpa only [Kw, hq] using hk
          obtain ⟨y, hy⟩ := fp_dom hfr hfm this
          exact (rs_some hy).1
        wrd := fun r' wl' b hf' hb => by
          rw [hq] at hf'
          simp only [Fp.mem.injEq] at hf'
          obtain ⟨_, rfl⟩ := hf'
          obtain ⟨y, hy⟩ := fp_dom hfr hfm hb
          exact ⟨y, (rs_some hy).2⟩
        os := hL.os
        tape := hL.tape
        output := hL.output
        size := hL.size
        frame := fun r' hr' => (hL.frame r' hr').imp id fun ⟨b0, x0, h1, h2, h3, h4, h5⟩ => ⟨b0, x0, (hWr b0).1 h1, (rs_some h4).1, h2, h3, (rs_some h4).2, h5⟩ }
      have hI := R.step N I E hoj (R.stepInj N I E
        (fun b x hb hx => (hL.newr b x hb hx).imp id fun ⟨b0, x0, h1, h2, h3, h4, h5, h6⟩ => ⟨b0, x0, (hWr b0).1 h1, (rs_some h4).1, h3, (rs_some h4).2, h5, h6⟩)
        (fun b b' x x' hb hb' hne hx hx' _ _ => by
          have h1 := (hL.lt b x hx).1
          have h2 := (hL.lt b' x' hx').1
          have h3 := hL.next1
          omega))
      have hk := hK _ _ _ hI
      unfold Oper.wp
      rw [hex hsel, hr]
      cases nx with
      | value u => simp only [nxv, Option.some.injEq] at hn; subst hn; exact hk
      | skip => simp only [nxv, Option.some.injEq] at hn; subst hn; exact hk
      | _ => simp [nxv] at hn
    | call =>
      rw [hq] at hf hrun hH
      obtain ⟨f, args, at_, ho⟩ := fp_call hf.symm
      have hsel : ∀ cs b, oj.op ≠ .select cs b := by
        intro cs b e
        rw [ho] at e; cases e
      rw [op_congr hag] at hrun
      have hrun' : ∀ {H : Heap}, (opV P oj).run call (maskT (opT oj) (Ts j)) H = oCall f args.toList call (maskT (opT oj) (Ts j)) H := by
        intro H
        simp only [opV, ho]
      simp only [quietB] at hrun hH
      cases hfree : freeCall (befores ops) ops.length j with
      | true =>
        simp only [hfree, Bool.not_true, dropF, liftF] at hrun hH
        rw [hrun'] at hrun
        refine call_wp hc hN ho hrun hfr (R.st N I hq (fun _ => rfl) rfl) (hex hsel) fun v' w' σ' hv hst hstp => ?_
        rw [← hH] at hst hstp
        have hKw : ∀ b, Kw ops fs j b := fun b => by simp only [Kw, hq, hfree]
        have hkd : ∀ b x, σ b = some x → b < (Hs j).next := by
          intro b x hx
          rcases (I.dom b x hx).2 with h | ⟨i, hi, hs, _, h⟩
          · have := R.next_mono (i := 0) (j := j) (by omega) (Nat.le_of_lt N.lt); omega
          · have hij : i < j := by
              by_cases e : i = j
              · subst e; rw [N.no] at hs; cases hs
              · exact (R.cmpL N hi ((free_cmp hfree hi e).symm)).1 hs
            have := R.next_mono (i := i + 1) (j := j) (by omega) (Nat.le_of_lt N.lt); omega
        have E : Eff ops Hs vs fs j σ σ' w w' v' := {
          v := hv
          sub := hstp.sub
          lt := hst.lt
          ok := fun b x k _ hx hg => hst.ok b x k hx hg
          newr := fun b x hb hx => (hstp.newr b x hb hx).symm.imp id fun ⟨b0, x0, h1, h2, h3, h4⟩ => ⟨b0, x0, hKw b0, (rs_some h3).1, h1, h2, (rs_some h3).2, h4⟩
          kdom := fun b x _ hx => hkd b x hx
          wrd := fun r wl b h _ => by rw [hq] at h; cases h
          os := hstp.os
          tape := hstp.tape
          output := hstp.output
          size := hstp.size
          frame := fun r hr => by
            by_cases ho : Own (rs σ (Hs j).next) (Hs j) r
            · obtain ⟨b0, x0, h1, h2, h3, h4⟩ := ho
              exact .inr ⟨b0, x0, hKw b0, (rs_some h3).1, h1, h2, (rs_some h3).2, h4⟩
            · exact .inl (hstp.frame r hr ho) }
        refine hK _ _ _ (R.step N I E hoj fun b b' x x' hne hx hx' he hwr => ?_)
        have hg : ∀ {c y}, glue Hs j σ σ' c = some y → σ' c = some y := by
          intro c y hc
          simp only [glue] at hc
          split at hc
          · exact hc
          · rw [E.sub c (hkd c y hc)]
            simp [rs, hkd c y hc, hc]
        rw [R.hadd N I E hx' (.inr (hKw b'))]
        rw [R.hadd N I E hx (.inr (hKw b))] at hwr
        exact hst.inj b b' x x' hne (hg hx) (hg hx') he (WRo_iff.1 hwr)
      | false =>
        simp only [hfree, Bool.not_false, dropF, liftF] at hrun hH
        rw [hrun'] at hrun
        refine call_wp hc hN ho hrun hfr (R.st N I hq (fun _ => rfl) rfl) (hex hsel) fun v' w' σ' hv hst hstp => ?_
        have hKw : ∀ b, ¬ Kw ops fs j b := fun b => by simp only [Kw, hq, hfree]; simp
        have hown : ∀ r, ¬ Own (rs σ (Hs j).next) { (Hs j) with floor := (Hs j).next } r := by
          rintro r ⟨b0, x0, h1, _, h3, _⟩
          have := (rs_some h3).1
          have h1' : (Hs j).next ≤ b0 := h1
          omega
        have hget : ∀ b, (Hs (j + 1)).get b = H2.get b := fun b => by rw [hH]; rfl
        have hnx : (Hs (j + 1)).next = H2.next := by rw [hH]
        have E : Eff ops Hs vs fs j σ σ' w w' v' := {
          v := hv
          sub := hstp.sub
          lt := fun b x hx => by rw [hnx]; exact hst.lt b x hx
          ok := fun b x k _ hx hg => hst.ok b x k hx (by rw [← hget, hg])
          newr := fun b x hb hx => (hstp.newr b x hb hx).elim (fun h => absurd h (hown _)) .inl
          kdom := fun b x h _ => absurd h (hKw b)
          wrd := fun r wl b h _ => by rw [hq] at h; cases h
          os := hstp.os
          tape := hstp.tape
          output := hstp.output
          size := hstp.size
          frame := fun r hr => .inl (hstp.frame r hr (hown r)) }
        exact hK _ _ _ (R.step N I E hoj (R.stepInj N I E
          (fun b x hb hx => (hstp.newr b x hb hx).elim (fun h => absurd h (hown _)) .inl)
          (fun b b' x x' _ _ hne hx hx' he hwr => by
            rw [hget]
            exact hst.inj b b' x x' hne hx hx' he ((WR.congr (hget b)).1 hwr))))
  · rw [← hw, hwt, if_neg (by simp)]
    have hnx : (Hs (j + 1)).next = (Hs j).next := by rw [hH]
    have hKw : ∀ b, ¬ Kw ops fs j b := fun b => by simp [Kw, hf]
    have E : Eff ops Hs vs fs j σ (rs σ (Hs j).next) w w undef := {
      v := by rw [hv]; exact .undef
      sub := fun _ _ => rfl
      lt := fun b x hx => by rw [hnx]; exact hlt b x hx
      ok := fun b x k hk _ _ => by
        rcases hk with h | h
        · omega
        · exact absurd h (hKw b)
      newr := fun b x hb hx => by have := (rs_some hx).1; omega
      kdom := fun b x h _ => absurd h (hKw b)
      wrd := fun r wl b h hb => by rw [hf] at h; simp only [Fp.mem.injEq] at h; obtain ⟨_, rfl⟩ := h; cases hb
      os := rfl
      tape := rfl
      output := rfl
      size := Nat.le_refl _
      frame := fun r hr => .inl rfl }
    exact hK _ _ _ (R.step N I E hoj (R.stepInj N I E (fun b x hb hx => by have := (rs_some hx).1; omega) (fun b b' x x' hb _ _ hx _ _ _ => by have := (rs_some hx).1; omega)))
end

theorem countP_lt {n j : Nat} {f g : Nat → Bool} (hj : j < n) (hf : f j = true) (hg : g j = false) (hsub : ∀ i, g i = true → f i = true) :
    ((List.range n).filter g).length < ((List.range n).filter f).length := by
  rw [← List.countP_eq_length_filter, ← List.countP_eq_length_filter]
  induction n with
  | zero => omega
  | succ n ih =>
    rw [List.range_succ, List.countP_append, List.countP_append]
    by_cases e : j = n
    · subst e
      have h1 : List.countP g (List.range j) ≤ List.countP f (List.range j) := List.countP_mono_left fun i _ h => hsub i h
      simp [hf, hg]
      omega
    · have := ih (by omega)
      have h2 : List.countP g [n] ≤ List.countP f [n] := List.countP_mono_left fun i _ h => hsub i h
      omega

/-- REGIONS THAT DRAW THEIR ORDER. -/
theorem draw_wp {call : CallFn} (hm : P.follows .mixedOrders = true) (hc : CallS P call) (hcv : CallVF call) (hN : NamesOk P) : DrawS P call := by
  intro id opsA T H ex T' H' h σ a w Q hfr hst hd hQ
  obtain ⟨rfl, h2⟩ := asCode_some h
  clear h
  have h := h2
  clear h2
  generalize hops : opsA.toList = ops at h
  unfold regionD at h
  split at h
  · rename_i hok
    split at h
    · rename_i T1 H1 fs' hrun
      split at h
      · rename_i hcl
        simp only [Option.some.injEq, Prod.mk.injEq] at h
        obtain ⟨rfl, rfl⟩ := h
        obtain ⟨Ts, Hs, vs, fs, ws, hT0, hH0, hTn, hHn, hfs, hsok⟩ := opsD_trace hrun
        simp only [List.nil_append] at hfs
        have R : Tra P call ops Ts Hs vs fs ws := by
          refine ⟨hcv, fun k o ho => by have := hsok k o ho; rwa [Nat.zero_add] at this, ?_, ?_, ?_⟩
          · intro j o ho e he hb
            simp only [regionOk, Bool.and_eq_true] at hok
            have h1 := List.all_eq_true.1 hok.1 (o, j) (List.mem_zipIdx_iff_getElem?.2 ho)
            have h2 := List.all_eq_true.1 h1 e he
            simpa [hb] using h2
          · intro i j oi oj hij hoi hoj
            simp only [regionOk, Bool.and_eq_true] at hok
            have hi : i < ops.length := (List.getElem?_eq_some_iff.1 hoi).1
            have hj : j < ops.length := (List.getElem?_eq_some_iff.1 hoj).1
            have h1 := List.all_eq_true.1 (List.all_eq_true.1 hok.2 i (List.mem_range.2 hi)) j (List.mem_range.2 hj)
            simp only [hij, decide_true, Bool.not_true, Bool.false_or, hoi, hoj, cmpB, Bool.or_eq_true] at h1
            rcases h1 with (h1 | h1) | h1
            · exact .inr (.inl h1)
            · exact .inl h1
            · exact .inr (.inr h1)
          · intro i j hij hj
            have hl : fs'.length = ops.length := by rw [hfs]; simp
            have h1 := List.all_eq_true.1 (List.all_eq_true.1 hcl i (List.mem_range.2 (by omega))) j (List.mem_range.2 (by omega))
            have hfi : fs'[i]? = some (fs i) := by rw [hfs]; simp [show i < ops.length by omega]
            have hfj : fs'[j]? = some (fs j) := by rw [hfs]; simp [hj]
            simp only [hij, decide_true, Bool.not_true, Bool.false_or, hfi, hfj, cmpB, Bool.or_eq_true, Bool.not_eq_true'] at h1
            rcases h1 with (h1 | h1) | h1
            · exact .inr (.inl h1)
            · exact .inl h1
            · exact .inr (.inr h1)
        refine wp_region_any hm ?_
        -- the claim for whatever has been done
        have main : ∀ (fuel : Nat) (listed : Array Bool) (S : Nat → Bool) (σ' : Sg) (a' : Act) (w' : World), listed.size = ops.length → (∀ i, i < ops.length → listed.getD i false = S i) → (∀ i, ops.length ≤ i → S i = false) →
            Closed ops S → Inv ops Ts Hs vs fs σ w S σ' a' w' → ((List.range ops.length).filter fun i => !S i).length ≤ fuel → wpAny P .any opsA Q fuel listed a' w' := by
          intro fuel
          have hrd : ∀ {listed : Array Bool} {S : Nat → Bool}, listed.size = ops.length → (∀ i, i < ops.length → listed.getD i false = S i) → (∀ i, ops.length ≤ i → S i = false) → Closed ops S → ∀ j, j ∈ Region.ready .any opsA listed ↔ Nx ops S j := by
            intro listed S hsz hlS hbig hcS j
            have hback := R.back
            rw [mem_ready]
            constructor
            · rintro ⟨h0, o, ho, he⟩
              rw [← Array.getElem?_toList, hops] at ho
              have hj : j < ops.length := (List.getElem?_eq_some_iff.1 ho).1
              refine ⟨hj, ?_, hcS, fun o' ho' e hee hb => ?_⟩
              · rw [← hlS j hj]
                have hjs : j < listed.size := by omega
                simpa [Array.getD_eq_getD_getElem?, hjs] using h0
              · rw [ho] at ho'
                simp only [Option.some.injEq] at ho'
                subst ho'
                have h1 := he e (by simpa using hee) hb
                rw [hlS e.on (by have := hback j o ho e hee hb; omega)] at h1
                exact h1
            · intro N
              have ho : ops[j]? = some (ops[j]'N.lt) := by simp [N.lt]
              refine ⟨?_, ops[j]'N.lt, by rw [← Array.getElem?_toList, hops]; exact ho, fun e he hb => ?_⟩
              · have h1 := hlS j N.lt
                rw [N.no] at h1
                have hjs : j < listed.size := by have := N.lt; omega
                simpa [Array.getD_eq_getD_getElem?, hjs] using h1
              · have he' : e ∈ (ops[j]'N.lt).after.toList := by simpa using he
                have h1 := N.preds _ ho e he' hb
                rw [hlS e.on (by have := hback j _ ho e he' hb; have := N.lt; omega)]
                exact h1
          -- where nothing is ready all has been done
          have hall : ∀ {listed : Array Bool} {S : Nat → Bool} {σ' : Sg} {a' : Act} {w' : World}, listed.size = ops.length → (∀ i, i < ops.length → listed.getD i false = S i) → (∀ i, ops.length ≤ i → S i = false) → Closed ops S →
              Inv ops Ts Hs vs fs σ w S σ' a' w' → Region.ready .any opsA listed = [] → Q .normal a' w' := by
            intro listed S σ' a' w' hsz hlS hbig hcS I hr
            have hS : ∀ i, i < ops.length → S i = true := by
              intro i
              induction i using Nat.strongRecOn with
              | _ i ih =>
                intro hi
                cases hs : S i with
                | true => rfl
                | false =>
                  have N : Nx ops S i := ⟨hi, hs, hcS, fun o ho e he hb => ih e.on (R.back i o ho e he hb) (by have := R.back i o ho e he hb; omega)⟩
                  have := (hrd hsz hlS hbig hcS i).2 N
                  rw [hr] at this; cases this
            have hTv : ∀ t, TSv ops Ts vs S t = T1.get t := by
              intro t
              rw [← hTn, (R.ts (t := t) (Nat.le_refl _)).1]
              exact LW_congr fun i hi _ => hS i hi
            have hHv : ∀ b, b < (Hs ops.length).next → HSv ops fs Hs S b = H1.get b := by
              intro b hb
              rw [← hHn, R.hs (Nat.le_refl _) hb]
              exact LW_congr fun i hi _ => hS i hi
            have hdom : ∀ b x, σ' b = some x → b < (Hs ops.length).next ∧ x.1 < w'.heap.size := by
              intro b x hx
              obtain ⟨h1, h2⟩ := I.dom b x hx
              refine ⟨?_, h1⟩
              rcases h2 with h | ⟨i, hi, _, _, h⟩
              · have := R.next_mono (i := 0) (j := ops.length) (by omega) (Nat.le_refl _); omega
              · have := R.next_mono (i := i + 1) (j := ops.length) (by omega) (Nat.le_refl _); omega
            have hrs : ∀ b x, rs σ' (Hs ops.length).next b = some x → σ' b = some x := fun b x h => (rs_some h).2
            have hvf : ∀ m, m ≤ ops.length → VF (Hs 0) (Hs m) fun _ => True := by
              intro m
              induction m with
              | zero => intro _; exact .refl
              | succ m ih => intro hm; exact (ih (by omega)).trans ((R.vf (by omega)).mono fun _ _ => trivial)
            have hvf := hvf ops.length (Nat.le_refl _)
            refine hQ a' w' σ' ⟨?_, fun i => ?_⟩ ⟨fun b x k hx hk => ?_, fun b x hx => by rw [← hHn]; exact hdom b x hx, fun b b' x x' hne hx hx' he hwr => ?_⟩ ?_ I.defers
            · rw [I.size, ← hTn, (R.ts (t := 0) (Nat.le_refl _)).2]
            · rw [← hTv]
              exact (I.tmp i ops.length (Nat.le_refl _) fun i hi _ _ => hi).mono hrs
            · exact (I.blk b x k ops.length (Nat.le_refl _) (fun i hi _ _ => hi) hx (by rw [hHv b (hdom b x hx).1, hk])).mono hrs rfl
            · have := I.inj b b' x x' hne hx hx' he (by rw [hHv b (hdom b x hx).1]; exact WRo_iff.2 hwr)
              rwa [hHv b' (hdom b' x' hx').1] at this
            · rw [← hH0, ← hHn]
              exact {
                next := hvf.next
                floor := hvf.floor
                sub := I.sub
                low := fun b hf hb => hvf.low b hb hf
                alive := hvf.alive
                wr := hvf.wrk
                os := I.os
                tape := I.tape
                output := I.output
                size := I.wsize
                frame := I.frame
                own := fun r ⟨b, x, hf, hw, hx, hr⟩ => by
                  rw [← hr]
                  exact I.own b x (by rw [← hvf.floor]; exact hf) (by rw [hHv b (hdom b x hx).1, ← hHn]; exact WRo_iff.2 hw) hx
                newr := I.newr }
          induction fuel with
          | zero =>
            intro listed S σ' a' w' hsz hlS hbig hcS I hcnt
            have hr : Region.ready .any opsA listed = [] := by
              cases hrr : Region.ready .any opsA listed with
              | nil => rfl
              | cons j r =>
                have N := (hrd hsz hlS hbig hcS j).1 (by rw [hrr]; simp)
                have : j ∈ (List.range ops.length).filter fun i => !S i := List.mem_filter.2 ⟨List.mem_range.2 N.lt, by simp [N.no]⟩
                have := List.length_pos_of_mem this
                omega
            exact ⟨hr, hall hsz hlS hbig hcS I hr⟩
          | succ fuel ih =>
            intro listed S σ' a' w' hsz hlS hbig hcS I hcnt
            refine ⟨fun hr => hall hsz hlS hbig hcS I hr, fun j hj => ?_⟩
            have N := (hrd hsz hlS hbig hcS j).1 hj
            have hoj : ops[j]? = some (ops[j]'N.lt) := by simp [N.lt]
            refine R.turn hc hN N I hoj hops fun a2 w2 σ2 I2 => ?_
            refine ih (listed.setIfInBounds j true) (Sj S j) σ2 a2 w2 (by simpa using hsz) (fun i hi => ?_) (fun i hi => ?_) (fun k o ho hs e he hb => ?_) I2 ?_
            · by_cases e : i = j
              · subst e
                have : i < listed.size := by omega
                simp [Sj, Array.getD_eq_getD_getElem?, this]
              · rw [getD_set_ne false (fun h => e h.symm), hlS i hi]
                simp [Sj, e]
            · have : i ≠ j := by have := N.lt; omega
              simp [Sj, hbig i hi, this]
            · have hk : k < ops.length := (List.getElem?_eq_some_iff.1 ho).1
              simp only [Sj, Bool.or_eq_true, decide_eq_true_eq] at hs ⊢
              rcases hs with hs | hs
              · exact .inl (hcS k o ho hs e he hb)
              · subst hs; exact .inl (N.preds o ho e he hb)
            · have := countP_lt (n := ops.length) (j := j) (f := fun i => !S i) (g := fun i => !(Sj S j i)) N.lt (by simp [N.no]) (by simp [Sj]) (fun i h => by simp [Sj] at h ⊢; exact h.1)
              omega
        have hsz : opsA.size = ops.length := by rw [← hops]; simp
        rw [hsz]
        refine main ops.length _ (fun _ => false) σ a _ (by simp) (fun i hi => by simp [Array.getD_eq_getD_getElem?, hi]) (fun _ _ => rfl) (fun j o ho hs => by cases hs) ?_ (Nat.le_trans (List.length_filter_le _ _) (by simp))
        have hinit : ∀ {α : Type} (init : α) (W : Nat → Prop) (val : Nat → α) (n : Nat), LW init W val (fun _ => false) n = init := by
          intro α init W val n
          induction n with
          | zero => rfl
          | succ n ih => simp [LW, ih]
        have hT : ∀ t, TSv ops Ts vs (fun _ => false) t = T.get t := fun t => by rw [TSv, hinit, hT0]
        have hHg : ∀ b, HSv ops fs Hs (fun _ => false) b = H.get b := fun b => by rw [HSv, hinit, hH0]
        have hrs : ∀ m, m ≤ ops.length → ∀ b x, σ b = some x → rs σ (Hs m).next b = some x := by
          intro m hm b x hx
          have h1 := (hst.lt b x hx).1
          have h2 := R.next_mono (i := 0) (j := m) (by omega) hm
          rw [hH0] at h2
          simp only [rs, show b < (Hs m).next by omega, if_true, hx]
        exact {
          defers := hd
          size := by rw [hT0]; exact hfr.size
          tmp := fun t m hm _ => by rw [hT]; exact (hfr.at_ t).mono (hrs m hm)
          blk := fun b x k m hm _ hx hk => by rw [hHg] at hk; exact (hst.ok b x k hx hk).mono (hrs m hm) rfl
          dom := fun b x hx => ⟨(hst.lt b x hx).2, .inl (by rw [hH0]; exact (hst.lt b x hx).1)⟩
          wrd := fun i _ hs => by cases hs
          inj := fun b b' x x' hne hx hx' he hwr => by rw [hHg] at hwr ⊢; exact hst.inj b b' x x' hne hx hx' he (WRo_iff.1 hwr)
          sub := fun _ _ => rfl
          os := rfl
          tape := rfl
          output := rfl
          wsize := Nat.le_refl _
          frame := fun _ _ _ => rfl
          own := fun b x hf hwr hx => by rw [hHg] at hwr; exact .inl ⟨b, x, hf, by rw [hH0]; exact WRo_iff.1 hwr, hx, rfl⟩
          newr := fun b x hb hx => by have := (hst.lt b x hx).1; rw [hH0] at hb; omega }
      · cases h
    · cases h
  · cases h

/-- ALL CALLS. -/
theorem call_sound (hm : P.follows .mixedOrders = true) (hN : NamesOk P) (k n : Nat) : CallS P (callV P k n) :=
  callV_sound hN k (fun n h => draw_wp hm h (callV_vf k n) hN) n

/-- Calls that are sound and leave alone what they do not own. -/
structure CallOK (P : Program) (call : CallFn) : Prop where
  s : CallS P call
  vf : CallVF call

theorem CallOK.step (hm : P.follows .mixedOrders = true) (hN : NamesOk P) {call : CallFn} (h : CallOK P call) (k : Nat) : CallOK P (stepC P call k) :=
  ⟨step_sound hN k h.s (draw_wp hm h.s h.vf hN), step_vf k h.vf⟩
end Go.Vm

namespace Go.Vm
variable {P : Program}

/-! ### Values without addresses -/
def flat2 : Value → Bool
  | .tuple vs => vs.toList.all flat
  | v => flat v

theorem LR.flat_eq {σ : Sg} : ∀ {l l' : List Value}, LR σ l l' → l.all flat = true → l' = l
  | [], l', h, _ => by have := h.len; simp at this; exact List.eq_nil_of_length_eq_zero this.symm
  | v :: r, [], h, _ => by have := h.len; simp at this
  | v :: r, v' :: r', h, hp => by
    simp only [List.all_cons, Bool.and_eq_true] at hp
    rw [h.head.flat_eq hp.1, h.tail.flat_eq hp.2]

theorem VR.flat2_eq {σ : Sg} {v v' : Value} (h : VR σ v v') (hp : flat2 v = true) : v' = v := by
  cases v with
  | tuple cs =>
    obtain ⟨cs', rfl, hl⟩ := h.tuple_inv
    have := hl.flat_eq hp
    congr 1
    exact Array.toList_inj.1 this
  | _ => exact h.flat_eq hp

theorem LR.of_flat {σ : Sg} : ∀ {l : List Value}, l.all flat = true → LR σ l l
  | [], _ => .nil
  | v :: r, h => by
    simp only [List.all_cons, Bool.and_eq_true] at h
    exact .cons (VR.of_flat h.1) (LR.of_flat h.2)

theorem VR.of_flat2 {σ : Sg} {v : Value} (h : flat2 v = true) : VR σ v v := by
  cases v with
  | tuple cs => exact VR.tupleL (LR.of_flat (l := cs.toList) h)
  | _ => exact VR.of_flat h

/-! ### What one call may do where it owns nothing -/
structure Grow (w w' : World) : Prop where
  os : w'.os = w.os
  tape : w'.tape = w.tape
  output : w'.output = w.output
  size : w.heap.size ≤ w'.heap.size
  frame : ∀ r, r < w.heap.size → w'.heap[r]? = w.heap[r]?

theorem Grow.st {w w' : World} (h : Grow w w') {σ : Sg} {H : Heap} (hs : St σ H w) : St σ H w' where
  ok b x k hx hk := (hs.ok b x k hx hk).mono (fun _ _ h => h) (h.frame x.1 (hs.lt b x hx).2)
  lt b x hx := ⟨(hs.lt b x hx).1, Nat.lt_of_lt_of_le (hs.lt b x hx).2 h.size⟩
  inj := hs.inj

theorem Grow.stp {w w' : World} (h : Grow w w') {σ : Sg} {H : Heap} (hs : St σ H w) : Stp σ H w σ H w' where
  next := Nat.le_refl _
  floor := rfl
  sub _ _ := rfl
  low _ _ _ := rfl
  alive _ _ h := h
  wr _ _ h := h
  os := h.os
  tape := h.tape
  output := h.output
  size := h.size
  frame r hr _ := h.frame r hr
  own _ h := .inl h
  newr b x hb hx := by have := (hs.lt b x hx).1; omega

def sg0 : Sg := fun _ => none
theorem st0 (w : World) : St sg0 heap0 w := ⟨(fun b x k h => by cases h), (fun b x h => by cases h), (fun b b' x x' _ h => by cases h)⟩

theorem Stp.grow {w w' : World} {σ' : Sg} {H' : Heap} (h : Stp sg0 heap0 w σ' H' w') : Grow w w' :=
  ⟨h.os, h.tape, h.output, h.size, fun r hr => h.frame r hr fun ⟨b, x, _, hw, _⟩ => (by obtain ⟨k, hk⟩ := hw.some; cases hk)⟩

/-- From numbers to numbers. -/
def PureS (P : Program) (f : FuncId) (args : List Value) (v : Value) : Prop :=
  ∀ w : World, Calls P f args.toArray w fun e w' => e = .returned v ∧ Grow w w'

theorem pure_of_run {call : CallFn} (hc : CallS P call) {f : FuncId} {args : List Value} {v : Value} {H' : Heap} (h : call f args heap0 = some (v, H'))
    (ha : args.all flat = true) (hv : flat2 v = true) : PureS P f args v := by
  intro w
  refine (hc.runs h sg0 w args.toArray (by simpa using LR.of_flat ha) (st0 w)).mono ?_
  rintro e w' ⟨v', σ', rfl, h1, h2, h3⟩
  exact ⟨by rw [h1.flat2_eq hv], h3.grow⟩

/-! ### Tables -/
abbrev Ent := List Value → Heap → R

/-- A contract: what stands for the calls of one function. -/
structure EntOK (P : Program) (f : FuncId) (e : Ent) : Prop where
  body : ∀ {args H v H'}, e args H = some (v, H') → ∃ fn c, P.funcs[f]? = some fn ∧ fn.body = some c
  runs : ∀ {args H v H'}, e args H = some (v, H') → ∀ (σ : Sg) (w : World) (args' : Array Value), LR σ args args'.toList → St σ H w →
    Calls P f args' w fun e w' => ∃ v' σ', e = .returned v' ∧ VR σ' v v' ∧ St σ' H' w' ∧ Stp σ H w σ' H' w'
  vf : ∀ {args H v H'}, e args H = some (v, H') → VF H H' fun _ => True

def tabC : List (Nat × Ent) → CallFn
  | [], _, _, _ => none
  | (g, e) :: r, f, args, H => match g.beq f with
    | true => e args H
    | false => tabC r f args H

theorem tabC_mem : ∀ {tab : List (Nat × Ent)} {f args H x}, tabC tab f args H = some x → ∃ e, (f, e) ∈ tab ∧ e args H = some x
  | [], f, args, H, x, h => by cases h
  | (g, e) :: r, f, args, H, x, h => by
    unfold tabC at h
    split at h
    · rename_i hb
      have := Nat.eq_of_beq_eq_true hb
      subst this
      exact ⟨e, List.mem_cons_self, h⟩
    · obtain ⟨e', h1, h2⟩ := tabC_mem h
      exact ⟨e', List.mem_cons_of_mem _ h1, h2⟩

theorem tabC_ok {tab : List (Nat × Ent)} (h : ∀ p ∈ tab, EntOK P p.1 p.2) : CallOK P (tabC tab) where
  s := ⟨fun hr => let ⟨_, h1, h2⟩ := tabC_mem hr; (h _ h1).body h2, fun hr => let ⟨_, h1, h2⟩ := tabC_mem hr; (h _ h1).runs h2⟩
  vf hr := let ⟨_, h1, h2⟩ := tabC_mem hr; (h _ h1).vf h2

/-- The calls of functions from numbers to numbers. -/
def pureE (e : List Value → Option Value) : Ent := fun args H => match e args with
  | some v => some (v, H)
  | none => none

theorem pureE_ok {call : CallFn} (hc : CallOK P call) (hm : P.follows .mixedOrders = true) (hN : NamesOk P) {f : FuncId} {e : List Value → Option Value}
    (h : ∀ args v, e args = some v → args.all flat = true ∧ flat2 v = true ∧ ∃ k H', stepC P call k f args heap0 = some (v, H')) : EntOK P f (pureE e) where
  body {args H v H'} hr := by
    unfold pureE at hr
    split at hr
    · rename_i u hu
      obtain ⟨_, _, k, H', hk⟩ := h _ _ hu
      exact (hc.step hm hN k).s.body hk
    · cases hr
  runs {args H v H'} hr σ w args' hl hst := by
    unfold pureE at hr
    split at hr
    · rename_i u hu
      simp only [Option.some.injEq, Prod.mk.injEq] at hr
      obtain ⟨rfl, rfl⟩ := hr
      obtain ⟨ha, hv, k, H', hk⟩ := h _ _ hu
      have hp := pure_of_run (hc.step hm hN k).s hk ha hv w
      have he : args' = args.toArray := by
        have := hl.flat_eq ha
        exact Array.toList_inj.1 (by simpa using this)
      rw [he]
      refine hp.mono ?_
      rintro e w' ⟨rfl, hg⟩
      exact ⟨u, σ, rfl, VR.of_flat2 hv, hg.st hst, hg.stp hst⟩
    · cases hr
  vf {args H v H'} hr := by
    unfold pureE at hr
    split at hr
    · simp only [Option.some.injEq, Prod.mk.injEq] at hr
      obtain ⟨rfl, rfl⟩ := hr
      exact VF.refl
    · cases hr

end Go.Vm

namespace Go.Vm

abbrev Fn := Nat → Value
structure Fr where
  f : Fn
  n : Nat

def upd (f : Fn) (d : Nat) (v : Value) : Fn := fun i => match i.beq d with
  | true => v
  | false => f i

def evS (f : Fn) : Operand → Option Value
  | .tmp t => some (f t)
  | .const v => if flat v then some v else none
  | .global _ => none
  | .func g => some (.func (.func g) #[] #[])
def evLS (f : Fn) : List Operand → Option (List Value)
  | [] => some []
  | x :: r => match evS f x, evLS f r with
    | some v, some vs => some (v :: vs)
    | _, _ => none
def evPS (f : Fn) : List (Nat × Operand) → Option (List (Nat × Value))
  | [] => some []
  | (i, x) :: r => match evS f x, evPS f r with
    | some v, some vs => some ((i, v) :: vs)
    | _, _ => none
def allocS {β : Type} (H : Heap) (cs : List Value) (lo : Option Nat) (k : Nat → Heap → β) : β := k H.next (H.new (.cells cs lo false))

def putS (H : Heap) (a : Addr) (vs : List Value) : Option Heap :=
  match a.spot, H.get a.block with
  | none, some (.cells cs lo false) =>
    if a.off + vs.length ≤ cs.length then
      if H.floor ≤ a.block then
        if vs.all oneCell then some (H.put a.block (some (.cells (splice cs a.off vs) lo false))) else none
      else none
    else none
  | _, _ => none


def storeS (P : Program) (H : Heap) (t : TypeId) (a : Addr) (v : Value) : Option Heap :=
  match sizeT P t with
  | some n => if v.cells.size = n then putS H a v.cells.toList else none
  | none => none


def convS (P : Program) (H : Heap) (src dst : TypeId) (x : Value) : R :=
  match x, P.underlying dst with
  | .string s, some (.slice e) =>
    match P.underlying e, P.underlying src with
    | some (.int .u8), some _ => allocS H (bytesCells s) (some 1) fun b H' => some (.slice (some ⟨b, 0, none⟩) s.size s.size, H')
    | _, _ => none
  | .slice (some a) n c, some (.slice e) =>
    match P.underlying src, P.underlying e, H.get a.block with
    | some (.slice _), some (.int .u8), some (.cells _ _ false) => if src = dst ∧ H.floor ≤ a.block then some (.slice (some a) n c, H) else none
    | _, _, _ => none
  | _, _ => if flat x then keep H (flatOnly (pureRun P (convert src dst x))) else none


def makeSliceS (P : Program) (H : Heap) (t : TypeId) (len cap : Value) : R :=
  match P.underlying t, len, cap with
  | some (.slice e), .int _ l, .int _ c =>
    match P.info? e, zeroT P e with
    | some i, some z =>
      if 0 ≤ l ∧ l ≤ c ∧ c ≤ roomV ∧ c * i.bytes ≤ roomV ∧ z.cells.size = i.size then
        allocS H (List.replicate c.toNat z.cells.toList).flatten none fun b H' => some (.slice (some ⟨b, 0, none⟩) l.toNat c.toNat, H')
      else none
    | _, _ => none
  | _, _, _ => none


def buildSliceS (P : Program) (H : Heap) (t : TypeId) (len : Nat) (parts : List (Nat × Value)) : R :=
  match P.underlying t with
  | some (.slice e) => match sizeT P e, zeroT P e with
    | some s, some z =>
      if len * s ≤ 2 ^ 24 ∧ z.cells.size = s ∧ 0 < s then
        match fillS (fun i => some (i * s, s)) (List.replicate len z.cells.toList).flatten parts with
        | some cs => if cs.all oneCell then allocS H cs none fun b H' => some (.slice (some ⟨b, 0, none⟩) len len, H') else none
        | none => none
      else none
    | _, _ => none
  | _ => none


def appendS (P : Program) (H : Heap) (argTypes : Array TypeId) (s x : Value) : R :=
  match (argTypes[0]?).bind P.underlying, (argTypes[1]?).bind P.underlying with
  | some (.slice e), some xt =>
    match xt with
    | .int _ => none
    | _ =>
    match P.info? e, s with
    | some i, .slice base n cap =>
      match srcCells H i.size x with
      | some (k, new) =>
        if n + k ≤ cap then
          match base with
          | some a => if k = 0 then some (s, H) else (putS H ⟨a.block, a.off + n * i.size, a.spot⟩ new).map fun H' => (.slice base (n + k) cap, H')
          | none => if k = 0 then some (.slice none n cap, H) else none
        else if (n + k) * i.bytes ≤ roomV ∧ n + k ≤ roomV ∧ 0 < i.size ∧ ((zeroT P e).map (·.cells.size)) = some i.size then
          match base with
          | none => if n = 0 then allocS H new (some i.size) fun b H' => some (.slice (some ⟨b, 0, none⟩) k k, H') else none
          | some a =>
            match a.spot, H.get a.block with
            | none, some (.cells cs none _) =>
              if a.off + n * i.size ≤ cs.length then
                allocS H ((cs.drop a.off).take (n * i.size) ++ new) (some i.size) fun b H' => some (.slice (some ⟨b, 0, none⟩) (n + k) (n + k), H')
              else none
            | none, some (.cells cs (some z) false) =>
              if z = i.size ∧ a.off + n * i.size ≤ cs.length ∧ a.off + cap * i.size ≤ cs.length ∧ H.floor ≤ a.block ∧ new.all oneCell = true then
                allocS (H.put a.block none) ((cs.drop a.off).take (n * i.size) ++ new) (some i.size) fun b H' => some (.slice (some ⟨b, 0, none⟩) (n + k) (n + k), H')
              else none
            | _, _ => none
        else none
      | none => none
    | _, _ => none
  | _, _ => none

def copyS (P : Program) (H : Heap) (argTypes : Array TypeId) (d x : Value) : R :=
  match (argTypes[0]?).bind P.underlying with
  | some (.slice e) =>
    match sizeT P e, d with
    | some size, .slice base n cd =>
      if base.isNone && !(n.beq 0 && cd.beq 0) then none else
      match x with
      | .slice (some s) k c =>
        match srcCells H size (.slice (some s) k c), base with
        | some (_, new), some a => (putS H a (new.take (Nat.min k n * size))).map fun H' => (.int .i64 (Nat.min k n : Nat), H')
        | some _, none => some (.int .i64 0, H)
        | _, _ => none
      | .slice none 0 _ => some (.int .i64 0, H)
      | _ => none
    | _, _ => none
  | _ => none


def builtinS (P : Program) (H : Heap) (b : Builtin) (argTypes : Array TypeId) (type : TypeId) (args : List Value) : R :=
  match b, args with
  | .append, [s, x] => appendS P H argTypes s x
  | .copy, [d, x] => copyS P H argTypes d x
  | .len, [x] => keep H (lenV P H argTypes x)
  | .max, xs => if xs.all flat then keep H (flatOnly (pureRun P (Builtin.max_ argTypes type xs.toArray))) else none
  | .min, xs => if xs.all flat then keep H (flatOnly (pureRun P (Builtin.min_ argTypes type xs.toArray))) else none
  | _, _ => none


structure DenOS where
  run : Fr → Heap → R

def sMove (x : Operand) (T : Fr) (H : Heap) : R := keep H (evS T.f x)
def sPick (c a b : Operand) (T : Fr) (H : Heap) : R :=
  match evS T.f c, evS T.f a, evS T.f b with
  | some (.bool c), some a, some b => some (if c then a else b, H)
  | _, _, _ => none
def sAlloc (P : Program) (e : TypeId) (H : Heap) : R :=
  match zeroT P e with
  | some z => allocS H z.cells.toList none fun b H' => some (.pointer (some ⟨b, 0, none⟩), H')
  | none => none
def sBox (x : Operand) (T : Fr) (H : Heap) : R :=
  match evS T.f x with
  | some v => if v.cells.toList.all oneCell then allocS H v.cells.toList none fun b H' => some (.pointer (some ⟨b, 0, none⟩), H') else none
  | none => none
def sBuild (P : Program) (t : TypeId) (parts : List (Nat × Operand)) (T : Fr) (H : Heap) : R :=
  match evPS T.f parts with
  | some ps => keep H (buildV P t ps)
  | none => none
def sBuildSlice (P : Program) (t : TypeId) (n : Nat) (parts : List (Nat × Operand)) (T : Fr) (H : Heap) : R :=
  match evPS T.f parts with
  | some ps => buildSliceS P H t n ps
  | none => none
def sLoad (P : Program) (t : TypeId) (a : Operand) (T : Fr) (H : Heap) : R :=
  match (evS T.f a).bind addrOf with
  | some a => keep H (loadV P H t a)
  | none => none
def sStore (P : Program) (t : TypeId) (a x : Operand) (T : Fr) (H : Heap) : R :=
  match (evS T.f a).bind addrOf, evS T.f x with
  | some a, some v => (storeS P H t a v).map fun H' => (undef, H')
  | _, _ => none
def sNil (x : Operand) (T : Fr) (H : Heap) : R := keep H ((evS T.f x).bind nilCheckV)
def sBin (P : Program) (op : BinOp) (t : TypeId) (x y : Operand) (T : Fr) (H : Heap) : R :=
  match evS T.f x, evS T.f y with
  | some a, some b => keep H (binV P op t x y a b)
  | _, _ => none
def sUn (P : Program) (op : UnOp) (x : Operand) (T : Fr) (H : Heap) : R :=
  match evS T.f x with
  | some a => if flat a then keep H (flatOnly (pureRun P (Op.unary op a))) else none
  | none => none
def sConv (P : Program) (src dst : TypeId) (x : Operand) (T : Fr) (H : Heap) : R :=
  match evS T.f x with
  | some a => convS P H src dst a
  | none => none
def sFunc (f : FuncId) (first captured : List Operand) (T : Fr) (H : Heap) : R :=
  match evLS T.f first, evLS T.f captured with
  | some a, some b => some (.func (.func f) a.toArray b.toArray, H)
  | _, _ => none
def sMakeSlice (P : Program) (t : TypeId) (l c : Operand) (T : Fr) (H : Heap) : R :=
  match evS T.f l, evS T.f c with
  | some l, some c => makeSliceS P H t l c
  | _, _ => none
def evMS (f : Fn) : Option Operand → Option (Option Value)
  | none => some none
  | some x => match evS f x with
    | some v => some (some v)
    | none => none
def sSlice (P : Program) (t : TypeId) (x : Operand) (lo hi mx : Option Operand) (T : Fr) (H : Heap) : R :=
  match evS T.f x, evMS T.f lo, evMS T.f hi, evMS T.f mx with
  | some x, some lo, some hi, some mx => keep H (sliceV P H t x lo hi mx)
  | _, _, _, _ => none
def sFieldAddr (P : Program) (t : TypeId) (x : Operand) (i : Nat) (T : Fr) (H : Heap) : R :=
  match evS T.f x with
  | some x => keep H (fieldAddrV P t x i)
  | none => none
def sField (P : Program) (t : TypeId) (x : Operand) (i : Nat) (T : Fr) (H : Heap) : R :=
  match evS T.f x with
  | some x => keep H (fieldV P t x i)
  | none => none
def sIndexAddr (P : Program) (t : TypeId) (x i : Operand) (T : Fr) (H : Heap) : R :=
  match evS T.f x, evS T.f i with
  | some x, some i => keep H (indexAddrV P t x i)
  | _, _ => none
def sIndex (P : Program) (t : TypeId) (x i : Operand) (T : Fr) (H : Heap) : R :=
  match evS T.f x, evS T.f i with
  | some x, some i => keep H (indexV P t x i)
  | _, _ => none
def sLookup (P : Program) (t : TypeId) (x k : Operand) (ok : Bool) (T : Fr) (H : Heap) : R :=
  match evS T.f x, evS T.f k with
  | some x, some k => keep H (lookupV P H t x k ok)
  | _, _ => none
def sUpdate (P : Program) (t : TypeId) (m k v : Operand) (T : Fr) (H : Heap) : R :=
  match evS T.f m, evS T.f k, evS T.f v with
  | some m, some k, some v => (mapUpdateV P H t m k v).map fun H' => (undef, H')
  | _, _, _ => none
def sExtract (x : Operand) (i : Nat) (T : Fr) (H : Heap) : R :=
  match evS T.f x with
  | some (.tuple vs) => keep H vs[i]?
  | _ => none
def sBuiltin (P : Program) (type : TypeId) (b : Builtin) (args : List Operand) (argTypes : Array TypeId) (T : Fr) (H : Heap) : R :=
  match evLS T.f args with
  | some vs => builtinS P H b argTypes type vs
  | none => none

/-- The operations that enter no function. -/
def simpleS (P : Program) (type : TypeId) : Op → DenOS
  | .move x | .assign x => ⟨sMove x⟩
  | .pick c a b => ⟨sPick c a b⟩
  | .alloc e => ⟨fun _ => sAlloc P e⟩
  | .box _ x => ⟨sBox x⟩
  | .build t parts => ⟨sBuild P t parts.toList⟩
  | .buildSlice t n parts => ⟨sBuildSlice P t n parts.toList⟩
  | .load t a => ⟨sLoad P t a⟩
  | .store t a x => ⟨sStore P t a x⟩
  | .nilCheck x => ⟨sNil x⟩
  | .binOp op t x y _ => ⟨sBin P op t x y⟩
  | .unOp op _ x => ⟨sUn P op x⟩
  | .convert src dst x => ⟨sConv P src dst x⟩
  | .makeFunc (.func f) first captured => ⟨sFunc f first.toList captured.toList⟩
  | .makeMap _ none => ⟨fun _ H => some (.map (some H.next), H.new (.map []))⟩
  | .makeSlice t l c => ⟨sMakeSlice P t l c⟩
  | .slice t x lo hi mx => ⟨sSlice P t x lo hi mx⟩
  | .fieldAddr t x i => ⟨sFieldAddr P t x i⟩
  | .field t x i => ⟨sField P t x i⟩
  | .indexAddr t x i => ⟨sIndexAddr P t x i⟩
  | .index t x i => ⟨sIndex P t x i⟩
  | .lookup t x k ok => ⟨sLookup P t x k ok⟩
  | .mapUpdate t m k v | .insert t m k v => ⟨sUpdate P t m k v⟩
  | .extract x i => ⟨sExtract x i⟩
  | .call ⟨.builtin b, args, argTypes⟩ => ⟨sBuiltin P type b args.toList argTypes⟩
  | _ => ⟨fun _ _ => none⟩


variable {β : Type}
/-- What a run over symbols comes to: its branches. -/
inductive Tr (β : Type) where
  | fail
  | leaf (x : β)
  | node (b : Bool) (x y : Tr β)
def onB {γ : Type} (b : Bool) (x y : γ) : γ := match b with
  | true => x
  | false => y
def Tr.eval : Tr β → Option β
  | .fail => none
  | .leaf x => some x
  | .node b x y => onB b x.eval y.eval
/-- One path: its condition and its end. -/
def Tr.follow : List Bool → Tr β → Option (Bool × β)
  | [], .leaf x => some (true, x)
  | b :: r, .node c x y => match b with
    | true => match x.follow r with
      | some (d, v) => some (c && d, v)
      | none => none
    | false => match y.follow r with
      | some (d, v) => some (!c && d, v)
      | none => none
  | _, _ => none
def onR (r : R) (κ : Value → Heap → Tr β) : Tr β := match r with
  | some (v, H) => κ v H
  | none => .fail

/-- A branch: the slot that it looks at is known beyond it. -/
def onT (T : Fr) (t : Tmp) (b : Bool) (x y : Fr → Tr β) : Tr β := Tr.node b (x ⟨upd T.f t (.bool true), T.n⟩) (y ⟨upd T.f t (.bool false), T.n⟩)
def wantedS (ops : List Oper) (T : Fr) (o : Oper) (x y : Fr → Tr β) : Tr β :=
  match o.guard with
  | none => x T
  | some (j, want) => match ((ops[j]?).bind (·.dst)) with
    | some t => match T.f t with
      | .bool b => match want with
        | true => onT T t b x y
        | false => onT T t b y x
      | _ => y T
    | none => y T

/-! The operations in the manner of what comes next. -/
structure Hk where
  eq : TypeId → List Value → List Value → Option Bool

/-- Calls in the same manner. -/
abbrev KCall (β : Type) := FuncId → List Value → Heap → (Value → Heap → Tr β) → Tr β
def kCall (x : Operand) (args : List Operand) (call : KCall β) (T : Fr) (H : Heap) (κ : Value → Heap → Tr β) : Tr β :=
  match evS T.f x, evLS T.f args with
  | some v, some vs => match calleeOf v vs with
    | some (g, as) => call g as H κ
    | none => .fail
  | _, _ => .fail

/-- All cells are numbers of one kind. -/
def allK (k : IntKind) : List Value → Bool
  | [] => true
  | .int k' _ :: r => match decide (k' = k) with
    | true => allK k r
    | false => false
  | _ => false
def uni : List Value → Option IntKind
  | .int k _ :: r => match allK k r with
    | true => some k
    | false => none
  | _ => none
/-- The longest row of numbers of one kind in a block: at least two. -/
def cntK (k : IntKind) : List Value → Nat
  | .int k' _ :: r => match decide (k' = k) with
    | true => cntK k r + 1
    | false => 0
  | _ => 0
def winN : Nat → List Value → Option (IntKind × Nat × Nat)
  | _, [] => none
  | j, .int k _ :: r => match winN (j + 1) r with
    | some (k', lo, m) => match Nat.ble m (cntK k r + 1) with
      | true => some (k, j, cntK k r + 1)
      | false => some (k', lo, m)
    | none => match cntK k r with
      | 0 => none
      | m + 1 => some (k, j, m + 2)
  | j, _ :: r => winN (j + 1) r
def selInt (cs : List Value) (i : Nat) : Int := match nth cs i with
  | some (.int _ n) => n
  | _ => 0
def ints (k : IntKind) (cs : List Value) : Nat → Nat → List Value
  | _, 0 => []
  | off, n + 1 => .int k (selInt cs off) :: ints k cs (off + 1) n
def updInt (off : Nat) (vs : List Value) (j : Nat) (old : Int) : Int := match Nat.ble off j with
  | true => match nth vs (j - off) with
    | some (.int _ n) => n
    | _ => old
  | false => old
def updI (k : IntKind) (off : Nat) (vs : List Value) : Nat → List Value → List Value
  | _, [] => []
  | j, .int _ n :: r => .int k (updInt off vs j n) :: updI k off vs (j + 1) r
  | j, _ :: r => .int k (updInt off vs j 0) :: updI k off vs (j + 1) r
def shapeI (ag : Bool) (k : IntKind) (cs : List Value) (off n : Nat) : Value := match ag with
  | true => .agg (ints k cs off n).toArray
  | false => .int k (selInt cs off)

def kBin (P : Program) (hk : Hk) (op : BinOp) (t : TypeId) (x y : Operand) (T : Fr) (H : Heap) (κ : Value → Heap → Tr β) : Tr β :=
  match evS T.f x, evS T.f y with
  | some a, some b =>
    match op, a, b with
    | .quo, .int k a, .int k' b => match decide (k = k') with
      | true => Tr.node (decide (b = 0)) .fail (κ (.int k (k.wrap (a.tdiv b))) H)
      | false => .fail
    | .rem, .int k a, .int k' b => match decide (k = k') with
      | true => Tr.node (decide (b = 0)) .fail (κ (.int k (a.tmod b)) H)
      | false => .fail
    | .shl, .int k a, .int _ b => Tr.node (decide (b < 0)) .fail (κ (.int k (k.wrap (a * 2 ^ min b.toNat k.bits))) H)
    | .shr, .int k a, .int _ b => Tr.node (decide (b < 0)) .fail (κ (.int k (a.fdiv (2 ^ min b.toNat k.bits))) H)
    | .eql, .agg u, .agg v => match hk.eq t u.toList v.toList with
      | some b => κ (.bool b) H
      | none => onR (keep H (binV P .eql t x y (.agg u) (.agg v))) κ
    | .neq, .agg u, .agg v => match hk.eq t u.toList v.toList with
      | some b => κ (.bool (!b)) H
      | none => onR (keep H (binV P .neq t x y (.agg u) (.agg v))) κ
    | op, a, b => onR (keep H (binV P op t x y a b)) κ
  | _, _ => .fail
def kIndexAddr (P : Program) (t : TypeId) (x i : Operand) (T : Fr) (H : Heap) (κ : Value → Heap → Tr β) : Tr β :=
  match evS T.f x, evS T.f i with
  | some x, some i =>
    match P.underlying t, x, i with
    | some (.array len e), .pointer (some ⟨b, off, none⟩), .int _ i =>
      match sizeT P e with
      | some s => Tr.node (decide (0 ≤ i)) (Tr.node (decide (i < len)) (κ (.pointer (some ⟨b, off + i.toNat * s, none⟩)) H) .fail) .fail
      | none => .fail
    | some (.slice e), .slice (some ⟨b, off, none⟩) len _, .int _ i =>
      match sizeT P e with
      | some s => Tr.node (decide (0 ≤ i)) (Tr.node (decide (i < len)) (κ (.pointer (some ⟨b, off + i.toNat * s, none⟩)) H) .fail) .fail
      | none => .fail
    | _, _, _ => .fail
  | _, _ => .fail
def kIndex (P : Program) (t : TypeId) (x i : Operand) (T : Fr) (H : Heap) (κ : Value → Heap → Tr β) : Tr β :=
  match evS T.f x, evS T.f i with
  | some x, some i =>
    match P.underlying t, x, i with
    | some (.array len e), .agg cs, .int ki i =>
      match uni cs.toList, isAggT P e, sizeT P e with
      | some k, some ag, some s => match Nat.beq cs.toList.length (len * s) && Nat.ble 1 s with
        | true => Tr.node (decide (0 ≤ i)) (Tr.node (decide (i < len)) (κ (shapeI ag k cs.toList (i.toNat * s) s) H) .fail) .fail
        | false => onR (keep H (indexV P t (.agg cs) (.int ki i))) κ
      | _, _, _ => onR (keep H (indexV P t (.agg cs) (.int ki i))) κ
    | _, x, i => onR (keep H (indexV P t x i)) κ
  | _, _ => .fail
def kLoad (P : Program) (t : TypeId) (a : Operand) (T : Fr) (H : Heap) (κ : Value → Heap → Tr β) : Tr β :=
  match (evS T.f a).bind addrOf with
  | some a => match H.get a.block, isAggT P t, sizeT P t with
    | some (.cells cs _ _), some ag, some n => match uni cs with
      | some k => Tr.node (Nat.ble (a.off + (match ag with | true => n | false => 1)) cs.length) (κ (shapeI ag k cs a.off n) H) .fail
      | none => match winN 0 cs with
        | some (k, lo, m) => Tr.node (Nat.ble lo a.off && Nat.ble (a.off + (match ag with | true => n | false => 1)) (lo + m)) (κ (shapeI ag k cs a.off n) H) (onR (keep H (loadV P H t a)) κ)
        | none => onR (keep H (loadV P H t a)) κ
    | _, _, _ => .fail
  | none => .fail
def kStore (P : Program) (t : TypeId) (a x : Operand) (T : Fr) (H : Heap) (κ : Value → Heap → Tr β) : Tr β :=
  match (evS T.f a).bind addrOf, evS T.f x with
  | some a, some v => match H.get a.block, sizeT P t with
    | some (.cells cs lo false), some n =>
      match uni cs with
      | some k => match allK k v.cells.toList && (Nat.beq v.cells.toList.length n && Nat.ble H.floor a.block) with
        | true => Tr.node (Nat.ble (a.off + n) cs.length) (κ undef (H.put a.block (some (.cells (updI k a.off v.cells.toList 0 cs) lo false)))) .fail
        | false => onR ((storeS P H t a v).map fun H' => (undef, H')) κ
      | none => match winN 0 cs with
        | some (k, w, m) => match allK k v.cells.toList && (Nat.beq v.cells.toList.length n && Nat.ble H.floor a.block) with
          | true => Tr.node (Nat.ble w a.off && Nat.ble (a.off + n) (w + m)) (κ undef (H.put a.block (some (.cells (cs.take w ++ updI k a.off v.cells.toList w ((cs.drop w).take m) ++ cs.drop (w + m)) lo false)))) (onR ((storeS P H t a v).map fun H' => (undef, H')) κ)
          | false => onR ((storeS P H t a v).map fun H' => (undef, H')) κ
        | none => onR ((storeS P H t a v).map fun H' => (undef, H')) κ
    | _, _ => .fail
  | _, _ => .fail
def kPick (c a b : Operand) (T : Fr) (H : Heap) (κ : Value → Heap → Tr β) : Tr β :=
  match evS T.f c, evS T.f a, evS T.f b with
  | some (.bool c), some a, some b => κ (match c with | true => a | false => b) H
  | _, _, _ => .fail

structure DenCS (β : Type) where
  run : KCall β → Fr → Heap → (Value → Heap → Tr β) → Tr β
def opS (P : Program) (hk : Hk) (o : Oper) : DenCS β :=
  match o.op with
  | .call ⟨.value f, args, _⟩ => ⟨fun call T H κ => kCall f args.toList call T H κ⟩
  | .binOp op t x y _ => ⟨fun _ T H κ => kBin P hk op t x y T H κ⟩
  | .indexAddr t x i => ⟨fun _ T H κ => kIndexAddr P t x i T H κ⟩
  | .index t x i => ⟨fun _ T H κ => kIndex P t x i T H κ⟩
  | .load t a => ⟨fun _ T H κ => kLoad P t a T H κ⟩
  | .store t a x => ⟨fun _ T H κ => kStore P t a x T H κ⟩
  | .pick c a b => ⟨fun _ T H κ => kPick c a b T H κ⟩
  | op => ⟨fun _ T H κ => onR ((simpleS P o.type op).run T H) κ⟩

def putF (T : Fr) (dst : Option Tmp) (v : Value) (κ : Fr → Tr β) : Tr β :=
  match dst with
  | none => κ T
  | some d => match Nat.ble (d + 1) T.n with
    | true => κ ⟨upd T.f d v, T.n⟩
    | false => .fail

structure DenLS (β : Type) where
  run : KCall β → Fr → Heap → (Fr → Heap → Tr β) → Tr β
def stepS (P : Program) (hk : Hk) (ops : List Oper) (o : Oper) (call : KCall β) (T : Fr) (H : Heap) (κ : Fr → Heap → Tr β) : Tr β :=
  wantedS ops T o (fun T => (opS P hk o).run call T H fun v H' => putF T o.dst v fun T' => κ T' H') (fun T => putF T o.dst undef fun T' => κ T' H)
def opsS (P : Program) (hk : Hk) (ops : List Oper) : List Oper → DenLS β
  | [] => ⟨fun _ T H κ => κ T H⟩
  | o :: r => ⟨fun call T H κ => stepS P hk ops o call T H fun T' H' => (opsS P hk ops r).run call T' H' κ⟩

def blkS (f : Fn) (x : Operand) : List Nat :=
  match evS f x with
  | some v => blkOf v
  | none => []
def fpS (f : Fn) (o : Oper) : Fp :=
  match o.op with
  | .load _ a => .mem (blkS f a) []
  | .store _ a _ => .mem [] (blkS f a)
  | .lookup _ x _ _ => .mem (blkS f x) []
  | .slice _ x _ _ _ => .mem (blkS f x) []
  | .convert _ _ x => .mem [] (blkS f x)
  | .mapUpdate _ m _ _ | .insert _ m _ _ => .mem [] (blkS f m)
  | .call ⟨.builtin .append, args, _⟩ => .mem ((args.toList.drop 1).flatMap (blkS f)) ((args.toList.take 1).flatMap (blkS f))
  | .call ⟨.builtin .copy, args, _⟩ => .mem ((args.toList.drop 1).flatMap (blkS f)) ((args.toList.take 1).flatMap (blkS f))
  | .call ⟨.builtin .len, args, _⟩ => .mem (args.toList.flatMap (blkS f)) []
  | .call ⟨.value _, _, _⟩ => .call
  | _ => .mem [] []

structure DenDS (β : Type) where
  run : KCall β → Fr → Heap → List Fp → (Fr → Heap → List Fp → Tr β) → Tr β
def stepDS (P : Program) (hk : Hk) (ops : List Oper) (bs : List Nat) (i : Nat) (o : Oper) (call : KCall β) (T : Fr) (H : Heap) (fs : List Fp)
    (κ : Fr → Heap → List Fp → Tr β) : Tr β :=
  wantedS ops T o
    (fun T => (opS P hk o).run call T (dropF (quietB bs ops.length i (fpS T.f o)) H) fun v H' => putF T o.dst v fun T' =>
      κ T' (liftF (quietB bs ops.length i (fpS T.f o)) H.floor H') (fs ++ [fpS T.f o]))
    (fun T => putF T o.dst undef fun T' => κ T' H (fs ++ [.mem [] []]))
def opsDS (P : Program) (hk : Hk) (ops : List Oper) (bs : List Nat) : List Oper → Nat → DenDS β
  | [], _ => ⟨fun _ T H fs κ => κ T H fs⟩
  | o :: r, i => ⟨fun call T H fs κ => stepDS P hk ops bs i o call T H fs fun T' H' fs' => (opsDS P hk ops bs r (i + 1)).run call T' H' fs' κ⟩
def regionDS (P : Program) (hk : Hk) (ops : List Oper) (call : KCall β) (T : Fr) (H : Heap) (κ : Fr → Heap → Tr β) : Tr β :=
  match regionOk ops with
  | true => (opsDS P hk ops (befores ops) ops 0).run call T H [] fun T' H' fs => match clashFree (befores ops) fs with
    | true => κ T' H'
    | false => .fail
  | false => .fail

abbrev Kt (β : Type) := Ex → Fr → Heap → Tr β
structure DenKS (β : Type) where
  run : KCall β → Nat → Fr → Heap → Kt β → Tr β
def loopS (b : Fr → Heap → Kt β → Tr β) : Nat → Fr → Heap → Kt β → Tr β
  | 0, _, _, _ => .fail
  | k + 1, T, H, κ => b T H fun ex T' H' => match ex with
    | .normal => loopS b k T' H' κ
    | ex => κ ex T' H'
def denS (P : Program) (hk : Hk) : Code → DenKS β
  | .skip => ⟨fun _ _ T H κ => κ .normal T H⟩
  | .label _ => ⟨fun _ _ T H κ => κ .normal T H⟩
  | .exit id => ⟨fun _ _ T H κ => κ (.exit id) T H⟩
  | .ret => ⟨fun _ _ T H κ => κ .ret T H⟩
  | .seq a b => ⟨fun call k T H κ => (denS P hk a).run call k T H fun ex T' H' => match ex with
    | .normal => (denS P hk b).run call k T' H' κ
    | ex => κ ex T' H'⟩
  | .cond x a b => ⟨fun call k T H κ => match evS T.f x with
    | some (.bool c) => match x with
      | .tmp t => onT T t c (fun T => (denS P hk a).run call k T H κ) (fun T => (denS P hk b).run call k T H κ)
      | _ => Tr.node c ((denS P hk a).run call k T H κ) ((denS P hk b).run call k T H κ)
    | _ => .fail⟩
  | .block id b => ⟨fun call k T H κ => (denS P hk b).run call k T H fun ex T' H' => match ex with
    | .exit i => match i.beq id with
      | true => κ .normal T' H'
      | false => κ (.exit i) T' H'
    | ex => κ ex T' H'⟩
  | .loop b => ⟨fun call k T H κ => loopS (fun T H κ => (denS P hk b).run call k T H κ) k T H κ⟩
  | .scope b => ⟨fun call k => (denS P hk b).run call k⟩
  | .region _ ops true => ⟨fun call _ T H κ => regionDS P hk ops.toList call T H (κ .normal)⟩
  | .region _ ops false => ⟨fun call _ T H κ => (opsS P hk ops.toList ops.toList).run call T H (κ .normal)⟩
  | _ => ⟨fun _ _ _ _ _ => .fail⟩

def resS (P : Program) (T : Fr) (H : Heap) : ResultVar → Option Value
  | .tmp t => some (T.f t)
  | .cell a t => match addrOf (T.f a) with
    | some a => loadV P H t a
    | none => none
def ressS (P : Program) (T : Fr) (H : Heap) : List ResultVar → Option (List Value)
  | [] => some []
  | r :: rs => match resS P T H r, ressS P T H rs with
    | some v, some vs => some (v :: vs)
    | _, _ => none
def retS (P : Program) (rs : List ResultVar) (κ : Value → Heap → Tr β) : Kt β := fun ex T H => match ex with
  | .exit _ => .fail
  | _ => match ressS P T H rs with
    | some [v] => κ v H
    | some vs => κ (.tuple vs.toArray) H
    | none => .fail
def callS (P : Program) (hk : Hk) (call : KCall β) (k : Nat) (f : FuncId) (args : List Value) (H : Heap) (κ : Value → Heap → Tr β) : Tr β :=
  match nth P.funcs.toList f with
  | some fn => match fn.body with
    | some c => match Nat.ble args.length fn.ntmps with
      | true => (denS P hk c).run call k ⟨fun i => (nth args i).getD undef, fn.ntmps⟩ H (retS P fn.results.toList κ)
      | false => .fail
    | none => .fail
  | none => .fail
/-- What a run gives. -/
def runT (P : Program) (hk : Hk) (call : KCall Value) (k : Nat) (f : FuncId) (args : List Value) (H : Heap) : Tr Value := callS P hk call k f args H fun v _ => .leaf v
end Go.Vm

namespace Go.Vm
variable {P : Program} {β : Type}

def toS (T : Frm) : Fr := ⟨T.get, T.n⟩

theorem evS_eq (T : Frm) (x : Operand) : evS T.get x = evO T x := by cases x <;> rfl
theorem evLS_eq (T : Frm) : ∀ l : List Operand, evLS T.get l = evL T l
  | [] => rfl
  | x :: r => by simp only [evLS, evL, evS_eq, evLS_eq T r] <;> rfl
theorem evPS_eq (T : Frm) : ∀ l : List (Nat × Operand), evPS T.get l = evParts T l
  | [] => rfl
  | (i, x) :: r => by simp only [evPS, evParts, evS_eq, evPS_eq T r] <;> rfl
theorem evMS_eq (T : Frm) (x : Option Operand) : evMS T.get x = evM T x := by cases x <;> simp only [evMS, evM, evS_eq] <;> rfl
theorem toS_f (T : Frm) : (toS T).f = T.get := rfl

theorem allocS_eq {γ : Type} (H : Heap) (cs : List Value) (lo : Option Nat) (k : Nat → Heap → γ) : allocS H cs lo k = allocK H cs lo k := (allocK_eq H cs lo k).symm
theorem putS_eq (H : Heap) (a : Addr) (vs : List Value) : putS H a vs = putCells H a vs := by unfold putS putCells; simp only [forceL_eq] <;> rfl
theorem storeS_eq (H : Heap) (t : TypeId) (a : Addr) (v : Value) : storeS P H t a v = storeV P H t a v := by unfold storeS storeV; simp only [putS_eq] <;> rfl
theorem convS_eq (H : Heap) (s d : TypeId) (x : Value) : convS P H s d x = convV P H s d x := by unfold convS convV; simp only [allocS_eq] <;> rfl
theorem makeSliceS_eq (H : Heap) (t : TypeId) (l c : Value) : makeSliceS P H t l c = makeSliceV P H t l c := by unfold makeSliceS makeSliceV; simp only [allocS_eq] <;> rfl
theorem buildSliceS_eq (H : Heap) (t : TypeId) (n : Nat) (ps : List (Nat × Value)) : buildSliceS P H t n ps = buildSliceV P H t n ps := by unfold buildSliceS buildSliceV; simp only [allocS_eq] <;> rfl
theorem appendS_eq (H : Heap) (ts : Array TypeId) (s x : Value) : appendS P H ts s x = appendV P H ts s x := by unfold appendS appendV; simp only [allocS_eq, putS_eq] <;> rfl
theorem copyS_eq (H : Heap) (ts : Array TypeId) (s x : Value) : copyS P H ts s x = copyV P H ts s x := by unfold copyS copyV; simp only [putS_eq] <;> rfl
theorem builtinS_eq (H : Heap) (b : Builtin) (ts : Array TypeId) (t : TypeId) (args : List Value) : builtinS P H b ts t args = builtinV P H b ts t args := by
  unfold builtinS builtinV; simp only [appendS_eq, copyS_eq] <;> rfl

theorem simpleS_eq (ty : TypeId) (op : Op) (T : Frm) (H : Heap) : (simpleS P ty op).run (toS T) H = (simpleV P ty op).run T H := by
  unfold simpleS simpleV
  split <;> simp only [sMove, oMove, sPick, oPick, sAlloc, oAlloc, sBox, oBox, sBuild, oBuild, sBuildSlice, oBuildSlice, sLoad, oLoad, sStore, oStore, sNil, oNil, sBin, oBin, sUn, oUn, sConv, oConv, sFunc, oFunc,
    sMakeSlice, oMakeSlice, sSlice, oSlice, sFieldAddr, oFieldAddr, sField, oField, sIndexAddr, oIndexAddr, sIndex, oIndex, sLookup, oLookup, sUpdate, oUpdate, sExtract, oExtract, sBuiltin, oBuiltin,
    toS_f, evS_eq, evLS_eq, evPS_eq, evMS_eq, allocS_eq, storeS_eq, convS_eq, makeSliceS_eq, buildSliceS_eq, builtinS_eq] <;> rfl

/-- What the table of equalities must say. -/
structure HkOK (P : Program) (hk : Hk) : Prop where
  eq : ∀ {t x y b}, hk.eq t x y = some b → ∀ xo yo, binV P .eql t xo yo (.agg x.toArray) (.agg y.toArray) = some (.bool b)
  ne : ∀ {t x y b}, hk.eq t x y = some b → ∀ xo yo, binV P .neq t xo yo (.agg x.toArray) (.agg y.toArray) = some (.bool (!b))

def hk0 : Hk := ⟨fun _ _ _ => none⟩
theorem hk0_ok : HkOK P hk0 := ⟨fun h => (by cases h), fun h => (by cases h)⟩

theorem nth_eq {α : Type} : ∀ (l : List α) (i : Nat), nth l i = l[i]?
  | [], i => by cases i <;> rfl
  | x :: r, 0 => rfl
  | x :: r, i + 1 => by simp [nth, nth_eq r i]

theorem allK_spec {k : IntKind} : ∀ {l : List Value}, allK k l = true → ∀ v, v ∈ l → ∃ n, v = .int k n
  | [], _, v, h => by cases h
  | x :: r, h, v, hv => by
    cases x with
    | int k' n =>
      simp only [allK] at h
      split at h
      · rename_i hk
        have hk := of_decide_eq_true hk
        subst hk
        cases hv with
        | head => exact ⟨n, rfl⟩
        | tail _ hv => exact allK_spec h v hv
      · cases h
    | _ => simp [allK] at h
theorem uni_spec {k : IntKind} {l : List Value} (h : uni l = some k) : ∀ v, v ∈ l → ∃ n, v = .int k n := by
  cases l with
  | nil => cases h
  | cons x r =>
    cases x with
    | int k' n =>
      simp only [uni] at h
      split at h
      · rename_i hk
        cases h
        intro v hv
        cases hv with
        | head => exact ⟨n, rfl⟩
        | tail _ hv => exact allK_spec hk v hv
      · cases h
    | _ => simp [uni] at h
theorem cntK_spec {k : IntKind} : ∀ (l : List Value) (i : Nat), i < cntK k l → ∃ n, l[i]? = some (.int k n)
  | [], i, h => by simp [cntK] at h
  | x :: r, i, h => by
    cases x with
    | int k' n =>
      simp only [cntK] at h
      split at h
      · rename_i hk
        have hk : k' = k := by simpa using hk
        subst hk
        cases i with
        | zero => exact ⟨n, rfl⟩
        | succ i =>
          obtain ⟨n', hn⟩ := cntK_spec (k := k') r i (by omega)
          exact ⟨n', by simpa using hn⟩
      · omega
    | _ => simp [cntK] at h
theorem winN_spec {k : IntKind} {lo m : Nat} : ∀ (l : List Value) (j : Nat), winN j l = some (k, lo, m) → j ≤ lo ∧ ∀ i, lo ≤ i → i < lo + m → ∃ n, l[i - j]? = some (.int k n)
  | [], j, h => by cases h
  | x :: r, j, h => by
    have old : winN (j + 1) r = some (k, lo, m) → j ≤ lo ∧ ∀ i, lo ≤ i → i < lo + m → ∃ n, (x :: r)[i - j]? = some (.int k n) := fun h => by
      obtain ⟨h1, h2⟩ := winN_spec r (j + 1) h
      refine ⟨by omega, fun i hi hj => ?_⟩
      obtain ⟨n, hn⟩ := h2 i hi hj
      exact ⟨n, by rw [show i - j = (i - (j + 1)) + 1 by omega]; simpa using hn⟩
    cases x with
    | int k' n0 =>
      have new : k' = k → j = lo → m = cntK k' r + 1 → j ≤ lo ∧ ∀ i, lo ≤ i → i < lo + m → ∃ n, (Value.int k' n0 :: r)[i - j]? = some (.int k n) := fun h1 h2 h3 => by
        subst h1; subst h2
        refine ⟨Nat.le_refl _, fun i hi hj => ?_⟩
        by_cases e : i = j
        · subst e; exact ⟨n0, by simp⟩
        · obtain ⟨n, hn⟩ := cntK_spec (k := k') r (i - j - 1) (by omega)
          exact ⟨n, by rw [show i - j = (i - j - 1) + 1 by omega]; simpa using hn⟩
      simp only [winN] at h
      split at h
      · rename_i hw
        split at h
        · cases h; exact new rfl rfl rfl
        · cases h; exact old hw
      · split at h
        · cases h
        · rename_i hc; cases h; exact new rfl rfl (by omega)
    | _ => exact old (by simpa [winN] using h)
theorem winP {k : IntKind} {lo m : Nat} : ∀ {l : List Value} {j : Nat}, winN j l = some (k, lo, m) → 0 < m
  | [], j, h => by cases h
  | x :: r, j, h => by
    have old : winN (j + 1) r = some (k, lo, m) → 0 < m := winP
    cases x with
    | int k' n0 =>
      simp only [winN] at h
      split at h
      · rename_i hw
        split at h
        · cases h; omega
        · cases h; exact old hw
      · split at h
        · cases h
        · cases h; omega
    | _ => exact old (by simpa [winN] using h)
theorem sel_at {k : IntKind} {l : List Value} (h : ∀ v, v ∈ l → ∃ n, v = .int k n) {i : Nat} (hi : i < l.length) : l[i]? = some (.int k (selInt l i)) := by
  unfold selInt
  rw [nth_eq]
  obtain ⟨n, hn⟩ := h l[i] (List.getElem_mem hi)
  rw [List.getElem?_eq_getElem hi, hn]
theorem ints_len {k : IntKind} {l : List Value} : ∀ (n off : Nat), (ints k l off n).length = n
  | 0, _ => rfl
  | n + 1, off => by simp [ints, ints_len n]
theorem ints_eq {k : IntKind} {l : List Value} (h : ∀ v, v ∈ l → ∃ n, v = .int k n) : ∀ (n off : Nat), off + n ≤ l.length → (l.drop off).take n = ints k l off n
  | 0, off, _ => by simp [ints]
  | n + 1, off, ho => by
    have hlt : off < l.length := by omega
    have hs := sel_at h hlt
    rw [List.getElem?_eq_getElem hlt] at hs
    simp only [Option.some.injEq] at hs
    rw [List.drop_eq_getElem_cons hlt, List.take_succ_cons, hs, ints, ints_eq h n (off + 1) (by omega)]

theorem ints_win {k : IntKind} {l : List Value} {lo m : Nat} (h : ∀ i, lo ≤ i → i < lo + m → ∃ n, l[i]? = some (.int k n)) : ∀ (n off : Nat), lo ≤ off → off + n ≤ lo + m → (l.drop off).take n = ints k l off n
  | 0, off, _, _ => by simp [ints]
  | n + 1, off, h1, ho => by
    obtain ⟨x, hx⟩ := h off h1 (by omega)
    have hlt : off < l.length := (List.getElem?_eq_some_iff.1 hx).1
    have hs : l[off] = .int k x := (List.getElem?_eq_some_iff.1 hx).2
    rw [List.drop_eq_getElem_cons hlt, List.take_succ_cons, hs, ints, ints_win h n (off + 1) (by omega) (by omega)]
    congr 1
    unfold selInt
    rw [nth_eq, hx]
theorem win_len {k : IntKind} {l : List Value} {lo m : Nat} (h : ∀ i, lo ≤ i → i < lo + m → ∃ n, l[i]? = some (.int k n)) (hm : 0 < m) : lo + m ≤ l.length := by
  obtain ⟨x, hx⟩ := h (lo + m - 1) (by omega) (by omega)
  have := (List.getElem?_eq_some_iff.1 hx).1
  omega
theorem updI_len {k : IntKind} {off : Nat} {vs : List Value} : ∀ (l : List Value) (j : Nat), (updI k off vs j l).length = l.length
  | [], _ => rfl
  | x :: r, j => by cases x <;> simp [updI, updI_len r (j + 1)]
theorem updI_at {k : IntKind} {off : Nat} {vs : List Value} : ∀ (l : List Value) (j i : Nat), (∀ v, v ∈ l → ∃ n, v = .int k n) → i < l.length →
    (updI k off vs j l)[i]? = some (.int k (updInt off vs (j + i) (selInt l i)))
  | [], _, i, _, h => by simp at h
  | x :: r, j, i, hk, h => by
    obtain ⟨n, rfl⟩ := hk x List.mem_cons_self
    cases i with
    | zero => simp [updI, selInt, nth]
    | succ i =>
      have := updI_at (off := off) (vs := vs) r (j + 1) i (fun v hv => hk v (List.mem_cons_of_mem _ hv)) (by simpa using h)
      simp only [updI, List.getElem?_cons_succ, this]
      congr 3
      omega
theorem splice_eq {k : IntKind} {off : Nat} {vs l : List Value} (hl : ∀ v, v ∈ l → ∃ n, v = .int k n) (hv : ∀ v, v ∈ vs → ∃ n, v = .int k n) (ho : off + vs.length ≤ l.length) :
    splice l off vs = updI k off vs 0 l := by
  apply List.ext_getElem?
  intro i
  by_cases hi : i < l.length
  · rw [updI_at l 0 i hl hi]
    unfold splice updInt
    rw [Nat.zero_add]
    by_cases h1 : i < off
    · have : Nat.ble off i = false := by
        cases hb : Nat.ble off i
        · rfl
        · exact absurd (Nat.le_of_ble_eq_true hb) (by omega)
      simp only [this]
      rw [List.append_assoc, List.getElem?_append_left (by simp; omega), List.getElem?_take_of_lt h1, sel_at hl hi]
    · simp only [Nat.ble_eq_true_of_le (show off ≤ i by omega), nth_eq]
      by_cases h2 : i < off + vs.length
      · rw [List.append_assoc, List.getElem?_append_right (by simp; omega), List.getElem?_append_left (by simp; omega)]
        have e : i - (l.take off).length = i - off := by simp; omega
        rw [e]
        obtain ⟨n, hn⟩ := hv vs[i - off] (List.getElem_mem (by omega))
        rw [List.getElem?_eq_getElem (by omega), hn]
      · rw [List.getElem?_append_right (by simp; omega), List.getElem?_drop]
        have e : off + vs.length + (i - (l.take off ++ vs).length) = i := by simp; omega
        rw [e, List.getElem?_eq_none (l := vs) (by omega), sel_at hl hi]
  · rw [List.getElem?_eq_none (by unfold splice; simp; omega), List.getElem?_eq_none (by rw [updI_len]; omega)]

theorem eval_node (b : Bool) (x y : Tr β) : (Tr.node b x y).eval = if b then x.eval else y.eval := by cases b <;> rfl
theorem onB_eq {γ : Type} (b : Bool) (x y : γ) : onB b x y = if b then x else y := by cases b <;> rfl

theorem kBin_eq {hk : Hk} (hh : HkOK P hk) (op : BinOp) (t : TypeId) (x y : Operand) (T : Frm) (H : Heap) (κ : Value → Heap → Tr β) :
    (kBin P hk op t x y (toS T) H κ).eval = (onR (oBin P op t x y T H) κ).eval := by
  unfold kBin oBin
  simp only [toS_f, evS_eq]
  cases evO T x with
  | none => rfl
  | some a =>
    cases evO T y with
    | none => rfl
    | some b =>
      simp only
      split
      · rename_i k a k' b
        by_cases hkk : k = k'
        · subst hkk
          by_cases hb : b = 0
          · subst hb; simp [eval_node, binV, flat, plain, eqGuard, binOp, Op.intDiv, keep, flatOnly, onR, runtimePanic]; rfl
          · simp [eval_node, hb, binV, flat, plain, eqGuard, binOp, Op.intDiv, keep, flatOnly, onR]; rfl
        · simp [hkk, binV, flat, plain, eqGuard, binOp, keep, flatOnly, onR]; rfl
      · rename_i k a k' b
        by_cases hkk : k = k'
        · subst hkk
          by_cases hb : b = 0
          · subst hb; simp [eval_node, binV, flat, plain, eqGuard, binOp, Op.intDiv, keep, flatOnly, onR, runtimePanic]; rfl
          · simp [eval_node, hb, binV, flat, plain, eqGuard, binOp, Op.intDiv, keep, flatOnly, onR]; rfl
        · simp [hkk, binV, flat, plain, eqGuard, binOp, keep, flatOnly, onR]; rfl
      · rename_i k a k' b
        by_cases hb : b < 0
        · simp [eval_node, hb, binV, flat, plain, eqGuard, binOp, Op.shift, keep, flatOnly, onR, runtimePanic]; rfl
        · simp [eval_node, hb, binV, flat, plain, eqGuard, binOp, Op.shift, keep, flatOnly, onR]; rfl
      · rename_i k a k' b
        by_cases hb : b < 0
        · simp [eval_node, hb, binV, flat, plain, eqGuard, binOp, Op.shift, keep, flatOnly, onR, runtimePanic]; rfl
        · simp [eval_node, hb, binV, flat, plain, eqGuard, binOp, Op.shift, keep, flatOnly, onR]; rfl
      · rename_i u v
        cases he : hk.eq t u.toList v.toList with
        | none => rfl
        | some b =>
          have := hh.eq he x y
          simp only [Array.toArray_toList] at this
          simp only [this, keep, onR]
      · rename_i u v
        cases he : hk.eq t u.toList v.toList with
        | none => rfl
        | some b =>
          have := hh.ne he x y
          simp only [Array.toArray_toList] at this
          simp only [this, keep, onR]
      · rfl

theorem kIndexAddr_eq (t : TypeId) (x i : Operand) (T : Frm) (H : Heap) (κ : Value → Heap → Tr β) :
    (kIndexAddr P t x i (toS T) H κ).eval = (onR (oIndexAddr P t x i T H) κ).eval := by
  unfold kIndexAddr oIndexAddr
  simp only [toS_f, evS_eq]
  cases evO T x with
  | none => rfl
  | some a =>
    cases evO T i with
    | none => rfl
    | some b =>
      simp only
      unfold indexAddrV
      split
      · rename_i len e b off ki i hu
        simp only [hu]
        cases sizeT P e with
        | none => rfl
        | some s =>
          by_cases h1 : 0 ≤ i
          · by_cases h2 : i < len
            · simp [eval_node, h1, h2, keep, onR] <;> rfl
            · simp [eval_node, h1, h2, keep, onR] <;> rfl
          · simp [eval_node, h1, keep, onR] <;> rfl
      · rename_i e b off len c ki i hu
        simp only [hu]
        cases sizeT P e with
        | none => rfl
        | some s =>
          by_cases h1 : 0 ≤ i
          · by_cases h2 : i < len
            · simp [eval_node, h1, h2, keep, onR] <;> rfl
            · simp [eval_node, h1, h2, keep, onR] <;> rfl
          · simp [eval_node, h1, keep, onR] <;> rfl
      · rename_i h1 h2
        split
        · rename_i hu; exact (h1 _ _ _ _ _ _ hu rfl rfl).elim
        · rename_i hu; exact (h2 _ _ _ _ _ _ _ hu rfl rfl).elim
        · rfl

theorem shapeI_part {k : IntKind} {e : TypeId} {cs : Array Value} {ag : Bool} {s off : Nat} (hu : uni cs.toList = some k) (hag : isAggT P e = some ag) (hs : sizeT P e = some s) (h1 : 1 ≤ s)
    (ho : off + s ≤ cs.toList.length) : partV P e cs off = some (shapeI ag k cs.toList off s) := by
  have hk := uni_spec hu
  unfold partV shapeI
  cases ag with
  | true =>
    simp only [hag, hs]
    congr 2
    apply Array.toList_inj.1
    rw [← ints_eq hk s off ho]
    simp [List.take_drop]
  | false =>
    simp only [hag]
    have := sel_at hk (show off < cs.toList.length by omega)
    simpa using this

theorem splice_win {k : IntKind} {off lo m : Nat} {vs l : List Value} (h : ∀ i, lo ≤ i → i < lo + m → ∃ n, l[i]? = some (.int k n)) (hv : ∀ v, v ∈ vs → ∃ n, v = .int k n) (h0 : lo ≤ off) (ho : off + vs.length ≤ lo + m) (hl : lo + m ≤ l.length) :
    splice l off vs = l.take lo ++ updI k off vs lo ((l.drop lo).take m) ++ l.drop (lo + m) := by
  have hlen : (l.take lo).length = lo := by simp; omega
  have hmid : ((l.drop lo).take m).length = m := by simp; omega
  have hall : ∀ v, v ∈ (l.drop lo).take m → ∃ n, v = .int k n := fun v hv => by
    obtain ⟨i, hi, rfl⟩ := List.getElem_of_mem hv
    obtain ⟨n, hn⟩ := h (lo + i) (by omega) (by omega)
    refine ⟨n, ?_⟩
    simp only [List.getElem_take, List.getElem_drop]
    exact (List.getElem?_eq_some_iff.1 hn).2
  apply List.ext_getElem?
  intro i
  rw [List.append_assoc]
  by_cases h1 : i < lo
  · rw [List.getElem?_append_left (l₁ := l.take lo) (by omega), List.getElem?_take_of_lt h1]
    unfold splice
    rw [List.append_assoc, List.getElem?_append_left (by simp; omega), List.getElem?_take_of_lt (by omega)]
  · rw [List.getElem?_append_right (l₁ := l.take lo) (by omega), hlen]
    by_cases h2 : i < lo + m
    · rw [List.getElem?_append_left (by rw [updI_len]; omega), updI_at _ lo (i - lo) hall (by omega)]
      obtain ⟨x, hx⟩ := h i (by omega) h2
      have hsel : selInt ((l.drop lo).take m) (i - lo) = x := by
        unfold selInt
        rw [nth_eq, List.getElem?_take_of_lt (by omega), List.getElem?_drop, show lo + (i - lo) = i by omega, hx]
      rw [hsel, show lo + (i - lo) = i by omega]
      unfold splice updInt
      by_cases h3 : i < off
      · have : Nat.ble off i = false := by
          cases hb : Nat.ble off i
          · rfl
          · exact absurd (Nat.le_of_ble_eq_true hb) (by omega)
        simp only [this]
        rw [List.append_assoc, List.getElem?_append_left (by simp; omega), List.getElem?_take_of_lt h3, hx]
      · simp only [Nat.ble_eq_true_of_le (show off ≤ i by omega), nth_eq]
        by_cases h4 : i < off + vs.length
        · rw [List.append_assoc, List.getElem?_append_right (by simp; omega), List.getElem?_append_left (by simp; omega)]
          have e : i - (l.take off).length = i - off := by simp; omega
          rw [e]
          obtain ⟨n, hn⟩ := hv vs[i - off] (List.getElem_mem (by omega))
          rw [List.getElem?_eq_getElem (by omega), hn]
        · rw [List.getElem?_append_right (by simp; omega), List.getElem?_drop]
          have e : off + vs.length + (i - (l.take off ++ vs).length) = i := by simp; omega
          rw [e, List.getElem?_eq_none (l := vs) (by omega), hx]
    · rw [List.getElem?_append_right (by rw [updI_len]; omega), updI_len, hmid, List.getElem?_drop]
      unfold splice
      rw [List.getElem?_append_right (by simp; omega), List.getElem?_drop]
      congr 1
      simp; omega

theorem kIndex_eq (t : TypeId) (x i : Operand) (T : Frm) (H : Heap) (κ : Value → Heap → Tr β) :
    (kIndex P t x i (toS T) H κ).eval = (onR (oIndex P t x i T H) κ).eval := by
  unfold kIndex oIndex
  simp only [toS_f, evS_eq]
  cases evO T x with
  | none => rfl
  | some a =>
    cases evO T i with
    | none => rfl
    | some b =>
      simp only
      split
      · rename_i len e cs ki i hu
        split
        · rename_i k ag s huni hag hs
          split
          · rename_i hb
            simp only [Bool.and_eq_true] at hb
            have h1 := Nat.eq_of_beq_eq_true hb.1
            have h2 := Nat.le_of_ble_eq_true hb.2
            simp only [indexV, hu, hs]
            by_cases hi : 0 ≤ i
            · by_cases hj : i < len
              · have hle : i.toNat * s + s ≤ cs.toList.length := by
                  rw [h1, ← Nat.succ_mul]
                  exact Nat.mul_le_mul_right s (by omega)
                simp only [eval_node, hi, hj, decide_true, if_true, and_self]
                rw [shapeI_part huni hag hs h2 hle] <;> rfl
              · simp [eval_node, hi, hj, keep, onR] <;> rfl
            · simp [eval_node, hi, keep, onR] <;> rfl
          · rfl
        · rfl
      · rfl

theorem kLoad_eq (t : TypeId) (a : Operand) (T : Frm) (H : Heap) (κ : Value → Heap → Tr β) :
    (kLoad P t a (toS T) H κ).eval = (onR (oLoad P t a T H) κ).eval := by
  unfold kLoad oLoad
  simp only [toS_f, evS_eq]
  cases ha : (evO T a).bind addrOf with
  | none => rfl
  | some ad =>
    have hsp : ad.spot = none := by
      cases he : evO T a with
      | none => simp [he] at ha
      | some v =>
        simp only [he, Option.bind_some] at ha
        unfold addrOf at ha
        split at ha
        · split at ha
          · rename_i hs; cases ha; exact hs
          · cases ha
        · cases ha
    simp only
    split
    · rename_i cs lo ro ag n hg hag hs
      split
      · rename_i k hu
        have hk := uni_spec hu
        unfold loadV cellsAt
        cases ag with
        | true =>
          simp only [hag, hs, hsp, hg]
          by_cases hle : ad.off + n ≤ cs.length
          · simp only [Nat.ble_eq_true_of_le hle, hle, if_true, eval_node, shapeI, ints_eq hk n ad.off hle, keep, onR] <;> rfl
          · have : Nat.ble (ad.off + n) cs.length = false := by
              cases hb : Nat.ble (ad.off + n) cs.length
              · rfl
              · exact absurd (Nat.le_of_ble_eq_true hb) hle
            simp only [this, hle, if_false, eval_node, keep, onR] <;> rfl
        | false =>
          simp only [hag, hs, hsp, hg]
          by_cases hle : ad.off + 1 ≤ cs.length
          · simp only [Nat.ble_eq_true_of_le hle, hle, if_true, eval_node, shapeI, ints_eq hk 1 ad.off hle, ints, keep, onR] <;> rfl
          · have : Nat.ble (ad.off + 1) cs.length = false := by
              cases hb : Nat.ble (ad.off + 1) cs.length
              · rfl
              · exact absurd (Nat.le_of_ble_eq_true hb) hle
            simp only [this, hle, if_false, eval_node, keep, onR] <;> rfl
      · split
        · rename_i k w m hu
          obtain ⟨_, hk⟩ := winN_spec _ _ hu
          simp only [Nat.sub_zero] at hk
          rw [eval_node]
          cases ag with
          | true =>
            by_cases hb : (Nat.ble w ad.off && Nat.ble (ad.off + n) (w + m)) = true
            · rw [if_pos hb]
              rw [Bool.and_eq_true] at hb
              have hb1 := Nat.le_of_ble_eq_true hb.1
              have hb2 := Nat.le_of_ble_eq_true hb.2
              have hl : ad.off + n ≤ cs.length := by have := win_len hk (winP hu); omega
              unfold loadV cellsAt
              simp only [hag, hs, hsp, hg, hl, if_true, shapeI, ints_win hk n ad.off hb1 hb2, keep, onR] <;> rfl
            · rw [if_neg hb]
          | false =>
            by_cases hb : (Nat.ble w ad.off && Nat.ble (ad.off + 1) (w + m)) = true
            · rw [if_pos hb]
              rw [Bool.and_eq_true] at hb
              have hb1 := Nat.le_of_ble_eq_true hb.1
              have hb2 := Nat.le_of_ble_eq_true hb.2
              have hl : ad.off + 1 ≤ cs.length := by have := win_len hk (winP hu); omega
              unfold loadV cellsAt
              simp only [hag, hs, hsp, hg, hl, if_true, shapeI, ints_win hk 1 ad.off hb1 hb2, ints, keep, onR] <;> rfl
            · rw [if_neg hb]
        · rfl
    · rename_i h1
      unfold loadV cellsAt
      split
      · rename_i n hag hs
        cases hg : H.get ad.block with
        | none => simp [hsp, keep, onR] <;> rfl
        | some k => cases k with
          | cells cs lo ro => exact (h1 _ _ _ _ _ hg hag hs).elim
          | map es => simp [hsp, keep, onR] <;> rfl
      · rename_i n hag hs
        cases hg : H.get ad.block with
        | none => simp [hsp, keep, onR] <;> rfl
        | some k => cases k with
          | cells cs lo ro => exact (h1 _ _ _ _ _ hg hag hs).elim
          | map es => simp [hsp, keep, onR] <;> rfl
      · rfl

theorem kPick_eq (c a b : Operand) (T : Frm) (H : Heap) (κ : Value → Heap → Tr β) : (kPick c a b (toS T) H κ).eval = (onR (oPick c a b T H) κ).eval := by
  unfold kPick oPick
  simp only [toS_f, evS_eq]
  split
  · rename_i c a b h1 h2 h3
    simp only [h1, h2, h3]
    cases c <;> rfl
  · rename_i hne
    split
    · rename_i h1 h2 h3; exact (hne _ _ _ h1 h2 h3).elim
    · rfl

theorem kStore_eq (t : TypeId) (a x : Operand) (T : Frm) (H : Heap) (κ : Value → Heap → Tr β) :
    (kStore P t a x (toS T) H κ).eval = (onR (oStore P t a x T H) κ).eval := by
  unfold kStore oStore
  simp only [toS_f, evS_eq]
  cases ha : (evO T a).bind addrOf with
  | none => rfl
  | some ad =>
    have hsp : ad.spot = none := by
      cases he : evO T a with
      | none => simp [he] at ha
      | some v =>
        simp only [he, Option.bind_some] at ha
        unfold addrOf at ha
        split at ha
        · split at ha
          · rename_i hs; cases ha; exact hs
          · cases ha
        · cases ha
    cases hx : evO T x with
    | none => rfl
    | some v =>
      simp only
      split
      · rename_i cs lo n hg hs
        split
        · rename_i k hu
          split
          · rename_i hb
            simp only [Bool.and_eq_true] at hb
            obtain ⟨hv, hn, hf⟩ := hb
            have hn := Nat.eq_of_beq_eq_true hn
            have hf := Nat.le_of_ble_eq_true hf
            have hone : v.cells.toList.all oneCell = true := by
              rw [List.all_eq_true]
              intro u hu
              obtain ⟨m, rfl⟩ := allK_spec hv u hu
              rfl
            have hsz : v.cells.size = n := by simpa using hn
            unfold storeV putCells
            simp only [hs, hsz, hsp, hg, if_true, hn]
            by_cases hle : ad.off + n ≤ cs.length
            · simp only [Nat.ble_eq_true_of_le hle, hle, if_true, eval_node, hf, hone, forceL_eq, splice_eq (uni_spec hu) (allK_spec hv) (by rw [hn]; exact hle), Option.map_some, onR] <;> rfl
            · have : Nat.ble (ad.off + n) cs.length = false := by
                cases hb : Nat.ble (ad.off + n) cs.length
                · rfl
                · exact absurd (Nat.le_of_ble_eq_true hb) hle
              simp only [this, hle, if_false, eval_node, Option.map_none, onR] <;> rfl
          · simp only [storeS_eq]
        · split
          · rename_i k w m hu
            obtain ⟨_, hk⟩ := winN_spec _ _ hu
            simp only [Nat.sub_zero] at hk
            split
            · rename_i hb
              simp only [Bool.and_eq_true] at hb
              obtain ⟨hv, hn, hf⟩ := hb
              have hn := Nat.eq_of_beq_eq_true hn
              have hf := Nat.le_of_ble_eq_true hf
              have hone : v.cells.toList.all oneCell = true := by
                rw [List.all_eq_true]
                intro u hu
                obtain ⟨m, rfl⟩ := allK_spec hv u hu
                rfl
              have hsz : v.cells.size = n := by simpa using hn
              rw [eval_node]
              split
              · rename_i hb
                rw [Bool.and_eq_true] at hb
                have hb1 := Nat.le_of_ble_eq_true hb.1
                have hb2 := Nat.le_of_ble_eq_true hb.2
                have hm := win_len hk (winP hu)
                unfold storeV putCells
                simp only [hs, hsz, hsp, hg, if_true, hn, show ad.off + n ≤ cs.length by omega, hf, hone, forceL_eq, splice_win hk (allK_spec hv) hb1 (by rw [hn]; exact hb2) hm, Option.map_some, onR] <;> rfl
              · simp only [storeS_eq]
            · simp only [storeS_eq]
          · simp only [storeS_eq]
      · rename_i h1
        unfold storeV putCells
        cases hs : sizeT P t with
        | none => rfl
        | some n =>
          simp only
          split
          · cases hg : H.get ad.block with
            | none => simp [hsp, onR] <;> rfl
            | some k => cases k with
              | cells cs lo ro => cases ro with
                | false => exact (h1 _ _ _ hg hs).elim
                | true => simp [hsp, onR] <;> rfl
              | map es => simp [hsp, onR] <;> rfl
          · rfl

/-- Calls in both manners. -/
def KOK (kc : KCall β) (call : CallFn) : Prop := ∀ g as H κ, (kc g as H κ).eval = (onR (call g as H) κ).eval

theorem opS_eq {hk : Hk} (hh : HkOK P hk) {kc : KCall β} {call : CallFn} (hc : KOK kc call) (o : Oper) (T : Frm) (H : Heap) (κ : Value → Heap → Tr β) :
    ((opS P hk o).run kc (toS T) H κ).eval = (onR ((opV P o).run call T H) κ).eval := by
  unfold opS opV
  split
  · rename_i f args ats h
    simp only [h, kCall, oCall, toS_f, evS_eq, evLS_eq]
    cases evO T f with
    | none => rfl
    | some v =>
      cases evL T args.toList with
      | none => rfl
      | some vs =>
        simp only
        cases calleeOf v vs with
        | none => rfl
        | some x => obtain ⟨g, as⟩ := x; exact hc g as H κ
  · rename_i h; simp only [h, simpleV]; exact kBin_eq hh _ _ _ _ T H κ
  · rename_i h; simp only [h, simpleV]; exact kIndexAddr_eq _ _ _ T H κ
  · rename_i h; simp only [h, simpleV]; exact kIndex_eq _ _ _ T H κ
  · rename_i h; simp only [h, simpleV]; exact kLoad_eq _ _ T H κ
  · rename_i h; simp only [h, simpleV]; exact kStore_eq _ _ _ T H κ
  · rename_i h; simp only [h, simpleV]; exact kPick_eq _ _ _ T H κ
  · rename_i h1 _ _ _ _ _ _
    split
    · rename_i h; exact (h1 _ _ _ h).elim
    · simp only [simpleS_eq]
theorem upd_self {f : Fn} {t : Nat} {v : Value} (h : f t = v) : upd f t v = f := by
  funext i
  unfold upd
  split
  · rename_i hb; rw [Nat.eq_of_beq_eq_true hb, h]
  · rfl

theorem upd_eq (f : Fn) (t : Nat) (v : Value) (i : Nat) : upd f t v i = if i = t then v else f i := by
  unfold upd
  rw [beq_dec]
  by_cases h : i = t <;> simp [h]

theorem putF_eq (T : Frm) (dst : Option Tmp) (v : Value) (κ : Fr → Tr β) : putF (toS T) dst v κ = match T.put dst v with
    | some T' => κ (toS T')
    | none => .fail := by
  cases dst with
  | none => rfl
  | some d =>
    by_cases h : d < T.n
    · have : Nat.ble (d + 1) T.n = true := Nat.ble_eq_true_of_le h
      simp only [putF, Frm.put, toS, this, h, if_true]
      have he : upd T.get d v = Frm.get { T with t := T.t.set d (some v) } := by
        funext i
        rw [upd_eq]
        unfold Frm.get
        simp only [PT.get_set]
        by_cases hi : i = d <;> simp [hi]
      rw [he]
    · have : Nat.ble (d + 1) T.n = false := by
        cases hb : Nat.ble (d + 1) T.n
        · rfl
        · exact absurd (Nat.le_of_ble_eq_true hb) h
      simp only [putF, Frm.put, toS, this, h, if_false]

theorem onT_eq {T : Frm} {t : Tmp} {b : Bool} (h : T.get t = .bool b) (x y : Fr → Tr β) : (onT (toS T) t b x y).eval = if b then (x (toS T)).eval else (y (toS T)).eval := by
  cases b
  · simp only [onT, eval_node, toS, upd_self h]; rfl
  · simp only [onT, eval_node, toS, upd_self h]; rfl

theorem wantedS_eq (ops : List Oper) (T : Frm) (o : Oper) (x y : Fr → Tr β) : (wantedS ops (toS T) o x y).eval = if wantedV ops T o then (x (toS T)).eval else (y (toS T)).eval := by
  unfold wantedS wantedV yieldedV
  cases o.guard with
  | none => rfl
  | some g =>
    obtain ⟨j, want⟩ := g
    obtain ⟨d, hd⟩ : ∃ d, (ops[j]?).bind (·.dst) = d := ⟨_, rfl⟩
    simp only [hd]
    cases d with
    | none => simp
    | some t =>
      simp only [toS_f]
      obtain ⟨v, hv⟩ : ∃ v, T.get t = v := ⟨_, rfl⟩
      simp only [hv]
      cases v with
      | bool b =>
        simp only
        cases want
        · simp only [onT_eq hv]; cases b <;> rfl
        · simp only [onT_eq hv]; cases b <;> rfl
      | _ => rfl

def onP (r : Option (Frm × Heap)) (κ : Fr → Heap → Tr β) : Tr β := match r with
  | some (T, H) => κ (toS T) H
  | none => .fail
def onQ (r : Option (Frm × Heap × List Fp)) (κ : Fr → Heap → List Fp → Tr β) : Tr β := match r with
  | some (T, H, fs) => κ (toS T) H fs
  | none => .fail
def onC (r : CodeR) (κ : Kt β) : Tr β := match r with
  | some (ex, T, H) => κ ex (toS T) H
  | none => .fail

theorem opsS_eq {hk : Hk} (hh : HkOK P hk) {kc : KCall β} {call : CallFn} (hc : KOK kc call) (ops : List Oper) : ∀ (l : List Oper) (T : Frm) (H : Heap) (κ : Fr → Heap → Tr β), ((opsS P hk ops l).run kc (toS T) H κ).eval = (onP ((opsV P ops l).run call T H) κ).eval
  | [], _, _, _ => rfl
  | o :: r, T, H, κ => by
    simp only [opsS, opsV, stepS, stepV, wantedS_eq, opS_eq hh hc]
    split
    · cases hr : (opV P o).run call T H with
      | none => simp only [onR, onP]
      | some x =>
        obtain ⟨v, H'⟩ := x
        simp only [onR, forceV_eq, putF_eq]
        cases hp : T.put o.dst v with
        | none => simp only [onP]
        | some T' => simp only; exact opsS_eq hh hc ops r T' H' κ
    · simp only [putF_eq]
      cases hp : T.put o.dst undef with
      | none => simp only [onP]
      | some T' => simp only; exact opsS_eq hh hc ops r T' H κ

theorem blkS_eq (T : Frm) (x : Operand) : blkS T.get x = blkO T x := by unfold blkS blkO; rw [evS_eq]; rfl
theorem fpS_eq (T : Frm) (o : Oper) : fpS T.get o = fpOf T o := by
  unfold fpS fpOf
  have : blkS T.get = blkO T := funext (blkS_eq T)
  simp only [blkS_eq, this]
  rfl

theorem opsDS_eq {hk : Hk} (hh : HkOK P hk) {kc : KCall β} {call : CallFn} (hc : KOK kc call) (ops : List Oper) (bs : List Nat) : ∀ (l : List Oper) (i : Nat) (T : Frm) (H : Heap) (fs : List Fp) (κ : Fr → Heap → List Fp → Tr β),
    ((opsDS P hk ops bs l i).run kc (toS T) H fs κ).eval = (onQ ((opsD P ops bs l i).run call T H fs) κ).eval
  | [], _, _, _, _, _ => rfl
  | o :: r, i, T, H, fs, κ => by
    simp only [opsDS, opsD, stepDS, stepD, wantedS_eq, opS_eq hh hc, toS_f, fpS_eq]
    split
    · cases hr : (opV P o).run call T (dropF (quietB bs ops.length i (fpOf T o)) H) with
      | none => simp only [onR, onQ]
      | some x =>
        obtain ⟨v, H'⟩ := x
        simp only [onR, forceV_eq, putF_eq]
        cases hp : T.put o.dst v with
        | none => simp only [onQ]
        | some T' => simp only; exact opsDS_eq hh hc ops bs r (i + 1) T' _ _ κ
    · simp only [putF_eq]
      cases hp : T.put o.dst undef with
      | none => simp only [onQ]
      | some T' => simp only; exact opsDS_eq hh hc ops bs r (i + 1) T' H _ κ

theorem regionDS_eq {hk : Hk} (hh : HkOK P hk) {kc : KCall β} {call : CallFn} (hc : KOK kc call) (ops : List Oper) (T : Frm) (H : Heap) (κ : Fr → Heap → Tr β) : (regionDS P hk ops kc (toS T) H κ).eval = (onP (regionD P ops call T H) κ).eval := by
  unfold regionDS regionD
  cases regionOk ops with
  | false => rfl
  | true =>
    simp only [opsDS_eq hh hc, if_true]
    cases (opsD P ops (befores ops) ops 0).run call T H [] with
    | none => rfl
    | some x =>
      obtain ⟨T', H', fs⟩ := x
      simp only [onQ]
      cases clashFree (befores ops) fs <;> rfl

theorem loopS_eq {b : Frm → Heap → CodeR} {bS : Fr → Heap → Kt β → Tr β} (hb : ∀ T H κ, (bS (toS T) H κ).eval = (onC (b T H) κ).eval) : ∀ (k : Nat) (T : Frm) (H : Heap) (κ : Kt β), (loopS bS k (toS T) H κ).eval = (onC (loopV b k T H) κ).eval
  | 0, _, _, _ => rfl
  | k + 1, T, H, κ => by
    simp only [loopS, loopV, hb]
    cases b T H with
    | none => rfl
    | some x =>
      obtain ⟨ex, T', H'⟩ := x
      cases ex with
      | normal => simp only [onC]; exact loopS_eq hb k T' H' κ
      | _ => rfl

theorem denS_eq {hk : Hk} (hh : HkOK P hk) {kc : KCall β} {call : CallFn} (hc : KOK kc call) (k : Nat) : ∀ (c : Code) (T : Frm) (H : Heap) (κ : Kt β), ((denS P hk c).run kc k (toS T) H κ).eval = (onC ((denC P c).run call k T H) κ).eval := by
  intro c
  induction c with
  | skip => intro T H κ; rfl
  | label _ => intro T H κ; rfl
  | exit _ => intro T H κ; rfl
  | ret => intro T H κ; rfl
  | seq a b iha ihb =>
    intro T H κ
    simp only [denS, denC, iha, seqV]
    cases (denC P a).run call k T H with
    | none => rfl
    | some x =>
      obtain ⟨ex, T', H'⟩ := x
      cases ex with
      | normal => simp only [onC, ihb]
      | _ => rfl
  | cond x a b iha ihb =>
    intro T H κ
    simp only [denS, denC, toS_f, condV, evS_eq]
    cases hx : evO T x with
    | none => rfl
    | some v =>
      cases v with
      | bool c =>
        simp only
        cases x with
        | tmp t =>
          have ht : T.get t = .bool c := by simpa [evO] using hx
          simp only [onT_eq ht, iha, ihb]
          cases c <;> rfl
        | _ =>
          cases c
          · exact ihb T H κ
          · exact iha T H κ
      | _ => rfl
  | block id b ih =>
    intro T H κ
    simp only [denS, denC, ih, blockV]
    cases (denC P b).run call k T H with
    | none => rfl
    | some x =>
      obtain ⟨ex, T', H'⟩ := x
      cases ex with
      | exit i => simp only [onC]; cases hi : i.beq id <;> simp only
      | _ => rfl
  | loop b ih =>
    intro T H κ
    simp only [denS, denC]
    exact loopS_eq (fun T H κ => ih T H κ) k T H κ
  | scope b ih => intro T H κ; simp only [denS, denC]; exact ih T H κ
  | region p ops d =>
    intro T H κ
    cases d with
    | true =>
      simp only [denS, denC, regionDS_eq hh hc]
      cases regionD P ops.toList call T H with
      | none => rfl
      | some x => rfl
    | false =>
      simp only [denS, denC, opsS_eq hh hc]
      cases (opsV P ops.toList ops.toList).run call T H with
      | none => rfl
      | some x => rfl
  | _ => intro T H κ; rfl

theorem resS_eq (T : Frm) (H : Heap) (r : ResultVar) : resS P (toS T) H r = resultV P T H r := by cases r <;> rfl
theorem ressS_eq (T : Frm) (H : Heap) : ∀ rs : List ResultVar, ressS P (toS T) H rs = resultsV P T H rs
  | [] => rfl
  | r :: rs => by simp only [ressS, resultsV, resS_eq, ressS_eq T H rs] <;> rfl

theorem args_get (args : List Value) (n : Nat) : (Frm.get ⟨argsT .leaf 0 args, n⟩) = fun i => (nth args i).getD undef := by
  funext i
  unfold Frm.get
  simp only [argsT_get, nth_eq]
  by_cases h : i < args.length
  · simp [h]
  · simp [h, PT.get]

/-- A run over symbols is a call. -/
theorem callS_eq {hk : Hk} (hh : HkOK P hk) {kc : KCall β} {call : CallFn} (hc : KOK kc call) (k : Nat) (f : FuncId) (args : List Value) (H : Heap) (κ : Value → Heap → Tr β) : (callS P hk kc k f args H κ).eval = (onR (stepC P call k f args H) κ).eval := by
  unfold callS stepC denF
  cases nth P.funcs.toList f with
  | none => rfl
  | some fn =>
    simp only
    cases fn.body with
    | none => rfl
    | some c =>
      simp only
      by_cases h : args.length ≤ fn.ntmps
      · simp only [Nat.ble_eq_true_of_le h, h, if_true]
        have := denS_eq (P := P) (β := β) hh hc k c ⟨argsT .leaf 0 args, fn.ntmps⟩ H (retS P fn.results.toList κ)
        simp only [toS, args_get] at this
        simp only [this]
        cases (denC P c).run call k ⟨argsT .leaf 0 args, fn.ntmps⟩ H with
        | none => rfl
        | some x =>
          obtain ⟨ex, T', H'⟩ := x
          have key : ∀ ex' : Ex, (∀ i, ex' ≠ .exit i) → onC (some (ex', T', H')) (retS P fn.results.toList κ) = onR (retV P fn.results.toList (some (ex', T', H'))) κ := by
            intro ex' hne
            cases ex' with
            | exit i => exact absurd rfl (hne i)
            | _ =>
              simp only [onC, retS, retV, ressS_eq]
              cases resultsV P T' H' fn.results.toList with
              | none => rfl
              | some vs =>
                cases vs with
                | nil => rfl
                | cons v r => cases r <;> rfl
          cases ex with
          | exit i => rfl
          | normal => exact congrArg Tr.eval (key _ (fun i e => by cases e))
          | ret => exact congrArg Tr.eval (key _ (fun i e => by cases e))
      · have : Nat.ble args.length fn.ntmps = false := by
          cases hb : Nat.ble args.length fn.ntmps
          · rfl
          · exact absurd (Nat.le_of_ble_eq_true hb) h
        simp only [this, h, if_false]
        rfl

/-- What a run over symbols gives. -/
theorem step_of_callS {hk : Hk} (hh : HkOK P hk) {kc : KCall Value} {call : CallFn} (hc : KOK kc call) {k : Nat} {f : FuncId} {args : List Value} {H : Heap} {v : Value} (h : (runT P hk kc k f args H).eval = some v) :
    ∃ H', stepC P call k f args H = some (v, H') := by
  unfold runT at h
  rw [callS_eq hh hc] at h
  cases hs : stepC P call k f args H with
  | none => simp [hs, onR, Tr.eval] at h
  | some x => obtain ⟨u, H'⟩ := x; simp [hs, onR, Tr.eval] at h; subst h; exact ⟨H', rfl⟩

theorem follow_eval : ∀ {bits : List Bool} {t : Tr β} {c : Bool} {v : β}, t.follow bits = some (c, v) → c = true → t.eval = some v
  | [], .leaf x, c, v, h, hc => by cases h; rfl
  | [], .fail, c, v, h, hc => by cases h
  | [], .node _ _ _, c, v, h, hc => by cases h
  | b :: r, .fail, c, v, h, hc => by cases h
  | b :: r, .leaf _, c, v, h, hc => by cases h
  | b :: r, .node d x y, c, v, h, hc => by
    simp only [Tr.follow] at h
    cases b with
    | true =>
      simp only at h
      split at h
      · rename_i e u hu
        cases h
        simp only [Bool.and_eq_true] at hc
        rw [eval_node, hc.1]
        exact follow_eval hu hc.2
      · cases h
    | false =>
      simp only at h
      split at h
      · rename_i e u hu
        cases h
        simp only [Bool.and_eq_true, Bool.not_eq_true'] at hc
        rw [eval_node, hc.1]
        exact follow_eval hu hc.2
      · cases h
end Go.Vm

