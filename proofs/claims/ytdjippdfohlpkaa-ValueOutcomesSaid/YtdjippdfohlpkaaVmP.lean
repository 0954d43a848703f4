/- A verified interpreter: regions that draw their order (third part: one operation). -/
import Derived.Test.YtdjippdfohlpkaaVmO
namespace Go.Vm
variable {P : Program}

theorem LW_add' {α : Type} {init : α} {W : Nat → Prop} {val : Nat → α} {S : Nat → Bool} {j : Nat} (hw : W j) : ∀ {n : Nat}, j < n → (∀ i, i < n → i ≠ j → W i → S i = true → i < j) →
    LW init W val (fun i => S i || decide (i = j)) n = val j
  | 0, hj, _ => by omega
  | n + 1, hj, h => by
    simp only [LW]
    by_cases e : n = j
    · subst e; rw [if_pos ⟨by simp, hw⟩]
    · rw [if_neg, LW_add' hw (n := n) (by omega) fun i hi => h i (by omega)]
      rintro ⟨hs, hwn⟩
      have hs' : S n = true := by simpa [e] using hs
      have := h n (by omega) e hwn hs'
      omega

def Sj (S : Nat → Bool) (j : Nat) : Nat → Bool := fun i => S i || decide (i = j)

structure Eff (ops : List Oper) (Hs : Nat → Heap) (vs : Nat → Value) (fs : Nat → Fp) (j : Nat) (σ σ' : Sg) (w w' : World) (v' : Value) : Prop where
  v : VR σ' (vs j) v'
  sub : ∀ b, b < (Hs j).next → σ' b = rs σ (Hs j).next b
  lt : ∀ b x, σ' b = some x → b < (Hs (j + 1)).next ∧ x.1 < w'.heap.size
  ok : ∀ b x k, Kp ops fs Hs j b → σ' b = some x → (Hs (j + 1)).get b = some k → BlkOK σ' w' x k
  newr : ∀ b x, (Hs j).next ≤ b → σ' b = some x → w.heap.size ≤ x.1 ∨ ∃ b0 x0, Kw ops fs j b0 ∧ b0 < (Hs j).next ∧ (Hs j).floor ≤ b0 ∧ WR (Hs j) b0 ∧ σ b0 = some x0 ∧ x0.1 = x.1
  kdom : ∀ b x, Kw ops fs j b → σ b = some x → b < (Hs j).next
  wrd : ∀ r wl b, fs j = .mem r wl → b ∈ wl → ∃ x, σ b = some x
  os : w'.os = w.os
  tape : w'.tape = w.tape
  output : w'.output = w.output
  size : w.heap.size ≤ w'.heap.size
  frame : ∀ r, r < w.heap.size → w'.heap[r]? = w.heap[r]? ∨ ∃ b0 x0, Kw ops fs j b0 ∧ b0 < (Hs j).next ∧ (Hs j).floor ≤ b0 ∧ WR (Hs j) b0 ∧ σ b0 = some x0 ∧ x0.1 = r

def glue (Hs : Nat → Heap) (j : Nat) (σ σ' : Sg) : Sg := fun b => if (Hs j).next ≤ b ∧ b < (Hs (j + 1)).next then σ' b else σ b

section
variable {call : CallFn} {ops : List Oper} {Ts : Nat → Frm} {Hs : Nat → Heap} {vs : Nat → Value} {fs : Nat → Fp} {ws : Nat → Bool} (R : Tra P call ops Ts Hs vs fs ws)
  {σ0 σ σ' : Sg} {w0 w w' : World} {a : Act} {S : Nat → Bool} {j : Nat} {v' : Value}
include R

theorem Tra.floor : ∀ {i : Nat}, i ≤ ops.length → (Hs i).floor = (Hs 0).floor
  | 0, _ => rfl
  | i + 1, h => (R.vf (by omega)).floor.trans (Tra.floor (by omega))

theorem Tra.uniq {i k b : Nat} (hi : i < ops.length) (hk : k < ops.length) (h1 : (Hs i).next ≤ b) (h2 : b < (Hs (i + 1)).next) (h3 : (Hs k).next ≤ b) (h4 : b < (Hs (k + 1)).next) : i = k := by
  rcases Nat.lt_trichotomy i k with h | h | h
  · have := R.next_mono (i := i + 1) (j := k) (by omega) (by omega); omega
  · exact h
  · have := R.next_mono (i := k + 1) (j := i) (by omega) (by omega); omega

theorem Tra.notNew (N : Nx ops S j) (I : Inv ops Ts Hs vs fs σ0 w0 S σ a w) {b : Nat} {x : Nat × Nat × Nat} (hx : σ b = some x) : ¬ ((Hs j).next ≤ b ∧ b < (Hs (j + 1)).next) := by
  rintro ⟨h1, h2⟩
  rcases (I.dom b x hx).2 with h | ⟨i, hi, hs, h3, h4⟩
  · have := R.next_mono (i := 0) (j := j) (by omega) (Nat.le_of_lt N.lt); omega
  · have := R.uniq hi N.lt h3 h4 h1 h2
    subst this
    rw [N.no] at hs; cases hs

theorem Tra.glue_mono (N : Nx ops S j) (I : Inv ops Ts Hs vs fs σ0 w0 S σ a w) : ∀ b x, σ b = some x → glue Hs j σ σ' b = some x := by
  intro b x hx
  simp only [glue]
  rw [if_neg (R.notNew N I hx), hx]

omit R in
theorem glue_some (E : Eff ops Hs vs fs j σ σ' w w' v') : ∀ b x, σ' b = some x → glue Hs j σ σ' b = some x ∧ b < (Hs (j + 1)).next := by
  intro b x hx
  have hl := (E.lt b x hx).1
  refine ⟨?_, hl⟩
  simp only [glue]
  by_cases h : (Hs j).next ≤ b
  · rw [if_pos ⟨h, hl⟩, hx]
  · rw [if_neg (fun h' => h h'.1)]
    rw [E.sub b (by omega)] at hx
    exact (rs_some hx).2

/-- A block that operation j has written, in the state behind it. -/
theorem Tra.hadd (N : Nx ops S j) (I : Inv ops Ts Hs vs fs σ0 w0 S σ a w) (E : Eff ops Hs vs fs j σ σ' w w' v') {b : Nat} {x : Nat × Nat × Nat} (hx : glue Hs j σ σ' b = some x) (hk : Kp ops fs Hs j b) :
    HSv ops fs Hs (Sj S j) b = (Hs (j + 1)).get b := by
  refine LW_add' (W := fun i => Kp ops fs Hs i b) (j := j) hk N.lt fun i hi hne hki hs => ?_
  by_cases hn : (Hs j).next ≤ b ∧ b < (Hs (j + 1)).next
  · rcases hki with ⟨h1, h2⟩ | hki
    · exact absurd (R.uniq hi N.lt h1 h2 hn.1 hn.2) hne
    · unfold Kw at hki
      split at hki
      · rename_i r wl hf
        obtain ⟨y, hy⟩ := I.wrd i hi hs r wl b hf hki
        exact absurd hn (R.notNew N I hy)
      · exact (R.cmpL N hi ((free_cmp hki N.lt (fun h => hne h.symm)))).1 hs
  · simp only [glue, hn, if_false] at hx
    have hkw : Kw ops fs j b := hk.resolve_left hn
    refine (R.cutK N I hx (E.kdom b x hkw hx) ?_ hi hki).1 hs
    unfold Kw at hkw
    split at hkw
    · rename_i r wl hf; exact .inr ⟨r, wl, hf, .inr hkw⟩
    · rename_i hf; exact .inl hf
theorem Tra.hskip {b : Nat} (hk : ¬ Kp ops fs Hs j b) : HSv ops fs Hs (Sj S j) b = HSv ops fs Hs S b := by
  have _ := R
  exact LW_skip (W := fun i => Kp ops fs Hs i b) (j := j) hk
/-- A block that operation j touches, in the state before it. -/
theorem Tra.hcut (N : Nx ops S j) (I : Inv ops Ts Hs vs fs σ0 w0 S σ a w) {b : Nat} {x : Nat × Nat × Nat} (hx : σ b = some x) (hb : b < (Hs j).next) (ht : fs j = .call ∨ ∃ r wl, fs j = .mem r wl ∧ (b ∈ r ∨ b ∈ wl)) :
    HSv ops fs Hs S b = (Hs j).get b := by
  rw [R.hs (Nat.le_of_lt N.lt) hb]
  exact LW_cut (fun i hi hk => R.cutK N I hx hb ht hi hk) (Nat.le_of_lt N.lt)
omit R in
theorem kw_touch {b : Nat} (hkw : Kw ops fs j b) : fs j = .call ∨ ∃ r wl, fs j = .mem r wl ∧ (b ∈ r ∨ b ∈ wl) := by
  unfold Kw at hkw
  split at hkw
  · rename_i r wl hf; exact .inr ⟨r, wl, hf, .inr hkw⟩
  · rename_i hf; exact .inl hf

/-- One operation more. -/
theorem Tra.step (N : Nx ops S j) (I : Inv ops Ts Hs vs fs σ0 w0 S σ a w) (E : Eff ops Hs vs fs j σ σ' w w' v') {oj : Oper} (hoj : ops[j]? = some oj)
    (hinj : ∀ b b' x x', b ≠ b' → glue Hs j σ σ' b = some x → glue Hs j σ σ' b' = some x' → x.1 = x'.1 → WRo (HSv ops fs Hs (Sj S j) b) → HSv ops fs Hs (Sj S j) b' = none) :
    Inv ops Ts Hs vs fs σ0 w0 (Sj S j) (glue Hs j σ σ') (a.put oj.dst v') w' where
  defers := by rw [put_defers]; exact I.defers
  size := by
    rw [← I.size]
    cases oj.dst <;> simp [Act.put]
  tmp t m hm hlast := by
    have hput := (R.sok j oj hoj).1
    have hd : dsOf ops j = oj.dst := by simp [dsOf, hoj]
    by_cases e : oj.dst = some t
    · have hjm : j < m := hlast j N.lt (by simp [Sj]) (by rw [hd, e])
      have hval : TSv ops Ts vs (Sj S j) t = vs j := LW_add' (W := fun i => dsOf ops i = some t) (j := j) (by rw [hd, e]) N.lt fun i hi hne hdi hs => (R.cutT N hoj (.inr e) hi hne hdi).1 hs
      rw [hval, e]
      have hlt : t < (Ts 0).n := by
        rw [e] at hput
        simp only [Frm.put] at hput
        split at hput
        · rename_i h; rw [(R.ts (t := t) (Nat.le_of_lt N.lt)).2] at h; exact h
        · cases hput
      have hg : (a.put (some t) v').tmps.getD t undef = v' := by
        simp [Act.put, Array.getD_eq_getD_getElem?, I.size, hlt]
      rw [hg]
      refine E.v.mono fun b x hx => ?_
      obtain ⟨h1, h2⟩ := glue_some E b x hx
      have := R.next_mono (i := j + 1) (j := m) (by omega) hm
      simp only [rs, show b < (Hs m).next by omega, if_true, h1]
    · have hval : TSv ops Ts vs (Sj S j) t = TSv ops Ts vs S t := LW_skip (W := fun i => dsOf ops i = some t) (j := j) (by rw [hd]; exact e)
      rw [hval]
      have hg : (a.put oj.dst v').tmps.getD t undef = a.tmps.getD t undef := by
        cases hdst : oj.dst with
        | none => rfl
        | some d =>
          have : ¬ d = t := fun h => e (by rw [hdst, h])
          simp [Act.put, Array.getD_eq_getD_getElem?, this]
      rw [hg]
      exact (I.tmp t m hm fun i hi hs hdi => hlast i hi (by simp [Sj, hs]) hdi).mono (rs_mono (fun b x _ hx => R.glue_mono N I b x hx) (Nat.le_refl _))
  blk b x k m hm hlast hx hk := by
    by_cases hkp : Kp ops fs Hs j b
    · have hjm : j < m := hlast j N.lt (by simp [Sj]) hkp
      rw [R.hadd N I E hx hkp] at hk
      have hx' : σ' b = some x := by
        simp only [glue] at hx
        split at hx
        · exact hx
        · rename_i hn
          have hkw := hkp.resolve_left hn
          have hb := E.kdom b x hkw hx
          rw [E.sub b hb]
          simp [rs, hb, hx]
      refine (E.ok b x k hkp hx' hk).mono (fun b' x' hx'' => ?_) rfl
      obtain ⟨h1, h2⟩ := glue_some E b' x' hx''
      have := R.next_mono (i := j + 1) (j := m) (by omega) hm
      simp only [rs, show b' < (Hs m).next by omega, if_true, h1]
    · rw [R.hskip hkp] at hk
      have hx' : σ b = some x := by
        simp only [glue] at hx
        rw [if_neg (fun h => hkp (.inl h))] at hx
        exact hx
      refine (I.blk b x k m hm (fun i hi hs hki => hlast i hi (by simp [Sj, hs]) hki) hx' hk).mono (rs_mono (fun b x _ hx => R.glue_mono N I b x hx) (Nat.le_refl _)) ?_
      rcases E.frame x.1 (I.dom b x hx').1 with h | ⟨b0, x0, hk0, hb0, hf0, hw0, hx0, he⟩
      · exact h
      · have hne : b0 ≠ b := fun e => hkp (.inr (e ▸ hk0))
        have hc := R.hcut N I hx0 hb0 (kw_touch hk0)
        have := I.inj b0 b x0 x hne hx0 hx' he (by rw [hc]; exact WRo_iff.2 hw0)
        rw [hk] at this; cases this
  dom b x hx := by
    simp only [glue] at hx
    split at hx
    · rename_i hn
      exact ⟨(E.lt b x hx).2, .inr ⟨j, N.lt, by simp [Sj], hn.1, hn.2⟩⟩
    · obtain ⟨h1, h2⟩ := I.dom b x hx
      exact ⟨Nat.lt_of_lt_of_le h1 E.size, h2.imp id fun ⟨i, hi, hs, h⟩ => ⟨i, hi, by simp [Sj, hs], h⟩⟩
  wrd i hi hs r wl b hf hb := by
    by_cases e : i = j
    · subst e
      obtain ⟨x, hx⟩ := E.wrd r wl b hf hb
      exact ⟨x, R.glue_mono N I b x hx⟩
    · obtain ⟨x, hx⟩ := I.wrd i hi (by simpa [Sj, e] using hs) r wl b hf hb
      exact ⟨x, R.glue_mono N I b x hx⟩
  inj := hinj
  sub b hb := by
    have := R.next_mono (i := 0) (j := j) (by omega) (Nat.le_of_lt N.lt)
    simp only [glue]
    rw [if_neg (by omega), I.sub b hb]
  os := E.os.trans I.os
  tape := E.tape.trans I.tape
  output := E.output.trans I.output
  wsize := Nat.le_trans I.wsize E.size
  frame r hr ho := by
    rcases E.frame r (Nat.lt_of_lt_of_le hr I.wsize) with h | ⟨b0, x0, hk0, hb0, hf0, hw0, hx0, he⟩
    · rw [h, I.frame r hr ho]
    · have hc := R.hcut N I hx0 hb0 (kw_touch hk0)
      have := I.own b0 x0 (by rw [← R.floor (Nat.le_of_lt N.lt)]; exact hf0) (by rw [hc]; exact WRo_iff.2 hw0) hx0
      rw [he] at this
      exact this.elim (fun h => absurd h ho) (by omega)
  own b x hf hwr hx := by
    have hx2 := hx
    simp only [glue] at hx
    split at hx
    · rename_i hn
      rcases E.newr b x hn.1 hx with h | ⟨b0, x0, hk0, hb0, hf0, hw0, hx0, he⟩
      · exact .inr (Nat.le_trans I.wsize h)
      · have hc := R.hcut N I hx0 hb0 (kw_touch hk0)
        rw [← he]
        exact I.own b0 x0 (by rw [← R.floor (Nat.le_of_lt N.lt)]; exact hf0) (by rw [hc]; exact WRo_iff.2 hw0) hx0
    · rename_i hn
      refine I.own b x hf ?_ hx
      by_cases hkp : Kp ops fs Hs j b
      · have hkw := hkp.resolve_left hn
        have hb := E.kdom b x hkw hx
        rw [R.hadd N I E hx2 hkp] at hwr
        rw [R.hcut N I hx hb (kw_touch hkw)]
        exact WRo_iff.2 ((R.vf N.lt).wrk b hb (WRo_iff.1 hwr))
      · rwa [R.hskip hkp] at hwr
  newr b x hb hx := by
    simp only [glue] at hx
    split at hx
    · rename_i hn
      rcases E.newr b x hn.1 hx with h | ⟨b0, x0, hk0, hb0, hf0, hw0, hx0, he⟩
      · exact .inr (Nat.le_trans I.wsize h)
      · have hc := R.hcut N I hx0 hb0 (kw_touch hk0)
        rw [← he]
        exact I.own b0 x0 (by rw [← R.floor (Nat.le_of_lt N.lt)]; exact hf0) (by rw [hc]; exact WRo_iff.2 hw0) hx0
    · exact I.newr b x hb hx

/-- Two blocks do not lie in one place, if what is new lies in new memory or where a block has died. -/
theorem Tra.stepInj (N : Nx ops S j) (I : Inv ops Ts Hs vs fs σ0 w0 S σ a w) (E : Eff ops Hs vs fs j σ σ' w w' v')
    (hdead : ∀ b x, (Hs j).next ≤ b → σ' b = some x → w.heap.size ≤ x.1 ∨ ∃ b0 x0, Kw ops fs j b0 ∧ b0 < (Hs j).next ∧ WR (Hs j) b0 ∧ σ b0 = some x0 ∧ x0.1 = x.1 ∧ (Hs (j + 1)).get b0 = none)
    (hnew : ∀ b b' x x', (Hs j).next ≤ b → (Hs j).next ≤ b' → b ≠ b' → σ' b = some x → σ' b' = some x' → x.1 = x'.1 → WR (Hs (j + 1)) b → (Hs (j + 1)).get b' = none) :
    ∀ b b' x x', b ≠ b' → glue Hs j σ σ' b = some x → glue Hs j σ σ' b' = some x' → x.1 = x'.1 → WRo (HSv ops fs Hs (Sj S j) b) → HSv ops fs Hs (Sj S j) b' = none := by
  intro b b' x x' hne hx hx' he hwr
  -- an old block: alive behind the operation only if before it
  have oldW : ∀ {c y}, σ c = some y → WRo (HSv ops fs Hs (Sj S j) c) → WRo (HSv ops fs Hs S c) := by
    intro c y hc hw
    have hcn := R.notNew N I hc
    by_cases hkp : Kp ops fs Hs j c
    · have hkw := hkp.resolve_left hcn
      have hb := E.kdom c y hkw hc
      rw [R.hadd N I E (R.glue_mono N I c y hc) hkp] at hw
      rw [R.hcut N I hc hb (kw_touch hkw)]
      exact WRo_iff.2 ((R.vf N.lt).wrk c hb (WRo_iff.1 hw))
    · rwa [R.hskip hkp] at hw
  have oldN : ∀ {c y}, σ c = some y → HSv ops fs Hs S c = none → HSv ops fs Hs (Sj S j) c = none := by
    intro c y hc hn
    have hcn := R.notNew N I hc
    by_cases hkp : Kp ops fs Hs j c
    · have hkw := hkp.resolve_left hcn
      have hb := E.kdom c y hkw hc
      rw [R.hadd N I E (R.glue_mono N I c y hc) hkp]
      rw [R.hcut N I hc hb (kw_touch hkw)] at hn
      exact (R.vf N.lt).alive c hb hn
    · rw [R.hskip hkp, hn]
  have dead : ∀ {c y}, σ c = some y → Kw ops fs j c → (Hs (j + 1)).get c = none → HSv ops fs Hs (Sj S j) c = none := by
    intro c y hc hk hn
    rw [R.hadd N I E (R.glue_mono N I c y hc) (.inr hk), hn]
  have cut : ∀ {c y}, σ c = some y → Kw ops fs j c → c < (Hs j).next → WR (Hs j) c → WRo (HSv ops fs Hs S c) := by
    intro c y hc hk hb hw
    rw [R.hcut N I hc hb (kw_touch hk)]
    exact WRo_iff.2 hw
  by_cases hn : (Hs j).next ≤ b ∧ b < (Hs (j + 1)).next
  · have hxs : σ' b = some x := by simpa only [glue, hn, if_true, and_self] using hx
    by_cases hn' : (Hs j).next ≤ b' ∧ b' < (Hs (j + 1)).next
    · have hxs' : σ' b' = some x' := by simpa only [glue, hn', if_true, and_self] using hx'
      rw [R.hadd N I E hx' (.inl hn')]
      rw [R.hadd N I E hx (.inl hn)] at hwr
      exact hnew b b' x x' hn.1 hn'.1 hne hxs hxs' he (WRo_iff.1 hwr)
    · have hxs' : σ b' = some x' := by simpa only [glue, hn', if_false] using hx'
      rcases hdead b x hn.1 hxs with h | ⟨b0, x0, hk0, hb0, hw0, hx0, he0, hd0⟩
      · have := (I.dom b' x' hxs').1; omega
      · by_cases e : b0 = b'
        · subst e; exact dead hx0 hk0 hd0
        · exact oldN hxs' (I.inj b0 b' x0 x' e hx0 hxs' (by rw [he0, he]) (cut hx0 hk0 hb0 hw0))
  · have hxs : σ b = some x := by simpa only [glue, hn, if_false] using hx
    by_cases hn' : (Hs j).next ≤ b' ∧ b' < (Hs (j + 1)).next
    · have hxs' : σ' b' = some x' := by simpa only [glue, hn', if_true, and_self] using hx'
      rcases hdead b' x' hn'.1 hxs' with h | ⟨b0, x0, hk0, hb0, hw0, hx0, he0, hd0⟩
      · have := (I.dom b x hxs).1; omega
      · by_cases e : b0 = b
        · subst e
          rw [dead hx0 hk0 hd0] at hwr
          exact hwr.elim
        · have := oldN hxs (I.inj b0 b x0 x e hx0 hxs (by rw [he0, he]) (cut hx0 hk0 hb0 hw0))
          rw [this] at hwr
          exact hwr.elim
    · have hxs' : σ b' = some x' := by simpa only [glue, hn', if_false] using hx'
      exact oldN hxs' (I.inj b b' x x' hne hxs hxs' he (oldW hxs hwr))
end
end Go.Vm
