/- A verified interpreter: contracts of functions that read memory and hand over numbers. -/
import Derived.Test.YtdjippdfohlpkaaVmW
namespace Go.Vm
variable {P : Program}

/-- A small heap's blocks as blocks of a greater one. -/
def sr (n : Nat) (ρ : Nat → Nat) : Sg := fun b => if b < n then some (ρ b, 0, 0) else none
def sc (n : Nat) (ρ : Nat → Nat) (σ : Sg) : Sg := fun b => if b < n then σ (ρ b) else none
theorem sr_some {n : Nat} {ρ : Nat → Nat} {b r d s : Nat} (h : sr n ρ b = some (r, d, s)) : b < n ∧ r = ρ b ∧ d = 0 ∧ s = 0 := by
  unfold sr at h
  split at h
  · simp only [Option.some.injEq, Prod.mk.injEq] at h
    exact ⟨by assumption, h.1.symm, h.2.1.symm, h.2.2.symm⟩
  · cases h
theorem VR.comp {n : Nat} {ρ : Nat → Nat} {σ : Sg} {v0 v v' : Value} (h : VR (sr n ρ) v0 v) (h2 : VR σ v v') : VR (sc n ρ σ) v0 v' := by
  induction h generalizing v' with
  | plain hp => rw [h2.plain_eq hp]; exact .plain hp
  | ptr hb =>
    obtain ⟨h1, rfl, rfl, rfl⟩ := sr_some hb
    obtain ⟨b1, off1, r, d, s, he, hs, rfl⟩ := h2.ptr_inv
    simp only [Addr.mk.injEq, and_true] at he
    obtain ⟨rfl, rfl⟩ := he
    rw [Nat.zero_add]
    exact .ptr (s := s) (by simp only [sc, h1, if_true]; exact hs)
  | slice hb =>
    obtain ⟨h1, rfl, rfl, rfl⟩ := sr_some hb
    obtain ⟨b1, off1, r, d, s, he, hs, rfl⟩ := h2.slice_inv
    simp only [Addr.mk.injEq, and_true] at he
    obtain ⟨rfl, rfl⟩ := he
    rw [Nat.zero_add, Nat.add_zero]
    exact .slice (by simp only [sc, h1, if_true]; exact hs)
  | map hb =>
    obtain ⟨h1, rfl, _, rfl⟩ := sr_some hb
    obtain ⟨r, s, hs, rfl⟩ := h2.map_inv
    exact .map (s := s) (by simp only [sc, h1, if_true]; exact hs)
  | func ha hc _ _ i1 i2 =>
    cases h2 with
    | plain hp => simp [Vm.plain] at hp
    | func ha' hc' h1 h2 =>
      refine .func (ha.trans ha') (hc.trans hc') (fun i u u' x y => ?_) (fun i u u' x y => ?_)
      · have hi := (Array.getElem?_eq_some_iff.1 x).1
        exact i1 i u _ x (Array.getElem?_eq_getElem (by omega)) (h1 i _ u' (Array.getElem?_eq_getElem (by omega)) y)
      · have hi := (Array.getElem?_eq_some_iff.1 x).1
        exact i2 i u _ x (Array.getElem?_eq_getElem (by omega)) (h2 i _ u' (Array.getElem?_eq_getElem (by omega)) y)
  | agg hs _ ih =>
    cases h2 with
    | plain hp => simp [Vm.plain] at hp
    | agg hs' h1 =>
      refine .agg (hs.trans hs') fun i u u' x y => ?_
      have hi := (Array.getElem?_eq_some_iff.1 x).1
      exact ih i u _ x (Array.getElem?_eq_getElem (by omega)) (h1 i _ u' (Array.getElem?_eq_getElem (by omega)) y)
  | tuple hs _ ih =>
    cases h2 with
    | plain hp => simp [Vm.plain] at hp
    | tuple hs' h1 =>
      refine .tuple (hs.trans hs') fun i u u' x y => ?_
      have hi := (Array.getElem?_eq_some_iff.1 x).1
      exact ih i u _ x (Array.getElem?_eq_getElem (by omega)) (h1 i _ u' (Array.getElem?_eq_getElem (by omega)) y)
theorem LR.comp {n : Nat} {ρ : Nat → Nat} {σ : Sg} {l0 l l' : List Value} (h : LR (sr n ρ) l0 l) (h2 : LR σ l l') : LR (sc n ρ σ) l0 l' := by
  refine ⟨h.len.trans h2.len, fun i u u' x y => ?_⟩
  have hi := (List.getElem?_eq_some_iff.1 x).1
  have e1 := h.len
  have e2 := h2.len
  exact (h.at_ i u _ x (List.getElem?_eq_getElem (by omega))).comp (h2.at_ i _ u' (List.getElem?_eq_getElem (by omega)) y)

/-- A small heap of what may only be read, within a greater one. -/
structure Emb (n : Nat) (ρ : Nat → Nat) (H0 H : Heap) : Prop where
  next : H0.next = n
  floor : H0.floor = n
  blk : ∀ b k, b < n → H0.get b = some k → ∃ cs lo cs' ro', k = .cells cs lo true ∧ H.get (ρ b) = some (.cells cs' lo ro') ∧ LR (sr n ρ) cs cs'

theorem Emb.st {n : Nat} {ρ : Nat → Nat} {H0 H : Heap} (h : Emb n ρ H0 H) {σ : Sg} {w : World} (hs : St σ H w) : St (sc n ρ σ) H0 w where
  ok b x k hx hk := by
    have hb : b < n := by
      unfold sc at hx
      split at hx
      · assumption
      · cases hx
    simp only [sc, hb, if_true] at hx
    obtain ⟨cs, lo, cs', ro', rfl, h1, h2⟩ := h.blk b k hb hk
    obtain ⟨e1, c, t, fr, e2, e3, e4, _, e6⟩ := hs.ok _ _ _ hx h1
    have hl := h2.len
    refine ⟨e1, c, t, fr, e2, by omega, fun i v hi => ?_, (fun h => nomatch h), fun z hz => (by have := e6 z hz; omega)⟩
    have hi' := (List.getElem?_eq_some_iff.1 hi).1
    obtain ⟨v', a, b⟩ := e4 i _ (List.getElem?_eq_getElem (show i < cs'.length by omega))
    exact ⟨v', a, (h2.at_ i v _ hi (List.getElem?_eq_getElem (by omega))).comp b⟩
  lt b x hx := by
    unfold sc at hx
    split at hx
    · rw [h.next]; exact ⟨by assumption, (hs.lt _ _ hx).2⟩
    · cases hx
  inj b b' x x' hne hx hx' he hw := by
    exfalso
    have hb : b < n := by
      unfold sc at hx
      split at hx
      · assumption
      · cases hx
    obtain ⟨k, hk⟩ := hw.some
    obtain ⟨cs, lo, cs', ro', rfl, h1, h2⟩ := h.blk b k hb hk
    unfold WR at hw
    rw [hk] at hw
    cases hw

theorem Emb.grow {n : Nat} {ρ : Nat → Nat} {H0 H : Heap} (h : Emb n ρ H0 H) {σ σ' : Sg} {H' : Heap} {w w' : World} (hs : Stp (sc n ρ σ) H0 w σ' H' w') : Grow w w' where
  os := hs.os
  tape := hs.tape
  output := hs.output
  size := hs.size
  frame r hr := hs.frame r hr fun ⟨b, x, hf, hw, hx, _⟩ => by
    unfold sc at hx
    split at hx
    · rw [h.floor] at hf; omega
    · cases hx

/-- From what may be read to numbers: what comes is shown by a run from a small heap. -/
theorem ro_ok (hP : Okay P) {tab : Tab} (ht : TabOK P tab) {f : FuncId} {c : CE}
    (h : ∀ args H v H', (c args H).eval = some (v, H') → H' = H ∧ flat2 v = true ∧ ∃ n ρ args0 H0 k, LR (sr n ρ) args0 args ∧ Emb n ρ H0 H ∧ (runT P (hkP P) (tabK tab) k f args0 H0).eval = some v) : EntOK P f (CE.ent c) where
  body {args H v H'} hr := by
    obtain ⟨_, _, n, ρ, args0, H0, k, _, _, hk⟩ := h args H v H' hr
    obtain ⟨H1, hk⟩ := step_of_callS hkP_ok (tabK_ok tab) hk
    exact (ht.call.step hP.m hP.n k).s.body hk
  runs {args H v H'} hr σ w args' hl hst := by
    obtain ⟨rfl, hv, n, ρ, args0, H0, k, h1, h2, hk⟩ := h args H v H' hr
    obtain ⟨H1, hk⟩ := step_of_callS hkP_ok (tabK_ok tab) hk
    refine ((ht.call.step hP.m hP.n k).s.runs hk _ w args' (h1.comp hl) (h2.st hst)).mono ?_
    rintro e w' ⟨v', σ', rfl, h3, h4, h5⟩
    have hg := h2.grow h5
    refine ⟨v, σ, by rw [h3.flat2_eq hv], VR.of_flat2 hv, hg.st hst, hg.stp hst⟩
  vf {args H v H'} hr := by
    obtain ⟨rfl, _⟩ := h args H v H' hr
    exact VF.refl
end Go.Vm
