/- A verified interpreter: from a run to what a row asks. -/
import Derived.Test.YtdjippdfohlpkaaVmX
import Derived.Carry
import Derived.ClaimOpenTies
namespace Go.Vm
open Go.RowKit
variable {P : Program}

/-- What a run answers, the machine answers; what was there before is as it was. -/
theorem run_calls (hP : Okay P) {tab : Tab} (ht : TabOK P tab) {k : Nat} {f : FuncId} {args : List Value} {H : Heap} {v : Value} (h : (runT P (hkP P) (tabK tab) k f args H).eval = some v) (hv : flat2 v = true) (hf : H.next ≤ H.floor)
    {σ : Sg} {W : World} {args' : Array Value} (hl : LR σ args args'.toList) (hst : St σ H W) : Calls P f args' W fun e W' => e = .returned v ∧ Below W.heap.size W W' := by
  obtain ⟨H1, hk⟩ := step_of_callS hkP_ok (tabK_ok tab) h
  refine ((ht.call.step hP.m hP.n k).s.runs hk σ W args' hl hst).mono ?_
  rintro e w' ⟨v', σ', rfl, h3, h4, h5⟩
  refine ⟨by rw [h3.flat2_eq hv], h5.os, h5.tape, h5.output, h5.size, fun r hr => h5.frame r hr ?_⟩
  rintro ⟨b, x, h1, _, h2, _⟩
  have := (hst.lt b x h2).1
  omega

theorem Heap.get_new0 (l : List Value) (b : Nat) : (⟨(PT.leaf : PT Blk).set 0 (some (.cells l none true)), 1, 1⟩ : Heap).get b = if b = 0 then some (.cells l none true) else none := by
  unfold Heap.get
  rw [PT.get_set]
  rfl
def sg1 (r d : Nat) : Sg := fun b => if b = 0 then some (r, d, 0) else none
/-- One slice's cells. -/
theorem st_one {W : World} {r d : Nat} {l : List Value} {c : Array Value} {t : TypeId} {fr : Nat × Nat} (hh : W.heap[r]? = some (.cells c t fr)) (hd : d + l.length ≤ c.size) (hp : l.all plain = true)
    (hc : ∀ (i : Nat) v, l[i]? = some v → c[d + i]? = some v) : St (sg1 r d) ⟨(PT.leaf : PT Blk).set 0 (some (.cells l none true)), 1, 1⟩ W where
  ok b x k hx hk := by
    rw [Heap.get_new0] at hk
    unfold sg1 at hx
    split at hx
    · rename_i hb
      rw [if_pos hb] at hk
      cases hx; cases hk
      refine ⟨fun _ => rfl, c, t, fr, hh, hd, fun i v hi => ⟨v, hc i v hi, .plain ?_⟩, (fun h => nomatch h), (fun z hz => nomatch hz)⟩
      exact List.all_eq_true.1 hp v (List.mem_of_getElem? hi)
    · cases hx
  lt b x hx := by
    unfold sg1 at hx
    split at hx
    · cases hx
      refine ⟨by simp_all, ?_⟩
      exact (Array.getElem?_eq_some_iff.1 hh).1
    · cases hx
  inj b b' x x' hne hx hx' _ _ := by
    unfold sg1 at hx hx'
    split at hx
    · split at hx'
      · omega
      · cases hx'
    · cases hx

/-! ### Arguments of numbers -/
theorem okWide_agg {W : World} {r : Reach} {base : Nat} {t : TypeId} {v : Value} {ts : List TypeId} (ht : P.cellTypes P.depth t = some ts) (hs : P.cellsOf t = ts.length) (ha : isAggT P t = some true) (h : Value.okWide P W r base t v) :
    ∃ cs : Array Value, v = .agg cs ∧ cs.size = ts.length ∧ ∀ (i : Nat) u x, ts[i]? = some u → cs[i]? = some x → Cell.okWide P W r base u x := by
  unfold isAggT at ha
  have key : (∃ cs, v = .agg cs ∧ cs.size = P.cellsOf t ∧ Row.okWide P W r base t cs) := by
    unfold Value.okWide at h
    split at ha
    · rename_i he; rw [he] at h; exact h
    · rename_i he; rw [he] at h; exact h
    · cases ha
    · cases ha
  obtain ⟨cs, rfl, h1, ts', h2, _, h3⟩ := key
  rw [ht] at h2
  cases h2
  refine ⟨cs, rfl, by rw [h1, hs], fun i u x hu hx => ?_⟩
  obtain ⟨u', hu', hc⟩ := h3 i x hx
  have hi := (List.getElem?_eq_some_iff.1 hu).1
  rw [Nat.mod_eq_of_lt hi, hu] at hu'
  cases hu'
  exact hc
theorem cell_int {W : World} {r : Reach} {base : Nat} {u : TypeId} {k : IntKind} {x : Value} (hu : P.underlying u = some (.int k)) (h : Cell.okWide P W r base u x) : ∃ n, x = .int k n ∧ k.min ≤ n ∧ n ≤ k.max := by
  simp only [Cell.okWide, hu, Cell.ok] at h
  cases x with
  | int k' n =>
    simp only at h
    obtain ⟨rfl, h⟩ := h
    exact ⟨n, rfl, h.1, h.2⟩
  | _ => simp at h

/-- A value of numbers of one kind. -/
theorem okWide_uni {W : World} {r : Reach} {base : Nat} {t u : TypeId} {k : IntKind} {n : Nat} {v : Value} (ht : P.cellTypes P.depth t = some (List.replicate n u)) (hs : P.cellsOf t = n) (ha : isAggT P t = some true) (hu : P.underlying u = some (.int k))
    (h : Value.okWide P W r base t v) : ∃ f : Nat → Int, v = .agg (cellsI k f 0 n).toArray ∧ ∀ j, j < n → k.min ≤ f j ∧ f j ≤ k.max := by
  obtain ⟨cs, rfl, h1, h2⟩ := okWide_agg ht (by simpa using hs) ha h
  simp only [List.length_replicate] at h1
  have hcell : ∀ i (hi : i < n), ∃ m, cs[i]? = some (.int k m) ∧ k.min ≤ m ∧ m ≤ k.max := fun i hi => by
    obtain ⟨m, hm, h⟩ := cell_int hu (h2 i u cs[i] (by simp [hi]) (Array.getElem?_eq_getElem (by omega)))
    exact ⟨m, by rw [Array.getElem?_eq_getElem (by omega), hm], h⟩
  refine ⟨selInt cs.toList, ?_, fun j hj => ?_⟩
  · congr 1
    apply Array.toList_inj.1
    simp only
    apply List.ext_getElem?
    intro i
    by_cases hi : i < n
    · obtain ⟨m, hm, _⟩ := hcell i hi
      rw [cellsI_get _ _ _ _ _ hi, Nat.zero_add]
      unfold selInt
      rw [nth_eq]
      simp [hm]
    · rw [List.getElem?_eq_none (by simp; omega), List.getElem?_eq_none (by rw [cellsI_len]; omega)]
  · obtain ⟨m, hm, h⟩ := hcell j hj
    unfold selInt
    rw [nth_eq]
    simpa [hm] using h
end Go.Vm
