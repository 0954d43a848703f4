/- A verified interpreter: its operations are the machine's (second part: memory). -/
import Derived.Test.YtdjippdfohlpkaaVmC
namespace Go.Vm
variable {P : Program}

theorem isAggT_run {t : TypeId} {b : Bool} (h : isAggT P t = some b) (w : World) : (isAgg t).run P w = .ok b w := by
  unfold isAggT at h
  unfold isAgg
  cases hu : P.underlying t with
  | none => simp [hu] at h
  | some d =>
    rw [Sem.run_bind, run_underlying hu w]
    cases d <;> simp [hu] at h <;> subst h <;> rfl

theorem sizeT_run {t : TypeId} {n : Nat} (h : sizeT P t = some n) (w : World) : (sizeOf t).run P w = .ok n w := by
  unfold sizeT at h
  cases hi : P.info? t with
  | none => simp [hi] at h
  | some i => simp [hi] at h; subst h; simp [sizeOf, typeInfo, hi]

theorem zeroT_run {t : TypeId} {z : Value} (h : zeroT P t = some z) (w : World) : (zeroValue t).run P w = .ok z w ∧ flat z = true := by
  unfold zeroT at h
  cases hi : P.info? t with
  | none => simp [hi] at h
  | some i =>
    cases hz : i.zero with
    | none => simp [hi, hz] at h
    | some v =>
      simp only [hi, hz] at h
      split at h
      · rename_i hf
        simp only [Option.some.injEq] at h; subst h
        exact ⟨by simp [zeroValue, typeInfo, hi, hz], hf⟩
      · cases h

theorem add_none (b o n : Nat) : (⟨b, o, none⟩ : Addr).add n = ⟨b, o + n, none⟩ := by
  unfold Addr.add
  split
  · rename_i h; simp [h]
  · rfl

theorem spot_none {a : Addr} (h : a.spot = none) : a = ⟨a.block, a.off, none⟩ := by cases a; simp at h; simp [h]

theorem cellsAt_some {H : Heap} {a : Addr} {n : Nat} {cs : List Value} (h : cellsAt H a n = some cs) :
    a.spot = none ∧ ∃ all lo ro, H.get a.block = some (.cells all lo ro) ∧ a.off + n ≤ all.length ∧ cs = (all.drop a.off).take n := by
  unfold cellsAt at h
  split at h
  · rename_i all lo ro hs hg
    split at h
    · rename_i hle
      simp only [Option.some.injEq] at h
      exact ⟨hs, all, lo, ro, hg, hle, h.symm⟩
    · cases h
  · cases h

/-- What is read of a block of cells. -/
theorem cellsAt_sound {σ : Sg} {H : Heap} {w : World} {a : Addr} {n : Nat} {cs : List Value} (h : cellsAt H a n = some cs) {r d s : Nat} (_ : σ a.block = some (r, d, s))
    (hok : ∀ k, H.get a.block = some k → BlkOK σ w (r, d, s) k) :
    ∃ cs', LR σ cs cs' ∧ cs'.length = n ∧ ∀ j u, cs'[j]? = some u → w.cell? ((⟨r, d + a.off, none⟩ : Addr).add j) = some u := by
  obtain ⟨_, all, lo, ro, hg, hle, rfl⟩ := cellsAt_some h
  obtain ⟨_, c, t, fr, hh, hc, hv, _⟩ := hok _ hg
  refine ⟨(c.toList.drop (d + a.off)).take n, ⟨by simp only at hc; simp; omega, fun i v v' x y => ?_⟩, by simp only at hc; simp; omega, fun j u hu => ?_⟩
  · rw [List.getElem?_take] at x y
    by_cases hi : i < n
    · simp only [hi, if_true, List.getElem?_drop] at x y
      obtain ⟨v2, h2, hr⟩ := hv _ _ x
      have e : c[d + (a.off + i)]? = some v' := by
        rw [← Array.getElem?_toList]; rwa [show d + a.off + i = d + (a.off + i) by omega] at y
      simp only at h2
      rw [e] at h2
      simp only [Option.some.injEq] at h2
      exact h2 ▸ hr
    · simp [hi] at x
  · rw [add_none]
    rw [List.getElem?_take] at hu
    by_cases hi : j < n
    · simp only [hi, if_true, List.getElem?_drop] at hu
      simp only [World.cell?, hh]
      simpa [Nat.add_assoc] using hu
    · simp [hi] at hu

theorem loadV_sound {σ : Sg} {H : Heap} {w : World} {t : TypeId} {a : Addr} {v : Value} (h : loadV P H t a = some v) {r d s : Nat} (hs : σ a.block = some (r, d, s))
    (hok : ∀ k, H.get a.block = some k → BlkOK σ w (r, d, s) k) :
    ∃ v', (loadVar t ⟨r, d + a.off, none⟩).run P w = .ok v' w ∧ VR σ v v' := by
  unfold loadV at h
  split at h
  · rename_i n hagg hsz
    split at h
    · rename_i cs hc
      simp only [Option.some.injEq] at h
      subst h
      obtain ⟨cs', hl, hn, hcell⟩ := cellsAt_sound hc hs hok
      have hrun := run_loadCells_list (P := P) w ⟨r, d + a.off, none⟩ cs' hcell
      rw [hn] at hrun
      refine ⟨.agg cs'.toArray, ?_, .aggL hl⟩
      simp [loadVar, isAggT_run hagg w, sizeT_run hsz w, hrun]
    · cases h
  · rename_i n hagg hsz
    split at h
    · rename_i u hc
      simp only [Option.some.injEq] at h
      subst h
      obtain ⟨cs', hl, hn, hcell⟩ := cellsAt_sound hc hs hok
      obtain ⟨x, rfl⟩ : ∃ x, cs' = [x] := by
        cases cs' with
        | nil => simp at hn
        | cons x r => cases r with
          | nil => exact ⟨x, rfl⟩
          | cons _ _ => simp at hn
      have hx := hcell 0 x rfl
      rw [add_none, Nat.add_zero] at hx
      refine ⟨x, ?_, hl.head⟩
      simp [loadVar, isAggT_run hagg w, hx]
    · cases h
  · cases h

theorem addrOf_some {v : Value} {a : Addr} (h : addrOf v = some a) : v = .pointer (some a) ∧ a.spot = none := by
  unfold addrOf at h
  split at h
  · split at h
    · simp only [Option.some.injEq] at h; subst h; exact ⟨rfl, by assumption⟩
    · cases h
  · cases h

theorem bind_addr {T : Frm} {x : Operand} {a : Addr} (h : (evO T x).bind addrOf = some a) : evO T x = some (.pointer (some a)) ∧ a.spot = none := by
  cases hx : evO T x with
  | none => simp [hx] at h
  | some v => simp only [hx, Option.bind_some] at h; obtain ⟨rfl, hs⟩ := addrOf_some h; exact ⟨rfl, hs⟩

section
variable {dst : Option Tmp} {type : TypeId} {pos : String} {after : Array Edge} {guard : Option (Nat × Bool)} {T : Frm} {H H' : Heap} {v : Value}

theorem s_bin {op : BinOp} {t t' : TypeId} {x y : Operand} (h : oBin P op t x y T H = some (v, H')) : OpS P ⟨dst, .binOp op t x y t', type, pos, after, guard⟩ T H v H' := by
  unfold oBin at h
  split at h
  · rename_i u u2 hx hy
    obtain ⟨hv, rfl⟩ := keep_some h
    refine .still (fun b h => by simp [Wrs, fpOf] at h) fun σ a w hfr _ _ => ?_
    have hrx := evO_sound hfr hx
    have hry := evO_sound hfr hy
    unfold binV at hv
    split at hv
    · rename_i hf
      simp only [Bool.and_eq_true] at hf
      obtain ⟨hv, hfv⟩ := flatOnly_some hv
      have hr := pureRun_sound _ _ hv w
      exact ⟨v, by simp only [execOp]; rw [hrx.flat_eq hf.1, hry.flat_eq hf.2, Sem.run_bind, hr]; rfl, VR.of_flat hfv⟩
    · have key : ∀ b, nilCmp P t u u2 = some b → (do eqGuard .eql t x y (a.eval x) (a.eval y); binOp .eql t (a.eval x) (a.eval y)).run P w = .ok (.bool b) w ∧
          (do eqGuard .neq t x y (a.eval x) (a.eval y); binOp .neq t (a.eval x) (a.eval y)).run P w = .ok (.bool (!b)) w := by
        intro b hb
        have he := nilCmp_sound hrx hry hb w
        generalize a.eval x = x' at *
        generalize a.eval y = y' at *
        unfold nilCmp at hb
        split at hb <;> first | (cases hb; done) | skip
        all_goals
          cases hrx <;> cases hry <;> first | (simp [plain] at *; done) | simp [eqGuard, binOp, he]
      split at hv
      · cases hb : nilCmp P t u u2 with
        | none => simp [hb] at hv
        | some b =>
          simp only [hb, Option.map_some, Option.some.injEq] at hv
          subst hv
          refine ⟨_, ?_, .plain rfl⟩
          have := (key b hb).1
          simp only [execOp]
          rw [Sem.run_bind, this]; rfl
      · cases hb : nilCmp P t u u2 with
        | none => simp [hb] at hv
        | some b =>
          simp only [hb, Option.map_some, Option.some.injEq] at hv
          subst hv
          refine ⟨_, ?_, .plain rfl⟩
          have := (key b hb).2
          simp only [execOp]
          rw [Sem.run_bind, this]; rfl
      · cases hv
  · cases h

theorem s_load {t : TypeId} {x : Operand} (h : oLoad P t x T H = some (v, H')) : OpS P ⟨dst, .load t x, type, pos, after, guard⟩ T H v H' := by
  unfold oLoad at h
  split at h
  · rename_i ad hx
    obtain ⟨hv, rfl⟩ := keep_some h
    obtain ⟨hx, hsp⟩ := bind_addr hx
    refine .still (fun b h => by simp [Wrs, fpOf] at h) fun σ a w hfr _ hok => ?_
    obtain ⟨b, off, r, d, s, rfl, hs, e⟩ := (evO_sound hfr hx).ptr_inv
    obtain ⟨v', hr, hv'⟩ := loadV_sound hv hs (fun k hk => hok b _ k (by simp [Touch, fpOf, blkO, hx, blkOf]) hs hk)
    exact ⟨v', by simp [execOp, e, Instr.loadAt, Instr.sureAddr, hr], hv'⟩
  · cases h
end

/-! ### Writing -/
theorem run_storeCells_fr (g o : Nat) (t : TypeId) (fr : Nat × Nat) : ∀ (vs : List Value) (i : Nat) (cur : Array Value) (w : World), w.heap[g]? = some (.cells cur t fr) →
    (∀ j, o ≤ j → j < cur.size → ¬ (fr.1 ≤ j ∧ j < fr.2)) → o + i + vs.length ≤ cur.size → (∀ v ∈ vs, v.oneCell' = true) →
    (storeCells ⟨g, o, none⟩ vs i).run P w = .ok () (w.setRow g (cur.toList.take (o + i) ++ vs ++ cur.toList.drop (o + i + vs.length)).toArray)
  | [], i, cur, w, hg, _, _, _ => by
    simp only [storeCells, List.append_nil, List.length_nil, Nat.add_zero, List.take_append_drop, Array.toArray_toList]
    rw [setRow_self w g cur t fr hg]
    rfl
  | v :: rest, i, cur, w, hg, hfr, hl, h1 => by
    have hi : o + i < cur.size := by simp at hl; omega
    have hcell : w.cell? ⟨g, o + i, none⟩ = some cur[o + i] := by simp [World.cell?, hg, hi]
    have hfro : w.frozen? ⟨g, o + i, none⟩ = false := by
      have := hfr (o + i) (by omega) hi
      simp only [World.frozen?, hg]
      simpa using this
    have hst : (store ((⟨g, o, none⟩ : Addr).add i) v).run P w = .ok () (w.setRow g (cur.setIfInBounds (o + i) v)) := by
      rw [add_none, run_store P w _ v _ (h1 v (by simp)), hcell]
      simp [hfro, setCell_eq_setRow w g (o + i) cur t fr v hg]
    have ih := run_storeCells_fr g o t fr rest (i + 1) (cur.setIfInBounds (o + i) v) (w.setRow g (cur.setIfInBounds (o + i) v)) (setRow_heap w g cur _ t _ hg)
      (fun j h0 hj => hfr j h0 (by simpa using hj)) (by simp at hl ⊢; omega) (fun x hx => h1 x (by simp [hx]))
    simp only [storeCells, Sem.run_bind, hst, Result.andThen_ok, ih, setRow_setRow]
    congr 3
    have := List.take_append_drop (o + i) (cur.toList)
    apply List.ext_getElem?
    intro j
    simp only [Array.toList_setIfInBounds, List.getElem?_append, List.length_take, List.length_append, List.getElem?_take, List.getElem?_drop, List.getElem?_set, List.length_set, Array.length_toList, List.length_cons]
    have hm : min (o + (i + 1)) cur.size = o + i + 1 := by omega
    have hm2 : min (o + i) cur.size = o + i := by omega
    simp only [hm, hm2]
    by_cases ha : j < o + i
    · have h1 : j < o + i + 1 := by omega
      have h2 : j < o + (i + 1) := by omega
      have h3 : ¬ o + i = j := by omega
      have h4 : j < o + i + 1 + rest.length := by omega
      have h5 : j < o + i + (rest.length + 1) := by omega
      simp [ha, h1, h2, h3, h4, h5]
    · by_cases hb : j = o + i
      · subst hb
        have h4 : o + i < o + i + 1 + rest.length := by omega
        simp [hi, h4]
      · have h1 : ¬ j < o + i + 1 := by omega
        simp only [ha, h1, if_false]
        by_cases hc : j < o + i + 1 + rest.length
        · have h4 : j < o + i + (rest.length + 1) := by omega
          simp [h4, hc]
          rw [show j - (o + i) = (j - (o + i + 1)) + 1 by omega]
          simp
        · have h4 : ¬ j < o + i + (rest.length + 1) := by omega
          simp [h4, hc]
          have h5 : ¬ o + i = o + (i + 1) + rest.length + (j - (o + i + 1 + rest.length)) := by omega
          simp [h5]
          congr 1
          omega

end Go.Vm
