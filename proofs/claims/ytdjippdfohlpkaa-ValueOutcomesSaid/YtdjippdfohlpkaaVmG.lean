/- A verified interpreter: its operations are the machine's (fifth part: what is built, what grows). -/
import Derived.Test.YtdjippdfohlpkaaVmF
namespace Go.Vm
variable {P : Program}

theorem made_flatten (z : Array Value) : ∀ n : Nat, (madeCells z (n * z.size)).toList = (List.replicate n z.toList).flatten
  | 0 => by simp [madeCells]
  | n + 1 => by
    have ih := made_flatten z n
    simp only [madeCells, Array.toList_map, Array.toList_range] at ih ⊢
    rw [List.replicate_succ, List.flatten_cons, ← ih, Nat.succ_mul, Nat.add_comm, List.range_add, List.map_append]
    congr 1
    · apply List.ext_getElem?
      intro i
      by_cases hi : i < z.size
      · simp [hi, Nat.mod_eq_of_lt hi]
      · simp [hi]
    · rw [List.map_map]
      apply List.map_congr_left
      intro i _
      simp

theorem run_makeMade (w : World) (t e : TypeId) (i : TypeInfo) (z : Value) (ht : P.underlying t = some (.slice e)) (hi : P.info? e = some i) (hz : i.zero = some z)
    (kl kc : IntKind) (l c : Int) (h0 : 0 ≤ l) (hlc : l ≤ c) (hb : c * i.bytes ≤ roomV) (hr : c ≤ roomV) :
    (Instr.makeSlice t (.int kl l) (.int kc c)).run P w = .ok (.slice (some ⟨w.heap.size, 0, none⟩) l.toNat c.toNat) (w.alloc (.cells (madeCells z.cells (c.toNat * i.size)) e)) := by
  have : (roomV : Int) = 68719476736 := by decide
  exact run_make w t e i z ht hi hz kl kc l c h0 hlc (by rw [Int.mul_comm]; omega) (by omega)

theorem zeroT_info {e : TypeId} {i : TypeInfo} {z : Value} (hi : P.info? e = some i) (hz : zeroT P e = some z) : i.zero = some z ∧ flat z = true := by
  unfold zeroT at hz
  simp only [hi] at hz
  cases h : i.zero with
  | none => simp [h] at hz
  | some v =>
    simp only [h] at hz
    split at hz
    · simp only [Option.some.injEq] at hz; subst hz; exact ⟨rfl, by assumption⟩
    · cases hz

theorem all_replicate {l : List Value} (h : l.all plain = true) : ∀ n, ((List.replicate n l).flatten).all plain = true
  | 0 => by simp
  | n + 1 => by simp only [List.replicate_succ, List.flatten_cons, List.all_append, h, all_replicate h n, Bool.and_self]

section
variable {dst : Option Tmp} {type : TypeId} {pos : String} {after : Array Edge} {guard : Option (Nat × Bool)} {T : Frm} {H H' : Heap} {v : Value}

theorem s_makeSlice {t : TypeId} {x y : Operand} (h : oMakeSlice P t x y T H = some (v, H')) : OpS P ⟨dst, .makeSlice t x y, type, pos, after, guard⟩ T H v H' := by
  unfold oMakeSlice at h
  split at h
  · rename_i u u2 hx hy
    unfold makeSliceV at h
    split at h
    · rename_i e kl l kc c hu
      split at h
      · rename_i i z hi hz
        split at h
        · rename_i hc
          obtain ⟨h0, hlc, hr, hb, hsz⟩ := hc
          rw [allocK_eq] at h
          simp only [Option.some.injEq, Prod.mk.injEq] at h
          obtain ⟨rfl, rfl⟩ := h
          obtain ⟨hz', hf⟩ := zeroT_info hi hz
          intro σ a w hfr hlt hok
          have ex := (evO_sound hfr hx).int_inv
          have ey := (evO_sound hfr hy).int_inv
          have hrun := run_makeMade (P := P) w t e i z hu hi hz' kl kc l c h0 hlc hb hr
          refine ⟨_, .slice (some ⟨w.heap.size, 0 + 0, none⟩) l.toNat (c.toNat + 0), w.alloc (.cells (madeCells z.cells (c.toNat * i.size)) e), upS σ H.next (w.heap.size, 0, 0), by simp [execOp, ex, ey, hrun]; rfl, rfl, .slice (upS_same _ _ _), ?_⟩
          refine .newBlk hlt rfl rfl rfl rfl (fun b x j hb => by simp [Wrs, fpOf] at hb) ?_
          refine .newCells (c := madeCells z.cells (c.toNat * i.size)) (t := e) (fr := (0, 0)) (heap_push_new _ _) (fun _ => rfl) ⟨_, [], by rw [← hsz, made_flatten, List.append_nil], LR.of_plain (all_replicate (all_plain_cells hf) _), by simp⟩ (.inl rfl)
        · cases h
      · cases h
    · cases h
  · cases h

/-! ### Building -/
structure PR (σ : Sg) (l l' : List (Nat × Value)) : Prop where
  fst : l.map (·.1) = l'.map (·.1)
  snd : LR σ (l.map (·.2)) (l'.map (·.2))

theorem evParts_sound {σ : Sg} {T : Frm} {a : Act} (h : FR σ T a.tmps) : ∀ {l : List (Nat × Operand)} {ps : List (Nat × Value)}, evParts T l = some ps →
    PR σ ps (l.map fun (i, x) => (i, a.eval x))
  | [], ps, hx => by simp only [evParts, Option.some.injEq] at hx; subst hx; exact ⟨rfl, .nil⟩
  | (i, x) :: r, ps, hx => by
    simp only [evParts] at hx
    split at hx
    · rename_i v us hv hus
      simp only [Option.some.injEq] at hx
      subst hx
      have ih := evParts_sound h hus
      exact ⟨by simp [ih.fst], .cons (evO_sound h hv) ih.snd⟩
    · cases hx

theorem foldl_splice (off : Nat) : ∀ (vs : List Value) (k : Nat) (cs : Array Value), off + k + vs.length ≤ cs.size →
    ((vs.zipIdx k).foldl (fun (cs : Array Value) (x : Value × Nat) => cs.setIfInBounds (off + x.2) x.1) cs).toList = splice cs.toList (off + k) vs
  | [], k, cs, _ => by simp [splice]
  | v :: r, k, cs, h => by
    simp only [List.length_cons] at h
    simp only [List.zipIdx_cons, List.foldl_cons]
    rw [foldl_splice off r (k + 1) _ (by simp; omega)]
    apply List.ext_getElem?
    intro i
    rw [splice_get (by simp; omega), splice_get (by simp; omega)]
    simp only [Array.toList_setIfInBounds, List.getElem?_set, Array.length_toList, List.length_cons]
    by_cases h1 : i = off + k
    · subst h1
      have e1 : ¬ (off + (k + 1) ≤ off + k ∧ off + k < off + (k + 1) + r.length) := by omega
      have e2 : off + k ≤ off + k ∧ off + k < off + k + (r.length + 1) := by omega
      have e3 : off + k < cs.size := by omega
      rw [if_neg e1, if_pos e2]
      simp [e3]
    · by_cases h2 : off + (k + 1) ≤ i ∧ i < off + (k + 1) + r.length
      · have e2 : off + k ≤ i ∧ i < off + k + (r.length + 1) := by omega
        rw [if_pos h2, if_pos e2, show i - (off + k) = (i - (off + (k + 1))) + 1 by omega]
        simp
      · have e2 : ¬ (off + k ≤ i ∧ i < off + k + (r.length + 1)) := by omega
        rw [if_neg h2, if_neg e2, if_neg (fun e => h1 e.symm)]

theorem fill_sound {σ : Sg} {place place' : Nat → Option (Nat × Nat)} (hp : ∀ i x, place i = some x → place' i = some x) :
    ∀ {l l' : List (Nat × Value)} {cs cs1 : List Value} {cs' : Array Value}, fillS place cs l = some cs1 → PR σ l l' → LR σ cs cs'.toList →
      ∃ cs1', Instr.fill place' cs' l' = some cs1' ∧ LR σ cs1 cs1'.toList
  | [], l', cs, cs1, cs', h, hpr, hl => by
    simp only [fillS, Option.some.injEq] at h
    subst h
    have : l' = [] := by have := hpr.fst; simp at this; exact this
    subst this
    exact ⟨cs', rfl, hl⟩
  | (i, v) :: r, [], cs, cs1, cs', h, hpr, hl => by have := hpr.fst; simp at this
  | (i, v) :: r, (i', v') :: r', cs, cs1, cs', h, hpr, hl => by
    simp only [fillS] at h
    have hi : i = i' := by have := hpr.fst; simp at this; exact this.1
    subst hi
    have hv : VR σ v v' := hpr.snd.head
    have hr : PR σ r r' := ⟨by have := hpr.fst; simp at this; exact this, hpr.snd.tail⟩
    cases hpl : place i with
    | none => simp [hpl] at h
    | some x =>
      obtain ⟨off, size⟩ := x
      simp only [hpl] at h
      split at h
      · rename_i hc
        obtain ⟨h1, h2⟩ := hc
        have hvc := hv.cells
        have hvl := hvc.len
        have hll := hl.len
        simp only [Array.length_toList] at hvl hll
        have hfold : (v'.cells.zipIdx.foldl (fun (cs : Array Value) (x : Value × Nat) => cs.setIfInBounds (off + x.2) x.1) cs').toList = splice cs'.toList off v'.cells.toList := by
          rw [← Array.foldl_toList, Array.toList_zipIdx]
          exact foldl_splice off v'.cells.toList 0 cs' (by simp; omega)
        have hsp : LR σ (splice cs off v.cells.toList) (v'.cells.zipIdx.foldl (fun (cs : Array Value) (x : Value × Nat) => cs.setIfInBounds (off + x.2) x.1) cs').toList := by
          rw [hfold]
          unfold splice
          refine (((hl.take off).append hvc).append ?_)
          rw [hvc.len]
          exact hl.drop _
        obtain ⟨cs1', hf, hl'⟩ := fill_sound hp h hr hsp
        refine ⟨cs1', ?_, hl'⟩
        simp only [Instr.fill, hp i _ hpl]
        have e1 : v'.cells.size = size := by omega
        have e2 : ¬ (off + v'.cells.size > cs'.size) := by omega
        simp only [e1, ne_eq, not_true_eq_false, decide_false, Bool.false_or]
        have e3 : ¬ (off + size > cs'.size) := by omega
        simpa [e3] using hf
      · cases h

theorem s_build {t : TypeId} {parts : Array (Nat × Operand)} (h : oBuild P t parts.toList T H = some (v, H')) : OpS P ⟨dst, .build t parts, type, pos, after, guard⟩ T H v H' := by
  unfold oBuild at h
  split at h
  · rename_i ps hps
    obtain ⟨hv, rfl⟩ := keep_some h
    refine .still (fun b h => by simp [Wrs, fpOf] at h) fun σ a w hfr _ _ => ?_
    have hpr := evParts_sound hfr hps
    suffices hs : ∃ cells, P.built t (parts.toList.map fun (i, x) => (i, a.eval x)) = some cells ∧ VR σ v (.agg cells) by
      obtain ⟨cells, hb, hv'⟩ := hs
      refine ⟨.agg cells, ?_, hv'⟩
      have := run_build (P := P) w t (parts.map fun (i, x) => (i, a.eval x)) cells (by rw [← hb]; simp)
      simp [execOp, this]
    unfold buildV at hv
    split at hv
    · rename_i z fs hz hu
      split at hv
      · rename_i hall
        obtain ⟨cs, hc, rfl⟩ := Option.map_eq_some_iff.1 hv
        cases hi : P.info? t with
          | none => unfold zeroT at hz; simp [hi] at hz
          | some it =>
            obtain ⟨hz', hf⟩ := zeroT_info (P := P) (e := t) (i := it) (z := z) hi hz
            have hm : ∀ l : List Field, (l.all fun f => (sizeT P f.type).isSome) = true → (l.mapM fun f => (P.info? f.type).map fun i => (f.offset, i.size)) =
                some (l.map fun f => (f.offset, (sizeT P f.type).getD 0)) := by
              intro l
              induction l with
              | nil => intro _; rfl
              | cons f r ih =>
                intro hl
                simp only [List.all_cons, Bool.and_eq_true] at hl
                obtain ⟨h1, h2⟩ := hl
                unfold sizeT at h1
                cases hif : P.info? f.type with
                | none => simp [hif] at h1
                | some fi => simp [List.mapM_cons, hif, ih h2, sizeT]
            obtain ⟨cs1', hfill, hl⟩ := fill_sound (σ := σ) (place' := fun i => ((fs.toList.map fun f => (f.offset, (sizeT P f.type).getD 0)).toArray)[i]?) (fun i x hx => by
              cases hfi : fs[i]? with
              | none => simp [hfi] at hx
              | some f =>
                simp only [hfi] at hx
                cases hsf : sizeT P f.type with
                | none => simp [hsf] at hx
                | some s => simp [hsf] at hx; subst hx; simp [hfi, hsf]) hc hpr (cs' := z.cells) (LR.of_plain (all_plain_cells hf))
            refine ⟨cs1', ?_, ?_⟩
            · simp only [Program.built, hi, hu, hz', hm fs.toList hall]
              exact hfill
            · have := VR.aggL hl
              simpa using this
      · cases hv
    · rename_i z n e hz hu
      split at hv
      · rename_i s hs
        cases hc : fillS (fun i => some (i * s, s)) z.cells.toList ps with
        | none => simp [hc] at hv
        | some cs =>
          simp only [hc, Option.map_some, Option.some.injEq] at hv
          subst hv
          cases hi : P.info? t with
          | none => unfold zeroT at hz; simp [hi] at hz
          | some it =>
            obtain ⟨hz', hf⟩ := zeroT_info (P := P) (e := t) (i := it) (z := z) hi hz
            obtain ⟨cs1', hfill, hl⟩ := fill_sound (σ := σ) (place' := fun i => some (i * s, s)) (fun i x hx => hx) hc hpr (cs' := z.cells) (LR.of_plain (all_plain_cells hf))
            unfold sizeT at hs
            cases hie : P.info? e with
            | none => simp [hie] at hs
            | some ie =>
              simp [hie] at hs
              refine ⟨cs1', ?_, by simpa using VR.aggL hl⟩
              simp only [Program.built, hi, hu, hz', hie, hs]
              exact hfill
      · cases hv
    · cases hv
  · cases h

theorem s_buildSlice {t : TypeId} {n : Nat} {parts : Array (Nat × Operand)} (h : oBuildSlice P t n parts.toList T H = some (v, H')) : OpS P ⟨dst, .buildSlice t n parts, type, pos, after, guard⟩ T H v H' := by
  unfold oBuildSlice at h
  split at h
  · rename_i ps hps
    unfold buildSliceV at h
    split at h
    · rename_i e hu
      split at h
      · rename_i s z hs hz
        split at h
        · rename_i hc
          obtain ⟨h1, h2, h3⟩ := hc
          split at h
          · rename_i cs hcs
            split at h
            · rw [allocK_eq] at h
              simp only [Option.some.injEq, Prod.mk.injEq] at h
              obtain ⟨rfl, rfl⟩ := h
              intro σ a w hfr hlt hok
              have hpr := evParts_sound hfr hps
              obtain ⟨hzr, hf⟩ := zeroT_run hz w
              have hsr := sizeT_run hs w
              have hmade : ((Array.range (n * s)).map (z.cells[· % z.cells.size]!)).toList = (List.replicate n z.cells.toList).flatten := by
                rw [← h2]; exact made_flatten z.cells n
              obtain ⟨cs1', hfill, hl⟩ := fill_sound (σ := σ) (place' := fun i => some (i * s, s)) (fun i x hx => hx) hcs hpr (cs' := (Array.range (n * s)).map (z.cells[· % z.cells.size]!))
                (by rw [hmade]; exact LR.of_plain (all_replicate (all_plain_cells hf) _))
              refine ⟨.value (.slice (some ⟨w.heap.size, 0 + 0, none⟩) n (n + 0)), .slice (some ⟨w.heap.size, 0 + 0, none⟩) n (n + 0), w.alloc (.cells cs1' e), upS σ H.next (w.heap.size, 0, 0), ?_, rfl, .slice (upS_same _ _ _), ?_⟩
              · have hn : ¬ (n * s > 16777216) := by simpa using h1
                by_cases h0 : n * s = 0
                · have hn0 : n = 0 := by
                    rcases Nat.mul_eq_zero.1 h0 with h | h
                    · exact h
                    · omega
                  subst hn0
                  have hr0 : ∀ f : Nat → Value, (Array.range 0).map f = #[] := fun f => by simp [Array.range]
                  simp only [Nat.zero_mul, hr0] at hfill
                  simp [execOp, Instr.buildSlice, run_underlying hu, hsr, hr0, hfill, newRow]
                · simp [execOp, Instr.buildSlice, run_underlying hu, hsr, hn, h0, hzr, hfill, newRow]
              · refine .newBlk hlt rfl rfl rfl rfl (fun b x j hb => by simp [Wrs, fpOf] at hb) ?_
                exact .newCells (c := cs1') (t := e) (fr := (0, 0)) (heap_push_new _ _) (fun _ => rfl) ⟨_, [], by rw [List.append_nil], hl.mono (upS_mono hlt.next), by simp⟩ (.inl rfl)
            · cases h
          · cases h
        · cases h
      · cases h
    · cases h
  · cases h
end
end Go.Vm
