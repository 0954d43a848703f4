/- A verified interpreter: what an operation looks at, and what it leaves alone. -/
import Derived.Test.YtdjippdfohlpkaaVmL
namespace Go.Vm
variable {P : Program}

/-! ### What an operation looks at -/
theorem evO_congr {T T' : Frm} {x : Operand} (h : ∀ t, x = .tmp t → T.get t = T'.get t) : evO T x = evO T' x := by
  cases x with
  | tmp t => simp only [evO, h t rfl]
  | _ => rfl
theorem evL_congr {T T' : Frm} : ∀ {l : List Operand}, (∀ t, Operand.tmp t ∈ l → T.get t = T'.get t) → evL T l = evL T' l
  | [], _ => rfl
  | x :: r, h => by
    simp only [evL]
    rw [evO_congr (x := x) fun t e => h t (by simp [e]), evL_congr (l := r) fun t ht => h t (by simp [ht])]
theorem evParts_congr {T T' : Frm} : ∀ {l : List (Nat × Operand)}, (∀ t, Operand.tmp t ∈ l.map (·.2) → T.get t = T'.get t) → evParts T l = evParts T' l
  | [], _ => rfl
  | (i, x) :: r, h => by
    simp only [evParts]
    rw [evO_congr (x := x) fun t e => h t (by simp [e]), evParts_congr (l := r) fun t ht => h t (by simp at ht ⊢; exact .inr ht)]
theorem evM_congr {T T' : Frm} {x : Option Operand} (h : ∀ t, x = some (.tmp t) → T.get t = T'.get t) : evM T x = evM T' x := by
  cases x with
  | none => rfl
  | some x => simp only [evM]; rw [evO_congr fun t e => h t (by simp [e])]

def Agree (o : Oper) (T T' : Frm) : Prop := ∀ t, Operand.tmp t ∈ o.op.operands.toList → T.get t = T'.get t

theorem simple_congr {o : Oper} {T T' : Frm} (h : Agree o T T') (H : Heap) : (simpleV P o.type o.op).run T H = (simpleV P o.type o.op).run T' H := by
  obtain ⟨dst, op, type, pos, after, guard⟩ := o
  unfold Agree at h
  simp only at h ⊢
  unfold simpleV
  split <;> simp only [Op.operands, Call.operands] at h
  all_goals first
    | rfl
    | (simp only [oMove, oPick, oBox, oLoad, oStore, oNil, oBin, oUn, oConv, oMakeSlice, oFieldAddr, oField, oIndexAddr, oIndex, oLookup, oUpdate, oExtract]
       repeat (rw [evO_congr (T := T) (T' := T') fun t e => h t (by simp [e])])
       done)
    | (simp only [oBuild, oBuildSlice]; rw [evParts_congr (T := T) (T' := T') fun t ht => h t (by simpa using ht)])
    | (simp only [oFunc]; rw [evL_congr (T := T) (T' := T') fun t ht => h t (by simp; exact .inl (by simpa using ht)), evL_congr (T := T) (T' := T') fun t ht => h t (by simp; exact .inr (by simpa using ht))])
    | (simp only [oSlice]
       rw [evO_congr (T := T) (T' := T') fun t e => h t (by simp [e]), evM_congr (T := T) (T' := T') fun t e => h t (by simp [e]), evM_congr (T := T) (T' := T') fun t e => h t (by simp [e]), evM_congr (T := T) (T' := T') fun t e => h t (by simp [e])])
    | (simp only [oBuiltin]; rw [evL_congr (T := T) (T' := T') fun t ht => h t (by simpa using ht)])

theorem op_congr {o : Oper} {T T' : Frm} (h : Agree o T T') (call : CallFn) (H : Heap) : (opV P o).run call T H = (opV P o).run call T' H := by
  unfold opV
  split
  · rename_i f args at_ ho
    unfold Agree at h
    simp only [ho, Op.operands, Call.operands] at h
    simp only [oCall]
    rw [evO_congr (T := T) (T' := T') fun t e => h t (by simp [e]), evL_congr (T := T) (T' := T') fun t ht => h t (by simp; exact .inr (by simpa using ht))]
  · exact simple_congr h H

theorem blkO_congr {T T' : Frm} {x : Operand} (h : ∀ t, x = .tmp t → T.get t = T'.get t) : blkO T x = blkO T' x := by unfold blkO; rw [evO_congr h]
theorem flat_congr {T T' : Frm} : ∀ {l : List Operand}, (∀ t, Operand.tmp t ∈ l → T.get t = T'.get t) → l.flatMap (blkO T) = l.flatMap (blkO T')
  | [], _ => rfl
  | x :: r, h => by
    simp only [List.flatMap_cons]
    rw [blkO_congr (x := x) fun t e => h t (by simp [e]), flat_congr (l := r) fun t ht => h t (by simp [ht])]

theorem fp_congr {o : Oper} {T T' : Frm} (h : Agree o T T') : fpOf T o = fpOf T' o := by
  obtain ⟨dst, op, type, pos, after, guard⟩ := o
  unfold Agree at h
  simp only at h
  unfold fpOf
  simp only
  split <;> simp only [Op.operands, Call.operands] at h
  all_goals first
    | rfl
    | (repeat (rw [blkO_congr (T := T) (T' := T') fun t e => h t (by simp [e])])
       done)
    | (rename_i args _
       have h' : ∀ t, Operand.tmp t ∈ args.toList → T.get t = T'.get t := fun t ht => h t (by simpa using ht)
       rw [flat_congr (l := args.toList.drop 1) fun t ht => h' t (List.mem_of_mem_drop ht), flat_congr (l := args.toList.take 1) fun t ht => h' t (List.mem_of_mem_take ht)])
    | (rw [flat_congr (T := T) (T' := T') fun t ht => h t (by simpa using ht)])

/-! ### What an operation leaves alone -/
structure VF (H H' : Heap) (wr : Nat → Prop) : Prop where
  next : H.next ≤ H'.next
  floor : H'.floor = H.floor
  same : ∀ b, b < H.next → ¬ wr b → H'.get b = H.get b
  low : ∀ b, b < H.next → b < H.floor → H'.get b = H.get b
  alive : ∀ b, b < H.next → H.get b = none → H'.get b = none
  wrk : ∀ b, b < H.next → WR H' b → WR H b

theorem VF.refl {H : Heap} {wr : Nat → Prop} : VF H H wr := ⟨Nat.le_refl _, rfl, fun _ _ _ => rfl, fun _ _ _ => rfl, fun _ _ h => h, fun _ _ h => h⟩
theorem VF.trans {H H1 H2 : Heap} {wr : Nat → Prop} (h : VF H H1 wr) (k : VF H1 H2 wr) : VF H H2 wr where
  next := Nat.le_trans h.next k.next
  floor := k.floor.trans h.floor
  same b hb hw := (k.same b (Nat.lt_of_lt_of_le hb h.next) hw).trans (h.same b hb hw)
  low b hb hf := (k.low b (Nat.lt_of_lt_of_le hb h.next) (h.floor ▸ hf)).trans (h.low b hb hf)
  alive b hb hn := k.alive b (Nat.lt_of_lt_of_le hb h.next) (h.alive b hb hn)
  wrk b hb hw := h.wrk b hb (k.wrk b (Nat.lt_of_lt_of_le hb h.next) hw)
theorem VF.mono {H H' : Heap} {wr wr' : Nat → Prop} (h : VF H H' wr) (hw : ∀ b, wr b → wr' b) : VF H H' wr' :=
  ⟨h.next, h.floor, fun b hb hn => h.same b hb fun h => hn (hw b h), h.low, h.alive, h.wrk⟩

theorem VF.new {H : Heap} {k : Blk} {wr : Nat → Prop} : VF H (H.new k) wr := by
  have e : ∀ b, b < H.next → (H.new k).get b = H.get b := fun b hb => by rw [Heap.get_new, if_neg (by omega)]
  exact ⟨by simp [Heap.new], rfl, fun b hb _ => e b hb, fun b hb _ => e b hb, fun b hb hn => by rw [e b hb, hn], fun b hb hw => (WR.congr (e b hb)).1 hw⟩

theorem VF.put {H : Heap} {b : Nat} {k : Option Blk} {wr : Nat → Prop} (hw : wr b) (hf : H.floor ≤ b) (hwr : WR H b) : VF H (H.put b k) wr where
  next := Nat.le_refl _
  floor := rfl
  same i _ hn := by rw [Heap.get_put, if_neg (fun e => hn (by rw [e]; exact hw))]
  low i _ hi := by rw [Heap.get_put, if_neg (fun e => by omega)]
  alive i _ hn := by
    rw [Heap.get_put]
    split
    · rename_i e; subst e; obtain ⟨k, hk⟩ := hwr.some; rw [hn] at hk; cases hk
    · exact hn
  wrk i _ hi := by
    by_cases e : i = b
    · subst e; exact hwr
    · exact (WR.congr (by rw [Heap.get_put, if_neg e])).1 hi

theorem putCells_vf {H H' : Heap} {a : Addr} {vs : List Value} {wr : Nat → Prop} (h : putCells H a vs = some H') (hw : wr a.block) : VF H H' wr := by
  obtain ⟨_, cs, lo, hg, _, hf, _, rfl⟩ := putCells_some h
  exact .put hw hf (by simp [WR, hg])

theorem keep_vf {H H' : Heap} {v : Option Value} {u : Value} {wr : Nat → Prop} (h : keep H v = some (u, H')) : VF H H' wr := by
  obtain ⟨_, rfl⟩ := keep_some h; exact .refl

theorem alloc_vf {H H' : Heap} {cs : List Value} {lo : Option Nat} {f : Nat → Value} {u : Value} {wr : Nat → Prop} (h : (allocK H cs lo fun b H' => some (f b, H')) = some (u, H')) : VF H H' wr := by
  rw [allocK_eq] at h
  simp only [Option.some.injEq, Prod.mk.injEq] at h
  obtain ⟨_, rfl⟩ := h
  exact .new

theorem append_vf {H H' : Heap} {ts : Array TypeId} {s x v : Value} {wr : Nat → Prop} (h : appendV P H ts s x = some (v, H')) (hw : ∀ b, b ∈ blkOf s → wr b) : VF H H' wr := by
  unfold appendV at h
  split at h
  · split at h
    · cases h
    · split at h
      · rename_i e _ _ _ _ _ i base n cap _
        split at h
        · split at h
          · split at h
            · rename_i ad
              split at h
              · simp only [Option.some.injEq, Prod.mk.injEq] at h; obtain ⟨_, rfl⟩ := h; exact .refl
              · obtain ⟨H2, hp, he⟩ := Option.map_eq_some_iff.1 h
                simp only [Prod.mk.injEq] at he
                obtain ⟨_, rfl⟩ := he
                exact putCells_vf hp (hw _ (by simp [blkOf]))
            · split at h
              · simp only [Option.some.injEq, Prod.mk.injEq] at h; obtain ⟨_, rfl⟩ := h; exact .refl
              · cases h
          · split at h
            · split at h
              · split at h
                · exact alloc_vf h
                · cases h
              · rename_i ad
                split at h
                · split at h
                  · exact alloc_vf h
                  · cases h
                · rename_i cs z _ hg
                  split at h
                  · rename_i hc
                    exact VF.trans (.put (hw _ (by simp [blkOf])) hc.2.2.2.1 (by simp [WR, hg])) (alloc_vf h)
                  · cases h
                · cases h
            · cases h
        · cases h
      · cases h
  · cases h

theorem copy_vf {H H' : Heap} {ts : Array TypeId} {s x v : Value} {wr : Nat → Prop} (h : copyV P H ts s x = some (v, H')) (hw : ∀ b, b ∈ blkOf s → wr b) : VF H H' wr := by
  unfold copyV at h
  split at h
  · split at h
    · split at h
      · cases h
      · split at h
        · split at h
          · obtain ⟨H2, hp, he⟩ := Option.map_eq_some_iff.1 h
            simp only [Prod.mk.injEq] at he
            obtain ⟨_, rfl⟩ := he
            exact putCells_vf hp (hw _ (by simp [blkOf]))
          · simp only [Option.some.injEq, Prod.mk.injEq] at h; obtain ⟨_, rfl⟩ := h; exact .refl
          · cases h
        · simp only [Option.some.injEq, Prod.mk.injEq] at h; obtain ⟨_, rfl⟩ := h; exact .refl
        · cases h
    · cases h
  · cases h

theorem update_vf {H H' : Heap} {T : Frm} {t : TypeId} {m k x : Operand} {v : Value} {wr : Nat → Prop} (h : oUpdate P t m k x T H = some (v, H')) (hw : ∀ r, evO T m = some (.map (some r)) → wr r) : VF H H' wr := by
  unfold oUpdate at h
  split at h
  · rename_i mv kv xv hm hk hx
    obtain ⟨H2, hu, he⟩ := Option.map_eq_some_iff.1 h
    simp only [Prod.mk.injEq] at he
    obtain ⟨_, rfl⟩ := he
    unfold mapUpdateV at hu
    split at hu
    · rename_i r _
      split at hu
      · rename_i es hg
        split at hu
        · rename_i hc
          simp only [Bool.and_eq_true, decide_eq_true_eq] at hc
          have hwr : WR H r := by simp [WR, hg]
          split at hu
          · split at hu
            · split at hu
              · simp only [Option.some.injEq] at hu; subst hu; exact .put (hw _ hm) hc.1.1 hwr
              · cases hu
            · cases hu
          · simp only [Option.some.injEq] at hu; subst hu; exact .put (hw _ hm) hc.1.1 hwr
          · cases hu
        · cases hu
      · cases hu
    · cases hu
  · cases h

theorem simple_vf {o : Oper} {T : Frm} {H H' : Heap} {v : Value} (h : (simpleV P o.type o.op).run T H = some (v, H')) : VF H H' (Wrs T o) := by
  obtain ⟨dst, op, type, pos, after, guard⟩ := o
  simp only at h
  unfold simpleV at h
  split at h
  case h_3 => replace h : oPick _ _ _ T H = some (v, H') := h; unfold oPick at h; split at h <;> first | (cases h; done) | (simp only [Option.some.injEq, Prod.mk.injEq] at h; obtain ⟨_, rfl⟩ := h; exact .refl)
  case h_4 => replace h : oAlloc P _ H = some (v, H') := h; unfold oAlloc at h; split at h <;> first | (cases h; done) | exact alloc_vf h
  case h_5 =>
    replace h : oBox _ T H = some (v, H') := h
    unfold oBox at h
    split at h
    · split at h
      · exact alloc_vf h
      · cases h
    · cases h
  case h_6 => replace h : oBuild P _ _ T H = some (v, H') := h; unfold oBuild at h; split at h <;> first | (cases h; done) | exact keep_vf h
  case h_7 =>
    replace h : oBuildSlice P _ _ _ T H = some (v, H') := h
    unfold oBuildSlice buildSliceV at h
    repeat' (split at h)
    all_goals first | (cases h; done) | exact alloc_vf h
  case h_8 => replace h : oLoad P _ _ T H = some (v, H') := h; unfold oLoad at h; split at h <;> first | (cases h; done) | exact keep_vf h
  case h_9 =>
    rename_i t a x
    replace h : oStore P _ _ _ T H = some (v, H') := h
    unfold oStore at h
    split at h
    · rename_i ad u ha hu
      obtain ⟨hx, hsp⟩ := bind_addr ha
      obtain ⟨H2, hs, he⟩ := Option.map_eq_some_iff.1 h
      simp only [Prod.mk.injEq] at he
      obtain ⟨_, rfl⟩ := he
      unfold storeV at hs
      split at hs
      · split at hs
        · exact putCells_vf hs (by simp [Wrs, fpOf, blkO, hx, blkOf])
        · cases hs
      · cases hs
    · cases h
  case h_11 => replace h : oBin P _ _ _ _ T H = some (v, H') := h; unfold oBin at h; split at h <;> first | (cases h; done) | exact keep_vf h
  case h_12 =>
    replace h : oUn P _ _ T H = some (v, H') := h
    unfold oUn at h
    split at h
    · split at h
      · exact keep_vf h
      · cases h
    · cases h
  case h_13 =>
    replace h : oConv P _ _ _ T H = some (v, H') := h
    unfold oConv convV at h
    repeat' (split at h)
    all_goals first
      | (cases h; done)
      | exact alloc_vf h
      | exact keep_vf h
      | (simp only [Option.some.injEq, Prod.mk.injEq] at h; obtain ⟨_, rfl⟩ := h; exact .refl)
  case h_14 => replace h : oFunc _ _ _ T H = some (v, H') := h; unfold oFunc at h; split at h <;> first | (cases h; done) | (simp only [Option.some.injEq, Prod.mk.injEq] at h; obtain ⟨_, rfl⟩ := h; exact .refl)
  case h_15 => simp only [Option.some.injEq, Prod.mk.injEq] at h; obtain ⟨_, rfl⟩ := h; exact .new
  case h_16 =>
    replace h : oMakeSlice P _ _ _ T H = some (v, H') := h
    unfold oMakeSlice makeSliceV at h
    repeat' (split at h)
    all_goals first | (cases h; done) | exact alloc_vf h
  case h_17 => replace h : oSlice P _ _ _ _ _ T H = some (v, H') := h; unfold oSlice at h; split at h <;> first | (cases h; done) | exact keep_vf h
  case h_18 => replace h : oFieldAddr P _ _ _ T H = some (v, H') := h; unfold oFieldAddr at h; split at h <;> first | (cases h; done) | exact keep_vf h
  case h_19 => replace h : oField P _ _ _ T H = some (v, H') := h; unfold oField at h; split at h <;> first | (cases h; done) | exact keep_vf h
  case h_20 => replace h : oIndexAddr P _ _ _ T H = some (v, H') := h; unfold oIndexAddr at h; split at h <;> first | (cases h; done) | exact keep_vf h
  case h_21 => replace h : oIndex P _ _ _ T H = some (v, H') := h; unfold oIndex at h; split at h <;> first | (cases h; done) | exact keep_vf h
  case h_22 => replace h : oLookup P _ _ _ _ T H = some (v, H') := h; unfold oLookup at h; split at h <;> first | (cases h; done) | exact keep_vf h
  case h_25 => replace h : oExtract _ _ T H = some (v, H') := h; unfold oExtract at h; split at h <;> first | (cases h; done) | exact keep_vf h
  case h_27 => cases h
  case h_1 => exact keep_vf h
  case h_2 => exact keep_vf h
  case h_10 => exact keep_vf h
  case h_26 =>
    rename_i b args argTypes
    replace h : oBuiltin P type _ _ _ T H = some (v, H') := h
    unfold oBuiltin at h
    split at h
    · rename_i vs hvs
      unfold builtinV at h
      split at h
      · obtain ⟨xo, yo, hl, hx, hy⟩ := evL_two hvs
        have : args = #[xo, yo] := by apply Array.ext'; simpa using hl
        subst this
        exact append_vf h (fun b hb => by simp [Wrs, fpOf, blkO, hx]; exact hb)
      · obtain ⟨xo, yo, hl, hx, hy⟩ := evL_two hvs
        have : args = #[xo, yo] := by apply Array.ext'; simpa using hl
        subst this
        exact copy_vf h (fun b hb => by simp [Wrs, fpOf, blkO, hx]; exact hb)
      · exact keep_vf h
      · split at h
        · exact keep_vf h
        · cases h
      · split at h
        · exact keep_vf h
        · cases h
      · cases h
    · cases h
  case h_23 =>
    rename_i t m k x
    replace h : oUpdate P t m k x T H = some (v, H') := h
    exact update_vf h (fun r hm => by simp [Wrs, fpOf, blkO, hm, blkOf])
  case h_24 =>
    rename_i t m k x
    replace h : oUpdate P t m k x T H = some (v, H') := h
    exact update_vf h (fun r hm => by simp [Wrs, fpOf, blkO, hm, blkOf])

/-! ### What code and calls leave alone -/
def CallVF (call : CallFn) : Prop := ∀ {f args H v H'}, call f args H = some (v, H') → VF H H' fun _ => True

theorem op_vf {call : CallFn} (hc : CallVF call) {o : Oper} {T : Frm} {H H' : Heap} {v : Value} (h : (opV P o).run call T H = some (v, H')) : VF H H' fun _ => True := by
  unfold opV at h
  split at h
  · replace h : oCall _ _ call T H = some (v, H') := h
    unfold oCall at h
    split at h
    · split at h
      · exact hc h
      · cases h
    · cases h
  · exact (simple_vf (P := P) h).mono fun _ _ => trivial

theorem ops_vf {call : CallFn} (hc : CallVF call) {ops : List Oper} : ∀ {l : List Oper} {T T' : Frm} {H H' : Heap}, (opsV P ops l).run call T H = some (T', H') → VF H H' fun _ => True
  | [], T, T', H, H', h => by simp only [opsV, Option.some.injEq, Prod.mk.injEq] at h; obtain ⟨_, rfl⟩ := h; exact .refl
  | o :: r, T, T', H, H', h => by
    simp only [opsV, stepV] at h
    split at h
    · split at h
      · rename_i v H1 hop
        rw [forceV_eq] at h
        split at h
        · exact (op_vf hc hop).trans (ops_vf hc h)
        · cases h
      · cases h
    · split at h
      · exact ops_vf hc h
      · cases h

theorem VF.quiet {H H' : Heap} (h : VF { H with floor := H.next } H' fun _ => True) : VF H { H' with floor := H.floor } fun _ => False where
  next := h.next
  floor := rfl
  same b hb _ := h.low b hb hb
  low b hb _ := h.low b hb hb
  alive := h.alive
  wrk := h.wrk

theorem opsD_vf {call : CallFn} (hc : CallVF call) {ops : List Oper} {bs : List Nat} : ∀ {l : List Oper} {i : Nat} {T T' : Frm} {H H' : Heap} {fs fs' : List Fp},
    (opsD P ops bs l i).run call T H fs = some (T', H', fs') → VF H H' fun _ => True
  | [], i, T, T', H, H', fs, fs', h => by simp only [opsD, Option.some.injEq, Prod.mk.injEq] at h; obtain ⟨_, rfl, _⟩ := h; exact .refl
  | o :: r, i, T, T', H, H', fs, fs', h => by
    simp only [opsD, stepD] at h
    split at h
    · generalize quietB bs ops.length i (fpOf T o) = q at h
      cases q with
      | false =>
        simp only [dropF, liftF] at h
        split at h
        · rename_i v H1 hop
          rw [forceV_eq] at h
          split at h
          · exact (op_vf hc hop).trans (opsD_vf hc h)
          · cases h
        · cases h
      | true =>
        simp only [dropF, liftF] at h
        split at h
        · rename_i v H1 hop
          rw [forceV_eq] at h
          split at h
          · exact ((op_vf hc hop).quiet.mono fun _ _ => trivial).trans (opsD_vf hc h)
          · cases h
        · cases h
    · split at h
      · exact opsD_vf hc h
      · cases h

theorem code_vf {call : CallFn} (hc : CallVF call) (k : Nat) : ∀ (c : Code) {T H ex T' H'}, (denC P c).run call k T H = some (ex, T', H') → VF H H' fun _ => True := by
  intro c
  induction c with
  | skip => intro T H ex T' H' h; simp only [denC, Option.some.injEq, Prod.mk.injEq] at h; obtain ⟨_, _, rfl⟩ := h; exact .refl
  | label l => intro T H ex T' H' h; simp only [denC, Option.some.injEq, Prod.mk.injEq] at h; obtain ⟨_, _, rfl⟩ := h; exact .refl
  | exit id => intro T H ex T' H' h; simp only [denC, Option.some.injEq, Prod.mk.injEq] at h; obtain ⟨_, _, rfl⟩ := h; exact .refl
  | ret => intro T H ex T' H' h; simp only [denC, Option.some.injEq, Prod.mk.injEq] at h; obtain ⟨_, _, rfl⟩ := h; exact .refl
  | seq x y ihx ihy =>
    intro T H ex T' H' h
    simp only [denC, seqV] at h
    split at h
    · rename_i T1 H1 h1
      exact (ihx h1).trans (ihy h)
    · exact ihx h
  | cond x t e iht ihe =>
    intro T H ex T' H' h
    simp only [denC, condV] at h
    split at h
    · split at h
      · exact iht h
      · exact ihe h
    · cases h
  | block id b ih =>
    intro T H ex T' H' h
    simp only [denC, blockV] at h
    split at h
    · rename_i i T1 H1 h1
      split at h <;> (simp only [Option.some.injEq, Prod.mk.injEq] at h; obtain ⟨_, _, rfl⟩ := h; exact ih h1)
    · exact ih h
  | loop b ih =>
    intro T H ex T' H' h
    simp only [denC] at h
    have : ∀ k' {T H}, loopV ((denC P b).run call k) k' T H = some (ex, T', H') → VF H H' fun _ => True := by
      intro k'
      induction k' with
      | zero => intro T H h; simp [loopV] at h
      | succ k' ihk =>
        intro T H h
        simp only [loopV] at h
        split at h
        · rename_i T1 H1 h1
          exact (ih h1).trans (ihk h)
        · exact ih h
    exact this k h
  | scope b ih => intro T H ex T' H' h; simp only [denC] at h; exact ih h
  | region id ops draw =>
    intro T H ex T' H' h
    cases draw with
    | true =>
      simp only [denC] at h
      obtain ⟨_, h2⟩ := asCode_some h
      unfold regionD at h2
      split at h2
      · split at h2
        · rename_i T1 H1 fs h1
          split at h2
          · simp only [Option.some.injEq, Prod.mk.injEq] at h2
            obtain ⟨rfl, rfl⟩ := h2
            exact opsD_vf hc h1
          · cases h2
        · cases h2
      · cases h2
    | false =>
      simp only [denC] at h
      obtain ⟨_, h2⟩ := asCode_some h
      exact ops_vf hc h2
  | goto l => intro T H ex T' H' h; simp [denC] at h
  | rangeFunc f ps x y => intro T H ex T' H' h; simp [denC] at h
  | refuse why => intro T H ex T' H' h; simp [denC] at h

theorem step_vf (k : Nat) {call : CallFn} (ih : CallVF call) : CallVF (stepC P call k) := by
  intro f args H v H' h
  simp only [stepC, denF] at h
  split at h
  · split at h
    · simp only at h
      split at h
      · unfold retV at h
        split at h
        · cases h
        · rename_i ex T H2 _ hrun
          have := code_vf ih k _ hrun
          split at h
          · simp only [Option.some.injEq, Prod.mk.injEq] at h; obtain ⟨_, rfl⟩ := h; exact this
          · simp only [Option.some.injEq, Prod.mk.injEq] at h; obtain ⟨_, rfl⟩ := h; exact this
          · cases h
        · cases h
      · cases h
    · simp at h
  · simp at h

theorem callV_vf (k : Nat) : ∀ n, CallVF (callV P k n)
  | 0 => fun h => by simp [callV] at h
  | n + 1 => step_vf k (callV_vf k n)
end Go.Vm
