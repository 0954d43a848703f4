/- A verified interpreter: its operations are the machine's (third part: new blocks, stores, places). -/
import Derived.Test.YtdjippdfohlpkaaVmD
namespace Go.Vm
variable {P : Program}

def upS (σ : Sg) (b : Nat) (x : Nat × Nat × Nat) : Sg := fun i => if i = b then some x else σ i
theorem upS_same (σ : Sg) (b : Nat) (x : Nat × Nat × Nat) : upS σ b x b = some x := by simp [upS]
theorem upS_ne (σ : Sg) {b i : Nat} (x : Nat × Nat × Nat) (h : i ≠ b) : upS σ b x i = σ i := by simp [upS, h]
theorem upS_mono {σ : Sg} {b : Nat} {x : Nat × Nat × Nat} (h : σ b = none) : ∀ i y, σ i = some y → upS σ b x i = some y := fun i y hi => by
  by_cases e : i = b
  · subst e; rw [h] at hi; cases hi
  · rw [upS_ne σ x e, hi]
theorem Lt.next {σ : Sg} {H : Heap} {w : World} (h : Lt σ H w) : σ H.next = none := by
  cases hb : σ H.next with
  | none => rfl
  | some x => have := (h _ x hb).1; omega

theorem Heap.get_new (H : Heap) (k : Blk) (b : Nat) : (H.new k).get b = if b = H.next then some k else H.get b := by simp [Heap.get, Heap.new, PT.get_set]
theorem Heap.get_put (H : Heap) (b : Nat) (k : Option Blk) (i : Nat) : (H.put b k).get i = if i = b then k else H.get i := by simp [Heap.get, Heap.put, PT.get_set]

theorem heap_push_old (w : World) (o : Obj) (k : Nat) (h : k < w.heap.size) : (w.heap.push o)[k]? = w.heap[k]? := by
  rw [Array.getElem?_push, if_neg (by omega)]
theorem heap_push_new (w : World) (o : Obj) : (w.heap.push o)[w.heap.size]? = some o := by simp

/-- A new block. -/
theorem LRes.newBlk {σ : Sg} {H : Heap} {w w' : World} {Wr : Nat → Prop} {k : Blk} {s : Nat} {o : Obj} (hlt : Lt σ H w) (hh : w'.heap = w.heap.push o)
    (hos : w'.os = w.os) (htape : w'.tape = w.tape) (hout : w'.output = w.output)
    (hWr : ∀ b x j, Wr b → σ b = some x → H.get b = some j → BlkOK σ w x j) (hk : BlkOK (upS σ H.next (w.heap.size, 0, s)) w' (w.heap.size, 0, s) k) :
    LRes σ H w (upS σ H.next (w.heap.size, 0, s)) (H.new k) w' Wr where
  next := by simp [Heap.new]
  next1 := by simp [Heap.new]
  floor := rfl
  sub b hb := upS_ne σ _ (by omega)
  lt b x hx := by
    by_cases e : b = H.next
    · subst e
      rw [upS_same] at hx
      simp only [Option.some.injEq] at hx; subst hx
      exact ⟨by simp [Heap.new], by simp [hh]⟩
    · rw [upS_ne σ _ e] at hx
      have := hlt b x hx
      exact ⟨by simp [Heap.new]; omega, by simp [hh]; omega⟩
  same b hb _ := by rw [Heap.get_new, if_neg (by omega)]
  wr b hb _ := .inl (by rw [Heap.get_new, if_neg (by omega)])
  ok b x j hb hx hj := by
    by_cases e : b = H.next
    · subst e
      rw [upS_same] at hx
      simp only [Option.some.injEq] at hx; subst hx
      rw [Heap.get_new, if_pos rfl] at hj
      simp only [Option.some.injEq] at hj; subst hj
      exact hk
    · rw [upS_ne σ _ e] at hx
      rw [Heap.get_new, if_neg e] at hj
      have hx2 := hlt b x hx
      refine (hWr b x j (hb.resolve_right (by omega)) hx hj).mono (upS_mono hlt.next) ?_
      rw [hh, heap_push_old _ _ _ hx2.2]
  newr b x hb hx := by
    by_cases e : b = H.next
    · subst e
      rw [upS_same] at hx
      simp only [Option.some.injEq] at hx; subst hx
      exact .inl (Nat.le_refl _)
    · rw [upS_ne σ _ e] at hx
      have := (hlt b x hx).1; omega
  os := hos
  tape := htape
  output := hout
  size := by simp [hh]
  frame r hr := .inl (by rw [hh, heap_push_old _ _ _ hr])

/-- The cells of a new block. -/
theorem BlkOK.newCells {σ : Sg} {w : World} {r : Nat} {s : Nat} {c : Array Value} {t : TypeId} {fr : Nat × Nat} {vs : List Value} {lo : Option Nat} {ro : Bool} (hh : w.heap[r]? = some (.cells c t fr))
    (hs : lo = none → s = 0) (hl : ∃ c' rest, c.toList = c' ++ rest ∧ LR σ vs c' ∧ (∀ z, lo = some z → s * z ≤ rest.length)) (hfr : fr.1 = fr.2 ∨ c.size ≤ fr.1) : BlkOK σ w (r, 0, s) (.cells vs lo ro) := by
  obtain ⟨c', rest, hc, hl, hz⟩ := hl
  have hsz : c.size = vs.length + rest.length := by rw [← Array.length_toList, hc, List.length_append, hl.len]
  refine ⟨hs, c, t, fr, hh, by simp only; omega, fun i v hv => ?_, fun _ => hfr, fun z hz' => by have := hz z hz'; simp only; omega⟩
  have hi : i < c'.length := by rw [← hl.len]; exact (List.getElem?_eq_some_iff.1 hv).1
  refine ⟨c'[i], ?_, hl.at_ i v _ hv (by simp [hi])⟩
  rw [← Array.getElem?_toList, hc, Nat.zero_add, List.getElem?_append_left hi]
  simp [hi]

theorem all_plain_cells {z : Value} (h : flat z = true) : z.cells.toList.all plain = true := by
  cases z <;> first | exact h | (simp [Value.cells]; exact h)

theorem plain_oneCell {v : Value} (h : plain v = true) : oneCell v = true := by cases v <;> first | rfl | (simp [plain] at h)

section
variable {dst : Option Tmp} {type : TypeId} {pos : String} {after : Array Edge} {guard : Option (Nat × Bool)} {T : Frm} {H H' : Heap} {v : Value}

theorem s_alloc {e : TypeId} (h : oAlloc P e H = some (v, H')) : OpS P ⟨dst, .alloc e, type, pos, after, guard⟩ T H v H' := by
  unfold oAlloc at h
  split at h
  · rename_i z hz
    rw [allocK_eq] at h
    simp only [Option.some.injEq, Prod.mk.injEq] at h
    obtain ⟨rfl, rfl⟩ := h
    intro σ a w hfr hlt hok
    obtain ⟨hr, hf⟩ := zeroT_run hz w
    refine ⟨_, .pointer (some ⟨w.heap.size, 0 + 0, none⟩), w.alloc (.cells z.cells e), upS σ H.next (w.heap.size, 0, 0), by simp [execOp, Instr.alloc, hr, newVar, newRow]; rfl, rfl, .ptr (upS_same _ _ _), ?_⟩
    refine .newBlk hlt rfl rfl rfl rfl (fun b x j hb => by simp [Wrs, fpOf] at hb) ?_
    exact .newCells (c := z.cells) (t := e) (fr := (0, 0)) (heap_push_new _ _) (fun _ => rfl) ⟨z.cells.toList, [], by simp, LR.of_plain (all_plain_cells hf), by simp⟩ (.inl rfl)
  · cases h

theorem s_box {e : TypeId} {x : Operand} (h : oBox x T H = some (v, H')) : OpS P ⟨dst, .box e x, type, pos, after, guard⟩ T H v H' := by
  unfold oBox at h
  split at h
  · rename_i u hx
    split at h
    · rw [allocK_eq] at h
      simp only [Option.some.injEq, Prod.mk.injEq] at h
      obtain ⟨rfl, rfl⟩ := h
      intro σ a w hfr hlt hok
      refine ⟨_, .pointer (some ⟨w.heap.size, 0 + 0, none⟩), w.alloc (.cells (a.eval x).cells e), upS σ H.next (w.heap.size, 0, 0), by simp [execOp, Instr.box, newVar, newRow]; rfl, rfl, .ptr (upS_same _ _ _), ?_⟩
      refine .newBlk hlt rfl rfl rfl rfl (fun b x j hb => by simp [Wrs, fpOf] at hb) ?_
      exact .newCells (c := (a.eval x).cells) (t := e) (fr := (0, 0)) (heap_push_new _ _) (fun _ => rfl) ⟨_, [], by simp, ((evO_sound hfr hx).cells.mono (upS_mono hlt.next)), by simp⟩ (.inl rfl)
    · cases h
  · cases h

theorem s_makeMap {t : TypeId} : OpS P ⟨dst, .makeMap t none, type, pos, after, guard⟩ T H (.map (some H.next)) (H.new (.map [])) := by
  intro σ a w hfr hlt hok
  refine ⟨_, .map (some w.heap.size), w.alloc (.map #[] 0), upS σ H.next (w.heap.size, 0, 0), by simp [execOp, Instr.makeMap]; rfl, rfl, .map (upS_same _ _ _), ?_⟩
  refine .newBlk hlt rfl rfl rfl rfl (fun b x j hb => by simp [Wrs, fpOf] at hb) ?_
  exact ⟨rfl, #[], 0, heap_push_new _ _, rfl, fun i e e' h _ => by simp at h⟩
end

theorem putCells_some {H H' : Heap} {a : Addr} {vs : List Value} (h : putCells H a vs = some H') :
    a.spot = none ∧ ∃ cs lo, H.get a.block = some (.cells cs lo false) ∧ a.off + vs.length ≤ cs.length ∧ H.floor ≤ a.block ∧ vs.all oneCell = true ∧
      H' = H.put a.block (some (.cells (splice cs a.off vs) lo false)) := by
  unfold putCells at h
  split at h
  · rename_i cs lo hs hg
    split at h
    · split at h
      · split at h
        · rename_i h1 h2 h3
          rw [forceL_eq] at h
          simp only [Option.some.injEq] at h
          exact ⟨hs, cs, lo, hg, h1, h2, h3, h.symm⟩
        · cases h
      · cases h
    · cases h
  · cases h

theorem splice_length {cs vs : List Value} {off : Nat} (h : off + vs.length ≤ cs.length) : (splice cs off vs).length = cs.length := by
  simp [splice]; omega
theorem splice_get {cs vs : List Value} {off i : Nat} (h : off + vs.length ≤ cs.length) :
    (splice cs off vs)[i]? = if off ≤ i ∧ i < off + vs.length then vs[i - off]? else cs[i]? := by
  have hm : min off cs.length = off := by omega
  by_cases h1 : i < off
  · rw [if_neg (by omega), splice, List.getElem?_append_left (by simp; omega), List.getElem?_append_left (by simp; omega), List.getElem?_take, if_pos h1]
  · by_cases h2 : i < off + vs.length
    · rw [if_pos (by omega), splice, List.getElem?_append_left (by simp; omega), List.getElem?_append_right (by simp; omega)]
      simp only [List.length_take, hm]
    · rw [if_neg (by omega), splice, List.getElem?_append_right (by simp; omega)]
      simp only [List.length_append, List.length_take, hm, List.getElem?_drop]
      congr 1
      omega

/-- Cells of a block are overwritten. -/
theorem putCells_sound {σ : Sg} {H H' : Heap} {w : World} {a : Addr} {vs vs' : List Value} {Wr : Nat → Prop} (h : putCells H a vs = some H') {r d s : Nat} (hs : σ a.block = some (r, d, s)) (hlt : Lt σ H w)
    (hok : ∀ b x k, Wr b → σ b = some x → H.get b = some k → BlkOK σ w x k) (hW : Wr a.block) (hW1 : ∀ b, Wr b → b = a.block) (hvs : LR σ vs vs') :
    ∃ w', (storeCells ⟨r, d + a.off, none⟩ vs').run P w = .ok () w' ∧ LRes σ H w σ H' w' Wr := by
  obtain ⟨_, cs, lo, hg, hle, hfl, hone, rfl⟩ := putCells_some h
  have hb := hok a.block _ _ hW hs hg
  obtain ⟨he, c, t, fr, hh, hc, hv, hf, hz⟩ := hb
  simp only at hh hc hv hz
  have hvl := hvs.len
  have hone' : ∀ v ∈ vs', v.oneCell' = true := by
    intro v hv'
    obtain ⟨i, hi⟩ := List.mem_iff_getElem?.1 hv'
    have hi2 : i < vs.length := by rw [hvl]; exact (List.getElem?_eq_some_iff.1 hi).1
    have := (hvs.at_ i vs[i] v (by simp [hi2]) hi).oneCell
    rw [this]
    exact List.all_eq_true.1 hone _ (List.getElem_mem hi2)
  have hrun := run_storeCells_fr (P := P) r (d + a.off) t fr vs' 0 c w hh (fun j h0 hj => by have := hf rfl; omega) (by omega) hone'
  refine ⟨_, hrun, ?_⟩
  have hnew := setRow_heap w r c (List.take (d + a.off + 0) c.toList ++ vs' ++ List.drop (d + a.off + 0 + vs'.length) c.toList).toArray t fr hh
  have hsp : (List.take (d + a.off + 0) c.toList ++ vs' ++ List.drop (d + a.off + 0 + vs'.length) c.toList) = splice c.toList (d + a.off) vs' := by simp [splice]
  rw [hsp] at hnew ⊢
  have hlt' := hlt _ _ hs
  exact {
    next := Nat.le_refl _
    next1 := Nat.le_succ _
    floor := rfl
    sub := fun _ _ => rfl
    lt := fun b x hx => by have := hlt b x hx; exact ⟨this.1, by simpa using this.2⟩
    same := fun b _ hn => by
      have e : b ≠ a.block := fun e => hn (e ▸ hW)
      rw [Heap.get_put, if_neg e]
    wr := fun b _ hb => by
      have e := hW1 b hb
      subst e
      refine .inr ⟨hfl, by simp [WR, hg], .inr ?_⟩
      simp [WR, Heap.get_put]
    ok := fun b x k hb hx hk => by
      rcases hb with hb | hb
      · have e := hW1 b hb
        subst e
        rw [hs] at hx
        simp only [Option.some.injEq] at hx; subst hx
        rw [Heap.get_put, if_pos rfl] at hk
        simp only [Option.some.injEq] at hk; subst hk
        refine ⟨he, _, t, fr, hnew, by simp only; rw [splice_length hle]; simp; rw [splice_length (by simp; omega)]; simpa using hc, fun i v hi => ?_, fun _ => by simp; rw [splice_length (by simp; omega)]; simpa using hf rfl, fun z hz' => ?_⟩
        · rw [splice_get hle] at hi
          simp only [List.getElem?_toArray]
          rw [splice_get (by simp; omega)]
          by_cases hin : a.off ≤ i ∧ i < a.off + vs.length
          · rw [if_pos hin] at hi
            rw [if_pos (by omega)]
            have hi2 : i - a.off < vs'.length := by omega
            refine ⟨vs'[i - a.off], ?_, hvs.at_ _ v _ hi (by simp [hi2])⟩
            rw [show d + i - (d + a.off) = i - a.off by omega]
            simp [hi2]
          · rw [if_neg hin] at hi
            rw [if_neg (by omega)]
            obtain ⟨v', h1, h2⟩ := hv i v hi
            exact ⟨v', by simpa using h1, h2⟩
        · have := hz z hz'
          simp only
          rw [splice_length hle]; simp; rw [splice_length (by simp; omega)]; simpa using this
      · have := (hlt b x hx).1; omega
    newr := fun b x hb hx => by have := (hlt b x hx).1; omega
    os := rfl
    tape := rfl
    output := rfl
    size := by simp
    frame := fun r' hr' => by
      by_cases e : r' = r
      · subst e
        exact .inr ⟨a.block, _, hW, hfl, by simp [WR, hg], hs, rfl⟩
      · exact .inl (setRow_other w r r' _ e) }

section
variable {dst : Option Tmp} {type : TypeId} {pos : String} {after : Array Edge} {guard : Option (Nat × Bool)} {T : Frm} {H H' : Heap} {v : Value}

theorem s_store {t : TypeId} {x y : Operand} (h : oStore P t x y T H = some (v, H')) : OpS P ⟨dst, .store t x y, type, pos, after, guard⟩ T H v H' := by
  unfold oStore at h
  split at h
  · rename_i ad u hx hy
    obtain ⟨hx, hsp⟩ := bind_addr hx
    cases hst : storeV P H t ad u with
    | none => simp [hst] at h
    | some H2 =>
      simp only [hst, Option.map_some, Option.some.injEq, Prod.mk.injEq] at h
      obtain ⟨rfl, rfl⟩ := h
      unfold storeV at hst
      split at hst
      · rename_i n hn
        split at hst
        · rename_i hsz
          intro σ a w hfr hlt hok
          obtain ⟨b, off, r, d, s, rfl, hs, e⟩ := (evO_sound hfr hx).ptr_inv
          have hv := evO_sound hfr hy
          have hW : Wrs T ⟨dst, .store t x y, type, pos, after, guard⟩ b := by simp [Wrs, fpOf, blkO, hx, blkOf]
          have hW1 : ∀ b', Wrs T ⟨dst, .store t x y, type, pos, after, guard⟩ b' → b' = b := fun b' h => by simpa [Wrs, fpOf, blkO, hx, blkOf] using h
          obtain ⟨w', hr, hL⟩ := putCells_sound (P := P) (Wr := Wrs T ⟨dst, .store t x y, type, pos, after, guard⟩) hst hs hlt
            (fun b' x' k hb' => hok b' x' k (by simp only [Touch, Wrs] at hb' ⊢; split at hb' <;> simp_all)) hW hW1 hv.cells
          have hsz' : (a.eval y).cells.size = n := by
            have := hv.cells.len
            simp at this; omega
          refine ⟨.skip, undef, w', σ, ?_, rfl, .undef, hL⟩
          simp [execOp, e, Instr.storeAt, Instr.sureAddr, storeVar, sizeT_run hn w, hsz', hr]
        · cases hst
      · cases hst
  · cases h

theorem fieldAt_some {t : TypeId} {i : Nat} {f : Field} (h : fieldAt P t i = some f) : ∃ fs, P.underlying t = some (.struct fs) ∧ fs[i]? = some f := by
  unfold fieldAt at h
  split at h
  · exact ⟨_, by assumption, h⟩
  · cases h

theorem s_fieldAddr {t : TypeId} {x : Operand} {i : Nat} (h : oFieldAddr P t x i T H = some (v, H')) : OpS P ⟨dst, .fieldAddr t x i, type, pos, after, guard⟩ T H v H' := by
  unfold oFieldAddr at h
  split at h
  · rename_i u hx
    obtain ⟨hv, rfl⟩ := keep_some h
    refine .still (fun b h => by simp [Wrs, fpOf] at h) fun σ a w hfr _ _ => ?_
    unfold fieldAddrV at hv
    split at hv
    · rename_i ad f had hf
      obtain ⟨rfl, hsp⟩ := addrOf_some had
      split at hv
      · rename_i m hm
        simp only [Option.some.injEq] at hv
        subst hv
        obtain ⟨b, off, r, d, s, rfl, hs, e⟩ := (evO_sound hfr hx).ptr_inv
        obtain ⟨fs, hu, hfs⟩ := fieldAt_some hf
        refine ⟨.pointer (some ⟨r, d + (off + f.offset), none⟩), ?_, .ptr hs⟩
        have hsz := sizeT_run hm w
        simp [execOp, e, Instr.fieldAt, run_underlying hu, hfs, Instr.sureAddr, fieldPlace, hsz, add_none, Nat.add_assoc]
      · cases hv
    · cases hv
  · cases h

theorem s_indexAddr {t : TypeId} {x y : Operand} (h : oIndexAddr P t x y T H = some (v, H')) : OpS P ⟨dst, .indexAddr t x y, type, pos, after, guard⟩ T H v H' := by
  unfold oIndexAddr at h
  split at h
  · rename_i u u2 hx hy
    obtain ⟨hv, rfl⟩ := keep_some h
    refine .still (fun b h => by simp [Wrs, fpOf] at h) fun σ a w hfr _ _ => ?_
    have hrx := evO_sound hfr hx
    have hry := evO_sound hfr hy
    unfold indexAddrV at hv
    split at hv
    · rename_i len e b off ki i hu
      split at hv
      · rename_i s hs
        split at hv
        · rename_i hi
          simp only [Option.some.injEq] at hv
          subst hv
          obtain ⟨b', off', r, d, sl, heq, hσ, ex⟩ := hrx.ptr_inv
          simp only [Addr.mk.injEq] at heq
          obtain ⟨rfl, rfl, -⟩ := heq
          refine ⟨.pointer (some ⟨r, d + (off + i.toNat * s), none⟩), ?_, .ptr hσ⟩
          simp [execOp, ex, hry.int_inv, Instr.indexAt, asIntOf, run_underlying hu, Instr.sureAddr, hi, sizeT_run hs w, add_none, Nat.add_assoc]
        · cases hv
      · cases hv
    · rename_i e b off len cap ki i hu
      split at hv
      · rename_i s hs
        split at hv
        · rename_i hi
          simp only [Option.some.injEq] at hv
          subst hv
          obtain ⟨b', off', r, d, sl, heq, hσ, ex⟩ := hrx.slice_inv
          simp only [Addr.mk.injEq] at heq
          obtain ⟨rfl, rfl, -⟩ := heq
          refine ⟨.pointer (some ⟨r, d + (off + i.toNat * s), none⟩), ?_, .ptr hσ⟩
          simp [execOp, ex, hry.int_inv, Instr.indexAt, asIntOf, run_underlying hu, hi, sizeT_run hs w, add_none, Nat.add_assoc]
        · cases hv
      · cases hv
    · cases hv
  · cases h

theorem partV_sound {σ : Sg} {t : TypeId} {cs cs' : Array Value} {off : Nat} (h : partV P t cs off = some v) (hl : LR σ cs.toList cs'.toList) (w : World) :
    ∃ v', (part t cs' off).run P w = .ok v' w ∧ VR σ v v' := by
  unfold partV at h
  split at h
  · rename_i n hagg hsz
    simp only [Option.some.injEq] at h
    subst h
    refine ⟨.agg (cs'.extract off (off + n)), by simp [part, isAggT_run hagg w, sizeT_run hsz w], ?_⟩
    have := (hl.drop off).take n
    have e1 : (cs.extract off (off + n)).toList = (cs.toList.drop off).take n := by simp [List.extract]
    have e2 : (cs'.extract off (off + n)).toList = (cs'.toList.drop off).take n := by simp [List.extract]
    rw [← e1, ← e2] at this
    exact .agg (by have := this.len; rwa [Array.length_toList, Array.length_toList] at this) fun i v v' a b => this.at_ i v v' (by rwa [Array.getElem?_toList]) (by rwa [Array.getElem?_toList])
  · rename_i hagg
    have hi : off < cs'.size := by
      have := hl.len
      have := (Array.getElem?_eq_some_iff.1 h).1
      simp at *; omega
    refine ⟨cs'[off], by simp [part, isAggT_run hagg w, hi], hl.at_ off v _ (by simpa using h) (by simp [hi])⟩
  · cases h

theorem s_field {t : TypeId} {x : Operand} {i : Nat} (h : oField P t x i T H = some (v, H')) : OpS P ⟨dst, .field t x i, type, pos, after, guard⟩ T H v H' := by
  unfold oField at h
  split at h
  · rename_i u hx
    obtain ⟨hv, rfl⟩ := keep_some h
    refine .still (fun b h => by simp [Wrs, fpOf] at h) fun σ a w hfr _ _ => ?_
    unfold fieldV at hv
    split at hv
    · rename_i cs f hf
      obtain ⟨cs', e, hl⟩ := (evO_sound hfr hx).agg_inv
      obtain ⟨fs, hu, hfs⟩ := fieldAt_some hf
      obtain ⟨v', hr, hv'⟩ := partV_sound hv hl w
      exact ⟨v', by simp [execOp, e, Instr.field, run_underlying hu, hfs, asAgg, hr], hv'⟩
    · cases hv
  · cases h

theorem s_index {t : TypeId} {x y : Operand} (h : oIndex P t x y T H = some (v, H')) : OpS P ⟨dst, .index t x y, type, pos, after, guard⟩ T H v H' := by
  unfold oIndex at h
  split at h
  · rename_i u u2 hx hy
    obtain ⟨hv, rfl⟩ := keep_some h
    refine .still (fun b h => by simp [Wrs, fpOf] at h) fun σ a w hfr _ _ => ?_
    have hrx := evO_sound hfr hx
    have hry := evO_sound hfr hy
    unfold indexV at hv
    split at hv
    · rename_i len e cs ki i hu
      split at hv
      · rename_i s hs
        split at hv
        · rename_i hi
          obtain ⟨cs', ex, hl⟩ := hrx.agg_inv
          obtain ⟨v', hr, hv'⟩ := partV_sound hv hl w
          exact ⟨v', by simp [execOp, ex, hry.int_inv, Instr.index, asIntOf, run_underlying hu, hi, sizeT_run hs w, hr], hv'⟩
        · cases hv
      · cases hv
    · rename_i s ki i hu
      split at hv
      · rename_i hi
        have ex := hrx.plain_eq rfl
        cases hb : s[i.toNat]? with
        | none => simp [hb] at hv
        | some c =>
          simp only [hb, Option.map_some, Option.some.injEq] at hv
          subst hv
          exact ⟨_, by simp [execOp, ex, hry.int_inv, Instr.index, asIntOf, run_underlying hu, hi, hb], .plain rfl⟩
      · cases hv
    · cases hv
  · cases h
end
end Go.Vm
