/- A verified interpreter: its operations are the machine's (seventh part: append, copy, conversions, maps, builtins). -/
import Derived.Test.YtdjippdfohlpkaaVmH
namespace Go.Vm
variable {P : Program}

theorem srcCells_zero {H : Heap} {size k : Nat} {x : Value} {new : List Value} (h : srcCells H size x = some (k, new)) : new.length = k * size ∨ ∃ s : ByteArray, x = .string s ∧ new.length = k := by
  unfold srcCells at h
  split at h
  · obtain ⟨cs, hc, he⟩ := Option.map_eq_some_iff.1 h
    simp only [Prod.mk.injEq] at he
    obtain ⟨rfl, rfl⟩ := he
    obtain ⟨_, all, lo, ro, hg, hle, rfl⟩ := cellsAt_some hc
    left
    simp; omega
  · simp only [Option.some.injEq, Prod.mk.injEq] at h
    obtain ⟨rfl, rfl⟩ := h
    left; simp
  · simp only [Option.some.injEq, Prod.mk.injEq] at h
    obtain ⟨rfl, rfl⟩ := h
    right
    exact ⟨_, rfl, by simp [bytesCells]⟩
  · cases h

theorem srcCells_nil {H : Heap} {size k : Nat} {x : Value} {new : List Value} (h : srcCells H size x = some (k, new)) (hk : k = 0) : new = [] := by
  refine List.eq_nil_of_length_eq_zero ?_
  rcases srcCells_zero h with h | ⟨_, _, h⟩
  · rw [hk, Nat.zero_mul] at h; exact h
  · rw [h, hk]

theorem bind_und {ts : Array TypeId} {n : Nat} {d : TypeDesc} (h : (ts[n]?).bind P.underlying = some d) : ∃ t, ts[n]? = some t ∧ P.underlying t = some d := by
  cases ht : ts[n]? with
  | none => simp [ht] at h
  | some t => exact ⟨t, rfl, by simpa [ht] using h⟩

theorem two_types {ts : Array TypeId} {t u : TypeId} (h0 : ts[0]? = some t) (h1 : ts[1]? = some u) : ∃ rest, ts = ⟨t :: u :: rest⟩ := by
  obtain ⟨l⟩ := ts
  cases l with
  | nil => simp at h0
  | cons a r => cases r with
    | nil => simp at h1
    | cons b r => simp at h0 h1; subst h0; subst h1; exact ⟨r, rfl⟩

section
variable {dst : Option Tmp} {type : TypeId} {pos : String} {after : Array Edge} {guard : Option (Nat × Bool)} {T : Frm} {H H' : Heap} {v : Value}

theorem s_append {xo yo : Operand} {argTypes : Array TypeId} {u u2 : Value} (hx : evO T xo = some u) (hy : evO T yo = some u2) (h : appendV P H argTypes u u2 = some (v, H')) :
    OpS P ⟨dst, .call ⟨.builtin .append, #[xo, yo], argTypes⟩, type, pos, after, guard⟩ T H v H' := by
  unfold appendV at h
  split at h
  · rename_i e xt hu0 hu1
    obtain ⟨t0, ht0, hu0⟩ := bind_und hu0
    obtain ⟨t1, ht1, hu1⟩ := bind_und hu1
    obtain ⟨rest, rfl⟩ := two_types ht0 ht1
    split at h
    · cases h
    · rename_i hxt
      have hxt : ∀ k, xt ≠ .int k := fun k hk => hxt k hk
      split at h
      · rename_i i base n cap hi
        split at h
        · rename_i k new hsrc
          have hWr : ∀ b, Wrs T ⟨dst, .call ⟨.builtin .append, #[xo, yo], ⟨t0 :: t1 :: rest⟩⟩, type, pos, after, guard⟩ b ↔ b ∈ blkOf (.slice base n cap) := fun b => by
            simp [Wrs, fpOf, blkO, hx]
          have hTo : ∀ b, Touch T ⟨dst, .call ⟨.builtin .append, #[xo, yo], ⟨t0 :: t1 :: rest⟩⟩, type, pos, after, guard⟩ b ↔ (b ∈ blkOf u2 ∨ b ∈ blkOf (.slice base n cap)) := fun b => by
            simp [Touch, fpOf, blkO, hx, hy]
          intro σ a w hfr hlt hok
          have hrx := evO_sound hfr hx
          have hry := evO_sound hfr hy
          have hokW : ∀ b x j, Wrs T ⟨dst, .call ⟨.builtin .append, #[xo, yo], ⟨t0 :: t1 :: rest⟩⟩, type, pos, after, guard⟩ b → σ b = some x → H.get b = some j → BlkOK σ w x j :=
            fun b x j hb => hok b x j ((hTo b).2 (.inr ((hWr b).1 hb)))
          obtain ⟨new', hnew, hlen, hfc⟩ := srcCells_sound hsrc hry (fun b y j hb => hok b y j ((hTo b).2 (.inl hb)))
          have exec : ∀ x, a.eval xo = x → ∀ r, (Builtin.append_ ⟨t0 :: t1 :: rest⟩ type #[x, a.eval yo]).run P w = r →
              (execOp a.eval ⟨dst, .call ⟨.builtin .append, #[xo, yo], ⟨t0 :: t1 :: rest⟩⟩, type, pos, after, guard⟩).run P w = r.andThen fun v w => .ok (.value v) w := by
            intro x hx r hr
            subst hx
            simp [execOp, resolve, invoke, builtin, hr]
          split at h
          · rename_i hroom
            split at h
            · rename_i ad
              obtain ⟨b, off, r, d, s, rfl, hσ, ex⟩ := hrx.slice_inv
              have hrun := app_room (P := P) w (ty := type) hu0 hu1 hxt hi (hlen w) (hfc w rfl).1 (a := ⟨r, d + off, none⟩) (n := n) (c := cap + s) (by omega) (rest := rest)
              split at h
              · rename_i hk0
                simp only [Option.some.injEq, Prod.mk.injEq] at h
                obtain ⟨rfl, rfl⟩ := h
                have hnil : new' = [] := by
                  have hl := hnew.len
                  refine List.eq_nil_of_length_eq_zero ?_
                  rw [← hl, srcCells_nil hsrc (by first | assumption | rfl)]
                  rfl
                subst hnil
                refine ⟨.value (.slice (some ⟨r, d + off, none⟩) n (cap + s)), .slice (some ⟨r, d + off, none⟩) n (cap + s), w, σ, ?_, rfl, .slice hσ, .idl hlt hokW⟩
                rw [exec _ ex _ hrun]
                subst hk0
                simp [storeCells]
              · cases hp : putCells H ⟨b, off + n * i.size, none⟩ new with
                | none => simp [hp] at h
                | some H2 =>
                  simp only [hp, Option.map_some, Option.some.injEq, Prod.mk.injEq] at h
                  obtain ⟨rfl, rfl⟩ := h
                  obtain ⟨w', hst, hL⟩ := putCells_sound (P := P) hp hσ hlt hokW ((hWr b).2 (by simp [blkOf])) (fun b' hb' => by simpa [blkOf] using (hWr b').1 hb') hnew
                  refine ⟨.value (.slice (some ⟨r, d + off, none⟩) (n + k) (cap + s)), .slice (some ⟨r, d + off, none⟩) (n + k) (cap + s), w', σ, ?_, rfl, .slice hσ, hL⟩
                  rw [exec _ ex _ hrun]
                  simp only at hst
                  rw [add_none, Nat.add_assoc, hst]
                  rfl
            · split at h
              · rename_i hk0
                simp only [Option.some.injEq, Prod.mk.injEq] at h
                obtain ⟨rfl, rfl⟩ := h
                subst hk0
                have ex := hrx.plain_eq rfl
                have hnil : new' = [] := by
                  have hl := hnew.len
                  refine List.eq_nil_of_length_eq_zero ?_
                  rw [← hl, srcCells_nil hsrc (by first | assumption | rfl)]
                  rfl
                subst hnil
                have hrun := app_room0 (P := P) w (ty := type) hu0 hu1 hxt hi (hlen w) (hfc w rfl).1 (n := n) (c := cap) (by omega) (rest := rest)
                refine ⟨.value (.slice none n cap), .slice none n cap, w, σ, ?_, rfl, .plain rfl, .idl hlt hokW⟩
                rw [exec _ ex _ hrun]
                rfl
              · cases h
          · rename_i hroom
            split at h
            · rename_i hc
              obtain ⟨hb, hr, hpos, hzs⟩ := hc
              obtain ⟨z, hz, hzc⟩ := Option.map_eq_some_iff.1 hzs
              obtain ⟨hz', hf⟩ := zeroT_info hi hz
              split at h
              · split at h
                · rename_i hn0
                  rw [allocK_eq] at h
                  simp only [Option.some.injEq, Prod.mk.injEq] at h
                  have hv1 := h.1
                  have hv2 := h.2
                  clear h
                  subst hv1
                  subst hv2
                  subst hn0
                  have ex := hrx.plain_eq rfl
                  have hrun := app_grow (P := P) w (ty := type) hu0 hu1 hxt hi hz' (hlen w) (fun w' hw => (hfc w' hw).1) (b := none) (n := 0) (c := cap) (old := []) (by simp [Builtin.firstCells]) (by omega) hb hr (rest := rest)
                  have hge := grownCap_ge w (0 + k) cap e
                  simp only [Nat.zero_add, List.nil_append] at hrun hge
                  refine ⟨.value (.slice (some ⟨w.heap.size, 0 + 0, none⟩) k (k + (grownCap w k cap e - k))), .slice (some ⟨w.heap.size, 0 + 0, none⟩) k (k + (grownCap w k cap e - k)), w.drew.alloc (.cells (new'.toArray ++ Builtin.zeroCells z.cells (grownCap w k cap e - k)) e), upS σ H.next (w.heap.size, 0, grownCap w k cap e - k), ?_, rfl, .slice (upS_same _ _ _), ?_⟩
                  · rw [exec _ ex _ hrun]
                    rw [show k + (grownCap w k cap e - k) = grownCap w k cap e by omega]
                    rfl
                  · refine .newBlk hlt rfl rfl rfl rfl hokW ?_
                    refine .newCells (fr := (0, 0)) (heap_push_new _ _) (by simp) ⟨new', _, by simp; rfl, hnew.mono (upS_mono hlt.next), fun z' hz2 => ?_⟩ (.inl rfl)
                    simp only [Option.some.injEq] at hz2
                    subst hz2
                    rw [size_zero, hzc]
                    exact Nat.le_refl _
                · cases h
              · rename_i ad
                obtain ⟨b, off, r, d, s, rfl, hσ, ex⟩ := hrx.slice_inv
                have hbW := (hWr b).2 (by simp [blkOf])
                have hb1 : b < H.next := (hlt b _ hσ).1
                have hrl : r < w.heap.size := (hlt b _ hσ).2
                split at h
                · rename_i cs ro hsp hg
                  split at h
                  · rename_i hoff
                    rw [allocK_eq] at h
                    simp only [Option.some.injEq, Prod.mk.injEq] at h
                    obtain ⟨rfl, rfl⟩ := h
                    obtain ⟨hs0, c, t, fr, hh, hcl, hv, -, -⟩ := hokW b _ _ hbW hσ hg
                    have hs0 := hs0 rfl
                    simp only at hs0 hh hcl hv
                    subst hs0
                    obtain ⟨old, hold, holdl, hcell⟩ := cellsAt_sound (σ := σ) (H := H) (w := w) (a := ⟨b, off, none⟩) (n := n * i.size) (cs := (cs.drop off).take (n * i.size)) (by simp [cellsAt, hg, hoff]) hσ
                      (fun j hj => hokW b _ j hbW hσ hj)
                    have hrun := app_grow (P := P) w (ty := type) hu0 hu1 hxt hi hz' (hlen w) (fun w' hw => (hfc w' hw).1) (b := some ⟨r, d + off, none⟩) (n := n) (c := cap) (old := old)
                      (run_firstCells_some (P := P) w.drew i.size n _ n cap old holdl (by simpa using hcell)) (by omega) hb hr (rest := rest)
                    have hge := grownCap_ge w (n + k) cap e
                    refine ⟨.value (.slice (some ⟨w.heap.size, 0 + 0, none⟩) (n + k) (n + k + (grownCap w (n + k) cap e - (n + k)))), .slice (some ⟨w.heap.size, 0 + 0, none⟩) (n + k) (n + k + (grownCap w (n + k) cap e - (n + k))), w.drew.alloc (.cells ((old ++ new').toArray ++ Builtin.zeroCells z.cells (grownCap w (n + k) cap e - (n + k))) e), upS σ H.next (w.heap.size, 0, grownCap w (n + k) cap e - (n + k)), ?_, rfl, .slice (upS_same _ _ _), ?_⟩
                    · rw [exec _ ex _ hrun]
                      rw [show n + k + (grownCap w (n + k) cap e - (n + k)) = grownCap w (n + k) cap e by omega]
                      rfl
                    · refine .newBlk hlt rfl rfl rfl rfl hokW ?_
                      refine .newCells (fr := (0, 0)) (heap_push_new _ _) (by simp) ⟨old ++ new', _, by simp; rfl, (hold.append hnew).mono (upS_mono hlt.next), fun z' hz2 => ?_⟩ (.inl rfl)
                      simp only [Option.some.injEq] at hz2
                      subst hz2
                      rw [size_zero, hzc]
                      exact Nat.le_refl _
                  · cases h
                · rename_i cs z' hsp hg
                  split at h
                  · rename_i hoff
                    obtain ⟨hz0, hoff, hcap, hfl, hnone⟩ := hoff
                    simp only at hoff hcap hfl
                    subst hz0
                    rw [allocK_eq] at h
                    simp only [Option.some.injEq, Prod.mk.injEq] at h
                    obtain ⟨rfl, rfl⟩ := h
                    obtain ⟨-, c, t, fr, hh, hcl, hv, hfr', hsz⟩ := hokW b _ _ hbW hσ hg
                    have hsz := hsz _ rfl
                    simp only at hh hcl hv hsz
                    have hwr : WR H b := by simp [WR, hg]
                    obtain ⟨old, hold, holdl, hcell⟩ := cellsAt_sound (σ := σ) (H := H) (w := w) (a := ⟨b, off, none⟩) (n := n * i.size) (cs := (cs.drop off).take (n * i.size)) (by simp [cellsAt, hg, hoff]) hσ
                      (fun j hj => hokW b _ j hbW hσ hj)
                    have holdn : old.length = n * i.size := holdl
                    by_cases hreal : n + k ≤ cap + s
                    · -- in place
                      have hrun := app_room (P := P) w (ty := type) hu0 hu1 hxt hi (hlen w) (hfc w rfl).1 (a := ⟨r, d + off, none⟩) (n := n) (c := cap + s) hreal (rest := rest)
                      have hnl := hnew.len
                      have hbound : d + off + n * i.size + new.length ≤ c.size := by
                        have hnk : new.length ≤ k * i.size := by
                          rcases srcCells_zero hsrc with h | ⟨_, _, h⟩
                          · omega
                          · rw [h]; exact Nat.le_mul_of_pos_right _ hpos
                        have h1 := Nat.mul_le_mul_right i.size hreal
                        rw [Nat.add_mul, Nat.add_mul] at h1
                        omega
                      have hone : ∀ v ∈ new', v.oneCell' = true := by
                        intro v hv'
                        obtain ⟨j, hj⟩ := List.mem_iff_getElem?.1 hv'
                        have hj2 : j < new.length := by rw [hnl]; exact (List.getElem?_eq_some_iff.1 hj).1
                        rw [(hnew.at_ j new[j] v (by simp [hj2]) hj).oneCell]
                        exact List.all_eq_true.1 hnone _ (List.getElem_mem hj2)
                      have hst := run_storeCells_fr (P := P) r (d + off + n * i.size) t fr new' 0 c w hh (fun j h0 hj => by have := hfr' rfl; omega) (by omega) hone
                      rw [show d + off + n * i.size + 0 = d + off + n * i.size from rfl] at hst
                      have hsp : (List.take (d + off + n * i.size) c.toList ++ new' ++ List.drop (d + off + n * i.size + new'.length) c.toList) = splice c.toList (d + off + n * i.size) new' := rfl
                      rw [hsp] at hst
                      have hset := setRow_heap w r c (splice c.toList (d + off + n * i.size) new').toArray t fr hh
                      refine ⟨.value (.slice (some ⟨r, d + off + 0, none⟩) (n + k) (n + k + (cap + s - (n + k)))), .slice (some ⟨r, d + off + 0, none⟩) (n + k) (n + k + (cap + s - (n + k))), w.setRow r (splice c.toList (d + off + n * i.size) new').toArray, upS σ H.next (r, d + off, cap + s - (n + k)), ?_, rfl, .slice (upS_same _ _ _), ?_⟩
                      · rw [exec _ ex _ hrun, add_none, hst, show n + k + (cap + s - (n + k)) = cap + s by omega]
                        rfl
                      · refine .inPlace hlt hσ (by simp) (fun r' hr' => setRow_other w r r' _ hr') rfl rfl rfl hbW (fun b' hb' => by simpa [blkOf] using (hWr b').1 hb') hfl hwr ?_
                        have hcl' : d + off + n * i.size + new'.length ≤ c.toList.length := by simp; omega
                        refine ⟨by simp, _, t, fr, hset, ?_, fun j u hu => ?_, fun _ => by simp; rw [splice_length hcl']; simpa using hfr' rfl, fun z' hz2 => ?_⟩
                        · simp only [List.length_append, List.length_take, List.length_drop, List.size_toArray]
                          rw [splice_length hcl']
                          simp; omega
                        · simp only [List.getElem?_toArray]
                          rw [splice_get hcl']
                          have hlen1 : ((cs.drop off).take (n * i.size)).length = n * i.size := by simp; omega
                          by_cases hj : j < n * i.size
                          · rw [List.getElem?_append_left (by omega), List.getElem?_take, if_pos hj, List.getElem?_drop] at hu
                            rw [if_neg (by omega)]
                            obtain ⟨v', h1, h2⟩ := hv _ _ hu
                            refine ⟨v', ?_, h2.mono (upS_mono hlt.next)⟩
                            rw [Array.getElem?_toList, ← h1]
                            congr 1
                            omega
                          · rw [List.getElem?_append_right (by omega), hlen1] at hu
                            have hj2 : j - n * i.size < new'.length := by rw [← hnl]; exact (List.getElem?_eq_some_iff.1 hu).1
                            rw [if_pos (by omega)]
                            refine ⟨new'[j - n * i.size], ?_, (hnew.at_ _ u _ hu (by simp [hj2])).mono (upS_mono hlt.next)⟩
                            rw [show d + off + j - (d + off + n * i.size) = j - n * i.size by omega]
                            simp [hj2]
                        · simp only [Option.some.injEq] at hz2
                          subst hz2
                          have h1 := Nat.mul_le_mul_right i.size hreal
                          rw [Nat.add_mul] at h1
                          have h2 : (n + k) * i.size + (cap + s - (n + k)) * i.size = (cap + s) * i.size := by rw [← Nat.add_mul]; congr 1; omega
                          have h3 : (cap + s) * i.size = cap * i.size + s * i.size := Nat.add_mul _ _ _
                          have hnk : new.length ≤ k * i.size := by
                            rcases srcCells_zero hsrc with h | ⟨_, _, h⟩
                            · omega
                            · rw [h]; exact Nat.le_mul_of_pos_right _ hpos
                          simp only [List.length_append, List.length_take, List.length_drop, List.size_toArray]
                          rw [splice_length hcl']
                          have h4 : (n + k) * i.size = n * i.size + k * i.size := Nat.add_mul _ _ _
                          simp only [Array.length_toList]
                          have h5 : min (n * i.size) (cs.length - off) = n * i.size := by omega
                          rw [h5]
                          omega
                    · have hrun := app_grow (P := P) w (ty := type) hu0 hu1 hxt hi hz' (hlen w) (fun w' hw => (hfc w' hw).1) (b := some ⟨r, d + off, none⟩) (n := n) (c := cap + s) (old := old)
                        (run_firstCells_some (P := P) w.drew i.size n _ n (cap + s) old holdl (by simpa using hcell)) (by omega) hb hr (rest := rest)
                      have hge := grownCap_ge w (n + k) (cap + s) e
                      refine ⟨.value (.slice (some ⟨w.heap.size, 0 + 0, none⟩) (n + k) (n + k + (grownCap w (n + k) (cap + s) e - (n + k)))), .slice (some ⟨w.heap.size, 0 + 0, none⟩) (n + k) (n + k + (grownCap w (n + k) (cap + s) e - (n + k))), w.drew.alloc (.cells ((old ++ new').toArray ++ Builtin.zeroCells z.cells (grownCap w (n + k) (cap + s) e - (n + k))) e), upS σ H.next (w.heap.size, 0, grownCap w (n + k) (cap + s) e - (n + k)), ?_, rfl, .slice (upS_same _ _ _), ?_⟩
                      · rw [exec _ ex _ hrun]
                        rw [show n + k + (grownCap w (n + k) (cap + s) e - (n + k)) = grownCap w (n + k) (cap + s) e by omega]
                        rfl
                      · refine .grown hlt rfl rfl rfl rfl hb1 hbW hfl hwr hokW ?_
                        refine .newCells (fr := (0, 0)) (heap_push_new _ _) (by simp) ⟨old ++ new', _, by simp; rfl, (hold.append hnew).mono (upS_mono hlt.next), fun z' hz2 => ?_⟩ (.inl rfl)
                        simp only [Option.some.injEq] at hz2
                        subst hz2
                        rw [size_zero, hzc]
                        exact Nat.le_refl _
                  · cases h
                · cases h
            · cases h
        · cases h
      · cases h
  · cases h
end
end Go.Vm
