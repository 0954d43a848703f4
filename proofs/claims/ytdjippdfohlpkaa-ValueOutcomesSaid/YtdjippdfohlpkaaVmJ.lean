/- A verified interpreter: its operations are the machine's (eighth part: copy, conversions, maps, builtins). -/
import Derived.Test.YtdjippdfohlpkaaVmI
namespace Go.Vm
variable {P : Program}

section
variable {dst : Option Tmp} {type : TypeId} {pos : String} {after : Array Edge} {guard : Option (Nat × Bool)} {T : Frm} {H H' : Heap} {v : Value}

theorem s_copy {xo yo : Operand} {argTypes : Array TypeId} {u u2 : Value} (hx : evO T xo = some u) (hy : evO T yo = some u2) (h : copyV P H argTypes u u2 = some (v, H')) :
    OpS P ⟨dst, .call ⟨.builtin .copy, #[xo, yo], argTypes⟩, type, pos, after, guard⟩ T H v H' := by
  unfold copyV at h
  split at h
  · rename_i e hu0
    obtain ⟨t0, ht0, hu0⟩ := bind_und hu0
    split at h
    · rename_i size base n cd hs
      have hWr : ∀ b, Wrs T ⟨dst, .call ⟨.builtin .copy, #[xo, yo], argTypes⟩, type, pos, after, guard⟩ b ↔ b ∈ blkOf (.slice base n cd) := fun b => by
        simp [Wrs, fpOf, blkO, hx]
      have hTo : ∀ b, Touch T ⟨dst, .call ⟨.builtin .copy, #[xo, yo], argTypes⟩, type, pos, after, guard⟩ b ↔ (b ∈ blkOf u2 ∨ b ∈ blkOf (.slice base n cd)) := fun b => by
        simp [Touch, fpOf, blkO, hx, hy]
      intro σ a w hfr hlt hok
      have hrx := evO_sound hfr hx
      have hry := evO_sound hfr hy
      have hokW : ∀ b x j, Wrs T ⟨dst, .call ⟨.builtin .copy, #[xo, yo], argTypes⟩, type, pos, after, guard⟩ b → σ b = some x → H.get b = some j → BlkOK σ w x j :=
        fun b x j hb => hok b x j ((hTo b).2 (.inr ((hWr b).1 hb)))
      have hsz := fun w => sizeT_run hs w
      have exec : ∀ x y, a.eval xo = x → a.eval yo = y → ∀ r, (Builtin.copy_ argTypes type #[x, y]).run P w = r →
          (execOp a.eval ⟨dst, .call ⟨.builtin .copy, #[xo, yo], argTypes⟩, type, pos, after, guard⟩).run P w = r.andThen fun v w => .ok (.value v) w := by
        intro x y hx hy r hr
        subst hx
        subst hy
        simp [execOp, resolve, invoke, builtin, hr]
      split at h
      · cases h
      · rename_i hbn
        split at h
        · rename_i sa k c
          obtain ⟨b2, off2, r2, d2, s2, rfl, hσ2, ey⟩ := hry.slice_inv
          split at h
          · rename_i m new ad hsrc
            cases hp : putCells H ad (new.take (Nat.min k n * size)) with
            | none => simp [hp] at h
            | some H2 =>
              simp only [hp, Option.map_some, Option.some.injEq, Prod.mk.injEq] at h
              obtain ⟨rfl, rfl⟩ := h
              obtain ⟨b, off, r, d, s, rfl, hσ, ex⟩ := hrx.slice_inv
              obtain ⟨new', hnew, hlen, hfc⟩ := srcCells_sound (P := P) hsrc hry (fun b y j hb => hok b y j ((hTo b).2 (.inl hb)))
              have hm : m = k := by
                unfold srcCells at hsrc
                obtain ⟨cs, hc, he⟩ := Option.map_eq_some_iff.1 hsrc
                simp only [Prod.mk.injEq] at he
                exact he.1.symm
              subst hm
              have hf := (hfc w rfl).2 ⟨_, _, _, rfl⟩ (Nat.min m n) (Nat.min_le_left _ _)
              obtain ⟨w', hst, hL⟩ := putCells_sound (P := P) hp hσ hlt hokW ((hWr b).2 (by simp [blkOf])) (fun b' hb' => by simpa [blkOf] using (hWr b').1 hb') (hnew.take (Nat.min m n * size))
              refine ⟨.value (.int .i64 (Nat.min m n : Nat)), .int .i64 (Nat.min m n : Nat), w', σ, ?_, rfl, .plain rfl, hL⟩
              have hl := hlen w
              rw [exec _ _ ex rfl _ rfl]
              simp only at hst
              simp [Builtin.copy_, ht0, run_underlying hu0, hsz w, hl, hf, hst, goInt]
          · rename_i m hsrc
            simp only [Option.some.injEq, Prod.mk.injEq] at h
            obtain ⟨rfl, rfl⟩ := h
            have hn : n = 0 := by
              simp only [Option.isNone_none, Bool.true_and, Bool.not_eq_true'] at hbn
              simp [beq_dec] at hbn
              omega
            subst hn
            have ex := hrx.plain_eq rfl
            refine ⟨.value (.int .i64 0), .int .i64 0, w, σ, ?_, rfl, .plain rfl, .idl hlt hokW⟩
            rw [exec _ _ ex ey _ rfl]
            simp [Builtin.copy_, ht0, run_underlying hu0, hsz w, Builtin.lenOf, Builtin.firstCells, loadCells, loadCellsFrom, goInt]
          · cases h
        · simp only [Option.some.injEq, Prod.mk.injEq] at h
          obtain ⟨rfl, rfl⟩ := h
          have ey := hry.plain_eq rfl
          refine ⟨.value (.int .i64 0), .int .i64 0, w, σ, ?_, rfl, .plain rfl, .idl hlt hokW⟩
          cases base with
          | none =>
            rw [exec _ _ (hrx.plain_eq rfl) ey _ rfl]
            simp [Builtin.copy_, ht0, run_underlying hu0, hsz w, Builtin.lenOf, Builtin.firstCells, goInt]
          | some ad =>
            obtain ⟨b, off, r, d, s, rfl, hσ, ex⟩ := hrx.slice_inv
            rw [exec _ _ ex ey _ rfl]
            simp [Builtin.copy_, ht0, run_underlying hu0, hsz w, Builtin.lenOf, Builtin.firstCells, storeCells, goInt]
        · cases h
    · cases h
  · cases h

theorem s_len {xo : Operand} {argTypes : Array TypeId} {u : Value} (hx : evO T xo = some u) (h : keep H (lenV P H argTypes u) = some (v, H')) :
    OpS P ⟨dst, .call ⟨.builtin .len, #[xo], argTypes⟩, type, pos, after, guard⟩ T H v H' := by
  obtain ⟨hv, rfl⟩ := keep_some h
  refine .still (fun b h => by simp [Wrs, fpOf] at h) fun σ a w hfr hlt hok => ?_
  have hrx := evO_sound hfr hx
  have exec : ∀ x, a.eval xo = x → ∀ v', (Builtin.len_ argTypes type #[x]).run P w = .ok v' w →
      (execOp a.eval ⟨dst, .call ⟨.builtin .len, #[xo], argTypes⟩, type, pos, after, guard⟩).run P w = .ok (.value v') w := by
    intro x hx v' hr
    subst hx
    simp [execOp, resolve, invoke, builtin, hr]
  unfold lenV at hv
  split at hv <;> first | (cases hv; done) | skip
  · rename_i s hu
    obtain ⟨t, ht, hu⟩ := bind_und hu
    simp only [Option.some.injEq] at hv
    subst hv
    exact ⟨_, exec _ (hrx.plain_eq rfl) _ (by simp [Builtin.len_, ht, run_underlying hu, goInt]), .plain rfl⟩
  · rename_i n e hu
    obtain ⟨t, ht, hu⟩ := bind_und hu
    simp only [Option.some.injEq] at hv
    subst hv
    exact ⟨_, exec _ rfl _ (by simp [Builtin.len_, ht, run_underlying hu, goInt]), .plain rfl⟩
  · rename_i e base n c hu
    obtain ⟨t, ht, hu⟩ := bind_und hu
    simp only [Option.some.injEq] at hv
    subst hv
    cases base with
    | none => exact ⟨_, exec _ (hrx.plain_eq rfl) _ (by simp [Builtin.len_, ht, run_underlying hu, goInt]), .plain rfl⟩
    | some ad =>
      obtain ⟨b, off, r, d, s, rfl, hσ, ex⟩ := hrx.slice_inv
      exact ⟨_, exec _ ex _ (by simp [Builtin.len_, ht, run_underlying hu, goInt]), .plain rfl⟩
  · rename_i k e hu
    obtain ⟨t, ht, hu⟩ := bind_und hu
    simp only [Option.some.injEq] at hv
    subst hv
    exact ⟨_, exec _ (hrx.plain_eq rfl) _ (by simp [Builtin.len_, ht, run_underlying hu, goInt]), .plain rfl⟩
  · rename_i k e r hu
    obtain ⟨t, ht, hu⟩ := bind_und hu
    split at hv
    · rename_i es hg
      simp only [Option.some.injEq] at hv
      subst hv
      obtain ⟨r', s, hσ, ex⟩ := hrx.map_inv
      obtain ⟨_, es', clock, hh, hl, _⟩ := hok r _ _ (by simp [Touch, fpOf, blkO, hx, blkOf]) hσ hg
      simp only at hh
      exact ⟨_, exec _ ex _ (by simp [Builtin.len_, ht, run_underlying hu, goInt, getObj, Sem.run, hh, hl]), .plain rfl⟩
    · cases hv

theorem all_flat {σ : Sg} : ∀ {vs vs' : List Value}, LR σ vs vs' → vs.all flat = true → vs' = vs
  | [], vs', h, _ => by have := h.len; simp at this; exact List.eq_nil_of_length_eq_zero this.symm
  | v :: r, [], h, _ => by have := h.len; simp at this
  | v :: r, v' :: r', h, hp => by
    simp only [List.all_cons, Bool.and_eq_true] at hp
    rw [h.head.flat_eq hp.1, all_flat h.tail hp.2]

theorem s_max {args : Array Operand} {argTypes : Array TypeId} {vs : List Value} (hx : evL T args.toList = some vs) (hf : vs.all flat = true)
    (h : keep H (flatOnly (pureRun P (Builtin.max_ argTypes type vs.toArray))) = some (v, H')) :
    OpS P ⟨dst, .call ⟨.builtin .max, args, argTypes⟩, type, pos, after, guard⟩ T H v H' := by
  obtain ⟨hv, rfl⟩ := keep_some h
  obtain ⟨hv, hfv⟩ := flatOnly_some hv
  refine .still (fun b h => by simp [Wrs, fpOf] at h) fun σ a w hfr hlt hok => ?_
  have e := all_flat (evL_sound hfr hx) hf
  have e2 : args.map a.eval = vs.toArray := by apply Array.ext'; simpa using e
  have hr := pureRun_sound _ _ hv w
  exact ⟨v, by simp [execOp, resolve, invoke, builtin, e2, hr], VR.of_flat hfv⟩

theorem s_min {args : Array Operand} {argTypes : Array TypeId} {vs : List Value} (hx : evL T args.toList = some vs) (hf : vs.all flat = true)
    (h : keep H (flatOnly (pureRun P (Builtin.min_ argTypes type vs.toArray))) = some (v, H')) :
    OpS P ⟨dst, .call ⟨.builtin .min, args, argTypes⟩, type, pos, after, guard⟩ T H v H' := by
  obtain ⟨hv, rfl⟩ := keep_some h
  obtain ⟨hv, hfv⟩ := flatOnly_some hv
  refine .still (fun b h => by simp [Wrs, fpOf] at h) fun σ a w hfr hlt hok => ?_
  have e := all_flat (evL_sound hfr hx) hf
  have e2 : args.map a.eval = vs.toArray := by apply Array.ext'; simpa using e
  have hr := pureRun_sound _ _ hv w
  exact ⟨v, by simp [execOp, resolve, invoke, builtin, e2, hr], VR.of_flat hfv⟩

theorem s_conv {src dt : TypeId} {x : Operand} (h : oConv P src dt x T H = some (v, H')) : OpS P ⟨dst, .convert src dt x, type, pos, after, guard⟩ T H v H' := by
  unfold oConv at h
  split at h
  · rename_i u hx
    unfold convV at h
    split at h
    · rename_i s e hu
      split at h
      · rename_i ds hue hus
        rw [allocK_eq] at h
        simp only [Option.some.injEq, Prod.mk.injEq] at h
        obtain ⟨rfl, rfl⟩ := h
        intro σ a w hfr hlt hok
        have ex := (evO_sound hfr hx).plain_eq rfl
        have hW : ∀ b x' k, Wrs T ⟨dst, .convert src dt x, type, pos, after, guard⟩ b → σ b = some x' → H.get b = some k → BlkOK σ w x' k := fun b x' k hb =>
          hok b x' k (by simp only [Wrs, fpOf] at hb; simp only [Touch, fpOf]; exact .inr hb)
        have hge : s.size ≤ grownCap w s.size 0 e := grownCap_ge w s.size 0 e
        refine ⟨.value (.slice (some ⟨w.heap.size, 0 + 0, none⟩) s.size (s.size + (grownCap w s.size 0 e - s.size))), .slice (some ⟨w.heap.size, 0 + 0, none⟩) s.size (s.size + (grownCap w s.size 0 e - s.size)),
          { w.drew with heap := w.heap.push (.cells (s.data.map (fun b => Value.int .u8 b.toNat) ++ Array.replicate (grownCap w s.size 0 e - s.size) (.int .u8 0)) e (s.size + (grownCap w s.size 0 e - s.size), s.size + (grownCap w s.size 0 e - s.size) + 1)) },
          upS σ H.next (w.heap.size, 0, grownCap w s.size 0 e - s.size), ?_, rfl, .slice (upS_same _ _ _), ?_⟩
        · have hpm : ∀ (ar : Array Obj) (o : Obj) (f : Obj → Obj), (ar.push o).modify ar.size f = ar.push (f o) := by
            intro ar o f
            apply Array.ext
            · simp
            · intro i h1 h2
              simp only [Array.getElem_modify, Array.getElem_push]
              by_cases hi : i < ar.size
              · simp [hi]; intro he; omega
              · have : ar.size = i := by simp at h2; omega
                subst this
                simp
          rw [show s.size + (grownCap w s.size 0 e - s.size) = grownCap w s.size 0 e by omega]
          have hds : s.data.size = s.size := rfl
          simp [execOp, ex, convert, run_underlying hu, run_underlying hus, run_underlying hue, Conv.stringToBytes, Question.forced, newRow, markStringish, World.shape?, World.freeze, hpm, grownCap, World.drew, -World.alloc_eq, -World.drew_eq]
          have hge' : s.size ≤ (Question.appendCap s.size 0 e).cut (w.tape w.drawn (Question.appendCap s.size 0 e)) := hge
          rw [Nat.add_sub_of_le hge']
        · refine .newBlk hlt rfl rfl rfl rfl hW ?_
          refine .newCells (heap_push_new _ _) (by simp) ⟨bytesCells s, List.replicate (grownCap w s.size 0 e - s.size) (.int .u8 0), by simp [bytesCells], (lr_bytes s), fun z hz => ?_⟩ (.inr ?_)
          · simp only [Option.some.injEq] at hz; subst hz; simp
          · simp
      · cases h
    · rename_i ad n c e hu
      split at h
      · rename_i e2 cs lo hus hue hg
        split at h
        · rename_i hc
          obtain ⟨rfl, hfl⟩ := hc
          simp only [Option.some.injEq, Prod.mk.injEq] at h
          obtain ⟨rfl, rfl⟩ := h
          intro σ a w hfr hlt hok
          obtain ⟨b, off, r, d, s, rfl, hσ, ex⟩ := (evO_sound hfr hx).slice_inv
          have hT : ∀ b', Touch T ⟨dst, .convert src src x, type, pos, after, guard⟩ b' ↔ b' = b := fun b' => by simp [Touch, fpOf, blkO, hx, blkOf]
          have hW : ∀ b', Wrs T ⟨dst, .convert src src x, type, pos, after, guard⟩ b' ↔ b' = b := fun b' => by simp [Wrs, fpOf, blkO, hx, blkOf]
          have he2 : e2 = e := by rw [hu] at hus; simpa using hus.symm
          subst he2
          simp only at hg hfl
          obtain ⟨h0, c', t, fr, hh, hcl, hv, hf, hz⟩ := hok b _ _ ((hT b).2 rfl) hσ hg
          simp only at h0 hh hcl hv hz
          have hf := hf rfl
          have hrl : r < w.heap.size := (hlt b _ hσ).2
          have hhr : w.heap[r]'hrl = .cells c' t fr := (Array.getElem?_eq_some_iff.1 hh).2
          have hnew : (w.freeze ⟨r, c'.size, none⟩ 1).heap[r]? = some (.cells c' t (if fr.1 == fr.2 then (c'.size, c'.size + 1) else (min fr.1 c'.size, max fr.2 (c'.size + 1)))) := by
            simp only [World.freeze]
            rw [if_neg (by omega), Array.getElem?_eq_getElem (by simpa using hrl), Array.getElem_modify]
            simp [hhr]
          have hoth : ∀ r', r' ≠ r → (w.freeze ⟨r, c'.size, none⟩ 1).heap[r']? = w.heap[r']? := fun r' hr' => by
            simp only [World.freeze]
            rw [if_neg (by omega)]
            simp [Array.getElem?_modify, Ne.symm hr']
          have hsz : (w.freeze ⟨r, c'.size, none⟩ 1).heap.size = w.heap.size := by
            simp only [World.freeze]
            rw [if_neg (by omega)]
            simp
          have hos : (w.freeze ⟨r, c'.size, none⟩ 1).os = w.os ∧ (w.freeze ⟨r, c'.size, none⟩ 1).tape = w.tape ∧ (w.freeze ⟨r, c'.size, none⟩ 1).output = w.output := by
            simp only [World.freeze]
            rw [if_neg (by omega)]
            exact ⟨rfl, rfl, rfl⟩
          refine ⟨.value (.slice (some ⟨r, d + off, none⟩) n (c + s)), .slice (some ⟨r, d + off, none⟩) n (c + s), w.freeze ⟨r, c'.size, none⟩ 1, σ, ?_, rfl, .slice hσ, ?_⟩
          · simp [execOp, ex, convert, run_underlying hus, run_underlying hue, markStringish, World.shape?, hh]
          · exact {
              next := Nat.le_refl _
              next1 := Nat.le_succ _
              floor := rfl
              sub := fun _ _ => rfl
              lt := fun b' x' hx' => by have := hlt b' x' hx'; exact ⟨this.1, by omega⟩
              same := fun _ _ _ => rfl
              wr := fun _ _ _ => .inl rfl
              ok := fun b' x' k hb' hx' hk => by
                rcases hb' with hb' | hb'
                · have e := (hW b').1 hb'
                  subst e
                  rw [hσ] at hx'
                  simp only [Option.some.injEq] at hx'; subst hx'
                  rw [hg] at hk
                  simp only [Option.some.injEq] at hk; subst hk
                  refine ⟨h0, c', t, _, hnew, hcl, hv, fun _ => ?_, hz⟩
                  split
                  · exact .inr (Nat.le_refl _)
                  · rename_i hne
                    right
                    have : ¬ fr.1 = fr.2 := by simpa using hne
                    simp only
                    omega
                · have := (hlt b' x' hx').1; omega
              newr := fun b' x' hb' hx' => by have := (hlt b' x' hx').1; omega
              os := hos.1
              tape := hos.2.1
              output := hos.2.2
              size := by omega
              frame := fun r' hr' => by
                by_cases e : r' = r
                · subst e; exact .inr ⟨b, _, (hW b).2 rfl, hfl, by simp [WR, hg], hσ, rfl⟩
                · exact .inl (hoth r' e) }
        · cases h
      · cases h
    · split at h
      · rename_i hf
        obtain ⟨hv, rfl⟩ := keep_some h
        obtain ⟨hv, hfv⟩ := flatOnly_some hv
        intro σ a w hfr hlt hok
        have e := (evO_sound hfr hx).flat_eq hf
        have hr := pureRun_sound _ _ hv w
        refine ⟨.value v, v, w, σ, by simp [execOp, e, hr], rfl, VR.of_flat hfv, .idl hlt (fun b x' k hb => ?_)⟩
        exact hok b x' k (by simp only [Wrs, fpOf] at hb; simp only [Touch, fpOf]; exact .inr hb)
      · cases h
  · cases h
end
end Go.Vm
