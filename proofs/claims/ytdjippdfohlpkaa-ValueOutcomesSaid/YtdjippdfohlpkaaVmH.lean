/- A verified interpreter: its operations are the machine's (sixth part: append, copy, conversions, maps, builtins). -/
import Derived.Test.YtdjippdfohlpkaaVmG
namespace Go.Vm
variable {P : Program}

theorem lr_bytes {σ : Sg} (s : ByteArray) : LR σ (bytesCells s) (bytesCells s) := LR.of_plain (by
  unfold bytesCells
  rw [List.all_map]
  exact List.all_eq_true.2 fun _ _ => rfl)

/-- What append and copy take from. -/
theorem srcCells_sound {σ : Sg} {H : Heap} {w : World} {size k : Nat} {x x' : Value} {new : List Value} (h : srcCells H size x = some (k, new)) (hx : VR σ x x')
    (hok : ∀ b y j, b ∈ blkOf x → σ b = some y → H.get b = some j → BlkOK σ w y j) :
    ∃ new', LR σ new new' ∧ (∀ w : World, (Builtin.lenOf x').run P w = .ok k w) ∧
      ∀ w' : World, w'.heap = w.heap → (Builtin.firstCells size k x').run P w' = .ok new'.toArray w' ∧
        ((∃ a n c, x = .slice (some a) n c) → ∀ m, m ≤ k → (Builtin.firstCells size m x').run P w' = .ok (new'.take (m * size)).toArray w') := by
  unfold srcCells at h
  split at h
  · rename_i a n c
    obtain ⟨cs, hc, he⟩ := Option.map_eq_some_iff.1 h
    simp only [Prod.mk.injEq] at he
    obtain ⟨rfl, rfl⟩ := he
    obtain ⟨b, off, r, d, s, rfl, hσ, rfl⟩ := hx.slice_inv
    obtain ⟨cs', hl, hn, hcell⟩ := cellsAt_sound hc hσ (fun j hj => hok b _ j (by simp [blkOf]) hσ hj)
    refine ⟨cs', hl, fun w => rfl, fun w' hw => ⟨?_, fun _ m hm => ?_⟩⟩
    · exact run_firstCells_some (P := P) w' size n _ n _ cs' hn (fun j v hv => by rw [← hcell j v hv]; simp [World.cell?, hw])
    · refine run_firstCells_some (P := P) w' size m _ n _ (cs'.take (m * size)) (by rw [List.length_take, hn]; have := Nat.mul_le_mul_right size hm; omega) (fun j v hv => ?_)
      rw [List.getElem?_take] at hv
      split at hv
      · rw [← hcell j v hv]; simp [World.cell?, hw]
      · cases hv
  · simp only [Option.some.injEq, Prod.mk.injEq] at h
    obtain ⟨rfl, rfl⟩ := h
    have := hx.plain_eq rfl; subst this
    refine ⟨[], .nil, fun w => rfl, fun w' _ => ⟨rfl, fun ⟨_, _, _, h⟩ => by cases h⟩⟩
  · rename_i s
    simp only [Option.some.injEq, Prod.mk.injEq] at h
    obtain ⟨rfl, rfl⟩ := h
    have := hx.plain_eq rfl; subst this
    have hfc : ∀ w' : World, (Builtin.firstCells size s.size (.string s)).run P w' = .ok (bytesCells s).toArray w' := by
      intro w'
      simp only [Builtin.firstCells]
      have e : s.extract 0 s.size = s := by
        apply ByteArray.ext
        have hsz : s.size = s.data.size := rfl
        rw [ByteArray.data_extract, hsz, Array.extract_size]
      rw [e]
      have e2 : s.data.map (fun b : UInt8 => Value.int .u8 b.toNat) = (bytesCells s).toArray := by
        apply Array.ext'
        simp [bytesCells]
      rw [e2]; rfl
    exact ⟨bytesCells s, lr_bytes s, fun w => rfl, fun w' _ => ⟨hfc w', fun ⟨_, _, _, h⟩ => by cases h⟩⟩
  · cases h

section
variable (w : World) {t u ty e : TypeId} {xt : TypeDesc} {i : TypeInfo} {x : Value} {k : Nat} {new : List Value}

theorem app_room (ht : P.underlying t = some (.slice e)) (hu : P.underlying u = some xt) (hxt : ∀ k, xt ≠ .int k) (hi : P.info? e = some i)
    (hlen : (Builtin.lenOf x).run P w = .ok k w) (hfc : (Builtin.firstCells i.size k x).run P w = .ok new.toArray w) {a : Addr} {n c : Nat} (hroom : n + k ≤ c) {rest : List TypeId} :
    (Builtin.append_ ⟨t :: u :: rest⟩ ty #[.slice (some a) n c, x]).run P w = ((storeCells (a.add (n * i.size)) new).run P w).andThen fun _ w' => .ok (.slice (some a) (n + k) c) w' := by
  have hz : (match xt with | TypeDesc.int _ => true | _ => false) = false := by
    cases xt <;> first | rfl | exact absurd rfl (hxt _)
  simp only [Builtin.append_]
  simp [run_underlying ht, run_underlying hu, sizeOf, typeInfo, hi, hlen, hroom, hfc]

theorem app_room0 (ht : P.underlying t = some (.slice e)) (hu : P.underlying u = some xt) (hxt : ∀ k, xt ≠ .int k) (hi : P.info? e = some i)
    (hlen : (Builtin.lenOf x).run P w = .ok 0 w) (hfc : (Builtin.firstCells i.size 0 x).run P w = .ok #[] w) {n c : Nat} (hroom : n ≤ c) {rest : List TypeId} :
    (Builtin.append_ ⟨t :: u :: rest⟩ ty #[.slice none n c, x]).run P w = .ok (.slice none n c) w := by
  simp only [Builtin.append_]
  simp [run_underlying ht, run_underlying hu, sizeOf, typeInfo, hi, hlen, hroom, hfc]

theorem app_grow (ht : P.underlying t = some (.slice e)) (hu : P.underlying u = some xt) (hxt : ∀ k, xt ≠ .int k) (hi : P.info? e = some i) {z : Value} (hz : i.zero = some z)
    (hlen : (Builtin.lenOf x).run P w = .ok k w) (hfc : ∀ w' : World, w'.heap = w.heap → (Builtin.firstCells i.size k x).run P w' = .ok new.toArray w') {b : Option Addr} {n c : Nat} {old : List Value}
    (hold : (Builtin.firstCells i.size n (.slice b n c)).run P w.drew = .ok old.toArray w.drew)
    (hg : c < n + k) (hb : (n + k) * i.bytes ≤ roomV) (hr : n + k ≤ roomV) {rest : List TypeId} :
    (Builtin.append_ ⟨t :: u :: rest⟩ ty #[.slice b n c, x]).run P w =
      .ok (.slice (some ⟨w.heap.size, 0, none⟩) (n + k) (grownCap w (n + k) c e))
        (w.drew.alloc (.cells ((old ++ new).toArray ++ Builtin.zeroCells z.cells (grownCap w (n + k) c e - (n + k))) e)) := by
  have hroom : roomV = 68719476736 := by decide
  have hn : ¬ (n + k ≤ c) := by omega
  have h63' : ¬ (9223372036854775807 < ((n : Int) + (k : Int))) := by omega
  have h48' : ¬ (281474976710656 < Builtin.nextslicecap (n + k) c * i.bytes) := by
    have h1 := Nat.mul_le_mul_right i.bytes (nextslicecap_le hg)
    have h2 : 2 * (n + k) * i.bytes = 2 * ((n + k) * i.bytes) := by rw [Nat.mul_assoc]
    omega
  have hnew := hfc w.drew rfl
  simp only [Builtin.append_]
  simp [run_underlying ht, run_underlying hu, sizeOf, typeInfo, zeroValue, hi, hz, hlen, hn, h63', h48', Question.forced, hnew, hold, newRow, grownCap]
  congr 2
  apply Array.ext'
  simp [List.append_assoc]
end

theorem size_zero (z : Array Value) (n : Nat) : (Builtin.zeroCells z n).toList.length = n * z.size := by simp [Builtin.zeroCells]

/-- The machine's append made a new array. -/
theorem LRes.grown {σ : Sg} {H : Heap} {w w' : World} {Wr : Nat → Prop} {k : Blk} {s : Nat} {o : Obj} {b : Nat} (hlt : Lt σ H w) (hh : w'.heap = w.heap.push o)
    (hos : w'.os = w.os) (htape : w'.tape = w.tape) (hout : w'.output = w.output) (hb : b < H.next) (hbW : Wr b) (hf : H.floor ≤ b) (hwr : WR H b)
    (hWr : ∀ b' x j, Wr b' → σ b' = some x → H.get b' = some j → BlkOK σ w x j) (hk : BlkOK (upS σ H.next (w.heap.size, 0, s)) w' (w.heap.size, 0, s) k) :
    LRes σ H w (upS σ H.next (w.heap.size, 0, s)) ((H.put b none).new k) w' Wr where
  next := by simp [Heap.new, Heap.put]
  next1 := by simp [Heap.new, Heap.put]
  floor := rfl
  sub b hb := upS_ne σ _ (by omega)
  lt b x hx := by
    by_cases e : b = H.next
    · subst e
      rw [upS_same] at hx
      simp only [Option.some.injEq] at hx; subst hx
      exact ⟨by simp [Heap.new, Heap.put], by simp [hh]⟩
    · rw [upS_ne σ _ e] at hx
      have := hlt b x hx
      exact ⟨by simp [Heap.new, Heap.put]; omega, by simp [hh]; omega⟩
  same b' hb' hn := by
    have e1 : ¬ b' = (H.put b none).next := by show ¬ b' = H.next; omega
    have e2 : ¬ b' = b := fun e => hn (e ▸ hbW)
    rw [Heap.get_new, if_neg e1, Heap.get_put, if_neg e2]
  wr b' hb' _ := by
    have e1 : ¬ b' = (H.put b none).next := by show ¬ b' = H.next; omega
    by_cases e2 : b' = b
    · subst e2
      exact .inr ⟨hf, hwr, .inl (by rw [Heap.get_new, if_neg e1, Heap.get_put, if_pos rfl])⟩
    · exact .inl (by rw [Heap.get_new, if_neg e1, Heap.get_put, if_neg e2])
  ok b' x j hb' hx hj := by
    by_cases e : b' = H.next
    · subst e
      rw [upS_same] at hx
      simp only [Option.some.injEq] at hx; subst hx
      rw [Heap.get_new, if_pos (show H.next = (H.put b none).next from rfl)] at hj
      simp only [Option.some.injEq] at hj; subst hj
      exact hk
    · rw [upS_ne σ _ e] at hx
      have e1 : ¬ b' = (H.put b none).next := e
      rw [Heap.get_new, if_neg e1, Heap.get_put] at hj
      split at hj
      · cases hj
      · have hx2 := hlt b' x hx
        refine (hWr b' x j (hb'.resolve_right (by omega)) hx hj).mono (upS_mono hlt.next) ?_
        rw [hh, heap_push_old _ _ _ hx2.2]
  newr b' x hb' hx := by
    by_cases e : b' = H.next
    · subst e
      rw [upS_same] at hx
      simp only [Option.some.injEq] at hx; subst hx
      exact .inl (Nat.le_refl _)
    · rw [upS_ne σ _ e] at hx
      have := (hlt b' x hx).1; omega
  os := hos
  tape := htape
  output := hout
  size := by simp [hh]
  frame r hr := .inl (by rw [hh, heap_push_old _ _ _ hr])

/-- The machine's append wrote into the spare part of the old array. -/
theorem LRes.inPlace {σ : Sg} {H : Heap} {w w' : World} {Wr : Nat → Prop} {k : Blk} {r d s d' s' : Nat} {b : Nat} (hlt : Lt σ H w) (hσ : σ b = some (r, d, s))
    (hsz : w'.heap.size = w.heap.size) (hoth : ∀ r', r' ≠ r → w'.heap[r']? = w.heap[r']?)
    (hos : w'.os = w.os) (htape : w'.tape = w.tape) (hout : w'.output = w.output) (hbW : Wr b) (hW1 : ∀ b', Wr b' → b' = b) (hf : H.floor ≤ b) (hwr : WR H b)
    (hk : BlkOK (upS σ H.next (r, d', s')) w' (r, d', s') k) :
    LRes σ H w (upS σ H.next (r, d', s')) ((H.put b none).new k) w' Wr where
  next := by simp [Heap.new, Heap.put]
  next1 := by simp [Heap.new, Heap.put]
  floor := rfl
  sub b hb := upS_ne σ _ (by omega)
  lt b' x hx := by
    by_cases e : b' = H.next
    · subst e
      rw [upS_same] at hx
      simp only [Option.some.injEq] at hx; subst hx
      exact ⟨by simp [Heap.new, Heap.put], by rw [hsz]; exact (hlt b _ hσ).2⟩
    · rw [upS_ne σ _ e] at hx
      have := hlt b' x hx
      exact ⟨by simp [Heap.new, Heap.put]; omega, by omega⟩
  same b' hb' hn := by
    have e1 : ¬ b' = (H.put b none).next := by show ¬ b' = H.next; omega
    have e2 : ¬ b' = b := fun e => hn (e ▸ hbW)
    rw [Heap.get_new, if_neg e1, Heap.get_put, if_neg e2]
  wr b' hb' hw := by
    have e1 : ¬ b' = (H.put b none).next := by show ¬ b' = H.next; omega
    have e2 := hW1 b' hw
    subst e2
    exact .inr ⟨hf, hwr, .inl (by rw [Heap.get_new, if_neg e1, Heap.get_put, if_pos rfl])⟩
  ok b' x j hb' hx hj := by
    by_cases e : b' = H.next
    · subst e
      rw [upS_same] at hx
      simp only [Option.some.injEq] at hx; subst hx
      rw [Heap.get_new, if_pos (show H.next = (H.put b none).next from rfl)] at hj
      simp only [Option.some.injEq] at hj; subst hj
      exact hk
    · rw [upS_ne σ _ e] at hx
      have e1 : ¬ b' = (H.put b none).next := e
      have hx2 := hlt b' x hx
      have e2 := hW1 b' (hb'.resolve_right (by omega))
      subst e2
      rw [Heap.get_new, if_neg e1, Heap.get_put, if_pos rfl] at hj
      cases hj
  newr b' x hb' hx := by
    by_cases e : b' = H.next
    · subst e
      rw [upS_same] at hx
      simp only [Option.some.injEq] at hx; subst hx
      have hb := (hlt b _ hσ).1
      have e1 : ¬ b = (H.put b none).next := by show ¬ b = H.next; omega
      exact .inr ⟨b, _, hbW, hf, hwr, hσ, rfl, by rw [Heap.get_new, if_neg e1, Heap.get_put, if_pos rfl]⟩
    · rw [upS_ne σ _ e] at hx
      have := (hlt b' x hx).1; omega
  os := hos
  tape := htape
  output := hout
  size := by omega
  frame r' hr' := by
    by_cases e : r' = r
    · subst e; exact .inr ⟨b, _, hbW, hf, hwr, hσ, rfl⟩
    · exact .inl (hoth r' e)

end Go.Vm
