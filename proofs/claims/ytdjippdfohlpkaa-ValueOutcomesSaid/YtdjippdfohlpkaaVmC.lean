/- A verified interpreter: its operations are the machine's (first part). -/
import Derived.Test.YtdjippdfohlpkaaVmB
import Derived.Laws.AppendOwn
import Derived.Laws.MakeOwn
import Derived.Laws.Tables
namespace Go.Vm
variable {P : Program}

theorem pureRun_sound {α : Type} : ∀ (s : Sem α) (a : α), pureRun P s = some a → ∀ w, s.run P w = .ok a w := by
  intro s
  induction s with
  | pure x => intro a h w; simp only [pureRun, Option.some.injEq] at h; subst h; rfl
  | program k ih => intro a h w; exact ih P a h w
  | mark m k ih => intro a h w; exact ih a h w
  | _ => intro a h w; simp [pureRun] at h

structure FR (σ : Sg) (T : Frm) (tmps : Array Value) : Prop where
  size : tmps.size = T.n
  at_ : ∀ i, VR σ (T.get i) (tmps.getD i undef)

theorem FR.mono {σ σ' : Sg} (hs : ∀ b x, σ b = some x → σ' b = some x) {T : Frm} {tmps : Array Value} (h : FR σ T tmps) : FR σ' T tmps :=
  ⟨h.size, fun i => (h.at_ i).mono hs⟩

theorem FR.put {σ : Sg} {T T' : Frm} {a : Act} (h : FR σ T a.tmps) {dst : Option Tmp} {v v' : Value} (hp : T.put dst v = some T') (hv : VR σ v v') :
    FR σ T' (a.put dst v').tmps := by
  cases dst with
  | none => simp only [Frm.put, Option.some.injEq] at hp; subst hp; exact h
  | some d =>
    simp only [Frm.put] at hp
    split at hp
    · rename_i hd
      simp only [Option.some.injEq] at hp
      subst hp
      refine ⟨by simp [Act.put, h.size], fun i => ?_⟩
      have hs := h.size
      simp only [Frm.get, PT.get_set, Act.put, Array.getD_eq_getD_getElem?, Array.getElem?_setIfInBounds]
      by_cases e : i = d
      · subst e; simp [hs, hd, hv]
      · have := h.at_ i
        simp only [Frm.get, Array.getD_eq_getD_getElem?] at this
        simp [e, Ne.symm e, this]
    · cases hp

theorem put_defers {a : Act} {dst : Option Tmp} {v : Value} : (a.put dst v).defers = a.defers := by cases dst <;> rfl

theorem evO_sound {σ : Sg} {T : Frm} {a : Act} (h : FR σ T a.tmps) {x : Operand} {v : Value} (hx : evO T x = some v) : VR σ v (a.eval x) := by
  cases x with
  | tmp t => simp only [evO, Option.some.injEq] at hx; subst hx; exact h.at_ t
  | const c =>
    simp only [evO] at hx
    split at hx
    · rename_i hf; simp only [Option.some.injEq] at hx; subst hx; exact VR.of_flat hf
    · cases hx
  | global g => simp [evO] at hx
  | func f => simp only [evO, Option.some.injEq] at hx; subst hx; exact .func rfl rfl (fun i v v' h => by simp at h) (fun i v v' h => by simp at h)

theorem evL_sound {σ : Sg} {T : Frm} {a : Act} (h : FR σ T a.tmps) : ∀ {l : List Operand} {vs : List Value}, evL T l = some vs → LR σ vs (l.map a.eval)
  | [], vs, hx => by simp only [evL, Option.some.injEq] at hx; subst hx; exact .nil
  | x :: r, vs, hx => by
    simp only [evL] at hx
    split at hx
    · rename_i v us hv hus
      simp only [Option.some.injEq] at hx
      subst hx
      exact .cons (evO_sound h hv) (evL_sound h hus)
    · cases hx

def nxv : Next → Option Value
  | .value v => some v
  | .skip => some undef
  | _ => none

def Touch (T : Frm) (o : Oper) (b : Nat) : Prop := match fpOf T o with | .mem r w => b ∈ r ∨ b ∈ w | .call => True
def Wrs (T : Frm) (o : Oper) (b : Nat) : Prop := match fpOf T o with | .mem _ w => b ∈ w | .call => False

def Lt (σ : Sg) (H : Heap) (w : World) : Prop := ∀ b x, σ b = some x → b < H.next ∧ x.1 < w.heap.size

/-- Nothing has changed. -/
theorem LRes.idl {σ : Sg} {H : Heap} {w : World} {Wr : Nat → Prop} (hlt : Lt σ H w)
    (hok : ∀ b x k, Wr b → σ b = some x → H.get b = some k → BlkOK σ w x k) : LRes σ H w σ H w Wr where
  next := Nat.le_refl _
  next1 := by omega
  floor := rfl
  sub _ _ := rfl
  lt := hlt
  same _ _ _ := rfl
  wr _ _ _ := .inl rfl
  ok b x k hb hx hk := hb.elim (fun h => hok b x k h hx hk) (fun h => by have := (hlt b x hx).1; omega)
  newr b x hb hx := by have := (hlt b x hx).1; omega
  os := rfl
  tape := rfl
  output := rfl
  size := Nat.le_refl _
  frame _ _ := .inl rfl

/-- The statement on one operation. -/
def OpS (P : Program) (o : Oper) (T : Frm) (H : Heap) (v : Value) (H' : Heap) : Prop :=
  ∀ (σ : Sg) (a : Act) (w : World), FR σ T a.tmps → Lt σ H w → (∀ b x k, Touch T o b → σ b = some x → H.get b = some k → BlkOK σ w x k) →
    ∃ nx v' w' σ', (execOp a.eval o).run P w = .ok nx w' ∧ nxv nx = some v' ∧ VR σ' v v' ∧ LRes σ H w σ' H' w' (Wrs T o)

/-- An operation that only computes or reads. -/
theorem OpS.still {o : Oper} {T : Frm} {H : Heap} {v : Value} (hw : ∀ b, ¬ Wrs T o b)
    (h : ∀ (σ : Sg) (a : Act) (w : World), FR σ T a.tmps → Lt σ H w → (∀ b x k, Touch T o b → σ b = some x → H.get b = some k → BlkOK σ w x k) →
      ∃ v', (execOp a.eval o).run P w = .ok (.value v') w ∧ VR σ v v') : OpS P o T H v H := by
  intro σ a w hfr hlt hok
  obtain ⟨v', hr, hv⟩ := h σ a w hfr hlt hok
  exact ⟨_, v', w, σ, hr, rfl, hv, .idl hlt (fun b x k hb => absurd hb (hw b))⟩

theorem keep_some {H H' : Heap} {v : Option Value} {u : Value} (h : keep H v = some (u, H')) : v = some u ∧ H' = H := by
  cases v with
  | none => simp [keep] at h
  | some v => simp [keep] at h; exact ⟨by rw [h.1], h.2.symm⟩

section
variable {dst : Option Tmp} {type : TypeId} {pos : String} {after : Array Edge} {guard : Option (Nat × Bool)} {T : Frm} {H H' : Heap} {v : Value}

theorem s_move {x : Operand} (h : oMove x T H = some (v, H')) : OpS P ⟨dst, .move x, type, pos, after, guard⟩ T H v H' := by
  obtain ⟨hv, rfl⟩ := keep_some h
  exact .still (fun b h => by simp [Wrs, fpOf] at h) fun σ a w hfr _ _ => ⟨_, rfl, evO_sound hfr hv⟩
theorem s_assign {x : Operand} (h : oMove x T H = some (v, H')) : OpS P ⟨dst, .assign x, type, pos, after, guard⟩ T H v H' := by
  obtain ⟨hv, rfl⟩ := keep_some h
  exact .still (fun b h => by simp [Wrs, fpOf] at h) fun σ a w hfr _ _ => ⟨_, rfl, evO_sound hfr hv⟩

theorem VR.bool_inv {σ : Sg} {b : Bool} {v' : Value} (h : VR σ (.bool b) v') : v' = .bool b := h.plain_eq rfl
theorem VR.int_inv {σ : Sg} {k : IntKind} {n : Int} {v' : Value} (h : VR σ (.int k n) v') : v' = .int k n := h.plain_eq rfl

theorem s_pick {c x y : Operand} (h : oPick c x y T H = some (v, H')) : OpS P ⟨dst, .pick c x y, type, pos, after, guard⟩ T H v H' := by
  unfold oPick at h
  split at h
  · rename_i cb xv yv hc hx hy
    simp only [Option.some.injEq, Prod.mk.injEq] at h
    obtain ⟨rfl, rfl⟩ := h
    refine .still (fun b h => by simp [Wrs, fpOf] at h) fun σ a w hfr _ _ => ?_
    have e := (evO_sound hfr hc).bool_inv
    refine ⟨if cb then a.eval x else a.eval y, ?_, ?_⟩
    · simp [execOp, e, asBool]
    · cases cb
      · exact evO_sound hfr hy
      · exact evO_sound hfr hx
  · cases h

theorem s_nil {x : Operand} (h : oNil x T H = some (v, H')) : OpS P ⟨dst, .nilCheck x, type, pos, after, guard⟩ T H v H' := by
  obtain ⟨hv, rfl⟩ := keep_some h
  refine .still (fun b h => by simp [Wrs, fpOf] at h) fun σ a w hfr _ _ => ?_
  cases hx : evO T x with
  | none => simp [hx] at hv
  | some u =>
    have hr := evO_sound hfr hx
    simp only [hx, Option.bind_some] at hv
    unfold nilCheckV at hv
    split at hv <;> first | (cases hv; done) | skip
    · simp only [Option.some.injEq] at hv
      subst hv
      refine ⟨a.eval x, ?_, hr⟩
      generalize he : a.eval x = y at hr ⊢
      cases hr with
      | plain h => simp [plain] at h
      | func => simp [execOp, he]
    · simp only [Option.some.injEq] at hv
      subst hv
      refine ⟨a.eval x, ?_, hr⟩
      obtain ⟨b, off, r, d, s, _, _, e⟩ := hr.ptr_inv
      simp [execOp, e]
    · simp only [Option.some.injEq] at hv
      subst hv
      refine ⟨a.eval x, ?_, hr⟩
      generalize he : a.eval x = y at hr ⊢
      cases hr with
      | plain h => simp [execOp, he]
      | slice => simp [execOp, he]

theorem s_func {f : FuncId} {first captured : Array Operand} (h : oFunc f first.toList captured.toList T H = some (v, H')) :
    OpS P ⟨dst, .makeFunc (.func f) first captured, type, pos, after, guard⟩ T H v H' := by
  unfold oFunc at h
  split at h
  · rename_i xs ys hx hy
    simp only [Option.some.injEq, Prod.mk.injEq] at h
    obtain ⟨rfl, rfl⟩ := h
    refine .still (fun b h => by simp [Wrs, fpOf] at h) fun σ a w hfr _ _ => ?_
    refine ⟨_, rfl, ?_⟩
    have h1 := evL_sound hfr hx
    have h2 := evL_sound hfr hy
    refine .func (by simpa using h1.len) (by simpa using h2.len) (fun i v v' p q => h1.at_ i v v' (by simpa using p) ?_) (fun i v v' p q => h2.at_ i v v' (by simpa using p) ?_)
    · simpa using q
    · simpa using q
  · cases h

theorem s_extract {x : Operand} {i : Nat} (h : oExtract x i T H = some (v, H')) : OpS P ⟨dst, .extract x i, type, pos, after, guard⟩ T H v H' := by
  unfold oExtract at h
  split at h
  · rename_i vs hx
    obtain ⟨hv, rfl⟩ := keep_some h
    refine .still (fun b h => by simp [Wrs, fpOf] at h) fun σ a w hfr _ _ => ?_
    obtain ⟨cs', e, hl⟩ := (evO_sound hfr hx).tuple_inv
    have hi : i < cs'.size := by
      have := hl.len
      have := (Array.getElem?_eq_some_iff.1 hv).1
      simp at *; omega
    refine ⟨cs'[i], by simp [execOp, e, Instr.extract, hi], hl.at_ i v _ (by simpa using hv) (by simp [hi])⟩
  · cases h

theorem flatOnly_some {v : Option Value} {u : Value} (h : flatOnly v = some u) : v = some u ∧ flat u = true := by
  cases v with
  | none => simp [flatOnly] at h
  | some v =>
    simp only [flatOnly] at h
    split at h
    · simp only [Option.some.injEq] at h; subst h; exact ⟨rfl, by assumption⟩
    · cases h

theorem s_un {op : UnOp} {t : TypeId} {x : Operand} (h : oUn P op x T H = some (v, H')) : OpS P ⟨dst, .unOp op t x, type, pos, after, guard⟩ T H v H' := by
  unfold oUn at h
  split at h
  · rename_i u hx
    split at h
    · rename_i hf
      obtain ⟨hv, rfl⟩ := keep_some h
      obtain ⟨hv, hfv⟩ := flatOnly_some hv
      refine .still (fun b h => by simp [Wrs, fpOf] at h) fun σ a w hfr _ _ => ?_
      have e := (evO_sound hfr hx).flat_eq hf
      have hr := pureRun_sound _ _ hv w
      exact ⟨v, by simp [execOp, e, hr], VR.of_flat hfv⟩
    · cases h
  · cases h

theorem nilCmp_in (n : Nat) {t : TypeId} {x y x' y' : Value} {σ : Sg} (hx : VR σ x x') (hy : VR σ y y') {b : Bool} (h : nilCmp P t x y = some b) (w : World) :
    (Op.equalIn (n + 1) t x' y').run P w = .ok b w := by
  unfold nilCmp at h
  split at h <;> first | (cases h; done) | skip
  all_goals
    rename_i hu
    simp only [Option.some.injEq] at h
    subst h
  · have := hx.plain_eq rfl; subst this
    rename_i b _ _
    cases b with
    | none => have := hy.plain_eq rfl; subst this; simp [Op.equalIn, run_underlying hu]
    | some a => obtain ⟨_, _, _, _, _, _, _, rfl⟩ := hy.slice_inv; simp [Op.equalIn, run_underlying hu]
  · have := hy.plain_eq rfl; subst this
    obtain ⟨_, _, _, _, _, _, _, rfl⟩ := hx.slice_inv
    simp [Op.equalIn, run_underlying hu]
  · have := hx.plain_eq rfl; subst this
    rename_i b
    cases b with
    | none => have := hy.plain_eq rfl; subst this; simp [Op.equalIn, run_underlying hu]
    | some a => obtain ⟨_, _, _, _, _, _, _, rfl⟩ := hy.ptr_inv; simp [Op.equalIn, run_underlying hu]
  · have := hy.plain_eq rfl; subst this
    obtain ⟨_, _, _, _, _, _, _, rfl⟩ := hx.ptr_inv
    simp [Op.equalIn, run_underlying hu]
  · have := hx.plain_eq rfl; subst this
    rename_i b
    cases b with
    | none => have := hy.plain_eq rfl; subst this; simp [Op.equalIn, run_underlying hu]
    | some a => obtain ⟨_, _, _, rfl⟩ := hy.map_inv; simp [Op.equalIn, run_underlying hu]
  · have := hy.plain_eq rfl; subst this
    obtain ⟨_, _, _, rfl⟩ := hx.map_inv
    simp [Op.equalIn, run_underlying hu]
  · have := hx.plain_eq rfl; subst this
    cases hy with
    | plain h => simp [plain] at h
    | func => simp [Op.equalIn, run_underlying hu]
  · have := hy.plain_eq rfl; subst this
    cases hx with
    | plain h => simp [plain] at h
    | func => simp [Op.equalIn, run_underlying hu]

theorem nilCmp_sound {t : TypeId} {x y x' y' : Value} {σ : Sg} (hx : VR σ x x') (hy : VR σ y y') {b : Bool} (h : nilCmp P t x y = some b) (w : World) :
    (Op.equal t x' y').run P w = .ok b w := nilCmp_in 9999 hx hy h w
end
end Go.Vm
