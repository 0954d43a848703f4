/- law28's ValueOutcomes: every run answers true. -/
import Derived.Test.YtdjippdfohlpkaaCk
import Derived.Test.YtdjippdfohlpkaaAw
namespace Go.Proofs.Ytdjippdfohlpkaa
open Go Go.Vm
set_option maxRecDepth 100000

theorem TO_ok : TOK TO := tab_cons c_awake (tab_cons c_bad (tab_cons (inl_ok okay (tab_cons c_Encode tab_nil) _ _) (tab_cons c_inside TG_ok)))
theorem eA0 (i : Ins) (r : Rg) (a : Option Addr) (n c : Nat) : (Vm.runT Try.prog (hkP Try.prog) (tabK TO) 20 3 [tIns.enc i, tR.enc r, .slice a n c] heap0).follow (rl true [0, 1, 10]) = some (conj [r.bad], .bool true) := by kernel_rfl
theorem eB0 (i : Ins) (r : Rg) (a : Option Addr) (n c : Nat) : (Vm.runT Try.prog (hkP Try.prog) (tabK TO) 20 3 [tIns.enc i, tR.enc r, .slice a n c] heap0).follow (rl true [0, 1, 1, 5, 2, 1, 1, 1, 4]) = some (conj [!r.bad, i.op != 22, i.op != 23], .bool true) := by kernel_rfl
theorem eC0 (i : Ins) (r : Rg) (a : Option Addr) (n c : Nat) : (Vm.runT Try.prog (hkP Try.prog) (tabK TO) 20 3 [tIns.enc ⟨22, i.a, i.b, i.c, i.imm⟩, tR.enc r, .slice a n c] heap0).follow (rl true [0, 1, 1, 12, 1, 1, 1]) = some (conj [!r.bad, !Ins.valid ⟨22, i.a, i.b, i.c, i.imm⟩], .bool true) := by kernel_rfl
theorem eD0 (i : Ins) (r : Rg) (a : Option Addr) (n c : Nat) : (Vm.runT Try.prog (hkP Try.prog) (tabK TO) 20 3 [tIns.enc ⟨23, i.a, i.b, i.c, i.imm⟩, tR.enc r, .slice a n c] heap0).follow (rl true [0, 1, 1, 5, 2, 1, 1, 4, 1, 1, 1]) = some (conj [!r.bad, !Ins.valid ⟨23, i.a, i.b, i.c, i.imm⟩], .bool true) := by kernel_rfl
theorem eA1 (i : Ins) (r : Rg) (a : Option Addr) (n c : Nat) (l : List Value) : (Vm.runT Try.prog (hkP Try.prog) (tabK TO) 20 3 [tIns.enc i, tR.enc r, .slice a n c] (H1 l)).follow (rl true [0, 1, 10]) = some (conj [r.bad], .bool true) := by kernel_rfl
theorem eB1 (i : Ins) (r : Rg) (a : Option Addr) (n c : Nat) (l : List Value) : (Vm.runT Try.prog (hkP Try.prog) (tabK TO) 20 3 [tIns.enc i, tR.enc r, .slice a n c] (H1 l)).follow (rl true [0, 1, 1, 5, 2, 1, 1, 1, 4]) = some (conj [!r.bad, i.op != 22, i.op != 23], .bool true) := by kernel_rfl
theorem eC1 (i : Ins) (r : Rg) (a : Option Addr) (n c : Nat) (l : List Value) : (Vm.runT Try.prog (hkP Try.prog) (tabK TO) 20 3 [tIns.enc ⟨22, i.a, i.b, i.c, i.imm⟩, tR.enc r, .slice a n c] (H1 l)).follow (rl true [0, 1, 1, 12, 1, 1, 1]) = some (conj [!r.bad, !Ins.valid ⟨22, i.a, i.b, i.c, i.imm⟩], .bool true) := by kernel_rfl
theorem eD1 (i : Ins) (r : Rg) (a : Option Addr) (n c : Nat) (l : List Value) : (Vm.runT Try.prog (hkP Try.prog) (tabK TO) 20 3 [tIns.enc ⟨23, i.a, i.b, i.c, i.imm⟩, tR.enc r, .slice a n c] (H1 l)).follow (rl true [0, 1, 1, 5, 2, 1, 1, 4, 1, 1, 1]) = some (conj [!r.bad, !Ins.valid ⟨23, i.a, i.b, i.c, i.imm⟩], .bool true) := by kernel_rfl
theorem fin22_0 (a b cc d : Int) (r : Rg) (hr : r.Rng) (ho : r.Ok) (hv : Ins.valid ⟨22, a, b, cc, d⟩ = true) : (Vm.runT Try.prog (hkP Try.prog) (tabK TO) 20 3 [tIns.enc ⟨22, a, b, cc, d⟩, tR.enc r, .slice none 0 0] heap0).eval = some (.bool true) := by
  have hop : (Ins.mk 22 a b cc d).op = 22 ∨ (Ins.mk 22 a b cc d).op = 23 := by simp
  rw [follow_eval (o22_nil ⟨22, a, b, cc, d⟩ r) (outC_all (by omega) hr ho hv hop), (endO_all hr ho hv hop).2]
theorem fin22_2 (a b cc d : Int) (r : Rg) (hr : r.Rng) (ho : r.Ok) (hv : Ins.valid ⟨22, a, b, cc, d⟩ = true) (off c : Nat) : (Vm.runT Try.prog (hkP Try.prog) (tabK TO) 20 3 [tIns.enc ⟨22, a, b, cc, d⟩, tR.enc r, .slice (some ⟨0, off, none⟩) 0 c] (H1 [])).eval = some (.bool true) := by
  have hop : (Ins.mk 22 a b cc d).op = 22 ∨ (Ins.mk 22 a b cc d).op = 23 := by simp
  rw [follow_eval (o22_0 ⟨22, a, b, cc, d⟩ r off c) (outC_all (by omega) hr ho hv hop), (endO_all hr ho hv hop).2]
theorem fin22_1 (a b cc d : Int) (r : Rg) (hr : r.Rng) (ho : r.Ok) (hv : Ins.valid ⟨22, a, b, cc, d⟩ = true) (n c : Nat) (xs : List Int) (hx : xs.length = min n 16) :
    (Vm.runT Try.prog (hkP Try.prog) (tabK TO) 20 3 [tIns.enc ⟨22, a, b, cc, d⟩, tR.enc r, .slice (some ⟨0, 0, none⟩) n c] (H1 (xs.map (Value.int .i32)))).eval = some (.bool true) := by
  have hop : (Ins.mk 22 a b cc d).op = 22 ∨ (Ins.mk 22 a b cc d).op = 23 := by simp
  by_cases hn : 16 ≤ n
  · have hx : xs.length = 16 := by omega
    match xs, hx with
    | [x0, x1, x2, x3, x4, x5, x6, x7, x8, x9, x10, x11, x12, x13, x14, x15], _ =>
      exact (follow_eval (o22_16 ⟨22, a, b, cc, d⟩ r n c x0 x1 x2 x3 x4 x5 x6 x7 x8 x9 x10 x11 x12 x13 x14 x15) (outL_all hn hr ho hv hop)).trans (congrArg some (endO_all hr ho hv hop).2)
  · match n, hn, hx with
    | 0, _, hx =>
      have hx : xs.length = 0 := by omega
      match xs, hx with
      | [], _ => exact (follow_eval (o22_0 ⟨22, a, b, cc, d⟩ r 0 c) (outC_all (by omega) hr ho hv hop)).trans (congrArg some (endO_all hr ho hv hop).2)
    | 1, _, hx =>
      have hx : xs.length = 1 := by omega
      match xs, hx with
      | [x0], _ => exact (follow_eval (o22_1 ⟨22, a, b, cc, d⟩ r c x0) (outC_all (by omega) hr ho hv hop)).trans (congrArg some (endO_all hr ho hv hop).2)
    | 2, _, hx =>
      have hx : xs.length = 2 := by omega
      match xs, hx with
      | [x0, x1], _ => exact (follow_eval (o22_2 ⟨22, a, b, cc, d⟩ r c x0 x1) (outC_all (by omega) hr ho hv hop)).trans (congrArg some (endO_all hr ho hv hop).2)
    | 3, _, hx =>
      have hx : xs.length = 3 := by omega
      match xs, hx with
      | [x0, x1, x2], _ => exact (follow_eval (o22_3 ⟨22, a, b, cc, d⟩ r c x0 x1 x2) (outC_all (by omega) hr ho hv hop)).trans (congrArg some (endO_all hr ho hv hop).2)
    | 4, _, hx =>
      have hx : xs.length = 4 := by omega
      match xs, hx with
      | [x0, x1, x2, x3], _ => exact (follow_eval (o22_4 ⟨22, a, b, cc, d⟩ r c x0 x1 x2 x3) (outC_all (by omega) hr ho hv hop)).trans (congrArg some (endO_all hr ho hv hop).2)
    | 5, _, hx =>
      have hx : xs.length = 5 := by omega
      match xs, hx with
      | [x0, x1, x2, x3, x4], _ => exact (follow_eval (o22_5 ⟨22, a, b, cc, d⟩ r c x0 x1 x2 x3 x4) (outC_all (by omega) hr ho hv hop)).trans (congrArg some (endO_all hr ho hv hop).2)
    | 6, _, hx =>
      have hx : xs.length = 6 := by omega
      match xs, hx with
      | [x0, x1, x2, x3, x4, x5], _ => exact (follow_eval (o22_6 ⟨22, a, b, cc, d⟩ r c x0 x1 x2 x3 x4 x5) (outC_all (by omega) hr ho hv hop)).trans (congrArg some (endO_all hr ho hv hop).2)
    | 7, _, hx =>
      have hx : xs.length = 7 := by omega
      match xs, hx with
      | [x0, x1, x2, x3, x4, x5, x6], _ => exact (follow_eval (o22_7 ⟨22, a, b, cc, d⟩ r c x0 x1 x2 x3 x4 x5 x6) (outC_all (by omega) hr ho hv hop)).trans (congrArg some (endO_all hr ho hv hop).2)
    | 8, _, hx =>
      have hx : xs.length = 8 := by omega
      match xs, hx with
      | [x0, x1, x2, x3, x4, x5, x6, x7], _ => exact (follow_eval (o22_8 ⟨22, a, b, cc, d⟩ r c x0 x1 x2 x3 x4 x5 x6 x7) (outC_all (by omega) hr ho hv hop)).trans (congrArg some (endO_all hr ho hv hop).2)
    | 9, _, hx =>
      have hx : xs.length = 9 := by omega
      match xs, hx with
      | [x0, x1, x2, x3, x4, x5, x6, x7, x8], _ => exact (follow_eval (o22_9 ⟨22, a, b, cc, d⟩ r c x0 x1 x2 x3 x4 x5 x6 x7 x8) (outC_all (by omega) hr ho hv hop)).trans (congrArg some (endO_all hr ho hv hop).2)
    | 10, _, hx =>
      have hx : xs.length = 10 := by omega
      match xs, hx with
      | [x0, x1, x2, x3, x4, x5, x6, x7, x8, x9], _ => exact (follow_eval (o22_10 ⟨22, a, b, cc, d⟩ r c x0 x1 x2 x3 x4 x5 x6 x7 x8 x9) (outC_all (by omega) hr ho hv hop)).trans (congrArg some (endO_all hr ho hv hop).2)
    | 11, _, hx =>
      have hx : xs.length = 11 := by omega
      match xs, hx with
      | [x0, x1, x2, x3, x4, x5, x6, x7, x8, x9, x10], _ => exact (follow_eval (o22_11 ⟨22, a, b, cc, d⟩ r c x0 x1 x2 x3 x4 x5 x6 x7 x8 x9 x10) (outC_all (by omega) hr ho hv hop)).trans (congrArg some (endO_all hr ho hv hop).2)
    | 12, _, hx =>
      have hx : xs.length = 12 := by omega
      match xs, hx with
      | [x0, x1, x2, x3, x4, x5, x6, x7, x8, x9, x10, x11], _ => exact (follow_eval (o22_12 ⟨22, a, b, cc, d⟩ r c x0 x1 x2 x3 x4 x5 x6 x7 x8 x9 x10 x11) (outC_all (by omega) hr ho hv hop)).trans (congrArg some (endO_all hr ho hv hop).2)
    | 13, _, hx =>
      have hx : xs.length = 13 := by omega
      match xs, hx with
      | [x0, x1, x2, x3, x4, x5, x6, x7, x8, x9, x10, x11, x12], _ => exact (follow_eval (o22_13 ⟨22, a, b, cc, d⟩ r c x0 x1 x2 x3 x4 x5 x6 x7 x8 x9 x10 x11 x12) (outC_all (by omega) hr ho hv hop)).trans (congrArg some (endO_all hr ho hv hop).2)
    | 14, _, hx =>
      have hx : xs.length = 14 := by omega
      match xs, hx with
      | [x0, x1, x2, x3, x4, x5, x6, x7, x8, x9, x10, x11, x12, x13], _ => exact (follow_eval (o22_14 ⟨22, a, b, cc, d⟩ r c x0 x1 x2 x3 x4 x5 x6 x7 x8 x9 x10 x11 x12 x13) (outC_all (by omega) hr ho hv hop)).trans (congrArg some (endO_all hr ho hv hop).2)
    | 15, _, hx =>
      have hx : xs.length = 15 := by omega
      match xs, hx with
      | [x0, x1, x2, x3, x4, x5, x6, x7, x8, x9, x10, x11, x12, x13, x14], _ => exact (follow_eval (o22_15 ⟨22, a, b, cc, d⟩ r c x0 x1 x2 x3 x4 x5 x6 x7 x8 x9 x10 x11 x12 x13 x14) (outC_all (by omega) hr ho hv hop)).trans (congrArg some (endO_all hr ho hv hop).2)
    | n + 16, hn, _ => exact absurd (by omega) hn
theorem fin23_0 (a b cc d : Int) (r : Rg) (hr : r.Rng) (ho : r.Ok) (hv : Ins.valid ⟨23, a, b, cc, d⟩ = true) : (Vm.runT Try.prog (hkP Try.prog) (tabK TO) 20 3 [tIns.enc ⟨23, a, b, cc, d⟩, tR.enc r, .slice none 0 0] heap0).eval = some (.bool true) := by
  have hop : (Ins.mk 23 a b cc d).op = 22 ∨ (Ins.mk 23 a b cc d).op = 23 := by simp
  rw [follow_eval (o23_nil ⟨23, a, b, cc, d⟩ r) (outC_all (by omega) hr ho hv hop), (endO_all hr ho hv hop).2]
theorem fin23_2 (a b cc d : Int) (r : Rg) (hr : r.Rng) (ho : r.Ok) (hv : Ins.valid ⟨23, a, b, cc, d⟩ = true) (off c : Nat) : (Vm.runT Try.prog (hkP Try.prog) (tabK TO) 20 3 [tIns.enc ⟨23, a, b, cc, d⟩, tR.enc r, .slice (some ⟨0, off, none⟩) 0 c] (H1 [])).eval = some (.bool true) := by
  have hop : (Ins.mk 23 a b cc d).op = 22 ∨ (Ins.mk 23 a b cc d).op = 23 := by simp
  rw [follow_eval (o23_0 ⟨23, a, b, cc, d⟩ r off c) (outC_all (by omega) hr ho hv hop), (endO_all hr ho hv hop).2]
theorem fin23_1 (a b cc d : Int) (r : Rg) (hr : r.Rng) (ho : r.Ok) (hv : Ins.valid ⟨23, a, b, cc, d⟩ = true) (n c : Nat) (xs : List Int) (hx : xs.length = min n 16) :
    (Vm.runT Try.prog (hkP Try.prog) (tabK TO) 20 3 [tIns.enc ⟨23, a, b, cc, d⟩, tR.enc r, .slice (some ⟨0, 0, none⟩) n c] (H1 (xs.map (Value.int .i32)))).eval = some (.bool true) := by
  have hop : (Ins.mk 23 a b cc d).op = 22 ∨ (Ins.mk 23 a b cc d).op = 23 := by simp
  by_cases hn : 16 ≤ n
  · have hx : xs.length = 16 := by omega
    match xs, hx with
    | [x0, x1, x2, x3, x4, x5, x6, x7, x8, x9, x10, x11, x12, x13, x14, x15], _ =>
      exact (follow_eval (o23_16 ⟨23, a, b, cc, d⟩ r n c x0 x1 x2 x3 x4 x5 x6 x7 x8 x9 x10 x11 x12 x13 x14 x15) (outL_all hn hr ho hv hop)).trans (congrArg some (endO_all hr ho hv hop).2)
  · match n, hn, hx with
    | 0, _, hx =>
      have hx : xs.length = 0 := by omega
      match xs, hx with
      | [], _ => exact (follow_eval (o23_0 ⟨23, a, b, cc, d⟩ r 0 c) (outC_all (by omega) hr ho hv hop)).trans (congrArg some (endO_all hr ho hv hop).2)
    | 1, _, hx =>
      have hx : xs.length = 1 := by omega
      match xs, hx with
      | [x0], _ => exact (follow_eval (o23_1 ⟨23, a, b, cc, d⟩ r c x0) (outC_all (by omega) hr ho hv hop)).trans (congrArg some (endO_all hr ho hv hop).2)
    | 2, _, hx =>
      have hx : xs.length = 2 := by omega
      match xs, hx with
      | [x0, x1], _ => exact (follow_eval (o23_2 ⟨23, a, b, cc, d⟩ r c x0 x1) (outC_all (by omega) hr ho hv hop)).trans (congrArg some (endO_all hr ho hv hop).2)
    | 3, _, hx =>
      have hx : xs.length = 3 := by omega
      match xs, hx with
      | [x0, x1, x2], _ => exact (follow_eval (o23_3 ⟨23, a, b, cc, d⟩ r c x0 x1 x2) (outC_all (by omega) hr ho hv hop)).trans (congrArg some (endO_all hr ho hv hop).2)
    | 4, _, hx =>
      have hx : xs.length = 4 := by omega
      match xs, hx with
      | [x0, x1, x2, x3], _ => exact (follow_eval (o23_4 ⟨23, a, b, cc, d⟩ r c x0 x1 x2 x3) (outC_all (by omega) hr ho hv hop)).trans (congrArg some (endO_all hr ho hv hop).2)
    | 5, _, hx =>
      have hx : xs.length = 5 := by omega
      match xs, hx with
      | [x0, x1, x2, x3, x4], _ => exact (follow_eval (o23_5 ⟨23, a, b, cc, d⟩ r c x0 x1 x2 x3 x4) (outC_all (by omega) hr ho hv hop)).trans (congrArg some (endO_all hr ho hv hop).2)
    | 6, _, hx =>
      have hx : xs.length = 6 := by omega
      match xs, hx with
      | [x0, x1, x2, x3, x4, x5], _ => exact (follow_eval (o23_6 ⟨23, a, b, cc, d⟩ r c x0 x1 x2 x3 x4 x5) (outC_all (by omega) hr ho hv hop)).trans (congrArg some (endO_all hr ho hv hop).2)
    | 7, _, hx =>
      have hx : xs.length = 7 := by omega
      match xs, hx with
      | [x0, x1, x2, x3, x4, x5, x6], _ => exact (follow_eval (o23_7 ⟨23, a, b, cc, d⟩ r c x0 x1 x2 x3 x4 x5 x6) (outC_all (by omega) hr ho hv hop)).trans (congrArg some (endO_all hr ho hv hop).2)
    | 8, _, hx =>
      have hx : xs.length = 8 := by omega
      match xs, hx with
      | [x0, x1, x2, x3, x4, x5, x6, x7], _ => exact (follow_eval (o23_8 ⟨23, a, b, cc, d⟩ r c x0 x1 x2 x3 x4 x5 x6 x7) (outC_all (by omega) hr ho hv hop)).trans (congrArg some (endO_all hr ho hv hop).2)
    | 9, _, hx =>
      have hx : xs.length = 9 := by omega
      match xs, hx with
      | [x0, x1, x2, x3, x4, x5, x6, x7, x8], _ => exact (follow_eval (o23_9 ⟨23, a, b, cc, d⟩ r c x0 x1 x2 x3 x4 x5 x6 x7 x8) (outC_all (by omega) hr ho hv hop)).trans (congrArg some (endO_all hr ho hv hop).2)
    | 10, _, hx =>
      have hx : xs.length = 10 := by omega
      match xs, hx with
      | [x0, x1, x2, x3, x4, x5, x6, x7, x8, x9], _ => exact (follow_eval (o23_10 ⟨23, a, b, cc, d⟩ r c x0 x1 x2 x3 x4 x5 x6 x7 x8 x9) (outC_all (by omega) hr ho hv hop)).trans (congrArg some (endO_all hr ho hv hop).2)
    | 11, _, hx =>
      have hx : xs.length = 11 := by omega
      match xs, hx with
      | [x0, x1, x2, x3, x4, x5, x6, x7, x8, x9, x10], _ => exact (follow_eval (o23_11 ⟨23, a, b, cc, d⟩ r c x0 x1 x2 x3 x4 x5 x6 x7 x8 x9 x10) (outC_all (by omega) hr ho hv hop)).trans (congrArg some (endO_all hr ho hv hop).2)
    | 12, _, hx =>
      have hx : xs.length = 12 := by omega
      match xs, hx with
      | [x0, x1, x2, x3, x4, x5, x6, x7, x8, x9, x10, x11], _ => exact (follow_eval (o23_12 ⟨23, a, b, cc, d⟩ r c x0 x1 x2 x3 x4 x5 x6 x7 x8 x9 x10 x11) (outC_all (by omega) hr ho hv hop)).trans (congrArg some (endO_all hr ho hv hop).2)
    | 13, _, hx =>
      have hx : xs.length = 13 := by omega
      match xs, hx with
      | [x0, x1, x2, x3, x4, x5, x6, x7, x8, x9, x10, x11, x12], _ => exact (follow_eval (o23_13 ⟨23, a, b, cc, d⟩ r c x0 x1 x2 x3 x4 x5 x6 x7 x8 x9 x10 x11 x12) (outC_all (by omega) hr ho hv hop)).trans (congrArg some (endO_all hr ho hv hop).2)
    | 14, _, hx =>
      have hx : xs.length = 14 := by omega
      match xs, hx with
      | [x0, x1, x2, x3, x4, x5, x6, x7, x8, x9, x10, x11, x12, x13], _ => exact (follow_eval (o23_14 ⟨23, a, b, cc, d⟩ r c x0 x1 x2 x3 x4 x5 x6 x7 x8 x9 x10 x11 x12 x13) (outC_all (by omega) hr ho hv hop)).trans (congrArg some (endO_all hr ho hv hop).2)
    | 15, _, hx =>
      have hx : xs.length = 15 := by omega
      match xs, hx with
      | [x0, x1, x2, x3, x4, x5, x6, x7, x8, x9, x10, x11, x12, x13, x14], _ => exact (follow_eval (o23_15 ⟨23, a, b, cc, d⟩ r c x0 x1 x2 x3 x4 x5 x6 x7 x8 x9 x10 x11 x12 x13 x14) (outC_all (by omega) hr ho hv hop)).trans (congrArg some (endO_all hr ho hv hop).2)
    | n + 16, hn, _ => exact absurd (by omega) hn
theorem run0 (i : Ins) (r : Rg) (hr : r.Rng) : (Vm.runT Try.prog (hkP Try.prog) (tabK TO) 20 3 [tIns.enc i, tR.enc r, .slice none 0 0] heap0).eval = some (.bool true) := by
  cases hb : r.bad with
  | true => exact follow_eval (eA0 i r none 0 0) (by simp [conj, hb])
  | false =>
    have ho := Rg.ok_of_bad hb
    by_cases h22 : i.op = 22
    · obtain ⟨op, a, b, cc, d⟩ := i
      simp only at h22
      subst h22
      cases hv : Ins.valid ⟨22, a, b, cc, d⟩ with
      | false => exact follow_eval (eC0 ⟨22, a, b, cc, d⟩ r none 0 0) (by simp [conj, hb, hv])
      | true => exact fin22_0 a b cc d r hr ho hv
    · by_cases h23 : i.op = 23
      · obtain ⟨op, a, b, cc, d⟩ := i
        simp only at h23
        subst h23
        cases hv : Ins.valid ⟨23, a, b, cc, d⟩ with
        | false => exact follow_eval (eD0 ⟨23, a, b, cc, d⟩ r none 0 0) (by simp [conj, hb, hv])
        | true => exact fin23_0 a b cc d r hr ho hv
      · exact follow_eval (eB0 i r none 0 0) (by simp [conj, hb, h22, h23])
theorem run2 (i : Ins) (r : Rg) (hr : r.Rng) (off c : Nat) : (Vm.runT Try.prog (hkP Try.prog) (tabK TO) 20 3 [tIns.enc i, tR.enc r, .slice (some ⟨0, off, none⟩) 0 c] (H1 [])).eval = some (.bool true) := by
  cases hb : r.bad with
  | true => exact follow_eval (eA1 i r (some ⟨0, off, none⟩) 0 c _) (by simp [conj, hb])
  | false =>
    have ho := Rg.ok_of_bad hb
    by_cases h22 : i.op = 22
    · obtain ⟨op, a, b, cc, d⟩ := i
      simp only at h22
      subst h22
      cases hv : Ins.valid ⟨22, a, b, cc, d⟩ with
      | false => exact follow_eval (eC1 ⟨22, a, b, cc, d⟩ r (some ⟨0, off, none⟩) 0 c _) (by simp [conj, hb, hv])
      | true => exact fin22_2 a b cc d r hr ho hv off c
    · by_cases h23 : i.op = 23
      · obtain ⟨op, a, b, cc, d⟩ := i
        simp only at h23
        subst h23
        cases hv : Ins.valid ⟨23, a, b, cc, d⟩ with
        | false => exact follow_eval (eD1 ⟨23, a, b, cc, d⟩ r (some ⟨0, off, none⟩) 0 c _) (by simp [conj, hb, hv])
        | true => exact fin23_2 a b cc d r hr ho hv off c
      · exact follow_eval (eB1 i r (some ⟨0, off, none⟩) 0 c _) (by simp [conj, hb, h22, h23])
theorem run1 (i : Ins) (r : Rg) (hr : r.Rng) (n c : Nat) (xs : List Int) (hx : xs.length = min n 16) : (Vm.runT Try.prog (hkP Try.prog) (tabK TO) 20 3 [tIns.enc i, tR.enc r, .slice (some ⟨0, 0, none⟩) n c] (H1 (xs.map (Value.int .i32)))).eval = some (.bool true) := by
  cases hb : r.bad with
  | true => exact follow_eval (eA1 i r (some ⟨0, 0, none⟩) n c _) (by simp [conj, hb])
  | false =>
    have ho := Rg.ok_of_bad hb
    by_cases h22 : i.op = 22
    · obtain ⟨op, a, b, cc, d⟩ := i
      simp only at h22
      subst h22
      cases hv : Ins.valid ⟨22, a, b, cc, d⟩ with
      | false => exact follow_eval (eC1 ⟨22, a, b, cc, d⟩ r (some ⟨0, 0, none⟩) n c _) (by simp [conj, hb, hv])
      | true => exact fin22_1 a b cc d r hr ho hv n c xs hx
    · by_cases h23 : i.op = 23
      · obtain ⟨op, a, b, cc, d⟩ := i
        simp only at h23
        subst h23
        cases hv : Ins.valid ⟨23, a, b, cc, d⟩ with
        | false => exact follow_eval (eD1 ⟨23, a, b, cc, d⟩ r (some ⟨0, 0, none⟩) n c _) (by simp [conj, hb, hv])
        | true => exact fin23_1 a b cc d r hr ho hv n c xs hx
      · exact follow_eval (eB1 i r (some ⟨0, 0, none⟩) n c _) (by simp [conj, hb, h22, h23])
end Go.Proofs.Ytdjippdfohlpkaa
