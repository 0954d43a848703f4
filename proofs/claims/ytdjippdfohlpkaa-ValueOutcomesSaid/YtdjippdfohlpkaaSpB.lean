/- What isa.Valid computes, in plain Lean. -/
import Derived.Test.YtdjippdfohlpkaaSpA
namespace Go.Vm

structure Ins where
  op : Int
  a : Int
  b : Int
  c : Int
  imm : Int
  deriving DecidableEq

def tIns : Ty Ins where
  enc i := .agg #[.int .u8 i.op, .int .i64 i.a, .int .i64 i.b, .int .i64 i.c, .int .i64 i.imm]
  dec
    | .agg ⟨.int .u8 op :: r⟩ => (match allK .i64 r && Nat.beq r.length 4 with
        | true => some ⟨op, selInt r 0, selInt r 1, selInt r 2, selInt r 3⟩
        | false => none)
    | _ => none
  inv {v a} h := by
    split at h
    · rename_i op r
      split at h
      · rename_i hb
        simp only [Bool.and_eq_true] at hb
        obtain ⟨hk, hl⟩ := hb
        have hl := Nat.eq_of_beq_eq_true hl
        cases h
        have key : r = [.int .i64 (selInt r 0), .int .i64 (selInt r 1), .int .i64 (selInt r 2), .int .i64 (selInt r 3)] := by
          have := ints_eq (k := .i64) (allK_spec hk) 4 0 (by omega)
          simpa [ints, List.take_of_length_le (Nat.le_of_eq hl)] using this
        congr 1
        apply Array.toList_inj.1
        show Value.int .u8 op :: r = _
        rw [key]
        rfl
      · cases h
    · cases h
  fl _ := rfl
end Go.Vm
