/- Small laws of words and strings that the later texts share. -/
import Derived.Test.YtaeafnpldlcdnaaDoorK2
set_option linter.unusedVariables false
set_option linter.unusedSimpArgs false
namespace Go.Proofs.YtaeafnpldlcdnaaDoor.K
open Go.RowKit
theorem w64 (x : Int) (h1 : -9223372036854775808 ≤ x) (h2 : x ≤ 9223372036854775807) : wrap64 x = x := by unfold wrap64; omega
theorem w64i (x : Int) (h1 : -9223372036854775808 ≤ x) (h2 : x ≤ 9223372036854775807) : IntKind.i64.wrap x = x := IntWalk.i64_in _ ⟨h1, h2⟩
theorem str_add (l m : List UInt8) (h : l.length + m.length ≤ 9223372036854775807) : Op.stringOp .add (S l) (S m) = pure (.string (S (l ++ m))) := by
  unfold Op.stringOp
  rw [S_append, S_size, S_size]
  rw [if_neg (by have : IntKind.i64.max = 9223372036854775807 := rfl; omega)]
theorem and15 (x : Int) : ∃ k : Nat, k ≤ 15 ∧ Go.bits .and .i64 x 15 = (k : Int) := by
  refine ⟨(BitVec.ofInt 64 x &&& BitVec.ofInt 64 15).toNat, ?_, ?_⟩
  · rw [BitVec.toNat_and]
    exact Nat.le_trans Nat.and_le_right (by decide)
  · show IntKind.i64.wrap (((BitVec.ofInt 64 x &&& BitVec.ofInt 64 15).toNat : Nat) : Int) = _
    have h : (BitVec.ofInt 64 x &&& BitVec.ofInt 64 15).toNat ≤ 15 := by
      rw [BitVec.toNat_and]
      exact Nat.le_trans Nat.and_le_right (by decide)
    exact w64i _ (by omega) (by omega)
/-- Bytes that are made: one rule for every world. -/
theorem make_rule {P : Program} (m : Nat) (t e : TypeId) (ht : P.underlying t = some (.slice e)) (hinfo : (P.info? e).map (fun i => (i.zero, i.size, i.bytes)) = some (some (.int .u8 0), 1, 1)) (hm : m ≤ 281474976710656) :
    ∃ cs : Array Value, (∀ W : World, (Instr.makeSlice t (.int .i64 (m : Int)) (.int .i64 (m : Int))).run P W = .ok (.slice (some ⟨W.heap.size, 0, none⟩) m m) (W.alloc (.cells cs e))) ∧ (∀ W : World, Own (W.alloc (.cells cs e)) e 1 (.slice (some ⟨W.heap.size, 0, none⟩) m m) m (B (List.replicate m 0)) (some W.heap.size)) := by
  refine ⟨madeCells #[.int .u8 0] m, fun W => run_make_row' (P := P) t e (.int .u8 0) 1 ht hinfo rfl .i64 .i64 m (by omega) (by omega) W, fun W => ?_⟩
  have := Own.lit W e 1 m (madeCells #[.int .u8 0] m) (by simp only [maxLen]; omega) (by simp [size_madeCells])
  have hl : (madeCells #[Value.int .u8 0] m).toList = B (List.replicate m 0) := by
    apply List.ext_getElem
    · simp [B, madeCells]
    · intro i h1 h2
      simp [B, madeCells, Nat.mod_one]
  rwa [hl] at this
end Go.Proofs.YtaeafnpldlcdnaaDoor.K
