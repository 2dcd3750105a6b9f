/- Small laws on words. -/
import Derived.Test.YtaeafnpldlcdnaaDoorK7
import Derived.Test.YtaeafnpldlcdnaaDoorK3
set_option linter.unusedVariables false
set_option linter.unusedSimpArgs false
namespace Go.Proofs.YtaeafnpldlcdnaaDoor.K
open Go.RowKit
/-- x & m, for a small m: at most m. -/
theorem and_le (x : Int) (m : Nat) (hm : m < 2 ^ 62) : ∃ k : Nat, k ≤ m ∧ Go.bits .and .i64 x (m : Int) = (k : Int) := by
  have h : (BitVec.ofInt 64 x &&& BitVec.ofInt 64 (m : Int)).toNat ≤ m := by
    rw [BitVec.toNat_and]
    refine Nat.le_trans Nat.and_le_right ?_
    rw [BitVec.ofInt_natCast, BitVec.toNat_ofNat]
    exact Nat.mod_le _ _
  refine ⟨(BitVec.ofInt 64 x &&& BitVec.ofInt 64 (m : Int)).toNat, h, ?_⟩
  show IntKind.i64.wrap (((BitVec.ofInt 64 x &&& BitVec.ofInt 64 (m : Int)).toNat : Nat) : Int) = _
  exact w64i _ (by omega) (by omega)
end Go.Proofs.YtaeafnpldlcdnaaDoor.K
