/- Frames that are handed in, as they lie in memory; a beginning of frames' bytes. -/
import Derived.Test.YtahbcjgbhfkhbaaFeedLaws
import Derived.Test.YtahbcjgbhfkhbaaFrameLaws
set_option linter.unusedVariables false
set_option linter.unusedSimpArgs false
namespace Go.Proofs.Ytahbcjgbhfkhbaa.FdTwo
open Go.RowKit K Crc Sm Fr FrMath LGet FdMath Fee FdAll FdLaws

theorem row_of {w : World} {A : Option Addr} {L : List FRec} (h : ∀ i (hi : i < L.length), ∃ ad, A = some ad ∧ w.cell? (ad.add (i * 2)) = some (.int .u8 (L[i].kind.toNat : Int)) ∧ w.cell? (ad.add (i * 2 + 1)) = some (.slice L[i].A L[i].body.length L[i].c)) : Row w A (cellsL L) := by
  intro j u hj
  have hlt : j < (cellsL L).length := by
    rcases Nat.lt_or_ge j (cellsL L).length with h | h
    · exact h
    · rw [List.getElem?_eq_none h] at hj; cases hj
  rw [cellsL_length] at hlt
  have hi : j / 2 < L.length := by omega
  obtain ⟨ad, e, h0, h1⟩ := h (j / 2) hi
  obtain ⟨g0, g1⟩ := cellsL_at L (j / 2) hi
  refine ⟨ad, e, ?_⟩
  rcases Nat.mod_two_eq_zero_or_one j with hm | hm
  · have ej : j = j / 2 * 2 := by omega
    rw [ej, g0] at hj
    rw [ej, h0]
    exact hj
  · have ej : j = j / 2 * 2 + 1 := by omega
    rw [ej, g1] at hj
    rw [ej, h1]
    exact hj
theorem frs_of {w : World} {A : Option Addr} {n c : Nat} {L : List (Int × List UInt8)} (h : RSlice (R2 (RInt .u8) RBytes) 2 w [.slice A n c] L) :
    ∃ LF : List FRec, LF.length = n ∧ Row w A (cellsL LF) ∧ Frs w (fun _ => True) LF ∧ n ≤ c ∧ c ≤ maxLen ∧ n ≤ 9223372036854775807 := by
  obtain ⟨A', c', he, hE, hc, hm, _⟩ := h
  simp only [List.cons.injEq, Value.slice.injEq, and_true] at he
  obtain ⟨rfl, rfl, rfl⟩ := he
  obtain ⟨LF, hl, hp⟩ := list_of (n := L.length) (p := fun i (x : FRec) => (∃ ad, A = some ad ∧ w.cell? (ad.add (i * 2)) = some (.int .u8 (x.kind.toNat : Int)) ∧ w.cell? (ad.add (i * 2 + 1)) = some (.slice x.A x.body.length x.c)) ∧ Rd w x.A x.body.length x.body ∧ x.body.length ≤ x.c ∧ x.c ≤ maxLen) (fun i hi => by
    obtain ⟨ad, cs, e, hlen, ⟨c0, c1, rfl, h0, h1⟩, hcell⟩ := hE.at_ i hi
    obtain ⟨x, hx⟩ : ∃ x, x = L[i] := ⟨_, rfl⟩
    rw [← hx] at h0 h1
    clear hx
    obtain ⟨k, l⟩ := x
    obtain ⟨h0, h0w⟩ := h0
    simp only at h0 h0w
    obtain ⟨k8, rfl⟩ := FrLaws.u8_exists k h0w
    obtain ⟨a1, k1, h1, hrd, hk1, hk2, _⟩ := h1
    simp only [List.cons.injEq, and_true] at h0 h1
    subst h0; subst h1
    exact ⟨⟨k8, a1, k1, l⟩, ⟨ad, e, hcell 0 _ rfl, hcell 1 _ rfl⟩, hrd, hk1, hk2⟩)
  refine ⟨LF, hl, row_of (fun i hi => (hp i hi).1), fun x hx => ?_, hc, hm, hE.lim⟩
  obtain ⟨i, hi, rfl⟩ := List.getElem_of_mem hx
  exact ⟨(hp i hi).2.1, (hp i hi).2.2.1, (hp i hi).2.2.2, fun _ _ => trivial⟩
/-- A beginning of bytes that are not broken isn't. -/
theorem all_prefix (b : List UInt8) (k : Nat) (h : (all b).2.2 = 0) : (all (b.take k)).2.2 = 0 := by
  by_cases h0 : (all (b.take k)).2.2 = 0
  · exact h0
  · have := all_dead (b.take k) (b.drop k) h0
    rw [List.take_append_drop] at this
    rw [← this]
    exact h
theorem joined_next (L : List FRec) (i : Nat) (h : i < L.length) : joined (abs (L.take (i + 1))) = joined (abs (L.take i)) ++ fbytes L[i].kind L[i].body := by
  rw [List.take_succ_eq_append_getElem h, abs_append]
  simp [joined, abs]
theorem all_of (L : List FRec) (h : ∀ x ∈ L, x.body.length ≤ 100) (c : List UInt8) : all (joined (abs L) ++ c) = (abs L ++ (all c).1, (all c).2) :=
  all_joined (abs L) (fun x hx => by
    obtain ⟨y, hy, rfl⟩ := List.mem_map.1 hx
    have := h y hy
    show y.body.length ≤ 2048
    omega) c
theorem and63 (x : Int) : ∃ k : Nat, k ≤ 63 ∧ Go.bits .and .i64 x 63 = (k : Int) := by
  have h : (BitVec.ofInt 64 x &&& BitVec.ofInt 64 63).toNat ≤ 63 := by
    rw [BitVec.toNat_and]
    exact Nat.le_trans Nat.and_le_right (by decide)
  refine ⟨(BitVec.ofInt 64 x &&& BitVec.ofInt 64 63).toNat, h, ?_⟩
  show IntKind.i64.wrap (((BitVec.ofInt 64 x &&& BitVec.ofInt 64 63).toNat : Nat) : Int) = _
  exact w64i _ (by omega) (by omega)
end Go.Proofs.Ytahbcjgbhfkhbaa.FdTwo
