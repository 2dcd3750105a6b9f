/- Bits that are turned, one by one, and what that does to the sum: plain mathematics. -/
import Derived.Test.YtahbcjgbhfkhbaaCrc
import Derived.Test.YtahbcjgbhfkhbaaSum
namespace Go.Proofs.Ytahbcjgbhfkhbaa.Flip
open Go.RowKit Crc Sm
def mask (r : Nat) : UInt8 := UInt8.ofNat (128 / 2 ^ r)
def flp (l : List UInt8) (p : Nat) : List UInt8 := l.set (p / 8) (l.getD (p / 8) 0 ^^^ mask (p % 8))
theorem flip_length (l : List UInt8) (p : Nat) : (flp l p).length = l.length := by simp [flp]
theorem mask_bit : ∀ r, r < 8 → ∀ i, i < 8 → bitOf (mask r) i = decide (i = r) := by decide
theorem mask_int : ∀ r : Nat, r < 8 → (128 : Int) / 2 ^ r = ((mask r).toNat : Int) := by decide
theorem bitOf_xor (a b : UInt8) (i : Nat) : bitOf (a ^^^ b) i = (bitOf a i ^^ bitOf b i) := by simp [bitOf]
theorem bit_flip (l : List UInt8) (p q : Nat) (hp : p < 8 * l.length) : bitAt (flp l p) q = (bitAt l q ^^ decide (q = p)) := by
  unfold bitAt flp
  by_cases e : q / 8 = p / 8
  · rw [e]
    have : (l.set (p / 8) (l.getD (p / 8) 0 ^^^ mask (p % 8))).getD (p / 8) 0 = l.getD (p / 8) 0 ^^^ mask (p % 8) := by
      rw [List.getD_eq_getElem?_getD, List.getElem?_set_self (by omega)]
      rfl
    rw [this, bitOf_xor, mask_bit (p % 8) (by omega) (q % 8) (by omega)]
    congr 1
    rw [decide_eq_decide]
    omega
  · have : (l.set (p / 8) (l.getD (p / 8) 0 ^^^ mask (p % 8))).getD (q / 8) 0 = l.getD (q / 8) 0 := by
      simp only [List.getD_eq_getElem?_getD]
      rw [List.getElem?_set_ne (by omega)]
    rw [this]
    have : decide (q = p) = false := by rw [decide_eq_false_iff_not]; omega
    rw [this]
    simp
/-- What a store of the machine makes of a byte. -/
theorem xor8 (a b : UInt8) : Go.bits .xor .u8 (a.toNat : Int) (b.toNat : Int) = ((a ^^^ b).toNat : Int) := by
  show IntKind.u8.wrap (((BitVec.ofInt 8 (a.toNat : Int) ^^^ BitVec.ofInt 8 (b.toNat : Int)).toNat : Nat) : Int) = _
  have e : ∀ c : UInt8, BitVec.ofInt 8 (c.toNat : Int) = c.toBitVec := fun c => by
    apply BitVec.eq_of_toNat_eq
    have := c.toNat_lt
    simp
  rw [e, e]
  have h := (a ^^^ b).toNat_lt
  have : (a.toBitVec ^^^ b.toBitVec).toNat = (a ^^^ b).toNat := rfl
  rw [this]
  generalize (a ^^^ b).toNat = n at h
  simp only [IntKind.wrap, IntKind.bits, IntKind.signed]
  simp
  omega

/-! ### the law's loop -/
def turned (l : List UInt8) (tb : Nat → Bool) (p : Nat) : Nat → List UInt8
  | 0 => l
  | k + 1 => if tb k then flp (turned l tb p k) (p + k) else turned l tb p k
def someOf (tb : Nat → Bool) : Nat → Bool
  | 0 => false
  | k + 1 => someOf tb k || tb k
theorem turned_length (l : List UInt8) (tb : Nat → Bool) (p k : Nat) : (turned l tb p k).length = l.length := by
  induction k with
  | zero => rfl
  | succ k ih => rw [turned]; split <;> simp [flip_length, ih]
theorem bit_turned (l : List UInt8) (tb : Nat → Bool) (p k : Nat) (hk : p + k ≤ 8 * l.length) (q : Nat) :
    bitAt (turned l tb p k) q = (bitAt l q ^^ (decide (p ≤ q ∧ q < p + k) && tb (q - p))) := by
  induction k with
  | zero =>
    have : decide (p ≤ q ∧ q < p + 0) = false := by rw [decide_eq_false_iff_not]; omega
    rw [this]
    simp [turned]
  | succ k ih =>
    have ih := ih (by omega)
    rw [turned]
    by_cases e : q = p + k
    · subst e
      have h1 : decide (p ≤ p + k ∧ p + k < p + k) = false := by rw [decide_eq_false_iff_not]; omega
      have h2 : decide (p ≤ p + k ∧ p + k < p + (k + 1)) = true := by rw [decide_eq_true_eq]; omega
      rw [h1] at ih
      rw [h2, show p + k - p = k by omega]
      split
      · rename_i ht
        rw [bit_flip _ _ _ (by rw [turned_length]; omega), ih, ht]
        simp
      · rename_i ht
        have ht : tb k = false := by simpa using ht
        rw [ih, ht]
        simp
    · have h1 : decide (p ≤ q ∧ q < p + k) = decide (p ≤ q ∧ q < p + (k + 1)) := by rw [decide_eq_decide]; omega
      rw [h1] at ih
      split
      · rw [bit_flip _ _ _ (by rw [turned_length]; omega), ih]
        have : decide (q = p + k) = false := by rw [decide_eq_false_iff_not]; omega
        rw [this]
        simp
      · exact ih
theorem someOf_true (tb : Nat → Bool) (k : Nat) (h : someOf tb k = true) : ∃ j, j < k ∧ tb j = true := by
  induction k with
  | zero => simp [someOf] at h
  | succ k ih =>
    rw [someOf, Bool.or_eq_true] at h
    rcases h with h | h
    · obtain ⟨j, h1, h2⟩ := ih h
      exact ⟨j, by omega, h2⟩
    · exact ⟨k, by omega, h⟩
theorem turned_crc (s : BitVec 16) (l : List UInt8) (tb : Nat → Bool) (p k : Nat) (hk : p + k ≤ 8 * l.length) (h16 : k ≤ 16) (h : someOf tb k = true) : crc s (turned l tb p k) ≠ crc s l := by
  obtain ⟨j, hj, ht⟩ := someOf_true tb k h
  refine crc_burst s _ l (turned_length ..) (fun e => ?_) p (fun q hq => ?_)
  · have := bit_turned l tb p k hk (p + j)
    rw [e, show p + j - p = j by omega, ht] at this
    have h2 : decide (p ≤ p + j ∧ p + j < p + k) = true := by rw [decide_eq_true_eq]; omega
    rw [h2] at this
    simp at this
  · rw [bit_turned l tb p k hk q] at hq
    have : decide (p ≤ q ∧ q < p + k) = true := by
      cases hd : decide (p ≤ q ∧ q < p + k) with
      | true => rfl
      | false => rw [hd] at hq; simp at hq
    rw [decide_eq_true_eq] at this
    omega
theorem flip_crc (s : BitVec 16) (l : List UInt8) (p : Nat) (hp : p < 8 * l.length) : crc s (flp l p) ≠ crc s l := by
  have := turned_crc s l (fun _ => true) p 1 (by omega) (by omega) rfl
  exact this
theorem flip2_crc (s : BitVec 16) (l : List UInt8) (p q : Nat) (hp : p < 8 * l.length) (hq : q < 8 * l.length) (hne : q ≠ p) (hl : 8 * l.length ≤ 2400) : crc s (flp (flp l p) q) ≠ crc s l := by
  have hb : ∀ i, bitAt (flp (flp l p) q) i ≠ bitAt l i ↔ i = p ∨ i = q := fun i => by
    rw [bit_flip _ _ _ (by rw [flip_length]; exact hq), bit_flip _ _ _ hp]
    by_cases h1 : i = p
    · have : ¬ i = q := fun e => hne (e.symm.trans h1)
      simp [h1, show ¬ p = q from fun e => hne e.symm]
    · by_cases h2 : i = q
      · simp [h2, hne]
      · simp [h1, h2]
  rcases Nat.lt_or_ge p q with h | h
  · exact crc_two s _ l (by simp [flip_length]) p q h (by simp [flip_length]; omega) (by simp [flip_length]; omega) hb
  · exact crc_two s _ l (by simp [flip_length]) q p (by omega) (by simp [flip_length]; omega) (by simp [flip_length]; omega) (fun i => (hb i).trans or_comm)
end Go.Proofs.Ytahbcjgbhfkhbaa.Flip
