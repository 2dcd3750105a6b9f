/- Frames as plain mathematics: what was put is got; a byte that is turned is told. No program in sight. -/
import Derived.Test.YtpphejjdgplalaaFrame
namespace Go.Proofs.Ytpphejjdgplalaa.FrMath
open Go.RowKit K Crc Sm Fr

theorem getD_app (l m : List UInt8) (i : Nat) (h : i < l.length) : (l ++ m).getD i 0 = l.getD i 0 := by
  simp only [List.getD_eq_getElem?_getD]
  rw [List.getElem?_append_left h]
theorem ofNat_mod (n : Nat) : (UInt8.ofNat n).toNat = n % 256 := by simp
theorem fb0 (kind : UInt8) (body : List UInt8) : (fbytes kind body).getD 0 0 = UInt8.ofNat ((body.length + 1) / 256) := by simp [fbytes]
theorem fb1 (kind : UInt8) (body : List UInt8) : (fbytes kind body).getD 1 0 = UInt8.ofNat (body.length + 1) := by simp [fbytes]
theorem fb2 (kind : UInt8) (body : List UInt8) : (fbytes kind body).getD 2 0 = kind := by simp [fbytes]
theorem fb_take (kind : UInt8) (body : List UInt8) : (fbytes kind body).take (body.length + 3) = [UInt8.ofNat ((body.length + 1) / 256), UInt8.ofNat (body.length + 1), kind] ++ body := by
  unfold fbytes
  rw [List.take_append_of_le_length (by simp), List.take_of_length_le (by simp)]
theorem fb_s0 (kind : UInt8) (body : List UInt8) : (fbytes kind body).getD (body.length + 3) 0 = UInt8.ofNat ((sumOf kind body).toNat / 256) := by
  unfold fbytes
  rw [List.getD_eq_getElem?_getD, List.getElem?_append_right (by simp)]
  simp
theorem fb_s1 (kind : UInt8) (body : List UInt8) : (fbytes kind body).getD (body.length + 4) 0 = UInt8.ofNat (sumOf kind body).toNat := by
  unfold fbytes
  rw [List.getD_eq_getElem?_getD, List.getElem?_append_right (by simp)]
  simp [show body.length + 4 - (body.length + 3) = 1 by omega]
theorem num_sum (x : BitVec 16) : (UInt8.ofNat (x.toNat / 256)).toNat * 256 + (UInt8.ofNat x.toNat).toNat = x.toNat := by
  have := x.isLt
  rw [ofNat_mod, ofNat_mod]
  omega
theorem num_len (n : Nat) (h : n ≤ 2049) : (UInt8.ofNat (n / 256)).toNat * 256 + (UInt8.ofNat n).toNat = n := by
  rw [ofNat_mod, ofNat_mod]
  omega
/-- What was put is got, whatever comes behind. -/
theorem get_put (kind : UInt8) (body rest : List UInt8) (h : body.length ≤ 2048) : fget (fbytes kind body ++ rest) = (kind, body, body.length + 5, 0) := by
  have hl := fbytes_length kind body
  have h0 : num2 (fbytes kind body ++ rest) 0 = body.length + 1 := by
    unfold num2
    rw [getD_app _ _ _ (by omega), getD_app _ _ _ (by omega), fb0, fb1, num_len _ (by omega)]
  have h1 : num2 (fbytes kind body ++ rest) (body.length + 1 + 2) = (sumOf kind body).toNat := by
    unfold num2
    rw [getD_app _ _ _ (by omega), getD_app _ _ _ (by omega), show body.length + 1 + 2 = body.length + 3 by omega, show body.length + 3 + 1 = body.length + 4 by omega, fb_s0, fb_s1, num_sum]
  have h2 : (fbytes kind body ++ rest).take (body.length + 1 + 2) = [UInt8.ofNat ((body.length + 1) / 256), UInt8.ofNat (body.length + 1), kind] ++ body := by
    rw [show body.length + 1 + 2 = body.length + 3 by omega, List.take_append_of_le_length (by omega), fb_take]
  unfold fget
  rw [if_neg (by rw [List.length_append]; omega), h0, if_neg (by omega), if_neg (by rw [List.length_append]; omega), h1, h2, getD_app _ _ _ (by omega), fb2]
  rw [if_neg (by simp [sumOf])]
  simp
/-- Cut off, it is too short. -/
theorem get_cut (kind : UInt8) (body : List UInt8) (k : Nat) (h : body.length ≤ 2048) (hk : k < body.length + 5) : fget ((fbytes kind body).take k) = (0, [], 0, 5) := by
  have hl := fbytes_length kind body
  have hlk : ((fbytes kind body).take k).length = k := by rw [List.length_take]; omega
  unfold fget
  by_cases h2 : k < 2
  · rw [if_pos (by omega)]
  rw [if_neg (by omega)]
  have h0 : num2 ((fbytes kind body).take k) 0 = body.length + 1 := by
    unfold num2
    simp only [List.getD_eq_getElem?_getD]
    rw [List.getElem?_take_of_lt (by omega), List.getElem?_take_of_lt (by omega)]
    simp only [← List.getD_eq_getElem?_getD]
    rw [fb0, fb1, num_len _ (by omega)]
  rw [h0, if_neg (by omega), if_pos (by omega)]
theorem u8_xor (a y : UInt8) (h : a ^^^ y = a) : y = 0 := by
  have h1 : a ^^^ (a ^^^ y) = a ^^^ a := by rw [h]
  rwa [← UInt8.xor_assoc, UInt8.xor_self, UInt8.zero_xor] at h1
/-- A byte of a frame that is turned. -/
def turn (l : List UInt8) (i : Nat) (y : UInt8) : List UInt8 := l.set i (l.getD i 0 ^^^ y)
theorem turn_ne (l : List UInt8) (i : Nat) (y : UInt8) (hi : i < l.length) (hy : y ≠ 0) : turn l i y ≠ l := by
  intro e
  have : (turn l i y)[i]? = l[i]? := by rw [e]
  unfold turn at this
  rw [List.getElem?_set_self hi, List.getD_eq_getElem?_getD, List.getElem?_eq_getElem hi] at this
  simp at this
  exact hy (u8_xor _ _ this)
theorem turn_crc (s : BitVec 16) (l : List UInt8) (i : Nat) (y : UInt8) (hi : i < l.length) (hy : y ≠ 0) : crc s (turn l i y) ≠ crc s l := by
  refine crc_burst s _ l (by simp [turn]) (turn_ne l i y hi hy) (8 * i) (fun q hq => ?_)
  by_cases h : q / 8 = i
  · omega
  · refine absurd ?_ hq
    unfold bitAt turn
    simp only [List.getD_eq_getElem?_getD]
    rw [List.getElem?_set_ne (by omega)]
theorem get_turn (kind : UInt8) (body : List UInt8) (i : Nat) (y : UInt8) (h : body.length ≤ 2048) (hi : i < body.length + 3) (hy : y ≠ 0) : fget (turn (fbytes kind body) (2 + i) y) = (0, [], 0, 7) := by
  have hl := fbytes_length kind body
  have hlt : (turn (fbytes kind body) (2 + i) y).length = body.length + 5 := by simp [turn, hl]
  have hoth : ∀ j, j ≠ 2 + i → (turn (fbytes kind body) (2 + i) y).getD j 0 = (fbytes kind body).getD j 0 := fun j hj => by
    unfold turn
    simp only [List.getD_eq_getElem?_getD]
    rw [List.getElem?_set_ne (by omega)]
  have hat : (turn (fbytes kind body) (2 + i) y).getD (2 + i) 0 = (fbytes kind body).getD (2 + i) 0 ^^^ y := by
    unfold turn
    rw [List.getD_eq_getElem?_getD, List.getElem?_set_self (by omega)]
    rfl
  have h0 : num2 (turn (fbytes kind body) (2 + i) y) 0 = body.length + 1 := by
    unfold num2
    rw [hoth 0 (by omega), hoth (0 + 1) (by omega), fb0, fb1, num_len _ (by omega)]
  have hxor : ∀ a : UInt8, a ^^^ y ≠ a := fun a e => hy (u8_xor a y e)
  have hdrop : ((fbytes kind body).take (body.length + 1 + 2)).drop 2 = kind :: body := by
    rw [show body.length + 1 + 2 = body.length + 3 by omega, fb_take]; rfl
  unfold fget
  rw [if_neg (by omega), h0, if_neg (by omega), if_neg (by omega)]
  rw [if_pos]
  by_cases hin : i < body.length + 1
  · have hn : num2 (turn (fbytes kind body) (2 + i) y) (body.length + 1 + 2) = (sumOf kind body).toNat := by
      unfold num2
      rw [hoth _ (by omega), hoth _ (by omega), show body.length + 1 + 2 = body.length + 3 by omega, show body.length + 3 + 1 = body.length + 4 by omega, fb_s0, fb_s1, num_sum]
    have hs : ((turn (fbytes kind body) (2 + i) y).take (body.length + 1 + 2)).drop 2 = turn (kind :: body) i y := by
      rw [← hdrop]
      unfold turn
      rw [List.take_set, List.drop_set, if_neg (by omega), show 2 + i - 2 = i by omega]
      have hv : (((fbytes kind body).take (body.length + 1 + 2)).drop 2).getD i 0 = (fbytes kind body).getD (2 + i) 0 := by
        simp only [List.getD_eq_getElem?_getD]
        rw [List.getElem?_drop, List.getElem?_take_of_lt (by omega)]
      rw [hv]
    rw [hn, hs]
    intro e
    exact turn_crc 0xffff#16 (kind :: body) i y (by simp; omega) hy (BitVec.eq_of_toNat_eq e)
  · have hs : ((turn (fbytes kind body) (2 + i) y).take (body.length + 1 + 2)).drop 2 = kind :: body := by
      rw [← hdrop]
      unfold turn
      rw [List.take_set_of_le (by omega)]
    rw [hs]
    intro e
    have hb := fb_s0 kind body
    have hc := fb_s1 kind body
    have hs1 := num_sum (sumOf kind body)
    rw [← hb, ← hc] at hs1
    have e' : (sumOf kind body).toNat = num2 (turn (fbytes kind body) (2 + i) y) (body.length + 1 + 2) := e
    rw [← hs1] at e'
    unfold num2 at e'
    have l1 := ((fbytes kind body).getD (body.length + 4) 0).toNat_lt
    have l2 := ((turn (fbytes kind body) (2 + i) y).getD (body.length + 1 + 2 + 1) 0).toNat_lt
    rw [show body.length + 1 + 2 + 1 = body.length + 4 by omega, show body.length + 1 + 2 = body.length + 3 by omega] at *
    have e1 : ((fbytes kind body).getD (body.length + 3) 0).toNat = ((turn (fbytes kind body) (2 + i) y).getD (body.length + 3) 0).toNat := by omega
    have e2 : ((fbytes kind body).getD (body.length + 4) 0).toNat = ((turn (fbytes kind body) (2 + i) y).getD (body.length + 4) 0).toNat := by omega
    have : i = body.length + 1 ∨ i = body.length + 2 := by omega
    rcases this with rfl | rfl
    · rw [show 2 + (body.length + 1) = body.length + 3 by omega] at hat e1
      rw [hat] at e1
      exact hxor _ (UInt8.toNat_inj.1 e1.symm)
    · rw [show 2 + (body.length + 2) = body.length + 4 by omega] at hat e2
      rw [hat] at e2
      exact hxor _ (UInt8.toNat_inj.1 e2.symm)
end Go.Proofs.Ytpphejjdgplalaa.FrMath
