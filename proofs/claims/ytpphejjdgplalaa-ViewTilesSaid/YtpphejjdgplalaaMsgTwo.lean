/- What the statement on frames of messages needs besides: Put of what can't be written, Size, and Of behind Frame. -/
import Derived.Test.YtpphejjdgplalaaMsgApart
set_option linter.unusedVariables false
set_option linter.unusedSimpArgs false
namespace Go.Proofs.Ytpphejjdgplalaa.MgTwo
open Go.RowKit K Mg MgNum MgOf MgFr MgHead MgLawOf MgPut
open Fr (fbytes fbytes_length)

set_option maxHeartbeats 1000000 in
theorem put_no (v : Value) (k a b : Int) (t : List UInt8) (w : World) (hr : right k a b t.length = false) :
    Calls Try.prog 35 #[v, .agg #[.int .i64 k, .int .i64 a, .int .i64 b, .string (S t)]] w fun e w' => e = .returned v ∧ Upd (fun _ => False) w w' := by
  have HR := Asd.mk hr
  clear hr
  go_enter Try.func35, Try.ntmps35
  go_wp2_with fail
  refine (frame_calls k a b t _).mono ?_
  rintro e w1 ⟨hu, hn, _⟩
  obtain rfl := hn HR.out
  have HU := Asd.mk (((Upd.refl (fun _ => False) w).alloc (.cells #[.int .i64 k, .int .i64 a, .int .i64 b, .string (S t)] 44)).trans hu (fun _ _ h => h))
  clear hu hn
  go_wp2
  go_ret
  exact ⟨rfl, HU.out.alloc _⟩
set_option maxHeartbeats 1000000 in
theorem size_calls (k a b : Int) (t : List UInt8) (w : World) (ht : t.length ≤ 1048576) :
    Calls Try.prog 28 #[.agg #[.int .i64 k, .int .i64 a, .int .i64 b, .string (S t)]] w fun e w' => e = .returned (.int .i64 ((5 + 6 * nums k + t.length : Nat) : Int)) ∧ Upd (fun _ => False) w w' := by
  obtain ⟨N, hN⟩ : ∃ N, N = nums k := ⟨_, rfl⟩
  have hN2 : N ≤ 2 := by rw [hN]; exact nums_le k
  have HN := Asd.mk hN
  rw [← hN]
  clear hN
  go_enter Try.func28, Try.ntmps28
  go_wp2_with fail
  refine (shape_calls k _).mono ?_
  rw [← HN.out]
  rintro e w1 ⟨rfl, rfl⟩
  go_wp2
  go_ret
  exact ⟨congrArg (fun x => Ending.returned (Value.int IntKind.i64 x)) (by omega), (Upd.refl _ _).alloc _⟩
/-- Of a message's own body: the message. -/
theorem body_is (k : Int) (a b : Nat) (t : List UInt8) (h : right k (a : Int) (b : Int) t.length = true) : isMsg k (mbody k a b t) = true ∧ numA (nums k) (mbody k a b t) = a ∧ numB (nums k) (mbody k a b t) = b ∧ (mbody k a b t).drop (6 * nums k) = t := by
  obtain ⟨hk, _, _, _, ha, hb, za, zb⟩ := right_nat k (a : Int) (b : Int) t.length h
  have hn := nums_le k
  have hl := mbody_length k a b t
  have key : numA (nums k) (mbody k a b t) = a ∧ numB (nums k) (mbody k a b t) = b ∧ (mbody k a b t).drop (6 * nums k) = t := by
    unfold mbody
    generalize nums k = N at *
    have l12 : (num6 a ++ num6 b).length = 12 := rfl
    have hd : ((num6 a ++ num6 b).take (6 * N) ++ t).drop (6 * N) = t := by
      rw [List.drop_append_of_le_length (by rw [List.length_take, l12]; omega), List.drop_of_length_le (by rw [List.length_take, l12]; omega), List.nil_append]
    refine ⟨?_, ?_, hd⟩
    · rcases (by omega : N = 0 ∨ N = 1 ∨ N = 2) with rfl | rfl | rfl
      · show 0 = a; omega
      · have e : ((num6 a ++ num6 b).take (6 * 1) ++ t).take 6 = num6 a := by
          rw [List.take_append_of_le_length (by rw [List.length_take, l12]; omega)]
          rfl
        show val (((num6 a ++ num6 b).take (6 * 1) ++ t).take 6) = a
        rw [e, val_num6 a (by omega)]
      · have e : ((num6 a ++ num6 b).take (6 * 2) ++ t).take 6 = num6 a := by
          rw [List.take_append_of_le_length (by rw [List.length_take, l12]; omega)]
          rfl
        show val (((num6 a ++ num6 b).take (6 * 2) ++ t).take 6) = a
        rw [e, val_num6 a (by omega)]
    · rcases (by omega : N = 0 ∨ N = 1 ∨ N = 2) with rfl | rfl | rfl
      · show 0 = b; omega
      · show 0 = b; omega
      · have e : (((num6 a ++ num6 b).take (6 * 2) ++ t).drop 6).take 6 = num6 b := by
          rw [List.drop_append_of_le_length (by rw [List.length_take, l12]; omega), List.take_append_of_le_length (by rw [List.length_drop, List.length_take, l12]; omega)]
          rfl
        show val ((((num6 a ++ num6 b).take (6 * 2) ++ t).drop 6).take 6) = b
        rw [e, val_num6 b (by omega)]
  obtain ⟨h1, h2, h3⟩ := key
  refine ⟨?_, h1, h2, h3⟩
  unfold isMsg
  rw [hk, h1, h2, h3, h, decide_eq_true (by rw [hl]; omega)]
  rfl
end Go.Proofs.Ytpphejjdgplalaa.MgTwo
