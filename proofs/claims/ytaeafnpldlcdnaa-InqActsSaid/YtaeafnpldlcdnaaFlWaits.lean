/- The laws FloorWaits and FloorOrder: what each call comes to, for every input. -/
import Derived.Test.YtaeafnpldlcdnaaFlMath
set_option linter.unusedVariables false
set_option linter.unusedSimpArgs false
namespace Go.Proofs.Ytaeafnpldlcdnaa.Fl
open Go.RowKit K
theorem idn (n : Nat) (h : n ≤ 1000) : idOk ((n : Nat) : Int) := ⟨by omega, by omega⟩
set_option maxHeartbeats 1000000 in
theorem head_calls (w : World) : Calls Try.prog 10 #[] w fun e w' => e = .returned (.bool true) ∧ Upd (fun _ => False) w w' := by
  go_enter Try.func10, Try.ntmps10
  go_wp2_with fail
  refine (new_at 2 (Upd.refl _ w)).mono ?_
  rw [show new 2 = ⟨2, 0, 0, [], []⟩ from rfl]
  rintro e w1 ⟨t, rfl, h⟩
  have H1 := Asd.mk h
  clear h
  go_wp2_with fail
  refine (H1.out.turn (fun F h => join_calls h 1 1 (idn 1 (by omega)) (by simp))).mono ?_
  rw [show joins ⟨2, 0, 0, [], []⟩ 1 1 = true from rfl, show join ⟨2, 0, 0, [], []⟩ 1 1 = ⟨2, 0, 0, [], [(1, 1)]⟩ from rfl]
  rintro e w2 ⟨rfl, h⟩
  have H2 := Asd.mk h
  clear h H1
  go_wp2_with fail
  refine (H2.out.turn (fun F h => join_calls h 2 2 (idn 2 (by omega)) (by simp))).mono ?_
  rw [show joins ⟨2, 0, 0, [], [(1, 1)]⟩ 2 2 = true from rfl, show join ⟨2, 0, 0, [], [(1, 1)]⟩ 2 2 = ⟨2, 0, 0, [], [(1, 1), (2, 2)]⟩ from rfl]
  rintro e w3 ⟨rfl, h⟩
  have H3 := Asd.mk h
  clear h H2
  go_wp2_with fail
  refine (H3.out.turn (fun F h => ask_calls h 1 (idn 1 (by omega)) (by simp))).mono ?_
  rw [show asks ⟨2, 0, 0, [], [(1, 1), (2, 2)]⟩ 1 = 0 from rfl, show ask ⟨2, 0, 0, [], [(1, 1), (2, 2)]⟩ 1 = ⟨2, 2, 1, [], [(1, 1), (2, 2)]⟩ from rfl]
  rintro e w4 ⟨rfl, h⟩
  have H4 := Asd.mk h
  clear h H3
  go_wp2_with fail
  refine (H4.out.turn (fun F h => ask_calls h 2 (idn 2 (by omega)) (by simp))).mono ?_
  rw [show asks ⟨2, 2, 1, [], [(1, 1), (2, 2)]⟩ 2 = 0 from rfl, show ask ⟨2, 2, 1, [], [(1, 1), (2, 2)]⟩ 2 = ⟨2, 2, 1, [2], [(1, 1), (2, 2)]⟩ from rfl]
  rintro e w5 ⟨rfl, h⟩
  have H5 := Asd.mk h
  clear h H4
  go_wp2_with fail
  refine (H5.out.read (fun F h => holder_calls h)).mono ?_
  rintro e w6 ⟨rfl, rfl⟩
  go_wp2_with fail
  refine (H5.out.turn (fun F h => tick_calls h (by simp) (by simp))).mono ?_
  rw [show tick ⟨2, 2, 1, [2], [(1, 1), (2, 2)]⟩ = ⟨2, 1, 1, [2], [(1, 1), (2, 2)]⟩ from rfl]
  rintro e w6 ⟨rfl, h⟩
  have H6 := Asd.mk h
  clear h H5
  go_wp2_with fail
  refine (H6.out.turn (fun F h => tick_calls h (by simp) (by simp))).mono ?_
  rw [show tick ⟨2, 1, 1, [2], [(1, 1), (2, 2)]⟩ = ⟨2, 2, 2, [], [(1, 1), (2, 2)]⟩ from rfl]
  rintro e w7 ⟨rfl, h⟩
  have H7 := Asd.mk h
  clear h H6
  go_wp2_with fail
  refine (H7.out.read (fun F h => holder_calls h)).mono ?_
  rintro e w8 ⟨rfl, rfl⟩
  go_wp2_with fail
  refine (H7.out.read (fun F h => left_calls h)).mono ?_
  rintro e w8 ⟨rfl, rfl⟩
  go_wp2_with fail
  refine (H7.out.news (fun F h => queue_calls h (by simp))).mono ?_
  rintro e w8 ⟨A, c, G, rfl, _, _, h, _⟩
  have HE := Asd.mk h.out
  clear h
  go_wp2
  go_ret
  exact ⟨rfl, HE.out⟩
theorem new_row (L : Nat) (h1 : 1 ≤ L) (h2 : L ≤ 1000) : new (L : Int) = rowOf (L : Int) 0 := by
  have : clampLease (L : Int) = (L : Int) := by unfold clampLease mx mn; split <;> split <;> omega
  unfold new
  rw [this]
  rfl
theorem rem_exists (x : Int) (L : Nat) (h1 : 1 ≤ L) (h2 : L ≤ 1000) : ∃ a : Nat, wrap64 ((IntKind.u64.wrap x).tmod (L : Int)) = (a : Int) ∧ a < L := by
  have h0 : 0 ≤ IntKind.u64.wrap x := by simp only [IntKind.wrap, IntKind.signed, IntKind.bits]; simp; omega
  obtain ⟨m, hm⟩ : ∃ m : Nat, IntKind.u64.wrap x = (m : Int) := ⟨(IntKind.u64.wrap x).toNat, by omega⟩
  have h3 : (m : Int).tmod (L : Int) = ((m % L : Nat) : Int) := rfl
  have h4 : m % L < L := Nat.mod_lt _ (by omega)
  rw [hm, h3]
  exact ⟨m % L, by unfold wrap64; omega, h4⟩
theorem turn_queue (lease left : Int) (k u : Nat) (R : List (Int × Int)) : (turnOf lease left k u R).queue.length = u - k := seqI_length _ _
set_option maxHeartbeats 4000000 in
set_option maxRecDepth 100000 in
theorem waits_walk (w : World) (lease : Int) (wl : (Lit.int .i64 lease).wf = true) (users : Int) (wu : (Lit.int .i64 users).wf = true) (ahead : Int) (wa : (Lit.int .i64 ahead).wf = true) :
    Calls Try.prog 3 #[.int .i64 lease, .int .i64 users, .int .i64 ahead] w fun e w' => e = .returned (.bool true) ∧ Upd (fun _ => False) w w' := by
  obtain ⟨l0, hl0, hb1⟩ := and_le lease 15 (by omega)
  obtain ⟨u0, hu0, hb2⟩ := and_le users 15 (by omega)
  have hand1 : Go.bits .and .i64 lease 15 = (l0 : Int) := hb1
  have hand2 : Go.bits .and .i64 users 15 = (u0 : Int) := hb2
  obtain ⟨L, hL⟩ : ∃ L, L = 1 + l0 := ⟨_, rfl⟩
  obtain ⟨U, hU⟩ : ∃ U, U = 2 + u0 := ⟨_, rfl⟩
  have hLi : (1 : Int) + (l0 : Int) = (L : Int) := by omega
  have hUi : (2 : Int) + (u0 : Int) = (U : Int) := by omega
  have hL1 : 1 ≤ L := by omega
  have hL2 : L ≤ 16 := by omega
  have hU1 : 2 ≤ U := by omega
  have hU2 : U ≤ 17 := by omega
  obtain ⟨a, hae, haL⟩ := rem_exists ahead L hL1 (by omega)
  have hLu : IntKind.u64.wrap (L : Int) = (L : Int) := by simp only [IntKind.wrap, IntKind.signed, IntKind.bits]; simp; omega
  have hLb : ((L : Int) == 0) = false := beq_eq_false_iff_ne.2 (by omega)
  have hae2 : IntKind.i64.wrap ((IntKind.u64.wrap ahead).tmod (L : Int)) = (a : Int) := by rw [IntWalk.i64_left]; exact hae
  have HNR := Asd.mk (new_row L hL1 (by omega))
  clear hb1 hb2 hL hU wl wu wa
  go_enter Try.func3, Try.ntmps3
  go_wp2_with fail
  refine (head_calls _).mono ?_
  rintro e w1 ⟨rfl, hu⟩
  have HU := Asd.mk hu
  clear hu
  go_wp2_with fail
  refine (new_at (L : Int) HU.out).mono ?_
  rw [HNR.out]
  rintro e w2 ⟨t, rfl, h⟩
  have HA := Asd.mk h
  clear h HNR HU
  go_wp2
  go_loopw [8] (fun v8 wr => ∃ n : Nat, v8 = .int .i64 (((n + 1 : Nat) : Int)) ∧ n ≤ U ∧ Asd (At w wr t (rowOf (L : Int) n))) (fun v8 _ => U + 1 - (intOf v8).toNat)
  case atStart => exact ⟨0, rfl, by omega, HA⟩
  case round =>
    clear HA
    obtain ⟨n, rfl, hn, HA⟩ := hrel
    by_cases hlt : n < U
    · have hle : ((n + 1 : Nat) : Int) ≤ (U : Int) := by omega
      have HJ := Asd.mk (row_joins (L : Int) n)
      have HK := Asd.mk (row_asks (L : Int) n)
      obtain ⟨m, hm⟩ : ∃ m, m = n + 1 := ⟨_, rfl⟩
      rw [← hm] at hle
      rw [← hm]
      have HM := Asd.mk hm
      have hmU : m ≤ 17 := by omega
      clear hm
      go_wp2_with fail
      refine (HA.out.turn (fun F h => join_calls h (m : Int) 1 (idn m (by omega)) (by rw [rowOf_roles, rolesN_length]; omega))).mono ?_
      rw [show (m : Int) = ((n + 1 : Nat) : Int) by rw [HM.out], HJ.out.1, HJ.out.2]
      rintro e w3 ⟨rfl, h⟩
      have HA3 := Asd.mk h
      clear h HA
      rw [← HM.out]
      go_wp2_with fail
      refine (HA3.out.turn (fun F h => ask_calls h (m : Int) (idn m (by omega)) (by simp only [rowOf_queue, seqI_length]; omega))).mono ?_
      rw [show (m : Int) = ((n + 1 : Nat) : Int) by rw [HM.out], HK.out.1, HK.out.2]
      rintro e w4 ⟨rfl, h⟩
      have HA4 := Asd.mk h
      clear h HA3
      rw [← HM.out]
      rw [← HM.out] at HA4
      go_wp2
      go_roundw
      case rel => exact ⟨m, by go_num, by have := HM.out; omega, HA4⟩
      case measure => have := HM.out; simp only [intOf]; omega
    · have hnU : n = U := by omega
      subst hnU
      have HA := Asd.mk ((row_turn (L : Int) n (by omega)) ▸ HA.out)
      have hgt : ¬ (((n + 1 : Nat) : Int) ≤ (n : Int)) := by omega
      clear hlt
      go_wp2
      go_loopw [9] (fun v9 wr => ∃ i : Nat, v9 = .int .i64 (i : Int) ∧ i ≤ a ∧ Asd (At w wr t (turnOf (L : Int) ((L - i : Nat) : Int) 1 n (rolesN n)))) (fun v9 _ => a - (intOf v9).toNat)
      case atStart => exact ⟨0, rfl, by omega, HA⟩
      case round =>
        clear HA
        obtain ⟨i, rfl, hi, HA⟩ := hrel
        by_cases hia : i < a
        · have HT := Asd.mk (tick_more (L : Int) ((L - i : Nat) : Int) 1 n (rolesN n) (by omega) (by omega))
          go_wp2_with fail
          refine (HA.out.turn (fun F h => tick_calls h (by rw [turn_queue]; omega) ⟨by simp only [turnOf]; omega, by simp only [turnOf]; omega⟩)).mono ?_
          rw [HT.out, show (((L - i : Nat) : Int) - 1) = ((L - (i + 1) : Nat) : Int) by omega]
          rintro e w3 ⟨rfl, h⟩
          have HA3 := Asd.mk h
          clear h HA HT
          go_wp2
          go_roundw
          case rel => exact ⟨i + 1, by go_num, by omega, HA3⟩
          case measure => simp only [intOf]; omega
        · have hia2 : i = a := by omega
          subst hia2
          go_wp2
          go_loopw [2, 10] (fun v2 v10 wr => ∃ (k b : Nat), v2 = .int .i64 (b : Int) ∧ v10 = .int .i64 (k : Int) ∧ b < L ∧ 1 ≤ k ∧ k ≤ n ∧ Asd (At w wr t (turnOf (L : Int) ((L - b : Nat) : Int) k n (rolesN n)))) (fun _ v10 _ => n - (intOf v10).toNat)
          case atStart => exact ⟨1, i, rfl, rfl, haL, by omega, by omega, HA⟩
          case round =>
            clear HA
            obtain ⟨k, b, rfl, rfl, hb, hk1, hkn, HA⟩ := hrel
            by_cases hkU : k < n
            · have hkk : ((k : Int) != (k : Int)) = false := bne_self_eq_false _
              have hnk : ((n - k : Nat) : Int) = (n : Int) - (k : Int) := by omega
              have hnn : ((n : Int) - (k : Int) != (n : Int) - (k : Int)) = false := bne_self_eq_false _
              go_wp2_with fail
              refine (HA.out.read (fun F h => holder_calls h)).mono ?_
              rw [show (turnOf (L : Int) ((L - b : Nat) : Int) k n (rolesN n)).holder = (k : Int) from rfl]
              rintro e w3 ⟨rfl, rfl⟩
              go_wp2_with fail
              refine (HA.out.news (fun F h => queue_calls h (by rw [turn_queue]; omega))).mono ?_
              unfold NewAt
              rw [turn_queue]
              rintro e w3 ⟨A3, c3, G3, rfl, _, _, h, _⟩
              have HA3 := Asd.mk h
              clear h HA
              go_wp2
              go_loopw [11] (fun v11 wr => ∃ i : Nat, v11 = .int .i64 (i : Int) ∧ i ≤ L ∧ Asd (At w wr t (if i < L then turnOf (L : Int) ((L - i : Nat) : Int) k n (rolesN n) else turnOf (L : Int) (L : Int) (k + 1) n (rolesN n)))) (fun v11 _ => L - (intOf v11).toNat)
              case atStart => exact ⟨b, rfl, by omega, by rw [if_pos hb]; exact HA3⟩
              case round =>
                clear HA3
                obtain ⟨j, rfl, hj, HA⟩ := hrel
                by_cases hjL : j < L
                · rw [if_pos hjL] at HA
                  have HT : Asd (tick (turnOf (L : Int) ((L - j : Nat) : Int) k n (rolesN n)) = if j + 1 < L then turnOf (L : Int) ((L - (j + 1) : Nat) : Int) k n (rolesN n) else turnOf (L : Int) (L : Int) (k + 1) n (rolesN n)) := ⟨by
                    by_cases h : j + 1 < L
                    · rw [if_pos h, tick_more _ _ _ _ _ hk1 (by omega)]
                      congr 1
                      omega
                    · rw [if_neg h, tick_pass _ _ _ _ _ hk1 hkU (by omega)]⟩
                  go_wp2_with fail
                  refine (HA.out.turn (fun F h => tick_calls h (by rw [turn_queue]; omega) ⟨by simp only [turnOf]; omega, by simp only [turnOf]; omega⟩)).mono ?_
                  rw [HT.out]
                  rintro e w4 ⟨rfl, h⟩
                  have HA4 := Asd.mk h
                  clear h HA HT
                  go_wp2
                  go_roundw
                  case rel => exact ⟨j + 1, by go_num, by omega, HA4⟩
                  case measure => simp only [intOf]; omega
                · rw [if_neg hjL] at HA
                  go_wp2
                  go_roundw
                  case rel => exact ⟨k + 1, 0, rfl, by go_num, by omega, by omega, by omega, HA⟩
                  case measure => simp only [intOf]; omega
            · have hkn2 : k = n := by omega
              subst hkn2
              go_wp2
              go_loopw [12] (fun v12 wr => ∃ (i l : Nat), v12 = .int .i64 (i : Int) ∧ i ≤ 3 * L ∧ 1 ≤ l ∧ l ≤ L ∧ Asd (At w wr t (turnOf (L : Int) (l : Int) k k (rolesN k)))) (fun v12 _ => 3 * L - (intOf v12).toNat)
              case atStart => exact ⟨0, L - b, rfl, by omega, by omega, by omega, HA⟩
              case round =>
                clear HA
                obtain ⟨i, l, rfl, hi3, hl1, hlL, HA⟩ := hrel
                by_cases hi4 : i < 3 * L
                · have HT : Asd (∃ l2 : Nat, tick (turnOf (L : Int) (l : Int) k k (rolesN k)) = turnOf (L : Int) (l2 : Int) k k (rolesN k) ∧ 1 ≤ l2 ∧ l2 ≤ L) := ⟨by
                    by_cases h : 1 < l
                    · refine ⟨l - 1, ?_, by omega, by omega⟩
                      rw [tick_more _ _ _ _ _ hk1 (by omega)]
                      congr 1
                      omega
                    · exact ⟨L, by rw [tick_last _ _ _ _ hk1 (by omega)], by omega, by omega⟩⟩
                  obtain ⟨l2, ht2, hl21, hl22⟩ := HT.out
                  have HT2 := Asd.mk ht2
                  clear ht2 HT
                  go_wp2_with fail
                  refine (HA.out.turn (fun F h => tick_calls h (by rw [turn_queue]; omega) ⟨by simp only [turnOf]; omega, by simp only [turnOf]; omega⟩)).mono ?_
                  rw [HT2.out]
                  rintro e w4 ⟨rfl, h⟩
                  have HA4 := Asd.mk h
                  clear h HA HT2
                  go_wp2
                  go_roundw
                  case rel => exact ⟨i + 1, l2, by go_num, by omega, hl21, hl22, HA4⟩
                  case measure => simp only [intOf]; omega
                · have hkk : ((k : Int) == (k : Int)) = true := by simp
                  go_wp2_with fail
                  refine (HA.out.read (fun F h => holder_calls h)).mono ?_
                  rw [show (turnOf (L : Int) (l : Int) k k (rolesN k)).holder = (k : Int) from rfl]
                  rintro e w3 ⟨rfl, rfl⟩
                  go_wp2_with fail
                  refine (HA.out.news (fun F h => queue_calls h (by rw [turn_queue]; omega))).mono ?_
                  unfold NewAt
                  rw [turn_queue, Nat.sub_self]
                  rintro e w3 ⟨A3, c3, G3, rfl, _, _, h, _⟩
                  have HE := Asd.mk h.out
                  clear h HA
                  go_wp2
                  go_ret
                  exact ⟨rfl, HE.out⟩
end Go.Proofs.Ytaeafnpldlcdnaa.Fl
