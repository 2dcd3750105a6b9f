/- The law FloorOrder: what its call comes to, for every input. -/
import Derived.Test.YtaeafnpldlcdnaaFlWaits
set_option linter.unusedVariables false
set_option linter.unusedSimpArgs false
namespace Go.Proofs.Ytaeafnpldlcdnaa.Fl
open Go.RowKit K
theorem turn_forget (lease left : Int) (k u : Nat) (R : List (Int × Int)) : forget (turnOf lease left k u R) (k : Int) = turnOf lease left k u R := by
  unfold forget turnOf
  simp only
  rw [filter_out _ _ _ (.inl (by omega))]
theorem turn_lose (lease left : Int) (k u : Nat) (R : List (Int × Int)) (hk : 1 ≤ k) (hu : k < u) : lose (turnOf lease left k u R) (k : Int) = turnOf lease lease (k + 1) u R := by
  unfold lose
  rw [if_pos (by rfl), turn_forget, pass_turn _ _ _ _ _ hk hu]
theorem rget_del_other (R : List (Int × Int)) (x y : Int) (h : y ≠ x) : rget (rdel R x) y = rget R y := by
  induction R with
  | nil => rfl
  | cons p R ih =>
    unfold rdel rget at *
    by_cases e : p.1 = x
    · rw [List.filter_cons_of_neg (by simpa using e), List.find?_cons_of_neg (by rw [e]; simpa using Ne.symm h)]
      exact ih
    · rw [List.filter_cons_of_pos (by simpa using e)]
      by_cases e2 : p.1 = y
      · rw [List.find?_cons_of_pos (by simpa using e2), List.find?_cons_of_pos (by simpa using e2)]
      · rw [List.find?_cons_of_neg (by simpa using e2), List.find?_cons_of_neg (by simpa using e2)]
        exact ih
theorem rget_put_other (R : List (Int × Int)) (x y r : Int) (h : y ≠ x) : rget (rput R x r) y = rget R y := by
  have h1 : ∀ R : List (Int × Int), rget (rins (x, r) R) y = rget R y := by
    intro R
    induction R with
    | nil => simp [rins, rget, Ne.symm h]
    | cons p R ih =>
      simp only [rins]
      split
      · unfold rget
        rw [List.find?_cons_of_neg (by simpa using Ne.symm h)]
      · unfold rget at ih ⊢
        by_cases e : p.1 = y
        · rw [List.find?_cons_of_pos (by simpa using e), List.find?_cons_of_pos (by simpa using e)]
        · rw [List.find?_cons_of_neg (by simpa using e), List.find?_cons_of_neg (by simpa using e)]
          exact ih
  unfold rput
  rw [h1]
  exact rget_del_other R x y h
theorem rdel_length (R : List (Int × Int)) (x : Int) : (rdel R x).length ≤ R.length := List.length_filter_le _ _
theorem rins_length (p : Int × Int) : ∀ R, (rins p R).length = R.length + 1
  | [] => rfl
  | y :: r => by
    simp only [rins]
    split
    · rfl
    · simp [rins_length p r]
theorem rput_length (R : List (Int × Int)) (x r : Int) : (rput R x r).length ≤ R.length + 1 := by
  unfold rput
  rw [rins_length]
  have := rdel_length R x
  omega
/-- Those from k on are there, and may write. -/
def Still (k u : Nat) (R : List (Int × Int)) : Prop := (∀ j : Nat, k ≤ j → j ≤ u → rget R (j : Int) = some 1) ∧ R.length ≤ u + k
set_option maxHeartbeats 4000000 in
set_option maxRecDepth 100000 in
theorem order_walk (w : World) (users : Int) (wu : (Lit.int .i64 users).wf = true) (AW : Option Addr) (nw cw : Nat) (WL : List Int) (hW : RdI w .i64 AW nw WL) (hcw : nw ≤ cw) (hmw : cw ≤ maxLen) :
    Calls Try.prog 4 #[.int .i64 users, .slice AW nw cw] w fun e w' => e = .returned (.bool true) ∧ Upd (fun _ => False) w w' := by
  obtain ⟨u0, hu0, hb2⟩ := and_le users 7 (by omega)
  have hand2 : Go.bits .and .i64 users 7 = (u0 : Int) := hb2
  obtain ⟨U, hU⟩ : ∃ U, U = 2 + u0 := ⟨_, rfl⟩
  have hUi : (2 : Int) + (u0 : Int) = (U : Int) := by omega
  have hU1 : 2 ≤ U := by omega
  have hU2 : U ≤ 9 := by omega
  have hlim := hW.lim
  have HW := Asd.mk hW
  have HNR := Asd.mk (new_row 50 (by omega) (by omega))
  clear hb2 hU wu hW hmw
  go_enter Try.func4, Try.ntmps4
  go_wp2_with fail
  refine (head_calls _).mono ?_
  rintro e w1 ⟨rfl, hu⟩
  by_cases hfew : nw < U
  · go_wp2
    go_ret
    exact ⟨rfl, hu⟩
  have HU := Asd.mk hu
  clear hu
  go_wp2_with fail
  refine (new_at 50 HU.out).mono ?_
  rw [show (50 : Int) = ((50 : Nat) : Int) from rfl, HNR.out]
  rintro e w2 ⟨t, rfl, h⟩
  have HA := Asd.mk h
  clear h HNR HU
  go_wp2
  go_loopw [6] (fun v6 wr => ∃ n : Nat, v6 = .int .i64 (((n + 1 : Nat) : Int)) ∧ n ≤ U ∧ Asd (At w wr t (rowOf ((50 : Nat) : Int) n))) (fun v6 _ => U + 1 - (intOf v6).toNat)
  case atStart => exact ⟨0, rfl, by omega, HA⟩
  case round =>
    clear HA
    obtain ⟨n, rfl, hn, HA⟩ := hrel
    by_cases hlt : n < U
    · have hle : ((n + 1 : Nat) : Int) ≤ (U : Int) := by omega
      have HJ := Asd.mk (row_joins ((50 : Nat) : Int) n)
      have HK := Asd.mk (row_asks ((50 : Nat) : Int) n)
      obtain ⟨m, hm⟩ : ∃ m, m = n + 1 := ⟨_, rfl⟩
      rw [← hm] at hle
      rw [← hm]
      have HM := Asd.mk hm
      have hmU : m ≤ 17 := by omega
      clear hm
      go_wp2_with fail
      refine (HA.out.turn (fun F h => join_calls h (m : Int) 1 (idn m (by omega)) (by rw [rowOf_roles, rolesN_length]; omega))).mono ?_
      rw [show (m : Int) = ((n + 1 : Nat) : Int) by rw [HM.out], HJ.out.1, HJ.out.2]
      rintro e w3 ⟨rfl, h⟩
      have HA3 := Asd.mk h
      clear h HA
      rw [← HM.out]
      go_wp2_with fail
      refine (HA3.out.turn (fun F h => ask_calls h (m : Int) (idn m (by omega)) (by simp only [rowOf_queue, seqI_length]; omega))).mono ?_
      rw [show (m : Int) = ((n + 1 : Nat) : Int) by rw [HM.out], HK.out.1, HK.out.2]
      rintro e w4 ⟨rfl, h⟩
      have HA4 := Asd.mk h
      clear h HA3
      rw [← HM.out]
      rw [← HM.out] at HA4
      go_wp2
      go_roundw
      case rel => exact ⟨m, by go_num, by have := HM.out; omega, HA4⟩
      case measure => have := HM.out; simp only [intOf]; omega
    · have hnU : n = U := by omega
      subst hnU
      have HA := Asd.mk ((row_turn ((50 : Nat) : Int) n (by omega)) ▸ HA.out)
      have hgt : ¬ (((n + 1 : Nat) : Int) ≤ (n : Int)) := by omega
      clear hlt
      go_wp2
      go_loopw [7] (fun v7 wr => ∃ (k : Nat) (R : List (Int × Int)), v7 = .int .i64 (k : Int) ∧ 1 ≤ k ∧ k ≤ n ∧ Asd (Still k n R) ∧ Asd (At w wr t (turnOf ((50 : Nat) : Int) ((50 : Nat) : Int) k n R))) (fun v7 _ => n - (intOf v7).toNat)
      case atStart => exact ⟨1, rolesN n, rfl, by omega, by omega, ⟨fun j h1 h2 => rolesN_get n j h1 h2, by rw [rolesN_length]; omega⟩, HA⟩
      case round =>
        clear HA
        obtain ⟨k, R, rfl, hk1, hkn, HS, HA⟩ := hrel
        by_cases hkU : k < n
        · have hkk : ((k : Int) != (k : Int)) = false := bne_self_eq_false _
          have hk2 : ((k + 1 : Nat) : Int) = (k : Int) + 1 := by omega
          have hkk2 : ((k : Int) + 1 != (k : Int) + 1) = false := bne_self_eq_false _
          obtain ⟨adr, rfl, hcr⟩ := (HW.out.up HA.out.out).at_ k (by omega)
          obtain ⟨x, hx⟩ : ∃ x, x = WL[k]'(by rw [HW.out.len]; omega) := ⟨_, rfl⟩
          rw [← hx] at hcr
          obtain ⟨rm, hrm, hand0⟩ := and_le x 3 (by omega)
          have hand : Go.bits .and .i64 x 3 = (rm : Int) := hand0
          have hkw : k < nw := by omega
          have hri : rget R (k : Int) = some 1 := HS.out.1 k (Nat.le_refl _) (by omega)
          have HRI := Asd.mk hri
          have hRl : R.length ≤ 1000000 := by have := HS.out.2; omega
          have HQL : Asd ((turnOf ((50 : Nat) : Int) ((50 : Nat) : Int) k n R).queue.length ≤ 1000000) := ⟨by rw [turn_queue]; omega⟩
          clear hx hand0 hri
          have HL := Asd.mk (turn_lose ((50 : Nat) : Int) ((50 : Nat) : Int) k n R hk1 hkU)
          have next : ∀ R2 : List (Int × Int), R2.length ≤ R.length + 1 → (∀ j : Nat, k + 1 ≤ j → j ≤ n → rget R2 (j : Int) = rget R (j : Int)) → Still (k + 1) n R2 := fun R2 h1 h2 => ⟨fun j h3 h4 => by rw [h2 j h3 h4]; exact HS.out.1 j (by omega) h4, by have := HS.out.2; omega⟩
          have NEXT := Asd.mk next
          clear next
          go_wp2_with fail
          refine (HA.out.read (fun F h => holder_calls h)).mono ?_
          rw [show (turnOf ((50 : Nat) : Int) ((50 : Nat) : Int) k n R).holder = (k : Int) from rfl]
          rintro e w3 ⟨rfl, rfl⟩
          rcases (by omega : rm = 0 ∨ rm = 1 ∨ rm = 2 ∨ rm = 3) with rfl | rfl | rfl | rfl
          · have HD : Asd (drops (turnOf ((50 : Nat) : Int) ((50 : Nat) : Int) k n R) (k : Int) = 0) := ⟨by unfold drops; rw [if_neg (by simp only [turnOf]; rw [HRI.out]; simp), if_neg (fun h => h.1 rfl)]⟩
            have HD2 : Asd (drop (turnOf ((50 : Nat) : Int) ((50 : Nat) : Int) k n R) (k : Int) = turnOf ((50 : Nat) : Int) ((50 : Nat) : Int) (k + 1) n R) := ⟨by unfold drop; rw [if_pos HD.out, HL.out]⟩
            go_wp2_with fail
            refine (HA.out.turn (fun F h => drop_calls h (k : Int) (idn k (by omega)) HQL.out)).mono ?_
            rw [HD.out, HD2.out]
            rintro e w3 ⟨rfl, h⟩
            have HA4 := Asd.mk h
            clear h HA
            go_wp2_with fail
            refine (HA4.out.read (fun F h => holder_calls h)).mono ?_
            rw [show (turnOf ((50 : Nat) : Int) ((50 : Nat) : Int) (k + 1) n (R)).holder = (k : Int) + 1 by rw [← hk2]; rfl]
            rintro e w4 ⟨rfl, rfl⟩
            go_wp2_with fail
            refine (HA4.out.read (fun F h => left_calls h)).mono ?_
            rw [show (turnOf ((50 : Nat) : Int) ((50 : Nat) : Int) (k + 1) n (R)).left = 50 from rfl]
            rintro e w4 ⟨rfl, rfl⟩
            go_wp2
            go_roundw
            case rel => exact ⟨k + 1, R, by go_num, by omega, by omega, ⟨NEXT.out _ (by omega) (fun _ _ _ => rfl)⟩, HA4⟩
            case measure => simp only [intOf]; omega
          · have HD : Asd (leaves (turnOf ((50 : Nat) : Int) ((50 : Nat) : Int) k n R) (k : Int) = true) := ⟨by unfold leaves; simp only [turnOf]; rw [HRI.out]; rfl⟩
            have HD2 : Asd (leave (turnOf ((50 : Nat) : Int) ((50 : Nat) : Int) k n R) (k : Int) = turnOf ((50 : Nat) : Int) ((50 : Nat) : Int) (k + 1) n (rdel R (k : Int))) := ⟨by unfold leave; rw [if_pos HD.out, HL.out]; rfl⟩
            go_wp2_with fail
            refine (HA.out.turn (fun F h => leave_calls h (k : Int) (idn k (by omega)) HQL.out)).mono ?_
            rw [HD.out, HD2.out]
            rintro e w3 ⟨rfl, h⟩
            have HA4 := Asd.mk h
            clear h HA
            go_wp2_with fail
            refine (HA4.out.read (fun F h => holder_calls h)).mono ?_
            rw [show (turnOf ((50 : Nat) : Int) ((50 : Nat) : Int) (k + 1) n (rdel R (k : Int))).holder = (k : Int) + 1 by rw [← hk2]; rfl]
            rintro e w4 ⟨rfl, rfl⟩
            go_wp2_with fail
            refine (HA4.out.read (fun F h => left_calls h)).mono ?_
            rw [show (turnOf ((50 : Nat) : Int) ((50 : Nat) : Int) (k + 1) n (rdel R (k : Int))).left = 50 from rfl]
            rintro e w4 ⟨rfl, rfl⟩
            go_wp2
            go_roundw
            case rel => exact ⟨k + 1, rdel R (k : Int), by go_num, by omega, by omega, ⟨NEXT.out _ (by have := rdel_length R (k : Int); omega) (fun j h1 h2 => rget_del_other R _ _ (by omega))⟩, HA4⟩
            case measure => simp only [intOf]; omega
          · have HD : Asd (sets (turnOf ((50 : Nat) : Int) ((50 : Nat) : Int) k n R) (k : Int) 0 = true) := ⟨by unfold sets; simp only [turnOf]; rw [HRI.out]; rfl⟩
            have HD2 : Asd (setRole (turnOf ((50 : Nat) : Int) ((50 : Nat) : Int) k n R) (k : Int) 0 = turnOf ((50 : Nat) : Int) ((50 : Nat) : Int) (k + 1) n (rput R (k : Int) 0)) := ⟨by unfold setRole; rw [if_pos HD.out, if_pos rfl]; exact turn_lose ((50 : Nat) : Int) ((50 : Nat) : Int) k n (rput R (k : Int) 0) hk1 hkU⟩
            go_wp2_with fail
            refine (HA.out.turn (fun F h => set_calls h (k : Int) 0 (idn k (by omega)) HQL.out hRl)).mono ?_
            rw [HD.out, HD2.out]
            rintro e w3 ⟨rfl, h⟩
            have HA4 := Asd.mk h
            clear h HA
            go_wp2_with fail
            refine (HA4.out.read (fun F h => holder_calls h)).mono ?_
            rw [show (turnOf ((50 : Nat) : Int) ((50 : Nat) : Int) (k + 1) n (rput R (k : Int) 0)).holder = (k : Int) + 1 by rw [← hk2]; rfl]
            rintro e w4 ⟨rfl, rfl⟩
            go_wp2_with fail
            refine (HA4.out.read (fun F h => left_calls h)).mono ?_
            rw [show (turnOf ((50 : Nat) : Int) ((50 : Nat) : Int) (k + 1) n (rput R (k : Int) 0)).left = 50 from rfl]
            rintro e w4 ⟨rfl, rfl⟩
            go_wp2
            go_roundw
            case rel => exact ⟨k + 1, rput R (k : Int) 0, by go_num, by omega, by omega, ⟨NEXT.out _ (rput_length R (k : Int) 0) (fun j h1 h2 => rget_put_other R _ _ 0 (by omega))⟩, HA4⟩
            case measure => simp only [intOf]; omega
          · have hk0 : ¬ ((k : Int) = 0) := by omega
            have HD : Asd (revokes (turnOf ((50 : Nat) : Int) ((50 : Nat) : Int) k n R) = 0) := ⟨by unfold revokes; exact if_neg hk0⟩
            have HD2 : Asd (revoke (turnOf ((50 : Nat) : Int) ((50 : Nat) : Int) k n R) = turnOf ((50 : Nat) : Int) ((50 : Nat) : Int) (k + 1) n R) := ⟨by unfold revoke; rw [if_neg (show ¬ (turnOf ((50 : Nat) : Int) ((50 : Nat) : Int) k n R).holder = 0 from hk0)]; exact pass_turn _ _ k n R hk1 hkU⟩
            clear hk0
            go_wp2_with fail
            refine (HA.out.turn (fun F h => revoke_calls h HQL.out)).mono ?_
            rw [HD.out, HD2.out]
            rintro e w3 ⟨rfl, h⟩
            have HA4 := Asd.mk h
            clear h HA
            go_wp2_with fail
            refine (HA4.out.read (fun F h => holder_calls h)).mono ?_
            rw [show (turnOf ((50 : Nat) : Int) ((50 : Nat) : Int) (k + 1) n (R)).holder = (k : Int) + 1 by rw [← hk2]; rfl]
            rintro e w4 ⟨rfl, rfl⟩
            go_wp2_with fail
            refine (HA4.out.read (fun F h => left_calls h)).mono ?_
            rw [show (turnOf ((50 : Nat) : Int) ((50 : Nat) : Int) (k + 1) n (R)).left = 50 from rfl]
            rintro e w4 ⟨rfl, rfl⟩
            go_wp2
            go_roundw
            case rel => exact ⟨k + 1, R, by go_num, by omega, by omega, ⟨NEXT.out _ (by omega) (fun _ _ _ => rfl)⟩, HA4⟩
            case measure => simp only [intOf]; omega
        · have hkn2 : k = n := by omega
          subst hkn2
          go_wp2_with fail
          refine (HA.out.news (fun F h => queue_calls h (by rw [turn_queue]; omega))).mono ?_
          unfold NewAt
          rw [turn_queue, Nat.sub_self]
          rintro e w3 ⟨A3, c3, G3, rfl, _, _, h, _⟩
          have HE := Asd.mk h.out
          clear h HA
          go_wp2
          go_ret
          exact ⟨rfl, HE.out⟩
end Go.Proofs.Ytaeafnpldlcdnaa.Fl
