/- The statements' own model of the floor: a table shows what the model has. -/
import Derived.Test.YtaeafnpldlcdnaaFlModel4
import Derived.Deep.QuietTactic
set_option linter.unusedVariables false
set_option linter.unusedSimpArgs false
namespace Go.Proofs.Ytaeafnpldlcdnaa.Fl
open Go.RowKit K Go.Sort Go.Lib Go.Shelf
theorem rget_key {R : List (Int × Int)} {x : Int} (h : x ∈ R.map (·.1)) : ∃ r, rget R x = some r := by
  obtain ⟨p, hp, rfl⟩ := List.mem_map.1 h
  unfold rget
  cases hf : R.find? fun q => decide (q.1 = p.1) with
  | some q => exact ⟨_, rfl⟩
  | none =>
    have := List.find?_eq_none.1 hf p hp
    simp at this
/-- The table and the model say the same. -/
structure Same (s : T) (sm : MT) : Prop where
  lease : sm.lease = s.lease
  left : sm.left = s.left
  roles : sm.roles = s.roles
  line : sm.line = if s.holder = 0 then [] else s.holder :: s.queue
section
variable {w : World} {t m : Nat} {s : T} {sm : MT} {F Fm : Nat → Prop}
set_option maxHeartbeats 4000000 in
theorem shows_calls (h : TB w t F s) (hm : MB w m Fm sm) (he : Same s sm) (hq0 : s.holder = 0 → s.queue = []) (hq : s.queue.length ≤ 1000) (hr : s.roles.length ≤ 1000) (hk : ∀ x ∈ keys s, idOk x) : Calls Try.prog 33 #[.pointer (some ⟨m, 0, none⟩), .pointer (some ⟨t, 0, none⟩)] w fun e w' => e = .returned (.bool true) ∧ Upd (fun _ => False) w w' := by
  have HT := Asd.mk h
  have HMM := Asd.mk hm
  obtain ⟨Am, cm, Gm, bm, HBm, HOm, HMm, _, _, hms, hcm, hcm2⟩ := hm.cells
  obtain ⟨_, _, _, b, _, _, HM, _⟩ := h.cells
  have hsort := keys_sorted s.roles (HM.out.inc Try.underlying3)
  have HSO := Asd.mk hsort
  simp only [maxLen] at hcm2
  have e1 : mholder sm = s.holder := by unfold mholder; rw [he.line]; split <;> simp_all
  have e2 := he.left
  have e3 : sm.line.tail = s.queue := by rw [he.line]; split; (rename_i h0; rw [hq0 h0]; rfl); rfl
  have e4 : (sm.line.length : Int) - 1 = s.queue.length ∨ (sm.line.length = 0 ∧ s.queue.length = 0) := by
    rw [← e3]; cases sm.line <;> simp
  have HE3 := Asd.mk e3
  have HE1 := Asd.mk e1
  have hmx : mx ((sm.line.length : Int) - 1) 0 = (s.queue.length : Int) := by unfold mx; split <;> omega
  have hll : sm.line.length ≤ s.queue.length + 1 := by omega
  have hwr : IntKind.i64.wrap ((sm.line.length : Int) - 1) = (sm.line.length : Int) - 1 := w64i _ (by omega) (by omega)
  have hln : ∀ W, Upd (fun _ => False) w W → (Builtin.len_ #[63] 3 #[.map (some bm)]).run Try.prog W = .ok (.int .i64 ((keys s).length : Int)) W := fun W k => by
    rw [(HMm.out.upd k (fun h => h)).len Try.underlying63, RI_length, he.roles]
    unfold keys
    rw [List.length_map]
  have hlk := fun x hx => looksR HMm.out x hx
  rw [he.roles] at hlk
  have HLK := Asd.mk hlk
  have hkl : (keys s).length ≤ 1000 := by unfold keys; rw [List.length_map]; exact hr
  have c1 := keepsC (o := 1) HBm.out rfl
  have c2 := keepsC (o := 2) HBm.out rfl
  have c4 := keepsC (o := 4) HBm.out rfl
  rw [e2] at c1
  have HK := Asd.mk hk
  have HR := Asd.mk hr
  obtain ⟨ks, hks⟩ : ∃ ks, ks = keys s := ⟨_, rfl⟩
  have HKS := Asd.mk hks
  rw [← hks] at hln hkl HK
  clear h hm he hq0 e1 e2 e3 e4 hsort HBm hlk hk hr hks
  have hq6 : s.queue.length ≤ 1000000 := by omega
  go_enter Try.func33, Try.ntmps33
  go_wp2_with fail
  refine (queue_calls HT.out hq6).mono ?_
  rintro e w1 ⟨A1, c1', G1, rfl, ho1, hg1, hu1⟩
  have HO1 := Asd.mk ho1
  clear ho1 hg1
  go_wp2_with fail
  refine (users_calls (HT.out.up hu1) (by have := HR.out; omega)).mono ?_
  rw [← HKS.out]
  rintro e w2 ⟨A2, c2', G2, rfl, ho2, hg2, hu2⟩
  have HO2 := Asd.mk ho2
  have HO1' := Asd.mk (HO1.out.up hu2)
  have hU2 : Upd (fun _ => False) w w2 := hu1.trans hu2 (fun _ _ h => h)
  clear ho2 hg2 HO1 hu1 hu2
  go_wp2
  go_quiet (first
    | (go_at_call 15; refine (holder_calls (HT.out.up (by repeat (first | assumption | with_reducible exact Upd.refl _ _ | with_reducible refine Upd.drewN ?_ _ | with_reducible refine Upd.drew ?_ | with_reducible refine Upd.alloc ?_ _ | with_reducible refine Upd.setAt ?_ ?_ | exact Or.inl rfl | exact Or.inr (by simp) | exact Or.inr (by omega))))).mono ?_; rintro e w'' ⟨rfl, rfl⟩; exact ⟨rfl, _, rfl⟩)
    | (go_at_call 21; refine (left_calls (HT.out.up (by repeat (first | assumption | with_reducible exact Upd.refl _ _ | with_reducible refine Upd.drewN ?_ _ | with_reducible refine Upd.drew ?_ | with_reducible refine Upd.alloc ?_ _ | with_reducible refine Upd.setAt ?_ ?_ | exact Or.inl rfl | exact Or.inr (by simp) | exact Or.inr (by omega))))).mono ?_; rintro e w'' ⟨rfl, rfl⟩; exact ⟨rfl, _, rfl⟩)
    | (go_at_call 41; refine (mholder_calls (HMM.out.up (by repeat (first | assumption | with_reducible exact Upd.refl _ _ | with_reducible refine Upd.drewN ?_ _ | with_reducible refine Upd.drew ?_ | with_reducible refine Upd.alloc ?_ _ | with_reducible refine Upd.setAt ?_ ?_ | exact Or.inl rfl | exact Or.inr (by simp) | exact Or.inr (by omega))))).mono ?_; rw [HE1.out]; rintro e w'' ⟨rfl, rfl⟩; exact ⟨rfl, _, rfl⟩))
  have hU3 : Upd (fun _ => False) w (w2.drewN nq) := (by repeat (first | assumption | with_reducible exact Upd.refl _ _ | with_reducible refine Upd.drewN ?_ _ | with_reducible refine Upd.drew ?_ | with_reducible refine Upd.alloc ?_ _ | with_reducible refine Upd.setAt ?_ ?_ | exact Or.inl rfl | exact Or.inr (by simp) | exact Or.inr (by omega)))
  have HO2' := Asd.mk (HO2.out.up (w1 := w2.drewN nq) (by repeat (first | assumption | with_reducible exact Upd.refl _ _ | with_reducible refine Upd.drewN ?_ _ | with_reducible refine Upd.drew ?_ | with_reducible refine Upd.alloc ?_ _ | with_reducible refine Upd.setAt ?_ ?_ | exact Or.inl rfl | exact Or.inr (by simp) | exact Or.inr (by omega))))
  have HO1'' := Asd.mk (HO1'.out.up (w1 := w2.drewN nq) (by repeat (first | assumption | with_reducible exact Upd.refl _ _ | with_reducible refine Upd.drewN ?_ _ | with_reducible refine Upd.drew ?_ | with_reducible refine Upd.alloc ?_ _ | with_reducible refine Upd.setAt ?_ ?_ | exact Or.inl rfl | exact Or.inr (by simp) | exact Or.inr (by omega))))
  generalize w2.drewN nq = w3 at hU3 HO2' HO1'' ⊢
  clear HO2 HO1' hU2 hwr hmx hln
  go_wp2
  go_loop [57] (fun v57 => ∃ i : Nat, v57 = .int .i64 (i : Int) ∧ i ≤ s.queue.length) (fun v57 => s.queue.length - (intOf v57).toNat)
  case atStart => exact ⟨0, rfl, by omega⟩
  case round =>
    obtain ⟨i, rfl, hi⟩ := hrel
    by_cases hlt : i < s.queue.length
    · obtain ⟨ad, rfl, hcell⟩ := HO1''.out.at i hlt
      have hlt2 : i + 1 < sm.line.length := by
        have := HE3.out
        rw [← this, List.length_tail] at hlt
        omega
      obtain ⟨ad2, rfl, hcell2⟩ := (HOm.out.up hU3).at (i + 1) hlt2
      have hx2 : sm.line[i + 1] = s.queue[i] := by
        have := HE3.out
        simp only [← this, List.getElem_tail]
      obtain ⟨x, hx⟩ : ∃ x, x = s.queue[i] := ⟨_, rfl⟩
      rw [hx2, ← hx] at hcell2
      rw [← hx] at hcell
      have hb1 : (x != x) = false := by simp
      have hcell3 := hcell2
      rw [Addr.add, if_neg (Nat.succ_ne_zero i)] at hcell3
      clear hx2 hx
      go_wp2
      go_round
      case rel => exact ⟨i + 1, by go_num, by omega⟩
      case measure => simp only [intOf]; omega
    · have hi2 : i = s.queue.length := by omega
      subst hi2
      clear hlt hi
      go_wp2
      go_loop [75] (fun v75 => ∃ i : Nat, v75 = .int .i64 (i : Int) ∧ i ≤ ks.length) (fun v75 => ks.length - (intOf v75).toNat)
      case atStart => exact ⟨0, rfl, by omega⟩
      case round =>
        obtain ⟨i, rfl, hi⟩ := hrel
        by_cases hlt : i < ks.length
        · obtain ⟨ad, rfl, hcell⟩ := HO2'.out.at i hlt
          obtain ⟨x, hx⟩ : ∃ x, x = ks[i] := ⟨_, rfl⟩
          have hxm : x ∈ ks := by rw [hx]; exact List.getElem_mem _
          have hxk := HK.out x hxm
          obtain ⟨r, hr⟩ := rget_key (R := s.roles) (x := x) (by rw [HKS.out] at hxm; exact hxm)
          have hl := fun W k => HLK.out x hxk W (hU3.trans k (fun _ _ h => h))
          have HRX := Asd.mk hr
          rw [hr] at hl
          simp only [Option.getD_some, Option.isSome_some] at hl
          rw [← hx] at hcell
          have hb1 : (r != r) = false := by simp
          have HXK := Asd.mk hxk
          have hk3 : Upd (fun _ => False) w3 w3 := Upd.refl _ _
          by_cases hi0 : 0 < i
          · have hj : i - 1 < ks.length := by omega
            obtain ⟨ad', had, hcellj⟩ := HO2'.out.at (i - 1) hj
            obtain rfl := Option.some.inj had
            obtain ⟨y, hy⟩ : ∃ y, y = ks[i - 1] := ⟨_, rfl⟩
            rw [← hy] at hcellj
            have hyx : y < x := by
              have hp := HSO.out
              have hks := HKS.out
              unfold keys at hks
              rw [← hks] at hp
              rw [hx, hy]
              exact List.pairwise_iff_getElem.1 hp (i - 1) i hj hlt (by omega)
            have hb2 : (0 : Int) < (i : Int) := by omega
            have hb3 : ¬ x ≤ y := by omega
            have hci : IntKind.i64.wrap ((i : Int) - 1) = ((i - 1 : Nat) : Int) := (w64i _ (by omega) (by omega)).trans (by omega)
            clear hy hx hxm hr hxk
            go_wp2_with fail
            refine (role_calls (HT.out.up hU3) x HXK.out).mono ?_
            rw [HRX.out]
            simp only [Option.getD_some, Option.isSome_some]
            rintro e w7 ⟨rfl, rfl⟩
            go_wp2
            go_round
            case rel => exact ⟨i + 1, by go_num, by omega⟩
            case measure => simp only [intOf]; omega
          · have hi00 : i = 0 := by omega
            subst hi00
            have hcell0 : w3.cell? ad = some (.int .i64 x) := hcell
            clear hi0 hx hxm hr hxk hcell
            go_wp2_with fail
            refine (role_calls (HT.out.up hU3) x HXK.out).mono ?_
            rw [HRX.out]
            simp only [Option.getD_some, Option.isSome_some]
            rintro e w7 ⟨rfl, rfl⟩
            go_wp2
            go_round
            case rel => exact ⟨1, by go_num, by omega⟩
            case measure => simp only [intOf]; omega
        · have hi2 : i = ks.length := by omega
          subst hi2
          clear hlt hi
          go_wp2
          go_ret
          exact ⟨rfl, hU3⟩
end
end Go.Proofs.Ytaeafnpldlcdnaa.Fl
