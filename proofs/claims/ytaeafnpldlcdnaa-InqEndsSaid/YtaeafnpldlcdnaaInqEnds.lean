/- The law InqEnds: what its call comes to, for every input. -/
import Derived.Test.YtaeafnpldlcdnaaInqHead
set_option linter.unusedVariables false
set_option linter.unusedSimpArgs false
namespace Go.Proofs.Ytaeafnpldlcdnaa.Iq
open Go.RowKit K Fl
set_option maxHeartbeats 4000000 in
set_option maxRecDepth 100000 in
theorem ends_walk (w : World) (size : Int) (ws : (Lit.int .i64 size).wf = true) (A : Option Addr) (n c : Nat) (keys : List UInt8) (hr : Rd w A n keys) (hc : n ≤ c) (hm : c ≤ maxLen) (A2 : Option Addr) (n2 c2 : Nat) (more : List UInt8) (hr2 : Rd w A2 n2 more) (hc2 : n2 ≤ c2) (hm2 : c2 ≤ maxLen) (role : Int) (wr : (Lit.int .i64 role).wf = true) :
    Calls Try.prog 7 #[.int .i64 size, .slice A n c, .slice A2 n2 c2, .int .i64 role] w fun e w' => e = .returned (.bool true) ∧ Upd (fun _ => False) w w' := by
  have hlim := hr.lim
  have hlim2 := hr2.lim
  have HR := Asd.mk hr
  have HR2 := Asd.mk hr2
  obtain ⟨a, ha, hal⟩ := rem_exists size 400 (by omega) (by omega)
  obtain ⟨b, hb, hbl⟩ := rem_exists role 3 (by omega) (by omega)
  obtain ⟨Z, hZ⟩ : ∃ Z, Z = 1 + a := ⟨_, rfl⟩
  have hZi : (1 : Int) + (a : Int) = (Z : Int) := by omega
  have hZ1 : 1 ≤ Z ∧ Z ≤ 400 := by omega
  have hcl : Oq.clampSize (Z : Int) = (Z : Int) := by unfold Oq.clampSize; rw [if_neg (by omega), if_neg (by omega)]
  have hs3 : (Fl.join (Fl.ask (Fl.join (Fl.new 5) 1 1) 1) 2 (b : Int)).holder = 1 ∧ rget (Fl.join (Fl.ask (Fl.join (Fl.new 5) 1 1) 1) 2 (b : Int)).roles 1 = some 1 := by
    rcases (by omega : b = 0 ∨ b = 1 ∨ b = 2) with rfl | rfl | rfl <;> decide
  have ha2 : IntKind.i64.wrap ((IntKind.u64.wrap size).tmod 400) = (a : Int) := by rw [IntWalk.i64_left]; exact ha
  have hb2 : IntKind.i64.wrap ((IntKind.u64.wrap role).tmod 3) = (b : Int) := by rw [IntWalk.i64_left]; exact hb
  have HS3 := Asd.mk hs3
  have HCL := Asd.mk hcl
  clear hr hr2 hm hm2 ws wr ha hb hs3 hcl hZ
  go_enter Try.func7, Try.ntmps7
  go_wp2_with fail
  refine (head_calls _).mono ?_
  rintro e w1 ⟨rfl, hu⟩
  have HU := Asd.mk hu
  clear hu
  by_cases h3 : 300 < n
  · go_wp2
    go_ret
    exact ⟨rfl, HU.out⟩
  by_cases h4 : 300 < n2
  · go_wp2
    go_ret
    exact ⟨rfl, HU.out⟩
  go_wp2_with fail
  refine (new_at 5 HU.out).mono ?_
  rintro e w2 ⟨t, rfl, h⟩
  have H1 := Asd.mk h
  clear h HU
  go_wp2_with fail
  refine (qnew_at (Z : Int) H1.out).mono ?_
  rw [HCL.out]
  rintro e w3 ⟨p, rfl, h⟩
  have H2 := Asd.mk h
  clear h H1
  go_wp2_with fail
  refine (H2.out.turnT (fun F h => join_calls h 1 1 id1 (by decide))).mono ?_
  rintro e w4 ⟨rfl, h⟩
  have H3 := Asd.mk h
  clear h H2
  go_wp2_with fail
  refine (H3.out.turnT (fun F h => ask_calls h 1 id1 (by decide))).mono ?_
  rintro e w5 ⟨rfl, h⟩
  have H4 := Asd.mk h
  clear h H3
  go_wp2_with fail
  refine (H4.out.turnT (fun F h => join_calls h 2 (b : Int) ⟨by omega, by omega⟩ (by decide))).mono ?_
  rintro e w6 ⟨rfl, h⟩
  obtain ⟨s3, hs3⟩ : ∃ s3, s3 = Fl.join (Fl.ask (Fl.join (Fl.new 5) 1 1) 1) 2 (b : Int) := ⟨_, rfl⟩
  rw [← hs3] at h HS3
  have H6 := Asd.mk h
  clear h H4 hs3
  by_cases hfit : n ≤ Z
  · have hy : why ⟨[], (Z : Int), false, 0⟩ s3 1 n = 0 := by
      unfold why
      rw [HS3.out.2, HS3.out.1]
      simp
      omega
    have HY := Asd.mk hy
    have hfi : (n : Int) ≤ (Z : Int) := by omega
    clear hy
    go_wp2_with fail
    refine (H6.out.offer 1 id1 A n c keys (HR.out.up H6.out.out) ⟨by simp only; omega, by simp only; omega⟩).mono ?_
    rw [HY.out]
    rintro e w7 ⟨rfl, h⟩
    have H7 : Asd (At3 w w7 t p s3 ⟨keys, (Z : Int), false, (n : Int)⟩) := ⟨by
      have e : offer ⟨[], (Z : Int), false, 0⟩ s3 1 keys = ⟨keys, (Z : Int), false, (n : Int)⟩ := by
        unfold offer
        rw [HR.out.len, if_pos HY.out]
        simp
      rw [← e]
      exact h⟩
    clear h H6
    go_wp2_with fail
    refine (H7.out.total).mono ?_
    rintro e w8 ⟨rfl, rfl⟩
    go_wp2_with fail
    refine (H7.out.finish).mono ?_
    rintro e w8 ⟨rfl, h⟩
    have H8 : Asd (At3 w w8 t p s3 ⟨[], (Z : Int), true, (n : Int)⟩) := ⟨h⟩
    clear h H7
    go_wp2
    go_loopw [13] (fun v13 wr => ∃ i : Nat, v13 = .int .i64 (i : Int) ∧ i ≤ 4 ∧ Asd (At3 w wr t p s3 ⟨[], (Z : Int), true, (n : Int)⟩)) (fun v13 _ => 4 - (intOf v13).toNat)
    case atStart => exact ⟨0, rfl, by omega, H8⟩
    case round =>
      clear H8
      obtain ⟨i, rfl, hi, H8⟩ := hrel
      by_cases hlt : i < 4
      · go_wp2_with fail
        refine (H8.out.offer (i : Int) ⟨by omega, by omega⟩ A2 n2 c2 more (HR2.out.up H8.out.out) ⟨by simp only; omega, by simp only; omega⟩).mono ?_
        rintro e w9 ⟨rfl, h⟩
        have ey : why ⟨[], (Z : Int), true, (n : Int)⟩ s3 (i : Int) n2 = 1 := rfl
        have ez : offer ⟨[], (Z : Int), true, (n : Int)⟩ s3 (i : Int) more = ⟨[], (Z : Int), true, (n : Int)⟩ := rfl
        rw [ey]
        rw [ez] at h
        have H9 := Asd.mk h
        clear h H8 ey ez
        go_wp2
        go_roundw
        case rel => exact ⟨i + 1, by go_num, by omega, H9⟩
        case measure => simp only [intOf]; omega
      · have hi4 : i = 4 := by omega
        subst hi4
        obtain ⟨q, hq, HLn, HTk⟩ := H8.out.inner
        have hkr : Upd (fun _ => False) wr wr := Upd.refl _ _
        clear hlt hi
        go_wp2_with fail
        refine (HLn.out).mono ?_
        rintro e w9 ⟨rfl, rfl⟩
        go_wp2_with fail
        refine (HTk.out 1000).mono ?_
        rintro e w9 ⟨g, rfl, hr9, h⟩
        have e9 : Oq.takeN 1000 ([] : List UInt8).length = 0 := by decide
        simp only at hr9 h
        rw [e9] at hr9 h ⊢
        have H9 := Asd.mk h
        clear hr9 h e9 hq hkr H8
        go_wp2_with fail
        refine (H9.out.total).mono ?_
        rintro e w10 ⟨rfl, rfl⟩
        go_wp2
        go_ret
        exact ⟨rfl, H9.out.out⟩
  · have hy : why ⟨[], (Z : Int), false, 0⟩ s3 1 n = 5 := by
      unfold why
      rw [HS3.out.2, HS3.out.1]
      simp
      omega
    have HY := Asd.mk hy
    have hfi : ¬ (n : Int) ≤ (Z : Int) := by omega
    clear hy
    go_wp2_with fail
    refine (H6.out.offer 1 id1 A n c keys (HR.out.up H6.out.out) ⟨by simp only; omega, by simp only; omega⟩).mono ?_
    rw [HY.out]
    rintro e w7 ⟨rfl, h⟩
    have H7 : Asd (At3 w w7 t p s3 ⟨[], (Z : Int), false, 0⟩) := ⟨by
      have e : offer ⟨[], (Z : Int), false, 0⟩ s3 1 keys = ⟨[], (Z : Int), false, 0⟩ := by
        unfold offer
        rw [HR.out.len, if_neg (by rw [HY.out]; omega)]
      rw [← e]
      exact h⟩
    clear h H6
    go_wp2_with fail
    refine (H7.out.total).mono ?_
    rintro e w8 ⟨rfl, rfl⟩
    go_wp2_with fail
    refine (H7.out.finish).mono ?_
    rintro e w8 ⟨rfl, h⟩
    have H8 : Asd (At3 w w8 t p s3 ⟨[], (Z : Int), true, 0⟩) := ⟨h⟩
    clear h H7
    go_wp2
    go_loopw [13] (fun v13 wr => ∃ i : Nat, v13 = .int .i64 (i : Int) ∧ i ≤ 4 ∧ Asd (At3 w wr t p s3 ⟨[], (Z : Int), true, 0⟩)) (fun v13 _ => 4 - (intOf v13).toNat)
    case atStart => exact ⟨0, rfl, by omega, H8⟩
    case round =>
      clear H8
      obtain ⟨i, rfl, hi, H8⟩ := hrel
      by_cases hlt : i < 4
      · go_wp2_with fail
        refine (H8.out.offer (i : Int) ⟨by omega, by omega⟩ A2 n2 c2 more (HR2.out.up H8.out.out) ⟨by simp only; omega, by simp only; omega⟩).mono ?_
        rintro e w9 ⟨rfl, h⟩
        have ey : why ⟨[], (Z : Int), true, 0⟩ s3 (i : Int) n2 = 1 := rfl
        have ez : offer ⟨[], (Z : Int), true, 0⟩ s3 (i : Int) more = ⟨[], (Z : Int), true, 0⟩ := rfl
        rw [ey]
        rw [ez] at h
        have H9 := Asd.mk h
        clear h H8 ey ez
        go_wp2
        go_roundw
        case rel => exact ⟨i + 1, by go_num, by omega, H9⟩
        case measure => simp only [intOf]; omega
      · have hi4 : i = 4 := by omega
        subst hi4
        obtain ⟨q, hq, HLn, HTk⟩ := H8.out.inner
        have hkr : Upd (fun _ => False) wr wr := Upd.refl _ _
        clear hlt hi
        go_wp2_with fail
        refine (HLn.out).mono ?_
        rintro e w9 ⟨rfl, rfl⟩
        go_wp2_with fail
        refine (HTk.out 1000).mono ?_
        rintro e w9 ⟨g, rfl, hr9, h⟩
        have e9 : Oq.takeN 1000 ([] : List UInt8).length = 0 := by decide
        simp only at hr9 h
        rw [e9] at hr9 h ⊢
        have H9 := Asd.mk h
        clear hr9 h e9 hq hkr H8
        go_wp2_with fail
        refine (H9.out.total).mono ?_
        rintro e w10 ⟨rfl, rfl⟩
        go_wp2
        go_ret
        exact ⟨rfl, H9.out.out⟩
end Go.Proofs.Ytaeafnpldlcdnaa.Iq
