/- The law InqActs: what its call comes to, for every input. -/
import Derived.Test.YtaeafnpldlcdnaaInqThree
import Derived.Test.YtaeafnpldlcdnaaK5
import Derived.Test.YtaeafnpldlcdnaaK8
import Derived.Deep.DeepCutAuto
import Derived.Deep.CutBlock
import Derived.Deep.RegionHeld3
import Derived.Deep.QuietTactic
set_option linter.unusedVariables false
set_option linter.unusedSimpArgs false
namespace Go.Proofs.Ytaeafnpldlcdnaa.Iq
open Go.RowKit K Fl
abbrev RAct := R4 (RInt .i64) (RInt .i64) (RInt .i64) RBytes
theorem RAct.stays : Stays RAct := R4.stays (RInt.stays _) (RInt.stays _) (RInt.stays _) RBytes.stays
theorem wf_ok {x : Int} (h : (Lit.int .i64 x).wf = true) : idOk x := by
  simp only [Lit.wf, Bool.and_eq_true, decide_eq_true_eq] at h
  exact h
def total (L : List (Int × Int × Int × List UInt8)) : Nat := (L.map fun a => a.2.2.2.length).sum
theorem total_take (L : List (Int × Int × Int × List UInt8)) (i : Nat) (h : i < L.length) : total (L.take (i + 1)) = total (L.take i) + L[i].2.2.2.length := by
  rw [List.take_succ_eq_append_getElem h]
  unfold total
  rw [List.map_append, List.sum_append]
  simp
theorem total_le (L : List (Int × Int × Int × List UInt8)) (i : Nat) : total (L.take i) ≤ total L := by
  have : total L = total (L.take i) + total (L.drop i) := by
    conv => lhs; rw [← List.take_append_drop i L]
    unfold total
    rw [List.map_append, List.sum_append]
  omega
set_option maxHeartbeats 8000000 in
set_option maxRecDepth 100000 in
theorem acts_walk (w : World) (size : Int) (ws : (Lit.int .i64 size).wf = true) (A : Option Addr) (n c : Nat) (L : List (Int × Int × Int × List UInt8)) (hL : RSlice RAct 4 w [.slice A n c] L) :
    Calls Try.prog 9 #[.int .i64 size, .slice A n c] w fun e w' => e = .returned (.bool true) ∧ Upd (fun _ => False) w w' := by
  obtain ⟨A', c', he, hE, hc, hm, _⟩ := hL
  simp only [List.cons.injEq, Value.slice.injEq, and_true] at he
  obtain ⟨rfl, rfl, rfl⟩ := he
  obtain ⟨n, hn⟩ : ∃ n, n = L.length := ⟨_, rfl⟩
  rw [← hn] at hc hE
  rw [← hn]
  have HE := Asd.mk hE
  have hlim := hE.lim
  have HNX := Asd.mk hn
  have HST := Asd.mk RAct.stays
  clear hE hm ws hn
  go_enter Try.func9, Try.ntmps9
  go_wp2_with fail
  refine (head_calls _).mono ?_
  rintro e w1 ⟨rfl, hu⟩
  have HU := Asd.mk hu
  clear hu
  by_cases hbig : 100 < n
  · go_wp2
    go_ret
    exact ⟨rfl, HU.out⟩
  go_wp2
  go_loopw [5, 28] (fun v5 v28 wr => ∃ i : Nat, i ≤ n ∧ v28 = .int .i64 (i : Int) ∧ v5 = .int .i64 ((total (L.take i) : Nat) : Int) ∧ total (L.take i) ≤ i * 140737488351232 ∧ Asd (Upd (fun _ => False) w wr)) (fun _ v28 _ => n - (intOf v28).toNat)
  case atStart => exact ⟨0, by omega, rfl, rfl, by simp [total], HU⟩
  case round =>
    clear HU
    obtain ⟨i, hi, rfl, rfl, htot, HUr⟩ := hrel
    by_cases hlt : i < n
    · obtain ⟨ad, cs, e, hlen, hr, hcell⟩ := (HE.out.up HST.out HUr.out).at_ i hlt
      subst e
      have htk := total_take L i (by rw [← HNX.out]; exact hlt)
      obtain ⟨x, hx⟩ : ∃ x, x = L[i]'(by rw [← HNX.out]; exact hlt) := ⟨_, rfl⟩
      rw [← hx] at hr htk
      obtain ⟨k, id, nn, l⟩ := x
      obtain ⟨c0, c1, c2, c3, rfl, ⟨h0, _⟩, ⟨h1, w1d⟩, ⟨h2, w2d⟩, ⟨a1, k1, h3, hrd, hk1, hk2, hk3⟩⟩ := hr
      simp only [List.cons.injEq, and_true] at h0 h1 h2 h3
      subst h0; subst h1; subst h2; subst h3
      have hk3' : l.length ≤ 140737488351232 := hk3
      have HC := Asd.mk hcell
      have HTK := Asd.mk htk
      have HRD := Asd.mk hrd
      have HID := Asd.mk (wf_ok w1d)
      clear hcell hlen hx w1d w2d hrd htk hk3
      go_wp2_with (with_reducible refine stop_load 62 _ rfl ?_)
      refine wp_loadAgg _ (ad.add (i * 4)) 4 rfl _ _ rfl rfl Try.underlying62 rfl (by kernel_rfl) rfl (fun j u hj => by rw [add_add]; exact HC.out j u hj) ?_
      go_wp2
      go_roundw
      case rel => exact ⟨i + 1, by omega, by go_num, by rw [HTK.out]; go_num, by rw [HTK.out]; show total (L.take i) + l.length ≤ _; omega, ⟨HUr.out.alloc _⟩⟩
      case measure => simp [intOf]; omega
    · have hin : i = n := by omega
      obtain ⟨tot, ht⟩ : ∃ t, t = total (L.take i) := ⟨_, rfl⟩
      rw [← ht]
      have HTO : Asd (tot = total L) := ⟨by rw [ht, hin, HNX.out, List.take_length]⟩
      clear ht htot hin
      by_cases hbt : 2000 < tot
      · go_wp2
        go_ret
        exact ⟨by simp, HUr.out⟩
      have HT2 : Asd (∀ j, total (L.take j) ≤ 2000) := ⟨fun j => by have := total_le L j; have := HTO.out; omega⟩
      go_wp2_with fail
      refine (new_at 10 HUr.out).mono ?_
      rintro e w2 ⟨t, rfl, h⟩
      have H1 := Asd.mk h
      clear h HUr
      go_wp2_with fail
      refine (mnew_at 10 H1.out).mono ?_
      rintro e w3 ⟨m, rfl, h⟩
      have H2 := Asd.mk h
      clear h H1
      go_wp2_with fail
      obtain ⟨R, hR⟩ : ∃ R, R = Oq.clampSize size := ⟨_, rfl⟩
      have hR2 : mn (mx size 0) 65536 = R ∧ 0 ≤ R ∧ R ≤ 65536 := by rw [hR]; unfold Oq.clampSize mn mx; split <;> split <;> (try split) <;> (try split) <;> omega
      refine (qnew_at4 size H2.out).mono ?_
      rw [← hR]
      rintro e w4 ⟨p, rfl, h⟩
      have H3 := Asd.mk h
      obtain ⟨hR1, hR3, hR4⟩ := hR2
      clear h H2 hR
      go_wp2
      have hempty : ({ data := #[] } : ByteArray) = S [] := rfl
      rw [hempty]
      clear hempty hR1
      go_loopw [12, 13, 14, 49] (fun v12 v13 v14 v49 wr => ∃ (i : Nat) (hv : List UInt8) (tt : Int) (en : Bool) (s : T) (sm : MT), v12 = .string (S hv) ∧ v13 = .int .i64 tt ∧ v14 = .bool en ∧ v49 = .int .i64 (i : Int) ∧ i ≤ n ∧ hv.length ≤ total (L.take i) ∧ 0 ≤ tt ∧ tt ≤ (total (L.take i) : Nat) ∧ Asd (G s i 0) ∧ Asd (Same s sm) ∧ Asd (At4 w wr t m p s sm ⟨hv, R, en, tt⟩)) (fun _ _ _ v49 _ => n - (intOf v49).toNat)
      case atStart => exact ⟨0, [], 0, false, Fl.new 10, _, rfl, rfl, rfl, rfl, by omega, by simp, by omega, by omega, ⟨G.new 10⟩, ⟨Same.new 10⟩, H3⟩
      case round =>
        clear H3 hi hlt
        obtain ⟨i, hv, tt, en, s, sm, rfl, rfl, rfl, rfl, hi, hhv, ht0, ht1, HG, HS, HA⟩ := hrel
        by_cases hlt : i < n
        · obtain ⟨ad, cs, e, hlen, hr, hcell⟩ := (HE.out.up HST.out HA.out.out).at_ i hlt
          subst e
          have htk := total_take L i (by rw [← HNX.out]; exact hlt)
          obtain ⟨x, hx⟩ : ∃ x, x = L[i]'(by rw [← HNX.out]; exact hlt) := ⟨_, rfl⟩
          rw [← hx] at hr htk
          obtain ⟨k, id, nn, l⟩ := x
          obtain ⟨c0, c1, c2, c3, rfl, ⟨h0, _⟩, ⟨h1, w1d⟩, ⟨h2, w2d⟩, ⟨a1, k1, h3, hrd, hk1, hk2, hk3⟩⟩ := hr
          simp only [List.cons.injEq, and_true] at h0 h1 h2 h3
          subst h0; subst h1; subst h2; subst h3
          have hk3' : l.length ≤ 140737488351232 := hk3
          have HC := Asd.mk hcell
          have HTK := Asd.mk htk
          have HRD := Asd.mk hrd
          have HID := Asd.mk (wf_ok w1d)
          obtain ⟨Ti, hTi⟩ : ∃ Ti, Ti = total (L.take i) := ⟨_, rfl⟩
          have hT2 : Ti + l.length ≤ 2000 := by have h5 := HT2.out (i + 1); rw [HTK.out, ← hTi] at h5; exact h5
          have HTK2 : Asd (total (L.take (i + 1)) = Ti + l.length) := ⟨by rw [HTK.out, ← hTi]⟩
          rw [← hTi] at hhv ht1
          obtain ⟨rm, hrm, hand0⟩ := and_le k 15 (by omega)
          have hand : Go.bits .and .i64 k 15 = (rm : Int) := hand0
          have hql : s.queue.length ≤ 1000000 := by have := HG.out.lens; omega
          have hrl : s.roles.length ≤ 1000000 := by have := HG.out.lens; omega
          have hqm : sm.line.length ≤ 1000000 := by have := Same.lens HS.out HG.out; omega
          have hrm2 : sm.roles.length ≤ 1000000 := by have := Same.lens HS.out HG.out; omega
          clear hcell hlen hx w1d w2d hrd htk hk3 hand0 hTi HTK
          go_wp2_with (with_reducible refine stop_load 62 _ rfl ?_)
          refine wp_loadAgg _ (ad.add (i * 4)) 4 rfl _ _ rfl rfl Try.underlying62 rfl (by kernel_rfl) rfl (fun j u hj => by rw [add_add]; exact HC.out j u hj) ?_
          have hb := heap_alloc_new wr (.cells #[.int .i64 k, .int .i64 id, .int .i64 nn, .slice a1 l.length k1] 62)
          have HW := Asd.mk (HA.out.act ((Upd.refl (fun _ => False) _).alloc (.cells #[.int .i64 k, .int .i64 id, .int .i64 nn, .slice a1 l.length k1] 62)) hb (Nat.le_refl _))
          have b0 := keepsC (o := 0) hb rfl
          have hkr : Upd (fun _ => False) wr wr := Upd.refl _ _
          go_upto_block 4 with fail
          clear hb b0 HC
          go_cut [12, 13, 14] (fun v12 v13 v14 wx => ∃ (hv2 : List UInt8) (tt2 : Int) (en2 : Bool) (s2 : T) (sm2 : MT), v12 = .string (S hv2) ∧ v13 = .int .i64 tt2 ∧ v14 = .bool en2 ∧ hv2.length ≤ Ti + l.length ∧ 0 ≤ tt2 ∧ tt2 ≤ ((Ti + l.length : Nat) : Int) ∧ Asd (G s2 (i + 1) 0) ∧ Asd (Same s2 sm2) ∧ Asd (A4 w wr.heap.size (.cells #[.int .i64 k, .int .i64 id, .int .i64 nn, .slice a1 l.length k1] 62 (0, 0)) wx t m p s2 sm2 ⟨hv2, R, en2, tt2⟩))
          case first =>
            rcases (by omega : rm = 4 ∨ rm = 5 ∨ rm = 6 ∨ rm = 7 ∨ rm = 8 ∨ rm = 9 ∨ (rm ≠ 4 ∧ rm ≠ 5 ∧ rm ≠ 6 ∧ rm ≠ 7 ∧ rm ≠ 8 ∧ rm ≠ 9)) with rfl | rfl | rfl | rfl | rfl | rfl | hno
            · obtain ⟨q, hq, _, HTk⟩ := HW.out.inner
              have b2 := keepsC (o := 2) HW.out.1 rfl
              obtain ⟨kk, hkk⟩ : ∃ kk, kk = Oq.takeN nn hv.length := ⟨_, rfl⟩
              have hkl : kk ≤ hv.length := by rw [hkk]; exact Oq.takeN_le _ _
              have hmn : mn (mx nn 0) (hv.length : Int) = (kk : Int) := by rw [hkk]; unfold Oq.takeN mx mn; split <;> split <;> (try split) <;> (try split) <;> omega
              have hki : (kk : Int) ≤ (hv.length : Int) := by omega
              have tkd : (hv.drop kk).take (hv.length - kk) = hv.drop kk := List.take_of_length_le (by simp)
              have HKK := Asd.mk hkk
              clear hkk
              go_wp2
              refine wp_region_held_drew (S := fun W => W.cell? ⟨p, 0, none⟩ = some (.pointer (some ⟨q, 0, none⟩)) ∧ W.cell? ⟨wr.heap.size, 2, none⟩ = some (.int .i64 nn)) (by kernel_rfl) (by exact ⟨hq _ (by repeat (first | assumption | with_reducible exact Upd.refl _ _ | with_reducible refine Upd.drewN ?_ _ | with_reducible refine Upd.drew ?_ | with_reducible refine Upd.alloc ?_ _ | with_reducible refine Upd.setAt ?_ ?_ | exact Or.inl rfl | exact Or.inr (by simp) | exact Or.inr (by omega))), b2 _ (by repeat (first | assumption | with_reducible exact Upd.refl _ _ | with_reducible refine Upd.drewN ?_ _ | with_reducible refine Upd.drew ?_ | with_reducible refine Upd.alloc ?_ _ | with_reducible refine Upd.setAt ?_ ?_ | exact Or.inl rfl | exact Or.inr (by simp) | exact Or.inr (by omega)))⟩) (fun hHeld => ?_)
              refine wpAnyH_take (i := 0) (oi := ?_) (v := ?_) ?_ (by kernel_rfl) (by kernel_rfl) (by kernel_rfl) ?_ (Or.inl ⟨?_, ?_⟩) (by assumption) ?_
              rotate_left 2
              · (simp only [List.getElem?_toArray, List.getElem?_cons_succ, List.getElem?_cons_zero]; exact rfl)
              · exact (fun _ _ _ h => h)
              · rfl
              · (intro w hSw; (try dsimp only at hSw); go_simp; (try with_reducible rfl))
              try simp only [Act.put, List.setIfInBounds_toArray, List.set_cons_zero, List.set_cons_succ]
              refine wpAnyH_take (i := 1) (oi := ?_) (v := ?_) ?_ (by kernel_rfl) (by kernel_rfl) (by kernel_rfl) ?_ (Or.inl ⟨?_, ?_⟩) (by assumption) ?_
              rotate_left 2
              · (simp only [List.getElem?_toArray, List.getElem?_cons_succ, List.getElem?_cons_zero]; exact rfl)
              · exact (fun _ _ _ h => h)
              · rfl
              · (intro w hSw; (try dsimp only at hSw); go_simp; (try with_reducible rfl))
              try simp only [Act.put, List.setIfInBounds_toArray, List.set_cons_zero, List.set_cons_succ]
              refine wpAnyH_take (i := 2) (oi := ?_) (v := ?_) ?_ (by kernel_rfl) (by kernel_rfl) (by kernel_rfl) ?_ (Or.inl ⟨?_, ?_⟩) (by assumption) ?_
              rotate_left 2
              · (simp only [List.getElem?_toArray, List.getElem?_cons_succ, List.getElem?_cons_zero]; exact rfl)
              · exact (fun _ _ _ h => h)
              · rfl
              · (intro w hSw; (try dsimp only at hSw); go_simp; (try with_reducible rfl))
              try simp only [Act.put, List.setIfInBounds_toArray, List.set_cons_zero, List.set_cons_succ]
              refine wpAnyH_take (i := 3) (oi := ?_) (v := ?_) ?_ (by kernel_rfl) (by kernel_rfl) (by kernel_rfl) ?_ (Or.inl ⟨?_, ?_⟩) (by assumption) ?_
              rotate_left 2
              · (simp only [List.getElem?_toArray, List.getElem?_cons_succ, List.getElem?_cons_zero]; exact rfl)
              · exact (fun _ _ _ h => h)
              · rfl
              · (intro w hSw; (try dsimp only at hSw); go_simp; (try with_reducible rfl))
              try simp only [Act.put, List.setIfInBounds_toArray, List.set_cons_zero, List.set_cons_succ]
              refine wpAnyH_take (i := 4) (oi := ?_) (v := ?_) ?_ (by kernel_rfl) (by kernel_rfl) (by kernel_rfl) ?_ (Or.inl ⟨?_, ?_⟩) (by assumption) ?_
              rotate_left 2
              · (simp only [List.getElem?_toArray, List.getElem?_cons_succ, List.getElem?_cons_zero]; exact rfl)
              · exact (fun _ _ _ h => h)
              · rfl
              · (intro w hSw; (try dsimp only at hSw); go_simp; (try with_reducible rfl))
              try simp only [Act.put, List.setIfInBounds_toArray, List.set_cons_zero, List.set_cons_succ]
              refine wpAnyH_take (i := 5) (oi := ?_) (v := ?_) ?_ (by kernel_rfl) (by kernel_rfl) (by kernel_rfl) ?_ (Or.inl ⟨?_, ?_⟩) (by assumption) ?_
              rotate_left 2
              · (simp only [List.getElem?_toArray, List.getElem?_cons_succ, List.getElem?_cons_zero]; exact rfl)
              · exact (fun _ _ _ h => h)
              · rfl
              · (intro w hSw; (try dsimp only at hSw); go_simp; (try with_reducible rfl))
              try simp only [Act.put, List.setIfInBounds_toArray, List.set_cons_zero, List.set_cons_succ]
              refine wpAnyH_take (i := 8) (oi := ?_) (v := ?_) ?_ (by kernel_rfl) (by kernel_rfl) (by kernel_rfl) ?_ (Or.inl ⟨?_, ?_⟩) (by assumption) ?_
              rotate_left 2
              · (simp only [List.getElem?_toArray, List.getElem?_cons_succ, List.getElem?_cons_zero]; exact rfl)
              · exact (fun _ _ _ h => h)
              · rfl
              · (intro w hSw; (try dsimp only at hSw); go_simp; (try with_reducible rfl))
              try simp only [Act.put, List.setIfInBounds_toArray, List.set_cons_zero, List.set_cons_succ]
              refine wpAnyH_take (i := 9) (oi := ?_) (v := ?_) ?_ (by kernel_rfl) (by kernel_rfl) (by kernel_rfl) ?_ (Or.inl ⟨?_, ?_⟩) (by assumption) ?_
              rotate_left 2
              · (simp only [List.getElem?_toArray, List.getElem?_cons_succ, List.getElem?_cons_zero]; exact rfl)
              · exact (fun _ _ _ h => h)
              · rfl
              · (intro w hSw; (try dsimp only at hSw); go_simp; (try with_reducible rfl))
              try simp only [Act.put, List.setIfInBounds_toArray, List.set_cons_zero, List.set_cons_succ]
              refine wpAnyH_take (i := 10) (oi := ?_) (v := ?_) ?_ (by kernel_rfl) (by kernel_rfl) (by kernel_rfl) ?_ (Or.inl ⟨?_, ?_⟩) (by assumption) ?_
              rotate_left 2
              · (simp only [List.getElem?_toArray, List.getElem?_cons_succ, List.getElem?_cons_zero]; exact rfl)
              · exact (fun _ _ _ h => h)
              · rfl
              · (intro w hSw; (try dsimp only at hSw); go_simp; (try with_reducible rfl))
              try simp only [Act.put, List.setIfInBounds_toArray, List.set_cons_zero, List.set_cons_succ]
              refine wpAnyH_ready (rs := [6]) (by kernel_rfl) (by simp) (AllReadyH.cons (o := ?_) ?_ (fun K hK => ?_) AllReadyH.nil)
              rotate_left 1
              · (simp only [List.getElem?_toArray, List.getElem?_cons_succ, List.getElem?_cons_zero]; exact rfl)
              (go_simp; (go_at_call 40; refine (HTk.out _ nn (by repeat (first | assumption | with_reducible exact Upd.refl _ _ | with_reducible refine Upd.drewN ?_ _ | with_reducible refine Upd.drew ?_ | with_reducible refine Upd.alloc ?_ _ | with_reducible refine Upd.setAt ?_ ?_ | exact Or.inl rfl | exact Or.inr (by simp) | exact Or.inr (by omega)))).mono ?_; rintro e w6 ⟨g, rfl, hr6, h6, hc6⟩; (try simp only at hr6 h6); rw [← HKK.out] at hr6 h6 ⊢; have H6 := Asd.mk h6; have hst := run_str (c := kk) Try.underlying47 Try.underlying5 Try.underlying9 hr6; have HC6 := Asd.mk (And.intro hc6 (keepsC (o := 2) (v := .int .i64 nn) h6.1 rfl _ (Upd.refl _ _))); clear h6 hr6 hc6))
              refine hK.out _ _ (by exact HC6.out) (fun hHeld => ?_)
              clear hK K
              try simp only [Act.put, List.setIfInBounds_toArray, List.set_cons_zero, List.set_cons_succ]
              refine wpAnyH_ready (rs := [7]) (by kernel_rfl) (by simp) (AllReadyH.cons (o := ?_) ?_ (fun K hK => ?_) AllReadyH.nil)
              rotate_left 1
              · (simp only [List.getElem?_toArray, List.getElem?_cons_succ, List.getElem?_cons_zero]; exact rfl)
              go_simp
              refine hK.out _ _ (by exact hHeld) (fun hHeld => ?_)
              clear hK K
              try simp only [Act.put, List.setIfInBounds_toArray, List.set_cons_zero, List.set_cons_succ]
              refine wpAnyH_take (i := 11) (oi := ?_) (v := ?_) ?_ (by kernel_rfl) (by kernel_rfl) (by kernel_rfl) ?_ (Or.inl ⟨?_, ?_⟩) (by assumption) ?_
              rotate_left 2
              · (simp only [List.getElem?_toArray, List.getElem?_cons_succ, List.getElem?_cons_zero]; exact rfl)
              · exact (fun _ _ _ h => h)
              · rfl
              · (intro w hSw; (try dsimp only at hSw); go_simp; (try with_reducible rfl))
              try simp only [Act.put, List.setIfInBounds_toArray, List.set_cons_zero, List.set_cons_succ]
              refine wpAnyH_done (by kernel_rfl) ?_ _
              go_wp2
              go_meet
              exact ⟨hv.drop kk, tt, en, _, _, by first | rfl | rw [tkd], rfl, rfl, by rw [List.length_drop]; omega, by omega, by omega, ⟨HG.out.mono (Nat.le_succ _)⟩, ⟨HS.out⟩, H6⟩
            · have b1 := keepsC (o := 1) HW.out.1 rfl
              have b2 := keepsC (o := 2) HW.out.1 rfl
              go_wp2_with fail
              refine (HW.out.turnT (fun F h => join_calls h id nn HID.out hrl)).mono ?_
              rintro e w6 ⟨rfl, h6⟩
              have H6 := Asd.mk h6
              have d1 := keepsC (o := 1) h6.1 rfl
              have d2 := keepsC (o := 2) h6.1 rfl
              clear h6 HW b1 b2
              go_wp2_with fail
              refine (H6.out.turnM (fun F h => mjoin_calls h id nn HID.out hrm2)).mono ?_
              rintro e w7 ⟨rfl, h7⟩
              have H7 := Asd.mk h7
              clear h7 H6 d1 d2
              go_wp2
              go_meet
              exact ⟨hv, tt, en, _, _, rfl, rfl, rfl, by omega, by omega, by omega, ⟨HG.out.join id nn HID.out.2⟩, ⟨HS.out.join id nn⟩, H7⟩
            · have b1 := keepsC (o := 1) HW.out.1 rfl
              have b2 := keepsC (o := 2) HW.out.1 rfl
              go_wp2_with fail
              refine (HW.out.turnT (fun F h => set_calls h id nn HID.out hql hrl)).mono ?_
              rintro e w6 ⟨rfl, h6⟩
              have H6 := Asd.mk h6
              have d1 := keepsC (o := 1) h6.1 rfl
              have d2 := keepsC (o := 2) h6.1 rfl
              clear h6 HW b1 b2
              go_wp2_with fail
              refine (H6.out.turnM (fun F h => mset_calls h id nn HID.out hqm hrm2)).mono ?_
              rintro e w7 ⟨rfl, h7⟩
              have H7 := Asd.mk h7
              clear h7 H6 d1 d2
              go_wp2
              go_meet
              exact ⟨hv, tt, en, _, _, rfl, rfl, rfl, by omega, by omega, by omega, ⟨HG.out.setRole id nn⟩, ⟨HS.out.setRole HG.out id nn⟩, H7⟩
            · have b1 := keepsC (o := 1) HW.out.1 rfl
              have b2 := keepsC (o := 2) HW.out.1 rfl
              go_wp2_with fail
              refine (HW.out.turnT (fun F h => ask_calls h id HID.out hql)).mono ?_
              rintro e w6 ⟨rfl, h6⟩
              have H6 := Asd.mk h6
              have d1 := keepsC (o := 1) h6.1 rfl
              have d2 := keepsC (o := 2) h6.1 rfl
              clear h6 HW b1 b2
              go_wp2_with fail
              refine (H6.out.turnM (fun F h => mask_calls h id HID.out hqm)).mono ?_
              rintro e w7 ⟨rfl, h7⟩
              have H7 := Asd.mk h7
              clear h7 H6 d1 d2
              go_wp2
              go_meet
              exact ⟨hv, tt, en, _, _, rfl, rfl, rfl, by omega, by omega, by omega, ⟨HG.out.ask id⟩, ⟨HS.out.ask HG.out id⟩, H7⟩
            · have b1 := keepsC (o := 1) HW.out.1 rfl
              have b2 := keepsC (o := 2) HW.out.1 rfl
              go_wp2_with fail
              refine (HW.out.turnT (fun F h => drop_calls h id HID.out hql)).mono ?_
              rintro e w6 ⟨rfl, h6⟩
              have H6 := Asd.mk h6
              have d1 := keepsC (o := 1) h6.1 rfl
              have d2 := keepsC (o := 2) h6.1 rfl
              clear h6 HW b1 b2
              go_wp2_with fail
              refine (H6.out.turnM (fun F h => mdrop_calls h id HID.out hqm)).mono ?_
              rintro e w7 ⟨rfl, h7⟩
              have H7 := Asd.mk h7
              clear h7 H6 d1 d2
              go_wp2
              go_meet
              exact ⟨hv, tt, en, _, _, rfl, rfl, rfl, by omega, by omega, by omega, ⟨(HG.out.drop id).mono (Nat.le_succ _)⟩, ⟨HS.out.drop HG.out id⟩, H7⟩
            · go_wp2_with fail
              refine (HW.out.finish).mono ?_
              rintro e w6 ⟨rfl, h6⟩
              have H6 : Asd (A4 w wr.heap.size (.cells #[.int .i64 k, .int .i64 id, .int .i64 nn, .slice a1 l.length k1] 62 (0, 0)) w6 t m p s sm ⟨[], R, true, tt⟩) := ⟨h6⟩
              clear h6 HW
              go_wp2
              go_meet
              exact ⟨[], tt, true, _, _, rfl, rfl, rfl, by simp, by omega, by omega, ⟨HG.out.mono (Nat.le_succ _)⟩, ⟨HS.out⟩, H6⟩
            · have t4 : ((rm : Int) == 4) = false := beq_eq_false_iff_ne.2 (by omega)
              have t5 : ((rm : Int) == 5) = false := beq_eq_false_iff_ne.2 (by omega)
              have t6 : ((rm : Int) == 6) = false := beq_eq_false_iff_ne.2 (by omega)
              have t7 : ((rm : Int) == 7) = false := beq_eq_false_iff_ne.2 (by omega)
              have t8 : ((rm : Int) == 8) = false := beq_eq_false_iff_ne.2 (by omega)
              have t9 : ((rm : Int) == 9) = false := beq_eq_false_iff_ne.2 (by omega)
              clear hno
              obtain ⟨bm, hbm, HLK, HHo⟩ := HW.out.model
              have b1 := keepsC (o := 1) HW.out.1 rfl
              have b3 := keepsC (o := 3) HW.out.1 rfl
              have HHS : Asd (mholder sm = s.holder) := ⟨Same.holder HS.out⟩
              have hlk := HLK.out id HID.out
              rw [HS.out.roles] at hlk
              obtain ⟨rr, hrr⟩ : ∃ rr, rr = rget s.roles id := ⟨_, rfl⟩
              rw [← hrr] at hlk
              have HRR := Asd.mk hrr
              clear hrr
              cases en with
              | true =>
                have HY : Asd (why ⟨hv, R, true, tt⟩ s id l.length = 1) := ⟨rfl⟩
                have HZ : Asd (offer ⟨hv, R, true, tt⟩ s id l = ⟨hv, R, true, tt⟩) := ⟨by unfold offer; rw [HY.out]; rfl⟩
                go_wp2
                go_quiet (fail)
                go_wp2_with fail
                refine ((HW.out.up (by repeat (first | assumption | with_reducible exact Upd.refl _ _ | with_reducible refine Upd.drewN ?_ _ | with_reducible refine Upd.drew ?_ | with_reducible refine Upd.alloc ?_ _ | with_reducible refine Upd.setAt ?_ ?_ | exact Or.inl rfl | exact Or.inr (by simp) | exact Or.inr (by omega)))).offer id HID.out a1 l.length k1 l (HRD.out.up (by repeat (first | assumption | with_reducible exact Upd.refl _ _ | with_reducible refine Upd.drewN ?_ _ | with_reducible refine Upd.drew ?_ | with_reducible refine Upd.alloc ?_ _ | with_reducible refine Upd.setAt ?_ ?_ | exact Or.inl rfl | exact Or.inr (by simp) | exact Or.inr (by omega)))) ⟨by simp only; omega, by simp only; omega⟩).mono ?_
                rw [HY.out, HZ.out]
                rintro e w6 ⟨rfl, h6⟩
                have H6 := Asd.mk h6
                clear h6 HW
                go_wp2
                go_meet
                exact ⟨hv, tt, true, _, _, rfl, rfl, rfl, by omega, by omega, by omega, ⟨HG.out.mono (Nat.le_succ _)⟩, ⟨HS.out⟩, H6⟩
              | false =>
                cases rr with
                | none =>
                  have HY : Asd (why ⟨hv, R, false, tt⟩ s id l.length = 2) := ⟨by unfold why; rw [← HRR.out]; rfl⟩
                  have HZ : Asd (offer ⟨hv, R, false, tt⟩ s id l = ⟨hv, R, false, tt⟩) := ⟨by unfold offer; rw [HY.out]; rfl⟩
                  simp only [Option.getD_none, Option.isSome_none] at hlk
                  go_wp2
                  go_quiet (fail)
                  go_wp2_with fail
                  refine ((HW.out.up (by repeat (first | assumption | with_reducible exact Upd.refl _ _ | with_reducible refine Upd.drewN ?_ _ | with_reducible refine Upd.drew ?_ | with_reducible refine Upd.alloc ?_ _ | with_reducible refine Upd.setAt ?_ ?_ | exact Or.inl rfl | exact Or.inr (by simp) | exact Or.inr (by omega)))).offer id HID.out a1 l.length k1 l (HRD.out.up (by repeat (first | assumption | with_reducible exact Upd.refl _ _ | with_reducible refine Upd.drewN ?_ _ | with_reducible refine Upd.drew ?_ | with_reducible refine Upd.alloc ?_ _ | with_reducible refine Upd.setAt ?_ ?_ | exact Or.inl rfl | exact Or.inr (by simp) | exact Or.inr (by omega)))) ⟨by simp only; omega, by simp only; omega⟩).mono ?_
                  rw [HY.out, HZ.out]
                  rintro e w6 ⟨rfl, h6⟩
                  have H6 := Asd.mk h6
                  clear h6 HW
                  go_wp2
                  go_meet
                  exact ⟨hv, tt, false, _, _, rfl, rfl, rfl, by omega, by omega, by omega, ⟨HG.out.mono (Nat.le_succ _)⟩, ⟨HS.out⟩, H6⟩
                | some r =>
                  simp only [Option.getD_some, Option.isSome_some] at hlk
                  by_cases h0 : r = 0
                  · subst h0
                    have HY : Asd (why ⟨hv, R, false, tt⟩ s id l.length = 3) := ⟨by unfold why; rw [← HRR.out]; rfl⟩
                    have HZ : Asd (offer ⟨hv, R, false, tt⟩ s id l = ⟨hv, R, false, tt⟩) := ⟨by unfold offer; rw [HY.out]; rfl⟩
                    go_wp2
                    go_quiet (fail)
                    go_wp2_with fail
                    refine ((HW.out.up (by repeat (first | assumption | with_reducible exact Upd.refl _ _ | with_reducible refine Upd.drewN ?_ _ | with_reducible refine Upd.drew ?_ | with_reducible refine Upd.alloc ?_ _ | with_reducible refine Upd.setAt ?_ ?_ | exact Or.inl rfl | exact Or.inr (by simp) | exact Or.inr (by omega)))).offer id HID.out a1 l.length k1 l (HRD.out.up (by repeat (first | assumption | with_reducible exact Upd.refl _ _ | with_reducible refine Upd.drewN ?_ _ | with_reducible refine Upd.drew ?_ | with_reducible refine Upd.alloc ?_ _ | with_reducible refine Upd.setAt ?_ ?_ | exact Or.inl rfl | exact Or.inr (by simp) | exact Or.inr (by omega)))) ⟨by simp only; omega, by simp only; omega⟩).mono ?_
                    rw [HY.out, HZ.out]
                    rintro e w6 ⟨rfl, h6⟩
                    have H6 := Asd.mk h6
                    clear h6 HW
                    go_wp2
                    go_meet
                    exact ⟨hv, tt, false, _, _, rfl, rfl, rfl, by omega, by omega, by omega, ⟨HG.out.mono (Nat.le_succ _)⟩, ⟨HS.out⟩, H6⟩
                  · have hb0 : (r == 0) = false := beq_eq_false_iff_ne.2 h0
                    by_cases hh : s.holder = id
                    · have hhb : (id != id) = false := by simp
                      have HHS2 := Asd.mk (HHS.out.trans hh)
                      by_cases hf : R - (hv.length : Int) < (l.length : Int)
                      · have HY : Asd (why ⟨hv, R, false, tt⟩ s id l.length = 5) := ⟨by unfold why; rw [← HRR.out]; simp [h0, hh, hf]⟩
                        have HZ : Asd (offer ⟨hv, R, false, tt⟩ s id l = ⟨hv, R, false, tt⟩) := ⟨by unfold offer; rw [HY.out]; rfl⟩
                        have hgt : R < (hv.length : Int) + (l.length : Int) := by omega
                        clear h0 hh hf
                        go_wp2
                        go_quiet (fail)
                        go_wp2
                        go_quiet ((go_at_call 41; refine (HHo.out _ (by repeat (first | assumption | with_reducible exact Upd.refl _ _ | with_reducible refine Upd.drewN ?_ _ | with_reducible refine Upd.drew ?_ | with_reducible refine Upd.alloc ?_ _ | with_reducible refine Upd.setAt ?_ ?_ | exact Or.inl rfl | exact Or.inr (by simp) | exact Or.inr (by omega)))).mono ?_; rw [HHS2.out]; rintro e w'' ⟨rfl, rfl⟩; exact ⟨rfl, _, rfl⟩))
                        go_wp2_with fail
                        refine ((HW.out.up (by repeat (first | assumption | with_reducible exact Upd.refl _ _ | with_reducible refine Upd.drewN ?_ _ | with_reducible refine Upd.drew ?_ | with_reducible refine Upd.alloc ?_ _ | with_reducible refine Upd.setAt ?_ ?_ | exact Or.inl rfl | exact Or.inr (by simp) | exact Or.inr (by omega)))).offer id HID.out a1 l.length k1 l (HRD.out.up (by repeat (first | assumption | with_reducible exact Upd.refl _ _ | with_reducible refine Upd.drewN ?_ _ | with_reducible refine Upd.drew ?_ | with_reducible refine Upd.alloc ?_ _ | with_reducible refine Upd.setAt ?_ ?_ | exact Or.inl rfl | exact Or.inr (by simp) | exact Or.inr (by omega)))) ⟨by simp only; omega, by simp only; omega⟩).mono ?_
                        rw [HY.out, HZ.out]
                        rintro e w6 ⟨rfl, h6⟩
                        have H6 := Asd.mk h6
                        clear h6 HW
                        go_wp2
                        go_meet
                        exact ⟨hv, tt, false, _, _, rfl, rfl, rfl, by omega, by omega, by omega, ⟨HG.out.mono (Nat.le_succ _)⟩, ⟨HS.out⟩, H6⟩
                      · have HY : Asd (why ⟨hv, R, false, tt⟩ s id l.length = 0) := ⟨by unfold why; rw [← HRR.out]; simp [h0, hh, hf]⟩
                        have HZ : Asd (offer ⟨hv, R, false, tt⟩ s id l = ⟨hv ++ l, R, false, tt + (l.length : Int)⟩) := ⟨by unfold offer; rw [HY.out]; rfl⟩
                        have hgt : ¬ R < (hv.length : Int) + (l.length : Int) := by omega
                        have hla : (hv ++ l).length = hv.length + l.length := by simp
                        have HLA := Asd.mk hla
                        have hst : ∀ W, Upd (fun _ => False) wr W → (convert 47 9 (.slice a1 l.length k1)).run Try.prog W = .ok (.string (S l)) W := fun W k => run_str (c := k1) Try.underlying47 Try.underlying5 Try.underlying9 (HRD.out.up k)
                        clear h0 hh hf hla
                        go_wp2
                        go_quiet (fail)
                        go_wp2
                        go_quiet ((go_at_call 41; refine (HHo.out _ (by repeat (first | assumption | with_reducible exact Upd.refl _ _ | with_reducible refine Upd.drewN ?_ _ | with_reducible refine Upd.drew ?_ | with_reducible refine Upd.alloc ?_ _ | with_reducible refine Upd.setAt ?_ ?_ | exact Or.inl rfl | exact Or.inr (by simp) | exact Or.inr (by omega)))).mono ?_; rw [HHS2.out]; rintro e w'' ⟨rfl, rfl⟩; exact ⟨rfl, _, rfl⟩))
                        go_wp2_with fail
                        refine ((HW.out.up (by repeat (first | assumption | with_reducible exact Upd.refl _ _ | with_reducible refine Upd.drewN ?_ _ | with_reducible refine Upd.drew ?_ | with_reducible refine Upd.alloc ?_ _ | with_reducible refine Upd.setAt ?_ ?_ | exact Or.inl rfl | exact Or.inr (by simp) | exact Or.inr (by omega)))).offer id HID.out a1 l.length k1 l (HRD.out.up (by repeat (first | assumption | with_reducible exact Upd.refl _ _ | with_reducible refine Upd.drewN ?_ _ | with_reducible refine Upd.drew ?_ | with_reducible refine Upd.alloc ?_ _ | with_reducible refine Upd.setAt ?_ ?_ | exact Or.inl rfl | exact Or.inr (by simp) | exact Or.inr (by omega)))) ⟨by simp only; omega, by simp only; omega⟩).mono ?_
                        rw [HY.out, HZ.out]
                        rintro e w6 ⟨rfl, h6⟩
                        have H6 := Asd.mk h6
                        clear h6 HW
                        go_wp2
                        go_meet
                        exact ⟨hv ++ l, tt + (l.length : Int), false, _, _, rfl, rfl, rfl, by rw [HLA.out]; omega, by omega, by omega, ⟨HG.out.mono (Nat.le_succ _)⟩, ⟨HS.out⟩, H6⟩
                    · have hhb : (s.holder != id) = true := bne_iff_ne.2 hh
                      have HY : Asd (why ⟨hv, R, false, tt⟩ s id l.length = 4) := ⟨by unfold why; rw [← HRR.out]; simp [h0, hh]⟩
                      have HZ : Asd (offer ⟨hv, R, false, tt⟩ s id l = ⟨hv, R, false, tt⟩) := ⟨by unfold offer; rw [HY.out]; rfl⟩
                      clear h0 hh
                      go_wp2
                      go_quiet (fail)
                      go_wp2
                      go_quiet ((go_at_call 41; refine (HHo.out _ (by repeat (first | assumption | with_reducible exact Upd.refl _ _ | with_reducible refine Upd.drewN ?_ _ | with_reducible refine Upd.drew ?_ | with_reducible refine Upd.alloc ?_ _ | with_reducible refine Upd.setAt ?_ ?_ | exact Or.inl rfl | exact Or.inr (by simp) | exact Or.inr (by omega)))).mono ?_; rw [HHS.out]; rintro e w'' ⟨rfl, rfl⟩; exact ⟨rfl, _, rfl⟩))
                      go_wp2_with fail
                      refine ((HW.out.up (by repeat (first | assumption | with_reducible exact Upd.refl _ _ | with_reducible refine Upd.drewN ?_ _ | with_reducible refine Upd.drew ?_ | with_reducible refine Upd.alloc ?_ _ | with_reducible refine Upd.setAt ?_ ?_ | exact Or.inl rfl | exact Or.inr (by simp) | exact Or.inr (by omega)))).offer id HID.out a1 l.length k1 l (HRD.out.up (by repeat (first | assumption | with_reducible exact Upd.refl _ _ | with_reducible refine Upd.drewN ?_ _ | with_reducible refine Upd.drew ?_ | with_reducible refine Upd.alloc ?_ _ | with_reducible refine Upd.setAt ?_ ?_ | exact Or.inl rfl | exact Or.inr (by simp) | exact Or.inr (by omega)))) ⟨by simp only; omega, by simp only; omega⟩).mono ?_
                      rw [HY.out, HZ.out]
                      rintro e w6 ⟨rfl, h6⟩
                      have H6 := Asd.mk h6
                      clear h6 HW
                      go_wp2
                      go_meet
                      exact ⟨hv, tt, false, _, _, rfl, rfl, rfl, by omega, by omega, by omega, ⟨HG.out.mono (Nat.le_succ _)⟩, ⟨HS.out⟩, H6⟩
          case rest =>
            obtain ⟨hv2, tt2, en2, s2, sm2, rfl, rfl, rfl, hhv2, ht02, ht12, HG2, HS2, HW2⟩ := hcut
            obtain ⟨q, hq, HLn, _⟩ := HW2.out.inner
            have hkc : Upd (fun _ => False) wc wc := Upd.refl _ _
            clear HA HG HS HW hhv ht0 ht1
            go_wp2_with fail
            refine (HLn.out _ hkc).mono ?_
            rintro e w9 ⟨rfl, rfl⟩
            go_wp2_with fail
            refine (HW2.out.total).mono ?_
            rintro e w9 ⟨rfl, rfl⟩
            go_wp2
            go_roundw
            case rel => exact ⟨i + 1, hv2, tt2, en2, s2, sm2, rfl, rfl, rfl, by go_num, by omega, by rw [HTK2.out]; exact hhv2, ht02, by rw [HTK2.out]; exact ht12, HG2, HS2, ⟨HW2.out.back⟩⟩
            case measure => simp only [intOf]; omega
        · go_wp2
          go_ret
          exact ⟨by simp, HA.out.out⟩
end Go.Proofs.Ytaeafnpldlcdnaa.Iq
