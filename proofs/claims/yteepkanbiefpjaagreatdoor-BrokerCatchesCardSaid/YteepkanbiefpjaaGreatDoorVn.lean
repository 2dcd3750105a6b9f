/- What these laws lean on, part Vn: contracts of the given program's functions and plain lists. No condition. -/
import Derived.Test.YteepkanbiefpjaaGreatDoorVm
import Derived.Test.YteepkanbiefpjaaGreatDoorVf
import Derived.Test.YteepkanbiefpjaaGreatDoorVa
import Derived.Laws.Cover2
import Derived.Deep.Cut
import Derived.Deep.RegionHeld3
import Derived.Laws.Cover3
import Derived.Test.YteepkanbiefpjaaGreatDoorVg
import Derived.Test.YteepkanbiefpjaaGreatDoorVl
set_option linter.unusedVariables false
set_option linter.unusedSimpArgs false
namespace Go.Proofs.YteepkanbiefpjaaGreatDoor.Bk
open Go.RowKit K
open MgRow (M)
def cIdle (c : Cn) : Cn := { c with idle := c.idle + 1 }
theorem tick1_some {s : Br} {id : Int} {c : Cn} (hg : get s id = some c) : tick1 s id = if 0 < s.cf.idle ∧ s.cf.idle ≤ c.idle + 1 ∧ c.st ≠ 2 then shut (set s id (cIdle c)) id 6 else set s id (cIdle c) := by
  unfold tick1
  rw [hg]
  rfl
theorem ids_tick1 (s : Br) (id : Int) : ids (tick1 s id) = ids s := by
  cases hg : get s id with
  | none => unfold tick1; rw [hg]
  | some c =>
    rw [tick1_some hg]
    split
    · rw [ids_shut]; exact ids_set _ _ _
    · exact ids_set _ _ _
section
variable {w w' : World} {L : Lay} {s : Br} {F : Nat → Prop} {id : Int} {c : Cn}
set_option maxHeartbeats 16000000 in
set_option maxRecDepth 100000 in
theorem tick_calls (n : Nat) (h : Bt L w s F) (hd : Gd n s) (hn : n ≤ 10000000) : Calls Tryz.prog 32 #[ptr L.q] w (Goes L (tick s) F w (.tuple #[])) := by
  obtain ⟨s1, hs1⟩ : ∃ s1, s1 = wTab s (Fl.tick s.tab) := ⟨_, rfl⟩
  have HS : Asd (tick s = settle ((ids s1).foldl tick1 s1)) := ⟨by rw [hs1]; rfl⟩
  have HS1 := Asd.mk hs1
  have H := Asd.mk h
  have HD := Asd.mk hd
  have HD1 : Asd (Gd n s1) := ⟨by rw [hs1]; exact hd.tickT⟩
  obtain ⟨Ft, hT, hFt, hput⟩ := h.table
  have HT := Asd.mk hT
  have HPUT := Asd.mk hput
  have q10 := keepsC (o := 10) (v := .pointer (some ⟨L.tb, 0, none⟩)) h.own rfl
  have hs0 : Upd (fun _ => False) w w := Upd.refl _ _
  have hG := hd.ok.g
  have HLN : Asd (s.tab.queue.length ≤ 1000000 ∧ (-1000 ≤ s.tab.left ∧ s.tab.left ≤ 1000000)) := ⟨by have := hG.lens; have := hG.left; have := hG.lease; omega⟩
  clear h hd hs1 hT hFt hput hG
  rw [HS.out]
  go_enter Tryz.func32, Tryz.ntmps32
  go_wp2_with fail
  refine (Fl.tick_calls HT.out HLN.out.1 HLN.out.2).mono ?_
  rintro e w1 ⟨rfl, Ft1, ht1, hu1, hn1⟩
  obtain ⟨F1, h1, t1⟩ := HPUT.out w1 _ Ft1 ht1 hu1 hn1
  rw [← HS1.out] at h1
  have H1 := Asd.mk h1
  have T1 := Asd.mk t1
  clear ht1 hu1 hn1 h1 t1 q10 hs0
  go_wp2_with fail
  refine (ids_calls H1.out.bk (by have := HD1.out.ok.few; omega)).mono ?_
  rintro e w4 ⟨A, cc, G, rfl, hO, hGn, hu⟩
  obtain ⟨KK, hKK⟩ : ∃ KK, KK = ids s1 := ⟨_, rfl⟩
  rw [← hKK] at hO ⊢
  obtain ⟨N, hN⟩ : ∃ N, N = KK.length := ⟨_, rfl⟩
  have hN16 : N ≤ 16 := by
    have := HD1.out.ok.few
    rw [hN, hKK]; simp only [ids, List.length_map]; omega
  have HN := Asd.mk hN
  rw [← hN]
  have HOI := Asd.mk hO
  have HGn := Asd.mk hGn
  have HU := Asd.mk hu
  have HKK := Asd.mk hKK
  have HRG : Asd (∀ j ∈ KK, 1 ≤ j ∧ j ≤ 16) := ⟨by rw [hKK]; exact HD1.out.ok.rng⟩
  clear hO hGn hu hN hKK
  go_wp2
  go_loopw [13] (fun v14 wr => ∃ (i : Nat) (st : Br) (F4 : Nat → Prop), v14 = .int .i64 (i : Int) ∧ i ≤ N ∧ Asd (Bt L wr st F4) ∧ Asd (Gd (n + i) st) ∧ Asd (ids st = KK) ∧ Asd (KK.foldl tick1 s1 = (KK.drop i).foldl tick1 st) ∧ Asd (OI wr (.slice A KK.length cc) KK G ∧ ∀ g, G = some g → ¬ F4 g) ∧ Asd (Tn w F wr F4)) (fun v14 _ => N - (intOf v14).toNat)
  case atStart => exact ⟨0, s1, F1, rfl, Nat.zero_le _, ⟨H1.out.up HU.out⟩, HD1, ⟨HKK.out.symm⟩, ⟨rfl⟩, ⟨HOI.out, fun g hg hf => by have := HGn.out g hg; have := H1.out.bk.lt g hf; omega⟩, ⟨T1.out.trans (Tn.grow F1 HU.out)⟩⟩
  case round =>
    obtain ⟨i, st, F4, rfl, hi, HB, HGD, HID, HL, HSO, HTn⟩ := hrel
    by_cases hlt : i < N
    · have hlt2 : i < KK.length := by rw [← HN.out]; exact hlt
      obtain ⟨ad, rfl, hcell⟩ := oi_at HSO.out.1 hlt2
      obtain ⟨j, hj⟩ : ∃ j, j = KK[i] := ⟨_, rfl⟩
      rw [← hj] at hcell
      have hdrop : KK.drop i = j :: KK.drop (i + 1) := by rw [hj]; exact List.drop_eq_getElem_cons hlt2
      have hjm : j ∈ KK := by rw [hj]; exact List.getElem_mem _
      obtain ⟨x, hx⟩ := ids_get (s := st) (id := j) (by rw [HID.out]; exact hjm)
      have HX := Asd.mk hx
      have HJR := Asd.mk (HRG.out j hjm)
      obtain ⟨s9, hs9⟩ : ∃ s9, s9 = tick1 st j := ⟨_, rfl⟩
      have HNX : Asd (KK.foldl tick1 s1 = (KK.drop (i + 1)).foldl tick1 s9) := ⟨by rw [HL.out, hdrop, List.foldl_cons, hs9]⟩
      have HG9 : Asd (Gd (n + (i + 1)) s9) := ⟨by rw [hs9]; exact HGD.out.tick1 j⟩
      have HI9 : Asd (ids s9 = KK) := ⟨by rw [hs9, ids_tick1]; exact HID.out⟩
      have HS9 : Asd (s9 = if 0 < st.cf.idle ∧ st.cf.idle ≤ x.idle + 1 ∧ x.st ≠ 2 then shut (set st j (cIdle x)) j 6 else set st j (cIdle x)) := ⟨by rw [hs9]; exact tick1_some hx⟩
      have hib : 0 ≤ x.idle ∧ x.idle ≤ 10000016 := by have := (HGD.out.cns j x hx).idle; omega
      have hcell2 : ∀ W, Upd (fun _ => False) wr W → W.cell? (ad.add i) = some (.int .i64 j) := fun W k => k.cell hcell (fun h => h)
      have q12 := keepsC (o := 12) (v := .map (some L.m)) HB.out.own rfl
      have hlook := HB.out.look j (by have := HJR.out; omega)
      rw [hx] at hlook
      simp only at hlook
      obtain ⟨vx, hbx⟩ := HB.out.conn hx
      have x3 := keepsC (o := 3) (v := .int .i64 x.idle) hbx rfl
      have xf := fun o => keepsF (o := o) hbx
      have hs2 : Upd (fun _ => False) wr wr := Upd.refl _ _
      obtain ⟨F5, h5, t5⟩ := HB.out.setConn (w' := wr.setCell ⟨(L.cn j).p, 3, none⟩ (.int .i64 (x.idle + 1))) (c' := cIdle x) hx rfl ⟨rfl, rfl⟩ rfl rfl ((Upd.refl (fun k => k = (L.cn j).p) wr).setCell (fun _ => rfl) _) (fun v hv => blk_setCell (o := 3) hv (.int .i64 (x.idle + 1)))
      have H5 := Asd.mk h5
      have T5 := Asd.mk (HTn.out.trans t5)
      have HSO5 : Asd (OI (wr.setCell ⟨(L.cn j).p, 3, none⟩ (.int .i64 (x.idle + 1))) (.slice (some ad) KK.length cc) KK G ∧ ∀ g, G = some g → ¬ F5 g) := ⟨HSO.out.1.upd t5.upd (fun g hg => HSO.out.2 g hg), fun g hg hf => (t5.new g hf).elim (HSO.out.2 g hg) (fun h => by have := HSO.out.1.lt g hg; omega)⟩
      have HG5 : Asd (Gd (n + (i + 1)) (set st j (cIdle x))) := ⟨HGD.out.idle hx⟩
      clear hj hdrop hcell hjm hx hbx hs9 h5 t5
      go_upto_region 6 with fail
      clear q12 hlook x3 xf hs2 hcell2
      generalize hw5 : wr.setCell ⟨(L.cn j).p, 3, none⟩ (.int .i64 (x.idle + 1)) = w5 at H5 T5 HSO5 ⊢
      obtain ⟨v5, hb5⟩ := H5.out.conn (get_set_same HX.out)
      have y3 := keepsC (o := 3) (v := .int .i64 (x.idle + 1)) hb5 rfl
      have y1 := keepsC (o := 1) (v := .int .i64 x.st) hb5 rfl
      have q6 := keepsC (o := 6) (v := .int .i64 st.cf.idle) H5.out.own rfl
      have hs5 : Upd (fun _ => False) w5 w5 := Upd.refl _ _
      clear hb5 hw5
      by_cases hbr : 0 < st.cf.idle
      case neg =>
        have hb1 : decide (0 < st.cf.idle) = false := decide_eq_false hbr
        have HE : Asd (s9 = set st j (cIdle x)) := ⟨by rw [HS9.out, if_neg (by omega)]⟩
        clear hbr
        refine wp_region_held_drew (S := fun W => Upd (fun _ => False) w5 W) (by kernel_rfl) (by exact (by repeat (first | assumption | with_reducible exact Upd.refl _ _ | with_reducible refine Upd.drewN ?_ _ | with_reducible refine Upd.drew ?_ | with_reducible refine Upd.alloc ?_ _ | with_reducible refine Upd.setAt ?_ ?_ | exact Or.inl rfl | exact Or.inr (by simp) | exact Or.inr (by omega)))) (fun hHeld => ?_)
        refine tk_ 0 ?_
        try simp only [Act.put, sl1_, sl2_, sl3_]
        refine tk_ 1 ?_
        try simp only [Act.put, sl1_, sl2_, sl3_]
        refine tk_ 2 ?_
        try simp only [Act.put, sl1_, sl2_, sl3_]
        refine tk_ 3 ?_
        try simp only [Act.put, sl1_, sl2_, sl3_]
        refine tk_ 4 ?_
        try simp only [Act.put, sl1_, sl2_, sl3_]
        refine tk_ 5 ?_
        try simp only [Act.put, sl1_, sl2_, sl3_]
        refine tk_ 6 ?_
        try simp only [Act.put, sl1_, sl2_, sl3_]
        refine tu_ 7 ?_
        try simp only [Act.put, sl1_, sl2_, sl3_]
        refine tu_ 8 ?_
        try simp only [Act.put, sl1_, sl2_, sl3_]
        refine tu_ 9 ?_
        try simp only [Act.put, sl1_, sl2_, sl3_]
        refine tu_ 10 ?_
        try simp only [Act.put, sl1_, sl2_, sl3_]
        refine tu_ 11 ?_
        try simp only [Act.put, sl1_, sl2_, sl3_]
        refine tu_ 12 ?_
        try simp only [Act.put, sl1_, sl2_, sl3_]
        refine tu_ 13 ?_
        try simp only [Act.put, sl1_, sl2_, sl3_]
        refine tu_ 14 ?_
        try simp only [Act.put, sl1_, sl2_, sl3_]
        refine tu_ 15 ?_
        try simp only [Act.put, sl1_, sl2_, sl3_]
        refine tu_ 16 ?_
        try simp only [Act.put, sl1_, sl2_, sl3_]
        refine tk_ 17 ?_
        try simp only [Act.put, sl1_, sl2_, sl3_]
        refine tk_ 18 ?_
        try simp only [Act.put, sl1_, sl2_, sl3_]
        refine tu_ 19 ?_
        try simp only [Act.put, sl1_, sl2_, sl3_]
        refine tu_ 20 ?_
        try simp only [Act.put, sl1_, sl2_, sl3_]
        refine tu_ 21 ?_
        try simp only [Act.put, sl1_, sl2_, sl3_]
        refine tu_ 22 ?_
        try simp only [Act.put, sl1_, sl2_, sl3_]
        refine tu_ 23 ?_
        try simp only [Act.put, sl1_, sl2_, sl3_]
        refine tk_ 24 ?_
        try simp only [Act.put, sl1_, sl2_, sl3_]
        refine wpAnyH_done (by kernel_rfl) ?_ _
        go_wp2
        have hdr := (Upd.refl (fun _ => False) w5).drew
        go_roundw
        case rel => exact ⟨i + 1, s9, F5, by go_num, by omega, ⟨by rw [HE.out]; exact H5.out.up hdr⟩, HG9, HI9, HNX, ⟨HSO5.out.1.up hdr, HSO5.out.2⟩, ⟨T5.out.trans (Tn.grow F5 hdr)⟩⟩
        case measure => simp only [intOf]; omega
      have hb1 : decide (0 < st.cf.idle) = true := decide_eq_true hbr
      by_cases hbr2 : st.cf.idle ≤ x.idle + 1
      case neg =>
        have hb2 : decide (st.cf.idle ≤ x.idle + 1) = false := decide_eq_false hbr2
        have HE : Asd (s9 = set st j (cIdle x)) := ⟨by rw [HS9.out, if_neg (by omega)]⟩
        clear hbr hbr2
        refine wp_region_held_drew (S := fun W => Upd (fun _ => False) w5 W) (by kernel_rfl) (by exact (by repeat (first | assumption | with_reducible exact Upd.refl _ _ | with_reducible refine Upd.drewN ?_ _ | with_reducible refine Upd.drew ?_ | with_reducible refine Upd.alloc ?_ _ | with_reducible refine Upd.setAt ?_ ?_ | exact Or.inl rfl | exact Or.inr (by simp) | exact Or.inr (by omega)))) (fun hHeld => ?_)
        refine tk_ 0 ?_
        try simp only [Act.put, sl1_, sl2_, sl3_]
        refine tk_ 1 ?_
        try simp only [Act.put, sl1_, sl2_, sl3_]
        refine tk_ 2 ?_
        try simp only [Act.put, sl1_, sl2_, sl3_]
        refine tk_ 3 ?_
        try simp only [Act.put, sl1_, sl2_, sl3_]
        refine tk_ 4 ?_
        try simp only [Act.put, sl1_, sl2_, sl3_]
        refine tk_ 5 ?_
        try simp only [Act.put, sl1_, sl2_, sl3_]
        refine tk_ 6 ?_
        try simp only [Act.put, sl1_, sl2_, sl3_]
        refine tk_ 7 ?_
        try simp only [Act.put, sl1_, sl2_, sl3_]
        refine tk_ 8 ?_
        try simp only [Act.put, sl1_, sl2_, sl3_]
        refine tk_ 9 ?_
        try simp only [Act.put, sl1_, sl2_, sl3_]
        refine tk_ 10 ?_
        try simp only [Act.put, sl1_, sl2_, sl3_]
        refine tk_ 11 ?_
        try simp only [Act.put, sl1_, sl2_, sl3_]
        refine tk_ 12 ?_
        try simp only [Act.put, sl1_, sl2_, sl3_]
        refine tk_ 13 ?_
        try simp only [Act.put, sl1_, sl2_, sl3_]
        refine tk_ 14 ?_
        try simp only [Act.put, sl1_, sl2_, sl3_]
        refine tk_ 15 ?_
        try simp only [Act.put, sl1_, sl2_, sl3_]
        refine tk_ 16 ?_
        try simp only [Act.put, sl1_, sl2_, sl3_]
        refine tk_ 17 ?_
        try simp only [Act.put, sl1_, sl2_, sl3_]
        refine tk_ 18 ?_
        try simp only [Act.put, sl1_, sl2_, sl3_]
        refine tu_ 19 ?_
        try simp only [Act.put, sl1_, sl2_, sl3_]
        refine tu_ 20 ?_
        try simp only [Act.put, sl1_, sl2_, sl3_]
        refine tu_ 21 ?_
        try simp only [Act.put, sl1_, sl2_, sl3_]
        refine tu_ 22 ?_
        try simp only [Act.put, sl1_, sl2_, sl3_]
        refine tu_ 23 ?_
        try simp only [Act.put, sl1_, sl2_, sl3_]
        refine tk_ 24 ?_
        try simp only [Act.put, sl1_, sl2_, sl3_]
        refine wpAnyH_done (by kernel_rfl) ?_ _
        go_wp2
        have hdr := (Upd.refl (fun _ => False) w5).drew
        go_roundw
        case rel => exact ⟨i + 1, s9, F5, by go_num, by omega, ⟨by rw [HE.out]; exact H5.out.up hdr⟩, HG9, HI9, HNX, ⟨HSO5.out.1.up hdr, HSO5.out.2⟩, ⟨T5.out.trans (Tn.grow F5 hdr)⟩⟩
        case measure => simp only [intOf]; omega
      have hb2 : decide (st.cf.idle ≤ x.idle + 1) = true := decide_eq_true hbr2
      by_cases hbr3 : x.st = 2
      case pos =>
        have hb3 : (x.st != 2) = false := by rw [hbr3]; rfl
        have HE : Asd (s9 = set st j (cIdle x)) := ⟨by rw [HS9.out, if_neg (by exact fun h => h.2.2 hbr3)]⟩
        clear hbr hbr2 hbr3
        refine wp_region_held_drew (S := fun W => Upd (fun _ => False) w5 W) (by kernel_rfl) (by exact (by repeat (first | assumption | with_reducible exact Upd.refl _ _ | with_reducible refine Upd.drewN ?_ _ | with_reducible refine Upd.drew ?_ | with_reducible refine Upd.alloc ?_ _ | with_reducible refine Upd.setAt ?_ ?_ | exact Or.inl rfl | exact Or.inr (by simp) | exact Or.inr (by omega)))) (fun hHeld => ?_)
        refine tk_ 0 ?_
        try simp only [Act.put, sl1_, sl2_, sl3_]
        refine tk_ 1 ?_
        try simp only [Act.put, sl1_, sl2_, sl3_]
        refine tk_ 2 ?_
        try simp only [Act.put, sl1_, sl2_, sl3_]
        refine tk_ 3 ?_
        try simp only [Act.put, sl1_, sl2_, sl3_]
        refine tk_ 4 ?_
        try simp only [Act.put, sl1_, sl2_, sl3_]
        refine tk_ 5 ?_
        try simp only [Act.put, sl1_, sl2_, sl3_]
        refine tk_ 6 ?_
        try simp only [Act.put, sl1_, sl2_, sl3_]
        refine tk_ 7 ?_
        try simp only [Act.put, sl1_, sl2_, sl3_]
        refine tk_ 8 ?_
        try simp only [Act.put, sl1_, sl2_, sl3_]
        refine tk_ 9 ?_
        try simp only [Act.put, sl1_, sl2_, sl3_]
        refine tk_ 10 ?_
        try simp only [Act.put, sl1_, sl2_, sl3_]
        refine tk_ 11 ?_
        try simp only [Act.put, sl1_, sl2_, sl3_]
        refine tk_ 12 ?_
        try simp only [Act.put, sl1_, sl2_, sl3_]
        refine tk_ 13 ?_
        try simp only [Act.put, sl1_, sl2_, sl3_]
        refine tk_ 14 ?_
        try simp only [Act.put, sl1_, sl2_, sl3_]
        refine tk_ 15 ?_
        try simp only [Act.put, sl1_, sl2_, sl3_]
        refine tk_ 16 ?_
        try simp only [Act.put, sl1_, sl2_, sl3_]
        refine tk_ 17 ?_
        try simp only [Act.put, sl1_, sl2_, sl3_]
        refine tk_ 18 ?_
        try simp only [Act.put, sl1_, sl2_, sl3_]
        refine tk_ 19 ?_
        try simp only [Act.put, sl1_, sl2_, sl3_]
        refine tk_ 20 ?_
        try simp only [Act.put, sl1_, sl2_, sl3_]
        refine tk_ 21 ?_
        try simp only [Act.put, sl1_, sl2_, sl3_]
        refine tk_ 22 ?_
        try simp only [Act.put, sl1_, sl2_, sl3_]
        refine tk_ 23 ?_
        try simp only [Act.put, sl1_, sl2_, sl3_]
        refine tk_ 24 ?_
        try simp only [Act.put, sl1_, sl2_, sl3_]
        refine wpAnyH_done (by kernel_rfl) ?_ _
        go_wp2
        have hdr := (Upd.refl (fun _ => False) w5).drew
        go_roundw
        case rel => exact ⟨i + 1, s9, F5, by go_num, by omega, ⟨by rw [HE.out]; exact H5.out.up hdr⟩, HG9, HI9, HNX, ⟨HSO5.out.1.up hdr, HSO5.out.2⟩, ⟨T5.out.trans (Tn.grow F5 hdr)⟩⟩
        case measure => simp only [intOf]; omega
      have hb3 : (x.st != 2) = true := bne_iff_ne.2 hbr3
      have HE : Asd (s9 = shut (set st j (cIdle x)) j 6) := ⟨by rw [HS9.out, if_pos ⟨hbr, hbr2, hbr3⟩]⟩
      clear hbr hbr2 hbr3
      refine wp_region_held_drew (S := fun W => Upd (fun _ => False) w5 W) (by kernel_rfl) (by exact (by repeat (first | assumption | with_reducible exact Upd.refl _ _ | with_reducible refine Upd.drewN ?_ _ | with_reducible refine Upd.drew ?_ | with_reducible refine Upd.alloc ?_ _ | with_reducible refine Upd.setAt ?_ ?_ | exact Or.inl rfl | exact Or.inr (by simp) | exact Or.inr (by omega)))) (fun hHeld => ?_)
      refine tk_ 0 ?_
      try simp only [Act.put, sl1_, sl2_, sl3_]
      refine tk_ 1 ?_
      try simp only [Act.put, sl1_, sl2_, sl3_]
      refine tk_ 2 ?_
      try simp only [Act.put, sl1_, sl2_, sl3_]
      refine tk_ 3 ?_
      try simp only [Act.put, sl1_, sl2_, sl3_]
      refine tk_ 4 ?_
      try simp only [Act.put, sl1_, sl2_, sl3_]
      refine tk_ 5 ?_
      try simp only [Act.put, sl1_, sl2_, sl3_]
      refine tk_ 6 ?_
      try simp only [Act.put, sl1_, sl2_, sl3_]
      refine tk_ 7 ?_
      try simp only [Act.put, sl1_, sl2_, sl3_]
      refine tk_ 8 ?_
      try simp only [Act.put, sl1_, sl2_, sl3_]
      refine tk_ 9 ?_
      try simp only [Act.put, sl1_, sl2_, sl3_]
      refine tk_ 10 ?_
      try simp only [Act.put, sl1_, sl2_, sl3_]
      refine tk_ 11 ?_
      try simp only [Act.put, sl1_, sl2_, sl3_]
      refine tk_ 12 ?_
      try simp only [Act.put, sl1_, sl2_, sl3_]
      refine tk_ 13 ?_
      try simp only [Act.put, sl1_, sl2_, sl3_]
      refine tk_ 14 ?_
      try simp only [Act.put, sl1_, sl2_, sl3_]
      refine tk_ 15 ?_
      try simp only [Act.put, sl1_, sl2_, sl3_]
      refine tk_ 16 ?_
      try simp only [Act.put, sl1_, sl2_, sl3_]
      refine tk_ 17 ?_
      try simp only [Act.put, sl1_, sl2_, sl3_]
      refine tk_ 18 ?_
      try simp only [Act.put, sl1_, sl2_, sl3_]
      refine tk_ 19 ?_
      try simp only [Act.put, sl1_, sl2_, sl3_]
      refine tk_ 20 ?_
      try simp only [Act.put, sl1_, sl2_, sl3_]
      refine tk_ 21 ?_
      try simp only [Act.put, sl1_, sl2_, sl3_]
      refine tk_ 22 ?_
      try simp only [Act.put, sl1_, sl2_, sl3_]
      refine tk_ 23 ?_
      try simp only [Act.put, sl1_, sl2_, sl3_]
      refine tk_ 24 ?_
      try simp only [Act.put, sl1_, sl2_, sl3_]
      refine wpAnyH_done (by kernel_rfl) ?_ _
      have hdr := (Upd.refl (fun _ => False) w5).drew
      have H6 := Asd.mk (H5.out.up hdr)
      have T6 := Asd.mk (T5.out.trans (Tn.grow F5 hdr))
      have HSO6 : Asd (OI w5.drew (.slice (some ad) KK.length cc) KK G ∧ ∀ g, G = some g → ¬ F5 g) := ⟨HSO5.out.1.up hdr, HSO5.out.2⟩
      have HGS : Asd (get (set st j (cIdle x)) j = some (cIdle x)) := ⟨get_set_same HX.out⟩
      clear y3 y1 q6 hs5 hdr
      try clear hHeld
      go_wp2_with fail
      refine (shut_calls H6.out HG5.out.ok HGS.out 6).mono ?_
      rw [← HE.out]
      rintro e w7 ⟨rfl, F7, h7, t7⟩
      have H7 := Asd.mk h7
      have T7 := Asd.mk (T6.out.trans t7)
      have HSO7 : Asd (OI w7 (.slice (some ad) KK.length cc) KK G ∧ ∀ g, G = some g → ¬ F7 g) := ⟨HSO6.out.1.upd t7.upd (fun g hg => HSO6.out.2 g hg), fun g hg hf => (t7.new g hf).elim (HSO6.out.2 g hg) (fun h => by have := HSO6.out.1.lt g hg; omega)⟩
      clear h7 t7
      go_wp2
      go_roundw
      case rel => exact ⟨i + 1, s9, F7, by go_num, by omega, H7, HG9, HI9, HNX, HSO7, T7⟩
      case measure => simp only [intOf]; omega
    · have HE : Asd (KK.foldl tick1 s1 = st) := ⟨by rw [HL.out, List.drop_eq_nil_of_le (by have := HN.out; omega)]; rfl⟩
      have HGE : Asd (Gd (n + 16) st) := ⟨HGD.out.mono (by omega)⟩
      go_wp2_with fail
      refine (settle_calls (n + 16) HB.out HGE.out (by omega)).mono ?_
      rintro e w8 ⟨rfl, F8, h8, t8⟩
      have H8 := Asd.mk h8
      have T8 := Asd.mk (HTn.out.trans t8)
      clear h8 t8
      go_wp2
      go_end0
      exact ⟨rfl, F8, by rw [← HKK.out, HE.out]; exact H8.out, T8.out⟩
set_option maxHeartbeats 8000000 in
set_option maxRecDepth 100000 in
theorem end_calls (n : Nat) (h : Bt L w s F) (hd : Gd n s) (hn : n ≤ 100000000) (code : Int) : Calls Tryz.prog 36 #[ptr L.q, .int .i64 code] w (Goes L (end_ s code).1 F w (.int .i64 (end_ s code).2)) := by
  have q14 := keepsC (o := 14) (v := .bool s.ended) h.own rfl
  have q15 := keepsC (o := 15) (v := .int .i64 s.code) h.own rfl
  have hs : Upd (fun _ => False) w w := Upd.refl _ _
  have H := Asd.mk h
  have HD := Asd.mk hd
  cases he : s.ended with
  | true =>
    have hw : end_ s code = (s, 3) := by unfold end_; rw [if_pos he]
    rw [hw]
    rw [he] at q14
    clear h hd hw
    go_enter Tryz.func36, Tryz.ntmps36
    go_wp2
    go_ret
    exact ⟨rfl, F, H.out, Tn.refl _ _⟩
  | false =>
    rw [he] at q14
    by_cases hc : code < 0
    · have hw : end_ s code = (s, 1) := by unfold end_; rw [if_neg (by rw [he]; decide), if_pos (Or.inl hc)]
      rw [hw]
      have hb1 : decide (code < 0) = true := decide_eq_true hc
      clear h hd hw
      go_enter Tryz.func36, Tryz.ntmps36
      go_wp2
      go_ret
      exact ⟨rfl, F, H.out, Tn.refl _ _⟩
    have hb1 : decide (code < 0) = false := decide_eq_false hc
    by_cases hc2 : 255 < code
    · have hw : end_ s code = (s, 1) := by unfold end_; rw [if_neg (by rw [he]; decide), if_pos (Or.inr hc2)]
      rw [hw]
      have hb2 : decide (255 < code) = true := decide_eq_true hc2
      clear h hd hw
      go_enter Tryz.func36, Tryz.ntmps36
      go_wp2
      go_ret
      exact ⟨rfl, F, H.out, Tn.refl _ _⟩
    have hb2 : decide (255 < code) = false := decide_eq_false hc2
    have hw : end_ s code = (settle (tell (ends s code) ⟨15, code, 0, []⟩), 0) := by unfold end_; rw [if_neg (by rw [he]; decide), if_neg (by omega)]; rfl
    rw [hw]
    have qf := fun o => keepsF (o := o) h.own
    obtain ⟨s1, hs1⟩ : ∃ s1, s1 = { s with ended := true, code := code } := ⟨_, rfl⟩
    obtain ⟨F1, h1, t1⟩ := h.setOwn s1 (fun j hj W Fj hw => by rw [hs1]; cases j <;> first | exact hw | exact absurd rfl hj) (((Upd.refl (fun k => k = L.q) w).setCell (p := ⟨L.q, 14, none⟩) (fun _ => rfl) (.bool true)).setCell (p := ⟨L.q, 15, none⟩) (fun _ => rfl) (.int .i64 code)) (by rw [hs1]; exact blk_setCell (o := 15) (blk_setCell (o := 14) h.own (.bool true)) (.int .i64 code))
    have H1 := Asd.mk h1
    have T1 := Asd.mk t1
    have HE1 : Asd (wInp s1 (Iq.fin s1.inp) = ends s code) := ⟨by rw [hs1]; rfl⟩
    have HD2 := Asd.mk (hd.ends code)
    have HD3 := Asd.mk ((hd.ends code).tell ⟨15, code, 0, []⟩)
    have hb14 := blk_setCell (o := 14) h.own (.bool true)
    have hne : (w.setCell ⟨L.q, 14, none⟩ (.bool true)).cell? ⟨L.q, 15, none⟩ = some (.int .i64 s.code) := by simp [World.cell?, hb14, bcells]
    have hnf : (w.setCell ⟨L.q, 14, none⟩ (.bool true)).frozen? ⟨L.q, 15, none⟩ = false := by simp [World.frozen?, hb14]
    clear h hd hw hs1 h1 t1 hb14 hc hc2 he
    go_enter Tryz.func36, Tryz.ntmps36
    go_upto_region 6 with fail
    clear q14 q15 qf hs hne hnf
    generalize hw1 : (w.setCell ⟨L.q, 14, none⟩ (.bool true)).setCell ⟨L.q, 15, none⟩ (.int .i64 code) = w1 at H1 T1 ⊢
    have q11 := keepsC (o := 11) (v := ptr L.ip) H1.out.own rfl
    have hs1 : Upd (fun _ => False) w1 w1 := Upd.refl _ _
    obtain ⟨Fi, hi, hFi, hput⟩ := H1.out.input
    have HI := Asd.mk hi
    have HPUT := Asd.mk hput
    clear hi hFi hput hw1
    go_wp2_with fail
    refine (Iq.end_calls HI.out).mono ?_
    rintro e w2 ⟨rfl, Fi2, hi2, hu2, hn2⟩
    obtain ⟨F2, h2, t2, _⟩ := HPUT.out w2 _ Fi2 hi2 hu2 hn2
    rw [HE1.out] at h2
    have H2 := Asd.mk h2
    have T2 := Asd.mk (T1.out.trans t2)
    clear hi2 hu2 hn2 h2 t2 q11 hs1
    go_wp2_with fail
    refine (tell_calls H2.out HD2.out.ok ⟨15, code, 0, []⟩).mono ?_
    rintro e w3 ⟨rfl, F3, h3, t3⟩
    have H3 := Asd.mk h3
    have T3 := Asd.mk (T2.out.trans t3)
    clear h3 t3
    go_wp2_with fail
    refine (settle_calls n H3.out HD3.out hn).mono ?_
    rintro e w4 ⟨rfl, F4, h4, t4⟩
    have H4 := Asd.mk h4
    have T4 := Asd.mk (T3.out.trans t4)
    clear h4 t4
    go_wp2
    go_ret
    exact ⟨rfl, F4, H4.out, T4.out⟩
end
end Go.Proofs.YteepkanbiefpjaaGreatDoor.Bk
set_option linter.unusedVariables false
set_option linter.unusedSimpArgs false
namespace Go.Proofs.YteepkanbiefpjaaGreatDoor.Sp
open Go.RowKit K Fl64
def tz : Nat → Nat × Nat
  | 0 => (Fl64.one, 0)
  | 1 => (0, Fl64.one)
  | 2 => (negOne, 0)
  | _ => (negZero, negOne)
theorem tz_next (k : Nat) (h : k < 3) : cMulBits (tz k).1 (tz k).2 0 Fl64.one = some (tz (k + 1)) := by
  match k, h with
  | 0, _ => decide +kernel
  | 1, _ => decide +kernel
  | 2, _ => decide +kernel
def tzV (k : Nat) : Value := .complex .f64 (tz k).1 (tz k).2
set_option maxHeartbeats 1000000 in
theorem turns_calls (n : Nat) (hn : n ≤ 3) (w : World) : Calls Tryz.prog 95 #[.int .i64 (n : Int)] w fun e w' => e = .returned (tzV n) ∧ w = w' := by
  have z0 : Value.complex .f64 4607182418800017408 0 = tzV 0 := rfl
  go_enter Tryz.func95, Tryz.ntmps95
  go_wp2
  rw [z0]
  go_loopw [3, 5] (fun v3 v5 wr => ∃ (k : Nat), v3 = tzV k ∧ v5 = .int .i64 (k : Int) ∧ k ≤ n ∧ wr = w) (fun _ v5 _ => n - (intOf v5).toNat)
  case atStart => exact ⟨0, rfl, rfl, Nat.zero_le _, rfl⟩
  case round =>
    obtain ⟨k, rfl, rfl, hk, rfl⟩ := hrel
    by_cases hlt : k < n
    · have hmul : ∀ W, (binOp .mul 136 (tzV k) (.complex .f64 0 4607182418800017408)).run Tryz.prog W = .ok (tzV (k + 1)) W := fun W => run_complex_mul (h := tz_next k (by omega)) ..
      go_wp2
      go_roundw
      case rel => exact ⟨k + 1, rfl, by go_num, by omega, trivial⟩
      case measure => simp only [intOf]; omega
    · obtain rfl : k = n := by omega
      go_wp2
      go_ret
      exact ⟨rfl, rfl⟩
theorem min2_fl (m n : Nat) (h : m < big) (k : n < big) (P : Program) (W : World) : (Builtin.min2 (.float .f64 (fl m)) (.float .f64 (fl n))).run P W = .ok (.float .f64 (fl (min m n))) W := by
  have h1 := order_fl m n h k
  unfold Builtin.min2
  simp only [FloatKind.format, h1]
  rcases Nat.lt_trichotomy m n with h2 | h2 | h2
  · rw [show compare m n = .lt from Nat.compare_eq_lt.2 h2, Nat.min_eq_left (Nat.le_of_lt h2)]; rfl
  · subst h2
    rw [show compare m m = .eq from Nat.compare_eq_eq.2 rfl, Nat.min_self]
    simp
  · rw [show compare m n = .gt from Nat.compare_eq_gt.2 h2, Nat.min_eq_right (Nat.le_of_lt h2)]; rfl
theorem min2_neg (n : Nat) (k : n < big) (P : Program) (W : World) : (Builtin.min2 (.float .f64 negOne) (.float .f64 (fl n))).run P W = .ok (.float .f64 negOne) W := by
  have h1 := order_negOne n k
  unfold Builtin.min2
  simp only [FloatKind.format, h1]
  rfl
theorem max2_fl (m : Nat) (h : m < big) (P : Program) (W : World) : (Builtin.max2 (.float .f64 0) (.float .f64 (fl m))).run P W = .ok (.float .f64 (fl m)) W := by
  have h1 := order_fl 0 m (by decide) h
  rw [fl_zero] at h1
  unfold Builtin.max2
  simp only [FloatKind.format, h1]
  rcases Nat.eq_zero_or_pos m with h2 | h2
  · subst h2
    rw [show compare 0 0 = .eq from Nat.compare_eq_eq.2 rfl, fl_zero]
    simp
  · rw [show compare 0 m = .lt from Nat.compare_eq_lt.2 h2]; rfl
theorem order0_neg : Ieee.double.order 0 negOne = some .gt := by decide +kernel
theorem max2_neg (P : Program) (W : World) : (Builtin.max2 (.float .f64 0) (.float .f64 negOne)).run P W = .ok (.float .f64 0) W := by
  unfold Builtin.max2
  simp only [FloatKind.format, order0_neg]
  rfl
@[go_sem] theorem run_store_complex {P : Program} {w : World} {a : Addr} {m : Mode} (k : FloatKind) (x y : Nat) : (store a (.complex k x y) m).run P w = stored P w a (.complex k x y) m := run_store P w a _ m rfl
def SpAt (w : World) (p wd : Nat) (s : T) : Prop := w.heap[p]? = some (.cells (cells wd s) 138 (0, 0))
def Spun (p wd : Nat) (s : T) (w : World) (e : Ending) (w' : World) : Prop := e = .returned (.tuple #[]) ∧ SpAt w' p wd s ∧ Upd (fun i => i = p) w w'
section
variable {w : World} {p wd : Nat} {s : T}
set_option maxHeartbeats 2000000 in
theorem move_gen (h : SpAt w p wd s) (c d zr zi mr c' r' : Nat) (hw : 1 ≤ wd ∧ wd ≤ 500) (hz : cSumBits .add .f64 (fl s.col) (fl s.row) c d = some (zr, zi)) (hm : ∀ W, (Builtin.min2 (.float .f64 zr) (.float .f64 (fl (wd - 1)))).run Tryz.prog W = .ok (.float .f64 mr) W)
    (hx : ∀ W, (Builtin.max2 (.float .f64 0) (.float .f64 mr)).run Tryz.prog W = .ok (.float .f64 (fl c')) W) (hy : ∀ W, (Builtin.max2 (.float .f64 0) (.float .f64 zi)).run Tryz.prog W = .ok (.float .f64 (fl r')) W) :
    Calls Tryz.prog 94 #[.pointer (some ⟨p, 0, none⟩), .complex .f64 c d] w (Spun p wd ⟨c', r', s.st⟩ w) := by
  have b0 := keepsC (o := 0) (v := .float .f64 (fl wd)) h rfl
  have b1 := keepsC (o := 1) (v := .complex .f64 (fl s.col) (fl s.row)) h rfl
  have bf := fun o => keepsF (o := o) h
  have hs : Upd (fun _ => False) w w := Upd.refl _ _
  have H := Asd.mk h
  have hadd : ∀ W, (binOp .add 136 (.complex .f64 (fl s.col) (fl s.row)) (.complex .f64 c d)).run Tryz.prog W = .ok (.complex .f64 zr zi) W := fun W => run_complex_sum (h := hz) (hop := .inl rfl) ..
  have hsub : ∀ W, (binOp .sub 135 (.float .f64 (fl wd)) (.float .f64 4607182418800017408)).run Tryz.prog W = .ok (.float .f64 (fl (wd - 1))) W := fun W => run_float_arith (h := sub_one wd hw.1 hw.2) ..
  clear h hz
  go_enter Tryz.func94, Tryz.ntmps94
  go_wp2
  go_end0
  exact ⟨rfl, blk_setCell (o := 1) H.out _, (Upd.refl (fun i => i = p) w).setCell (fun _ => rfl) _⟩
theorem cSum {a b c d x y : Nat} (h : Ieee.double.add a c = some x) (k : Ieee.double.add b d = some y) : cSumBits .add .f64 a b c d = some (x, y) := by
  unfold cSumBits floatBits
  simp only [FloatKind.format]
  rw [h, k]
  rfl
theorem fl_one : Fl64.one = fl 1 := one_eq
theorem move_calls (h : SpAt w p wd s) (k : Nat) (hk : k ≤ 3) (hw : 1 ≤ wd ∧ wd ≤ 500) (hc : s.col < wd) (hr : s.row < 1000000000000) : Calls Tryz.prog 94 #[.pointer (some ⟨p, 0, none⟩), tzV k] w (Spun p wd (move wd s k) w) := by
  have hb : ∀ x, x < 1000000000001 → x < big := fun x hx => by unfold big; omega
  match k, hk with
  | 0, _ =>
    have hm : move wd s 0 = ⟨min (s.col + 1) (wd - 1), s.row, s.st⟩ := rfl
    rw [hm]
    exact move_gen h Fl64.one 0 (fl (s.col + 1)) (fl s.row) (fl (min (s.col + 1) (wd - 1))) _ _ hw (cSum (by rw [fl_one]; exact add_fl _ _ (hb _ (by omega))) (by have := add_fl s.row 0 (hb _ (by omega)); rw [fl_zero] at this; exact this)) (fun W => min2_fl _ _ (hb _ (by omega)) (hb _ (by omega)) _ W) (fun W => max2_fl _ (hb _ (by omega)) _ W) (fun W => max2_fl _ (hb _ (by omega)) _ W)
  | 1, _ =>
    have hm : move wd s 1 = ⟨min s.col (wd - 1), s.row + 1, s.st⟩ := rfl
    rw [hm]
    exact move_gen h 0 Fl64.one (fl s.col) (fl (s.row + 1)) (fl (min s.col (wd - 1))) _ _ hw (cSum (by have := add_fl s.col 0 (hb _ (by omega)); rw [fl_zero] at this; exact this) (by rw [fl_one]; exact add_fl _ _ (hb _ (by omega)))) (fun W => min2_fl _ _ (hb _ (by omega)) (hb _ (by omega)) _ W) (fun W => max2_fl _ (hb _ (by omega)) _ W) (fun W => max2_fl _ (hb _ (by omega)) _ W)
  | 2, _ =>
    have hm : move wd s 2 = ⟨min (s.col - 1) (wd - 1), s.row, s.st⟩ := rfl
    rw [hm]
    have ha := add_neg s.col (hb _ (by omega))
    by_cases h0 : s.col = 0
    · rw [if_pos h0] at ha
      have hc0 : min (s.col - 1) (wd - 1) = 0 := by omega
      rw [hc0]
      exact move_gen h negOne 0 negOne (fl s.row) negOne _ _ hw (cSum ha (by have := add_fl s.row 0 (hb _ (by omega)); rw [fl_zero] at this; exact this)) (fun W => min2_neg _ (hb _ (by omega)) _ W) (fun W => by rw [fl_zero]; exact max2_neg _ W) (fun W => max2_fl _ (hb _ (by omega)) _ W)
    · rw [if_neg h0] at ha
      exact move_gen h negOne 0 (fl (s.col - 1)) (fl s.row) (fl (min (s.col - 1) (wd - 1))) _ _ hw (cSum ha (by have := add_fl s.row 0 (hb _ (by omega)); rw [fl_zero] at this; exact this)) (fun W => min2_fl _ _ (hb _ (by omega)) (hb _ (by omega)) _ W) (fun W => max2_fl _ (hb _ (by omega)) _ W) (fun W => max2_fl _ (hb _ (by omega)) _ W)
  | 3, _ =>
    have hm : move wd s 3 = ⟨min s.col (wd - 1), s.row - 1, s.st⟩ := rfl
    rw [hm]
    have ha := add_neg s.row (hb _ (by omega))
    by_cases h0 : s.row = 0
    · rw [if_pos h0] at ha
      rw [show s.row - 1 = 0 by omega]
      exact move_gen h negZero negOne (fl s.col) negOne (fl (min s.col (wd - 1))) _ _ hw (cSum (add_negZero _ (hb _ (by omega))) ha) (fun W => min2_fl _ _ (hb _ (by omega)) (hb _ (by omega)) _ W) (fun W => max2_fl _ (hb _ (by omega)) _ W) (fun W => by rw [fl_zero]; exact max2_neg _ W)
    · rw [if_neg h0] at ha
      exact move_gen h negZero negOne (fl s.col) (fl (s.row - 1)) (fl (min s.col (wd - 1))) _ _ hw (cSum (add_negZero _ (hb _ (by omega))) ha) (fun W => min2_fl _ _ (hb _ (by omega)) (hb _ (by omega)) _ W) (fun W => max2_fl _ (hb _ (by omega)) _ W) (fun W => max2_fl _ (hb _ (by omega)) _ W)
theorem fb_add (x y : Nat) : floatBits .add .f64 x y = Ieee.double.add x y := rfl
theorem row_add (x : Nat) (h : x < 1000000000000) (W : World) : (binOp .add 135 (.float .f64 (fl x)) (.float .f64 4607182418800017408)).run Tryz.prog W = .ok (.float .f64 (fl (x + 1))) W := by
  refine run_float_arith (h := ?_) ..
  rw [fb_add]
  have := add_fl x 1 (by unfold big; omega)
  rw [← fl_one] at this
  exact this
set_option maxHeartbeats 2000000 in
theorem sign_gen (bw bc br bc1 br1 : Nat) (st : Int) (eq : Bool) (h : w.heap[p]? = some (.cells #[.float .f64 bw, .complex .f64 bc br, .int .i64 st] 138 (0, 0)))
    (hadd : ∀ W, (binOp .add 136 (.complex .f64 bc br) (.complex .f64 4607182418800017408 0)).run Tryz.prog W = .ok (.complex .f64 bc1 br) W)
    (hadd2 : ∀ W, (binOp .add 135 (.float .f64 br) (.float .f64 4607182418800017408)).run Tryz.prog W = .ok (.float .f64 br1) W)
    (hcmp : (FloatKind.f64.format.order bc1 bw == some Ordering.eq) = eq) :
    Calls Tryz.prog 120 #[.pointer (some ⟨p, 0, none⟩)] w fun e w' => e = .returned (.tuple #[]) ∧ w'.heap[p]? = some (.cells #[.float .f64 bw, (if eq then .complex .f64 0 br1 else .complex .f64 bc1 br), .int .i64 st] 138 (0, 0)) ∧ Upd (fun i => i = p) w w' := by
  have b1 := keepsC (o := 1) (v := .complex .f64 bc br) h rfl
  have bf := fun o => keepsF (o := o) h
  have hs : Upd (fun _ => False) w w := Upd.refl _ _
  have hb2 := blk_setCell (o := 1) h (.complex .f64 bc1 br)
  have HU := Asd.mk ((Upd.refl (fun i => i = p) w).setCell (p := ⟨p, 1, none⟩) (fun _ => rfl) (.complex .f64 bc1 br))
  clear h
  go_enter Tryz.func120, Tryz.ntmps120
  go_upto_region 1 with fail
  clear b1 bf hs hadd
  generalize hw1 : w.setCell ⟨p, 1, none⟩ (.complex .f64 bc1 br) = w1 at hb2 HU ⊢
  have c0 := keepsC (o := 0) (v := .float .f64 bw) hb2 rfl
  have c1 := keepsC (o := 1) (v := .complex .f64 bc1 br) hb2 rfl
  have bf := fun o => keepsF (o := o) hb2
  have hs1 : Upd (fun _ => False) w1 w1 := Upd.refl _ _
  have HB2 := Asd.mk hb2
  clear hw1 hb2
  cases eq with
  | true =>
    refine wp_region_held_drew (S := fun W => Upd (fun _ => False) w1 W) (by kernel_rfl) (by exact (by repeat (first | assumption | with_reducible exact Upd.refl _ _ | with_reducible refine Upd.drewN ?_ _ | with_reducible refine Upd.drew ?_ | with_reducible refine Upd.alloc ?_ _ | with_reducible refine Upd.setAt ?_ ?_ | exact Or.inl rfl | exact Or.inr (by simp) | exact Or.inr (by omega)))) (fun hHeld => ?_)
    refine tk_ 0 ?_
    try simp only [Act.put, sl1_, sl2_, sl3_]
    refine tk_ 1 ?_
    try simp only [Act.put, sl1_, sl2_, sl3_]
    refine tk_ 2 ?_
    try simp only [Act.put, sl1_, sl2_, sl3_]
    refine tk_ 3 ?_
    try simp only [Act.put, sl1_, sl2_, sl3_]
    refine tk_ 4 ?_
    try simp only [Act.put, sl1_, sl2_, sl3_]
    refine tk_ 5 ?_
    try simp only [Act.put, sl1_, sl2_, sl3_]
    refine tk_ 6 ?_
    try simp only [Act.put, sl1_, sl2_, sl3_]
    refine tk_ 7 ?_
    try simp only [Act.put, sl1_, sl2_, sl3_]
    refine tk_ 8 ?_
    try simp only [Act.put, sl1_, sl2_, sl3_]
    refine tk_ 9 ?_
    try simp only [Act.put, sl1_, sl2_, sl3_]
    refine wpAnyH_done (by kernel_rfl) ?_ _
    go_wp2
    go_end0
    exact ⟨rfl, blk_setCell (o := 1) HB2.out _, (HU.out.setCell (fun _ => rfl) _).drew⟩
  | false =>
    refine wp_region_held_drew (S := fun W => Upd (fun _ => False) w1 W) (by kernel_rfl) (by exact (by repeat (first | assumption | with_reducible exact Upd.refl _ _ | with_reducible refine Upd.drewN ?_ _ | with_reducible refine Upd.drew ?_ | with_reducible refine Upd.alloc ?_ _ | with_reducible refine Upd.setAt ?_ ?_ | exact Or.inl rfl | exact Or.inr (by simp) | exact Or.inr (by omega)))) (fun hHeld => ?_)
    refine tk_ 0 ?_
    try simp only [Act.put, sl1_, sl2_, sl3_]
    refine tk_ 1 ?_
    try simp only [Act.put, sl1_, sl2_, sl3_]
    refine tk_ 2 ?_
    try simp only [Act.put, sl1_, sl2_, sl3_]
    refine tk_ 3 ?_
    try simp only [Act.put, sl1_, sl2_, sl3_]
    refine tk_ 4 ?_
    try simp only [Act.put, sl1_, sl2_, sl3_]
    refine tk_ 5 ?_
    try simp only [Act.put, sl1_, sl2_, sl3_]
    refine tk_ 6 ?_
    try simp only [Act.put, sl1_, sl2_, sl3_]
    refine tk_ 7 ?_
    try simp only [Act.put, sl1_, sl2_, sl3_]
    refine tk_ 8 ?_
    try simp only [Act.put, sl1_, sl2_, sl3_]
    refine tk_ 9 ?_
    try simp only [Act.put, sl1_, sl2_, sl3_]
    refine wpAnyH_done (by kernel_rfl) ?_ _
    go_wp2
    go_end0
    exact ⟨rfl, HB2.out, HU.out.drew⟩
def cells3 (bw bc br : Nat) (st : Int) : Array Value := #[.float .f64 bw, .complex .f64 bc br, .int .i64 st]
set_option maxHeartbeats 2000000 in
theorem tab_gen (c : UInt8) (bw bc br bx bm bw1 : Nat) (col : Nat) (st : Int) (hcol : col ≤ 1000) (h : w.heap[p]? = some (.cells (cells3 bw bc br st) 138 (0, 0))) (hc : c = 9)
    (hint : ∀ W, (convert 135 2 (.float .f64 bc)).run Tryz.prog W = .ok (.int .i64 (col : Int)) W)
    (hflo : ∀ W, (convert 2 135 (.int .i64 (8 * ((col : Int) / 8 + 1)))).run Tryz.prog W = .ok (.float .f64 bx) W)
    (hsub : ∀ W, (binOp .sub 135 (.float .f64 bw) (.float .f64 4607182418800017408)).run Tryz.prog W = .ok (.float .f64 bw1) W)
    (hmin : ∀ W, (Builtin.min2 (.float .f64 bx) (.float .f64 bw1)).run Tryz.prog W = .ok (.float .f64 bm) W) :
    Calls Tryz.prog 93 #[.pointer (some ⟨p, 0, none⟩), .int .u8 (c.toNat : Int)] w fun e w' => e = .returned (.tuple #[]) ∧ w'.heap[p]? = some (.cells (cells3 bw bm br st) 138 (0, 0)) ∧ Upd (fun i => i = p) w w' := by
  subst hc
  have b0 := keepsC (o := 0) (v := .float .f64 bw) h rfl
  have b1 := keepsC (o := 1) (v := .complex .f64 bc br) h rfl
  have bf := fun o => keepsF (o := o) h
  have hs : Upd (fun _ => False) w w := Upd.refl _ _
  have HB := Asd.mk h
  have e9 : (((9 : UInt8).toNat : Nat) : Int) = 9 := rfl
  rw [e9]
  have hq : (col : Int).tdiv 8 = (col : Int) / 8 := Int.tdiv_eq_ediv_of_nonneg (by omega)
  clear h
  go_enter Tryz.func93, Tryz.ntmps93
  go_upto_region 10 with fail
  go_region
  all_goals (go_wp2; go_end0; exact ⟨rfl, blk_setCell (o := 1) HB.out _, ((Upd.refl (fun i => i = p) w).setCell (fun _ => rfl) _).drew⟩)
set_option maxHeartbeats 2000000 in
theorem esc_gen (c : UInt8) (bw bc br : Nat) (st : Int) (h : w.heap[p]? = some (.cells (cells3 bw bc br st) 138 (0, 0))) (hc : c = 27) :
    Calls Tryz.prog 93 #[.pointer (some ⟨p, 0, none⟩), .int .u8 (c.toNat : Int)] w fun e w' => e = .returned (.tuple #[]) ∧ w'.heap[p]? = some (.cells (cells3 bw bc br 1) 138 (0, 0)) ∧ Upd (fun i => i = p) w w' := by
  subst hc
  have b1 := keepsC (o := 1) (v := .complex .f64 bc br) h rfl
  have b2 := keepsC (o := 2) (v := .int .i64 st) h rfl
  have bf := fun o => keepsF (o := o) h
  have hs : Upd (fun _ => False) w w := Upd.refl _ _
  have HB := Asd.mk h
  have ec : ((((27 : UInt8).toNat : Nat)) : Int) = 27 := rfl
  rw [ec]
  clear h
  go_enter Tryz.func93, Tryz.ntmps93
  go_wp2
  go_end0
  exact ⟨rfl, blk_setCell HB.out _, (Upd.refl (fun i => i = p) w).setCell (fun _ => rfl) _⟩
set_option maxHeartbeats 2000000 in
theorem cr_gen (c : UInt8) (bw bc br : Nat) (st : Int) (h : w.heap[p]? = some (.cells (cells3 bw bc br st) 138 (0, 0))) (hc : c = 13) :
    Calls Tryz.prog 93 #[.pointer (some ⟨p, 0, none⟩), .int .u8 (c.toNat : Int)] w fun e w' => e = .returned (.tuple #[]) ∧ w'.heap[p]? = some (.cells (cells3 bw 0 br st) 138 (0, 0)) ∧ Upd (fun i => i = p) w w' := by
  subst hc
  have b1 := keepsC (o := 1) (v := .complex .f64 bc br) h rfl
  have b2 := keepsC (o := 2) (v := .int .i64 st) h rfl
  have bf := fun o => keepsF (o := o) h
  have hs : Upd (fun _ => False) w w := Upd.refl _ _
  have HB := Asd.mk h
  have ec : ((((13 : UInt8).toNat : Nat)) : Int) = 13 := rfl
  rw [ec]
  clear h
  go_enter Tryz.func93, Tryz.ntmps93
  go_wp2
  go_end0
  exact ⟨rfl, blk_setCell HB.out _, (Upd.refl (fun i => i = p) w).setCell (fun _ => rfl) _⟩
set_option maxHeartbeats 2000000 in
theorem nl_gen (c : UInt8) (bw bc br bc1 br1 : Nat) (st : Int) (h : w.heap[p]? = some (.cells (cells3 bw bc br st) 138 (0, 0))) (hc : c = 10) (hadd : ∀ W, (binOp .add 136 (.complex .f64 bc br) (.complex .f64 0 4607182418800017408)).run Tryz.prog W = .ok (.complex .f64 bc1 br1) W) :
    Calls Tryz.prog 93 #[.pointer (some ⟨p, 0, none⟩), .int .u8 (c.toNat : Int)] w fun e w' => e = .returned (.tuple #[]) ∧ w'.heap[p]? = some (.cells (cells3 bw bc1 br1 st) 138 (0, 0)) ∧ Upd (fun i => i = p) w w' := by
  subst hc
  have b1 := keepsC (o := 1) (v := .complex .f64 bc br) h rfl
  have b2 := keepsC (o := 2) (v := .int .i64 st) h rfl
  have bf := fun o => keepsF (o := o) h
  have hs : Upd (fun _ => False) w w := Upd.refl _ _
  have HB := Asd.mk h
  have ec : ((((10 : UInt8).toNat : Nat)) : Int) = 10 := rfl
  rw [ec]
  clear h
  go_enter Tryz.func93, Tryz.ntmps93
  go_wp2
  go_end0
  exact ⟨rfl, blk_setCell HB.out _, (Upd.refl (fun i => i = p) w).setCell (fun _ => rfl) _⟩
theorem sign_calls (h : SpAt w p wd s) (hw : 1 ≤ wd ∧ wd ≤ 500) (hc : s.col < wd) (hr : s.row < 1000000000000) : Calls Tryz.prog 120 #[.pointer (some ⟨p, 0, none⟩)] w (Spun p wd (sign wd s) w) := by
  have hb : ∀ x, x < 1000000000001 → x < big := fun x hx => by unfold big; omega
  have hord := order_fl (s.col + 1) wd (hb _ (by omega)) (hb _ (by omega))
  have hadd : ∀ W, (binOp .add 136 (.complex .f64 (fl s.col) (fl s.row)) (.complex .f64 4607182418800017408 0)).run Tryz.prog W = .ok (.complex .f64 (fl (s.col + 1)) (fl s.row)) W := fun W => run_complex_sum (h := cSum (by have := add_fl s.col 1 (hb _ (by omega)); rw [← fl_one] at this; exact this) (by have := add_fl s.row 0 (hb _ (by omega)); rw [fl_zero] at this; exact this)) (hop := .inl rfl) ..
  by_cases he : s.col + 1 = wd
  · have hcmp : (FloatKind.f64.format.order (fl (s.col + 1)) (fl wd) == some Ordering.eq) = true := by
      rw [show FloatKind.f64.format.order (fl (s.col + 1)) (fl wd) = _ from hord, he, show compare wd wd = .eq from Nat.compare_eq_eq.2 rfl]; rfl
    refine (sign_gen (fl wd) (fl s.col) (fl s.row) (fl (s.col + 1)) (fl (s.row + 1)) s.st true h hadd (fun W => row_add s.row hr W) hcmp).mono ?_
    rintro e w' ⟨he1, h1, h2⟩
    refine ⟨he1, ?_, h2⟩
    have hS : sign wd s = ⟨0, s.row + 1, s.st⟩ := by unfold sign; rw [if_pos he]
    rw [hS]
    unfold SpAt cells
    rw [fl_zero]
    exact h1
  · have hcmp : (FloatKind.f64.format.order (fl (s.col + 1)) (fl wd) == some Ordering.eq) = false := by
      rw [show FloatKind.f64.format.order (fl (s.col + 1)) (fl wd) = _ from hord]
      rcases Nat.lt_or_gt_of_ne he with h1 | h1
      · rw [show compare (s.col + 1) wd = .lt from Nat.compare_eq_lt.2 h1]; rfl
      · rw [show compare (s.col + 1) wd = .gt from Nat.compare_eq_gt.2 h1]; rfl
    refine (sign_gen (fl wd) (fl s.col) (fl s.row) (fl (s.col + 1)) (fl (s.row + 1)) s.st false h hadd (fun W => row_add s.row hr W) hcmp).mono ?_
    rintro e w' ⟨he1, h1, h2⟩
    refine ⟨he1, ?_, h2⟩
    have hS : sign wd s = ⟨s.col + 1, s.row, s.st⟩ := by unfold sign; rw [if_neg he]
    rw [hS]
    exact h1
theorem u8_ne {c d : UInt8} (h : c ≠ d) : ((c.toNat : Int) == (d.toNat : Int)) = false := beq_eq_false_iff_ne.2 (fun e => h (UInt8.toNat_inj.1 (by omega)))
set_option maxHeartbeats 2000000 in
theorem rest_gen (c : UInt8) (Q : Ending → World → Prop) (h1 : c ≠ 27) (h2 : c ≠ 13) (h3 : c ≠ 10) (h4 : c ≠ 8) (h5 : c ≠ 9) (hno : ¬ (32 ≤ c.toNat ∧ c ≠ 127) → Q (.returned (.tuple #[])) w)
    (hyes : (32 ≤ c.toNat ∧ c ≠ 127) → Calls Tryz.prog 120 #[.pointer (some ⟨p, 0, none⟩)] w (fun e w' => e = .returned (.tuple #[]) ∧ Q e w')) :
    Calls Tryz.prog 93 #[.pointer (some ⟨p, 0, none⟩), .int .u8 (c.toNat : Int)] w Q := by
  have e1 : ((c.toNat : Int) == 27) = false := u8_ne h1
  have e2 : ((c.toNat : Int) == 13) = false := u8_ne h2
  have e3 : ((c.toNat : Int) == 10) = false := u8_ne h3
  have e4 : ((c.toNat : Int) == 8) = false := u8_ne h4
  have e5 : ((c.toNat : Int) == 9) = false := u8_ne h5
  have HN := Asd.mk hno
  have HY := Asd.mk hyes
  clear hno hyes h1 h2 h3 h4 h5
  by_cases hge : 32 ≤ c.toNat
  · have e6 : decide (32 ≤ (c.toNat : Int)) = true := decide_eq_true (by omega)
    by_cases h127 : c = 127
    · have e7 : ((c.toNat : Int) != 127) = false := by rw [h127]; rfl
      have HQ := Asd.mk (HN.out (fun h => h.2 h127))
      clear hge h127
      go_enter Tryz.func93, Tryz.ntmps93
      go_wp2
      go_end0
      exact HQ.out
    · have e7 : ((c.toNat : Int) != 127) = true := by have := u8_ne (d := 127) h127; simp only [bne]; rw [show (127 : Int) = ((127 : UInt8).toNat : Int) from rfl, this]; rfl
      have HQ := Asd.mk (HY.out ⟨hge, h127⟩)
      clear hge h127
      go_enter Tryz.func93, Tryz.ntmps93
      go_wp2_with fail
      refine HQ.out.mono ?_
      rintro e w' ⟨rfl, hq⟩
      go_wp2
      go_end0
      exact hq
  · have e6 : decide (32 ≤ (c.toNat : Int)) = false := decide_eq_false (by omega)
    have HQ := Asd.mk (HN.out (fun h => hge h.1))
    clear hge
    go_enter Tryz.func93, Tryz.ntmps93
    go_wp2
    go_end0
    exact HQ.out
set_option maxHeartbeats 2000000 in
theorem bs_calls (h : SpAt w p wd s) (hw : 1 ≤ wd ∧ wd ≤ 500) (hc : s.col < wd) (hr : s.row < 1000000000000) : Calls Tryz.prog 93 #[.pointer (some ⟨p, 0, none⟩), .int .u8 ((8 : UInt8).toNat : Int)] w (Spun p wd (move wd s 2) w) := by
  have H := Asd.mk h
  have ec : (((8 : UInt8).toNat : Nat) : Int) = 8 := rfl
  rw [ec]
  clear h
  have HT := Asd.mk (turns_calls 2 (by omega))
  go_enter Tryz.func93, Tryz.ntmps93
  go_wp2_with fail
  refine (HT.out w).mono ?_
  rintro e w1 ⟨rfl, rfl⟩
  go_wp2_with fail
  refine (move_calls H.out 2 (by omega) hw hc hr).mono ?_
  rintro e w1 ⟨rfl, h1, h2⟩
  have H1 := Asd.mk h1
  have H2 := Asd.mk h2
  clear h1 h2
  go_wp2
  go_end0
  exact ⟨rfl, H1.out, H2.out⟩
theorem one_calls (h : SpAt w p wd s) (hw : 1 ≤ wd ∧ wd ≤ 500) (hc : s.col < wd) (hr : s.row < 1000000000000) (c : UInt8) : Calls Tryz.prog 93 #[.pointer (some ⟨p, 0, none⟩), .int .u8 (c.toNat : Int)] w (Spun p wd (one wd s c) w) := by
  have hb : ∀ x, x < 1000000000001 → x < big := fun x hx => by unfold big; omega
  unfold one
  by_cases h1 : c = 27
  · rw [if_pos h1]
    exact (esc_gen c _ _ _ s.st h h1).mono fun e w' ⟨a, b, d⟩ => ⟨a, b, d⟩
  rw [if_neg h1]
  by_cases h2 : c = 13
  · rw [if_pos h2]
    refine (cr_gen c _ _ _ s.st h h2).mono fun e w' ⟨a, b, d⟩ => ⟨a, ?_, d⟩
    unfold SpAt cells
    rw [fl_zero]
    exact b
  rw [if_neg h2]
  by_cases h3 : c = 10
  · rw [if_pos h3]
    exact (nl_gen c _ _ _ (fl s.col) (fl (s.row + 1)) s.st h h3 (fun W => run_complex_sum (h := cSum (by have := add_fl s.col 0 (hb _ (by omega)); rw [fl_zero] at this; exact this) (by have := add_fl s.row 1 (hb _ (by omega)); rw [← fl_one] at this; exact this)) (hop := .inl rfl) ..)).mono fun e w' ⟨a, b, d⟩ => ⟨a, b, d⟩
  rw [if_neg h3]
  by_cases h4 : c = 8
  · rw [if_pos h4, h4]
    exact bs_calls h hw hc hr
  rw [if_neg h4]
  by_cases h5 : c = 9
  · rw [if_pos h5]
    have e1 : (8 * ((s.col : Int) / 8 + 1)) = ((8 * (s.col / 8 + 1) : Nat) : Int) := by omega
    refine (tab_gen c (fl wd) (fl s.col) (fl s.row) (fl (8 * (s.col / 8 + 1))) (fl (min (8 * (s.col / 8 + 1)) (wd - 1))) (fl (wd - 1)) s.col s.st (by omega) h h5 (fun W => run_convert_float_int (h := toInt_val s.col (hb _ (by omega))) (hs := by rw [Tryz.underlying135]; rfl) (hd := Tryz.underlying2) ..) (fun W => ?_) (fun W => run_float_arith (h := sub_one wd hw.1 hw.2) ..) (fun W => min2_fl _ _ (hb _ (by omega)) (hb _ (by omega)) _ W)).mono fun e w' ⟨a, b, d⟩ => ⟨a, b, d⟩
    rw [e1]
    exact run_convert_int_float (hs := by rw [Tryz.underlying2]; rfl) (hd := Tryz.underlying135) ..
  rw [if_neg h5]
  refine rest_gen c _ h1 h2 h3 h4 h5 (fun hn => ?_) (fun hy => ?_)
  · rw [if_neg hn]
    exact ⟨rfl, h, Upd.refl _ _⟩
  · rw [if_pos hy]
    exact (sign_calls h hw hc hr).mono fun e w' hx => ⟨hx.1, hx⟩
end
end Go.Proofs.YteepkanbiefpjaaGreatDoor.Sp
set_option linter.unusedVariables false
set_option linter.unusedSimpArgs false
namespace Go.Proofs.YteepkanbiefpjaaGreatDoor.Sp
open Go.RowKit K Fl64
section
variable {w : World} {p wd : Nat} {s : T}
theorem put_next {b : List UInt8} {c : UInt8} {i wd : Nat} (s : T) (h : b.drop i = c :: b.drop (i + 1)) : (b.drop i).foldl (step wd) s = (b.drop (i + 1)).foldl (step wd) (step wd s c) := by rw [h, List.foldl_cons]
theorem SpAt.upd {w1 : World} {S : Nat → Prop} (h : SpAt w p wd s) (k : Upd S w w1) (hn : ¬ S p) : SpAt w1 p wd s := k.blk h hn
set_option maxHeartbeats 8000000 in
set_option maxRecDepth 100000 in
theorem put_calls (h : SpAt w p wd s) (hw : 1 ≤ wd ∧ wd ≤ 500) (m : Nat) (ho : Okk wd m s) (A : Option Addr) (n c : Nat) (b : List UInt8) (hr : Rd w A n b) (hA : ∀ ad, A = some ad → 0 < n → ad.block ≠ p) (hm : m + n < 1000000000) :
    Calls Tryz.prog 72 #[.pointer (some ⟨p, 0, none⟩), .slice A n c] w (Spun p wd (put wd s b) w) := by
  have HR := Asd.mk hr
  have HA := Asd.mk hA
  have H := Asd.mk h
  have HO := Asd.mk ho
  have HLN := Asd.mk hr.len
  have HT := Asd.mk (fun k h => turns_calls k h)
  clear hr hA h ho
  go_enter Tryz.func72, Tryz.ntmps72
  go_wp2
  go_loopw [8] (fun v8 wr => ∃ (i : Nat) (q : T), v8 = .int .i64 (i : Int) ∧ i ≤ n ∧ Asd (SpAt wr p wd q) ∧ Asd (Okk wd (m + i) q) ∧ Asd (put wd s b = (b.drop i).foldl (step wd) q) ∧ Asd (Upd (fun i => i = p) w wr)) (fun v8 _ => n - (intOf v8).toNat)
  case atStart => exact ⟨0, s, rfl, Nat.zero_le _, H, HO, ⟨rfl⟩, ⟨Upd.refl _ _⟩⟩
  case round =>
    obtain ⟨i, q, rfl, hi, HQ, HOK, HL, HU⟩ := hrel
    by_cases hlt : i < n
    · obtain ⟨ad, rfl, hc⟩ := HR.out.at i hlt
      obtain ⟨cc, hcc⟩ : ∃ cc, cc = b[i]'(by rw [HLN.out]; exact hlt) := ⟨_, rfl⟩
      rw [← hcc] at hc
      have hdrop : b.drop i = cc :: b.drop (i + 1) := by rw [hcc]; exact List.drop_eq_getElem_cons (by rw [HLN.out]; exact hlt)
      have HST := Asd.mk (put_next (wd := wd) q hdrop)
      have hcw := HU.out.cell hc (by rw [add_block]; exact HA.out ad rfl (by omega))
      have hcell : ∀ W, Upd (fun _ => False) wr W → W.cell? (ad.add i) = some (.int .u8 (cc.toNat : Int)) := fun W k => k.cell hcw (fun h => h)
      have hs := Upd.refl (fun _ => False) wr
      have hb0 : wr.heap[p]? = some (.cells (cells wd q) 138 (0, 0)) := HQ.out
      have b2 := keepsC (o := 2) (v := .int .i64 q.st) hb0 rfl
      have bf := fun o => keepsF (o := o) hb0
      obtain ⟨q9, hq9⟩ : ∃ q9, q9 = step wd q cc := ⟨_, rfl⟩
      have HQ9 := Asd.mk hq9
      have HOK9 : Asd (Okk wd (m + (i + 1)) q9) := ⟨by rw [hq9]; exact HOK.out.step cc⟩
      have HNX : Asd (put wd s b = (b.drop (i + 1)).foldl (step wd) q9) := ⟨by rw [HL.out, HST.out, hq9]⟩
      have HRW : Asd (q.row < 1000000000000) := ⟨by have := HOK.out.row; omega⟩
      clear hcc hdrop hc hcw hq9 hb0
      by_cases e0 : q.st = 0
      · have n0 : (q.st == 0) = true := beq_iff_eq.2 e0
        have HE : Asd (q9 = one wd q cc) := ⟨by rw [HQ9.out]; unfold step; rw [if_pos e0]⟩
        clear e0
        go_wp2_with fail
        refine (one_calls HQ.out hw HOK.out.col HRW.out cc).mono ?_
        rw [← HE.out]
        rintro e w3 ⟨rfl, h3, u3⟩
        have H3 := Asd.mk h3
        have U3 := Asd.mk (HU.out.trans u3 (fun _ _ h => h))
        clear h3 u3 hs b2 bf hcell
        go_wp2
        go_roundw
        case rel => exact ⟨i + 1, q9, by go_num, by omega, H3, HOK9, HNX, U3⟩
        case measure => simp only [intOf]; omega
      have n0 : (q.st == 0) = false := beq_eq_false_iff_ne.2 e0
      have hw2 := blk_setCell (o := 2) HQ.out (.int .i64 0)
      have HU2 := Asd.mk (HU.out.setCell (p := ⟨p, 2, none⟩) (fun _ => rfl) (.int .i64 0))
      by_cases e1 : q.st = 1
      · have n1 : (q.st == 1) = true := beq_iff_eq.2 e1
        by_cases hc : cc = 91
        · have HE : Asd (q9 = { q with st := 2 }) := ⟨by rw [HQ9.out]; unfold step; rw [if_neg e0, if_pos e1, if_pos hc]⟩
          have n2 : ((cc.toNat : Int) == 91) = true := by rw [hc]; rfl
          have hw3 := blk_setCell (o := 2) hw2 (.int .i64 2)
          have cf : (wr.setCell ⟨p, 2, none⟩ (.int .i64 0)).frozen? ⟨p, 2, none⟩ = false := by simp [World.frozen?, hw2]
          have cg : (wr.setCell ⟨p, 2, none⟩ (.int .i64 0)).cell? ⟨p, 2, none⟩ = some (.int .i64 0) := by simp [World.cell?, hw2, cells]
          have H3 : Asd (SpAt ((wr.setCell ⟨p, 2, none⟩ (.int .i64 0)).setCell ⟨p, 2, none⟩ (.int .i64 2)) p wd q9) := ⟨by rw [HE.out]; exact hw3⟩
          clear e0 e1 hc hw2 hw3
          go_wp2
          go_roundw
          case rel => exact ⟨i + 1, q9, by go_num, by omega, H3, HOK9, HNX, ⟨HU2.out.setCell (fun _ => rfl) _⟩⟩
          case measure => simp only [intOf]; omega
        · have HE : Asd (q9 = { q with st := 0 }) := ⟨by rw [HQ9.out]; unfold step; rw [if_neg e0, if_pos e1, if_neg hc]⟩
          have n2 : ((cc.toNat : Int) == 91) = false := u8_ne hc
          have H3 : Asd (SpAt (wr.setCell ⟨p, 2, none⟩ (.int .i64 0)) p wd q9) := ⟨by rw [HE.out]; exact hw2⟩
          clear e0 e1 hc hw2
          go_wp2
          go_roundw
          case rel => exact ⟨i + 1, q9, by go_num, by omega, H3, HOK9, HNX, HU2⟩
          case measure => simp only [intOf]; omega
      have n1 : (q.st == 1) = false := beq_eq_false_iff_ne.2 e1
      obtain ⟨q2, hq2⟩ : ∃ q2 : T, q2 = { q with st := 0 } := ⟨_, rfl⟩
      have H2 : Asd (SpAt (wr.setCell ⟨p, 2, none⟩ (.int .i64 0)) p wd q2) := ⟨by rw [hq2]; exact hw2⟩
      have HC2 : Asd (q2.col < wd ∧ q2.row < 1000000000000) := ⟨by rw [hq2]; exact ⟨HOK.out.col, HRW.out⟩⟩
      clear hw2
      by_cases h65 : cc = 65
      · have HE : Asd (q9 = move wd q2 3) := ⟨by rw [HQ9.out]; unfold step; rw [if_neg e0, if_neg e1, if_pos h65, hq2]⟩
        have ec : (cc.toNat : Int) = 65 := by rw [h65]; rfl
        have HEC := Asd.mk ec
        clear e0 e1 hq2 h65
        rw [ec] at hcell
        clear ec
        have hx : ∀ W, (Instr.index 164 (.agg #[.int .i64 3, .int .i64 1, .int .i64 0, .int .i64 2]) (.int .u8 0)).run Tryz.prog W = .ok (.int .i64 3) W := fun W => by kernel_rfl
        go_wp2_with fail
        refine (HT.out 3 (by omega) _).mono ?_
        rintro e w3 ⟨rfl, rfl⟩
        go_wp2_with fail
        refine (move_calls H2.out 3 (by omega) hw HC2.out.1 HC2.out.2).mono ?_
        rw [← HE.out]
        rintro e w3 ⟨rfl, h3, u3⟩
        have H3 := Asd.mk h3
        have U3 := Asd.mk (HU2.out.trans u3 (fun _ _ h => h))
        clear h3 u3 hs b2 bf hcell
        go_wp2
        go_roundw
        case rel => exact ⟨i + 1, q9, by go_num, by omega, H3, HOK9, HNX, U3⟩
        case measure => simp only [intOf]; omega
      by_cases h66 : cc = 66
      · have HE : Asd (q9 = move wd q2 1) := ⟨by rw [HQ9.out]; unfold step; rw [if_neg e0, if_neg e1, if_neg h65, if_pos h66, hq2]⟩
        have ec : (cc.toNat : Int) = 66 := by rw [h66]; rfl
        have HEC := Asd.mk ec
        clear e0 e1 hq2 h65 h66
        rw [ec] at hcell
        clear ec
        have hx : ∀ W, (Instr.index 164 (.agg #[.int .i64 3, .int .i64 1, .int .i64 0, .int .i64 2]) (.int .u8 1)).run Tryz.prog W = .ok (.int .i64 1) W := fun W => by kernel_rfl
        go_wp2_with fail
        refine (HT.out 1 (by omega) _).mono ?_
        rintro e w3 ⟨rfl, rfl⟩
        go_wp2_with fail
        refine (move_calls H2.out 1 (by omega) hw HC2.out.1 HC2.out.2).mono ?_
        rw [← HE.out]
        rintro e w3 ⟨rfl, h3, u3⟩
        have H3 := Asd.mk h3
        have U3 := Asd.mk (HU2.out.trans u3 (fun _ _ h => h))
        clear h3 u3 hs b2 bf hcell
        go_wp2
        go_roundw
        case rel => exact ⟨i + 1, q9, by go_num, by omega, H3, HOK9, HNX, U3⟩
        case measure => simp only [intOf]; omega
      by_cases h67 : cc = 67
      · have HE : Asd (q9 = move wd q2 0) := ⟨by rw [HQ9.out]; unfold step; rw [if_neg e0, if_neg e1, if_neg h65, if_neg h66, if_pos h67, hq2]⟩
        have ec : (cc.toNat : Int) = 67 := by rw [h67]; rfl
        have HEC := Asd.mk ec
        clear e0 e1 hq2 h65 h66 h67
        rw [ec] at hcell
        clear ec
        have hx : ∀ W, (Instr.index 164 (.agg #[.int .i64 3, .int .i64 1, .int .i64 0, .int .i64 2]) (.int .u8 2)).run Tryz.prog W = .ok (.int .i64 0) W := fun W => by kernel_rfl
        go_wp2_with fail
        refine (HT.out 0 (by omega) _).mono ?_
        rintro e w3 ⟨rfl, rfl⟩
        go_wp2_with fail
        refine (move_calls H2.out 0 (by omega) hw HC2.out.1 HC2.out.2).mono ?_
        rw [← HE.out]
        rintro e w3 ⟨rfl, h3, u3⟩
        have H3 := Asd.mk h3
        have U3 := Asd.mk (HU2.out.trans u3 (fun _ _ h => h))
        clear h3 u3 hs b2 bf hcell
        go_wp2
        go_roundw
        case rel => exact ⟨i + 1, q9, by go_num, by omega, H3, HOK9, HNX, U3⟩
        case measure => simp only [intOf]; omega
      by_cases h68 : cc = 68
      · have HE : Asd (q9 = move wd q2 2) := ⟨by rw [HQ9.out]; unfold step; rw [if_neg e0, if_neg e1, if_neg h65, if_neg h66, if_neg h67, if_pos h68, hq2]⟩
        have ec : (cc.toNat : Int) = 68 := by rw [h68]; rfl
        have HEC := Asd.mk ec
        clear e0 e1 hq2 h65 h66 h67 h68
        rw [ec] at hcell
        clear ec
        have hx : ∀ W, (Instr.index 164 (.agg #[.int .i64 3, .int .i64 1, .int .i64 0, .int .i64 2]) (.int .u8 3)).run Tryz.prog W = .ok (.int .i64 2) W := fun W => by kernel_rfl
        go_wp2_with fail
        refine (HT.out 2 (by omega) _).mono ?_
        rintro e w3 ⟨rfl, rfl⟩
        go_wp2_with fail
        refine (move_calls H2.out 2 (by omega) hw HC2.out.1 HC2.out.2).mono ?_
        rw [← HE.out]
        rintro e w3 ⟨rfl, h3, u3⟩
        have H3 := Asd.mk h3
        have U3 := Asd.mk (HU2.out.trans u3 (fun _ _ h => h))
        clear h3 u3 hs b2 bf hcell
        go_wp2
        go_roundw
        case rel => exact ⟨i + 1, q9, by go_num, by omega, H3, HOK9, HNX, U3⟩
        case measure => simp only [intOf]; omega
      have HE : Asd (q9 = q2) := ⟨by rw [HQ9.out]; unfold step; rw [if_neg e0, if_neg e1, if_neg h65, if_neg h66, if_neg h67, if_neg h68, hq2]⟩
      have m1 : ((cc.toNat : Int) == 65) = false := u8_ne h65
      have m2 : ((cc.toNat : Int) == 66) = false := u8_ne h66
      have m3 : ((cc.toNat : Int) == 67) = false := u8_ne h67
      have m4 : ((cc.toNat : Int) == 68) = false := u8_ne h68
      have H3 : Asd (SpAt (wr.setCell ⟨p, 2, none⟩ (.int .i64 0)) p wd q9) := ⟨by rw [HE.out]; exact H2.out⟩
      clear e0 e1 hq2 h65 h66 h67 h68
      go_wp2
      go_roundw
      case rel => exact ⟨i + 1, q9, by go_num, by omega, H3, HOK9, HNX, HU2⟩
      case measure => simp only [intOf]; omega
    · have HE : Asd (put wd s b = q) := ⟨by rw [HL.out, List.drop_eq_nil_of_le (by have := HLN.out; omega)]; rfl⟩
      go_wp2
      go_end0
      exact ⟨rfl, by rw [HE.out]; exact HQ.out, HU.out⟩
def SNew (wd : Nat) (w : World) (e : Ending) (w' : World) : Prop := ∃ p, e = .returned (.pointer (some ⟨p, 0, none⟩)) ∧ SpAt w' p wd ⟨0, 0, 0⟩ ∧ Upd (fun _ => False) w w' ∧ w.heap.size ≤ p
set_option maxHeartbeats 1000000 in
theorem new_gen (n : Int) (w : World) : Calls Tryz.prog 44 #[.int .i64 n] w fun e w' => e = .returned (.pointer (some ⟨w.heap.size, 0, none⟩)) ∧ w' = w.alloc (.cells #[.float .f64 (floatOfInt .f64 (mx 1 (mn n 500))), .complex .f64 0 0, .int .i64 0] 138) := by
  go_enter Tryz.func44, Tryz.ntmps44
  go_wp2
  go_ret
  exact ⟨rfl, rfl⟩
theorem new_calls (n : Int) (hn : 1 ≤ n ∧ n ≤ 500) (w : World) : Calls Tryz.prog 44 #[.int .i64 n] w (SNew n.toNat w) := by
  refine (new_gen n w).mono ?_
  rintro e w' ⟨rfl, rfl⟩
  have hm : mx 1 (mn n 500) = ((n.toNat : Nat) : Int) := by unfold mx mn; split <;> split <;> omega
  refine ⟨_, rfl, ?_, (Upd.refl _ _).alloc _, Nat.le_refl _⟩
  rw [hm]
  unfold SpAt cells
  rw [fl_zero]
  exact heap_alloc_new _ _
end
end Go.Proofs.YteepkanbiefpjaaGreatDoor.Sp
set_option linter.unusedVariables false
set_option linter.unusedSimpArgs false
namespace Go.Proofs.YteepkanbiefpjaaGreatDoor.Bk
open Go.RowKit K
open MgRow (M)
theorem Rd.updE {S : Nat → Prop} {w w1 : World} {A : Option Addr} {n : Nat} {l : List UInt8} (h : Rd w A n l) (k : Upd S w w1) (hn : 0 < n → ∀ ad, A = some ad → ¬ S ad.block) : Rd w1 A n l := by
  rcases Nat.eq_zero_or_pos n with e | e
  · subst e
    have hl := List.length_eq_zero_iff.1 h.len
    subst hl
    exact Rd.nil _ _
  · exact h.upd k (hn e)
section
variable {w w' : World} {L : Lay} {s : Br} {F : Nat → Prop} {id : Int} {c : Cn}
theorem Bt.logged (h : Bt L w s F) : ∃ g, Rg.Ring w L.lg g (Rg.roomN s.cf.log) s.log ∧ (∀ k, Rg.Its L.lg g k → F k) ∧ ∀ (w' : World) (l : List UInt8), Rg.Ring w' L.lg g (Rg.roomN s.cf.log) l → Upd (Rg.Its L.lg g) w w' → ∃ F', Bt L w' (wLog s l s.sp) F' ∧ Tn w F w' F' ∧ ∀ k, F' k → F k := by
  obtain ⟨Fi, hp, hF, hput⟩ := h.bk.turnE .ring
  obtain ⟨g, hr, hFi⟩ := hp
  refine ⟨g, hr, fun k hk => hF k ((hFi k).2 hk), fun w' l a1 a2 => ?_⟩
  obtain ⟨F', hbk, ht, he⟩ := hput w' (wLog s l s.sp) Fi ⟨g, a1, hFi⟩ (fun j hj W Fj hw => by cases j <;> first | exact hw | exact absurd rfl hj) ⟨a2.mono (fun k _ hk => (hFi k).2 hk), fun k hk => .inl hk⟩
  exact ⟨F', h.go hbk ht, ht, fun k hk => (he k hk).elim (fun h => h) (hF k)⟩
theorem Bt.spotted (h : Bt L w s F) : Sp.SpAt w L.sp s.cf.width.toNat s.sp ∧ F L.sp ∧ ∀ (w' : World) (q : Sp.T), Sp.SpAt w' L.sp s.cf.width.toNat q → Upd (fun i => i = L.sp) w w' → ∃ F', Bt L w' (wLog s s.log q) F' ∧ Tn w F w' F' ∧ ∀ k, F' k → F k := by
  obtain ⟨Fi, hp, hF, hput⟩ := h.bk.turnE .spot
  obtain ⟨hb, hFi⟩ := hp
  refine ⟨hb, hF _ ((hFi _).2 rfl), fun w' q a1 a2 => ?_⟩
  obtain ⟨F', hbk, ht, he⟩ := hput w' (wLog s s.log q) Fi ⟨a1, hFi⟩ (fun j hj W Fj hw => by cases j <;> first | exact hw | exact absurd rfl hj) ⟨a2.mono (fun k _ hk => (hFi k).2 hk), fun k hk => .inl hk⟩
  exact ⟨F', h.go hbk ht, ht, fun k hk => (he k hk).elim (fun h => h) (hF k)⟩
set_option maxHeartbeats 8000000 in
set_option maxRecDepth 100000 in
theorem output_calls (n : Nat) (h : Bt L w s F) (hd : Gd n s) (hn : n ≤ 10000000) (A : Option Addr) (cp : Nat) (b : List UInt8) (hr : Rd w A b.length b) (hA : ∀ ad, A = some ad → 0 < b.length → ¬ F ad.block) (hbl : b.length ≤ 10000000) : Calls Tryz.prog 34 #[ptr L.q, .slice A b.length cp] w (Goes L (output s b).1 F w (.int .i64 (output s b).2)) := by
  have q14 := keepsC (o := 14) (v := .bool s.ended) h.own rfl
  have hs : Upd (fun _ => False) w w := Upd.refl _ _
  have H := Asd.mk h
  have HD := Asd.mk hd
  cases he : s.ended with
  | true =>
    have hw : output s b = (s, 3) := by unfold output; rw [if_pos he]
    rw [hw]
    rw [he] at q14
    clear h hd hw
    go_enter Tryz.func34, Tryz.ntmps34
    go_wp2
    go_ret
    exact ⟨rfl, F, H.out, Tn.refl _ _⟩
  | false =>
    rw [he] at q14
    have hw : output s b = (settle (wLog s (s.log ++ b) (Sp.put s.cf.width.toNat s.sp b)), 0) := by unfold output; rw [if_neg (by rw [he]; decide)]; rfl
    rw [hw]
    have q8 := keepsC (o := 8) (v := ptr L.lg) h.own rfl
    obtain ⟨g, hrg, hIF, hput⟩ := h.logged
    have HRG := Asd.mk hrg
    have HIF := Asd.mk hIF
    have HPUT := Asd.mk hput
    have HR := Asd.mk hr
    have HA := Asd.mk hA
    have HLG := Asd.mk hd.log
    have HDL := Asd.mk (hd.wLog b)
    have hcf := hd.cf
    unfold rightC at hcf
    simp only [decide_eq_true_eq] at hcf
    have HWD : Asd (1 ≤ s.cf.width.toNat ∧ s.cf.width.toNat ≤ 500) := ⟨by omega⟩
    clear h hd hw hrg hIF hput hr hA hcf
    go_enter Tryz.func34, Tryz.ntmps34
    go_wp2_with fail
    refine (Rg.append_still HRG.out A b.length cp b (fun W k => Rd.updE HR.out k (fun p ad e hi => HA.out ad e p (HIF.out _ hi))) (by have := HLG.out; omega)).mono ?_
    rintro e w1 ⟨rfl, hr1, hu1⟩
    obtain ⟨F1, h1, t1, e1⟩ := HPUT.out w1 _ hr1 hu1
    have H1 := Asd.mk h1
    have T1 := Asd.mk t1
    have HR1 := Asd.mk (Rd.updE HR.out t1.upd (fun p ad e => HA.out ad e p))
    have HA1 : Asd (∀ ad, A = some ad → 0 < b.length → ¬ F1 ad.block) := ⟨fun ad e p hf => HA.out ad e p (e1 _ hf)⟩
    obtain ⟨hsp, hspF, hput2⟩ := h1.spotted
    have HSP := Asd.mk hsp
    have HSF := Asd.mk hspF
    have HPUT2 := Asd.mk hput2
    have q9 := keepsC (o := 9) (v := ptr L.sp) h1.own rfl
    have hs1 : Upd (fun _ => False) w1 w1 := Upd.refl _ _
    clear hr1 hu1 h1 t1 e1 hsp hspF hput2 q8 q14 hs
    go_wp2_with fail
    refine (Sp.put_calls HSP.out HWD.out n HD.out.spt A b.length cp b HR1.out (fun ad e p hb => HA1.out ad e p (by rw [hb]; exact HSF.out)) (by omega)).mono ?_
    rintro e w2 ⟨rfl, hsp2, hu2⟩
    obtain ⟨F2, h2, t2, _⟩ := HPUT2.out w2 _ hsp2 hu2
    have H2 := Asd.mk h2
    have T2 := Asd.mk (T1.out.trans t2)
    clear hsp2 hu2 h2 t2 q9 hs1
    go_wp2_with fail
    refine (settle_calls (n + b.length) H2.out HDL.out (by omega)).mono ?_
    rintro e w3 ⟨rfl, F3, h3, t3⟩
    have H3 := Asd.mk h3
    have T3 := Asd.mk (T2.out.trans t3)
    clear h3 t3
    go_wp2
    go_ret
    exact ⟨rfl, F3, H3.out, T3.out⟩
end
end Go.Proofs.YteepkanbiefpjaaGreatDoor.Bk
set_option linter.unusedVariables false
set_option linter.unusedSimpArgs false
namespace Go.Proofs.YteepkanbiefpjaaGreatDoor.FdAll
open Go.RowKit K Crc Sm Fr FrMath LGet FdMath Fee
theorem Rd.lt {w : World} {A : Option Addr} {n : Nat} {l : List UInt8} (h : Rd w A n l) (hn : 0 < n) : ∀ ad, A = some ad → ad.block < w.heap.size := by
  intro ad e
  obtain ⟨ad', e', hc⟩ := h.at 0 hn
  obtain rfl := Option.some.inj (e.symm.trans e')
  have := World.block_lt_of_cell? w _ hc
  rwa [add_block] at this
theorem add_succ (ad : Addr) (k : Nat) : ad.add (k + 1) = ⟨(ad.add k).block, (ad.add k).off + 1, none⟩ := by
  rw [← add_add]
  simp [Addr.add]
end Go.Proofs.YteepkanbiefpjaaGreatDoor.FdAll
set_option linter.unusedVariables false
set_option linter.unusedSimpArgs false
namespace Go.Proofs.YteepkanbiefpjaaGreatDoor.Bk
open Go.RowKit K
open MgRow (M)
open Fee (FRec OwnF Frs cellsL abs)
def Frames (w : World) (F : Nat → Prop) (A : Option Addr) (cc : Nat) (LR : List FRec) : Prop := ∃ G T, OwnF w A cc LR G ∧ Frs w T LR ∧ (∀ k, T k → ¬ F k ∧ k < w.heap.size) ∧ ∀ g, G = some g → ¬ F g
theorem Frames.tn {w w' : World} {F F' : Nat → Prop} {A : Option Addr} {cc : Nat} {LR : List FRec} (h : Frames w F A cc LR) (t : Tn w F w' F') : Frames w' F' A cc LR := by
  obtain ⟨G, T, h1, h2, h3, h4⟩ := h
  refine ⟨G, T, Own.upd h1 t.upd h4, h2.upd t.upd (fun k hk => (h3 k hk).1), fun k hk => ⟨fun hf => ?_, ?_⟩, fun g e hf => ?_⟩
  · rcases t.new k hf with h | h
    · exact (h3 k hk).1 h
    · have := (h3 k hk).2; omega
  · have := (h3 k hk).2; have := t.upd.size; omega
  · rcases t.new g hf with h | h
    · exact h4 g e h
    · have := Own.lt h1 g e; omega
theorem Frames.up {w w' : World} {F : Nat → Prop} {A : Option Addr} {cc : Nat} {LR : List FRec} (h : Frames w F A cc LR) (k : Upd (fun _ => False) w w') : Frames w' F A cc LR := h.tn (Tn.grow F k)
theorem Frames.at_ {w : World} {F : Nat → Prop} {A : Option Addr} {cc : Nat} {LR : List FRec} (h : Frames w F A cc LR) (i : Nat) (hi : i < LR.length) : ∃ ad, A = some ad ∧ w.cell? (ad.add (i * 2)) = some (.int .u8 (LR[i].kind.toNat : Int)) ∧ w.cell? (ad.add (i * 2 + 1)) = some (.slice LR[i].A LR[i].body.length LR[i].c) ∧ Rd w LR[i].A LR[i].body.length LR[i].body ∧ LR[i].body.length ≤ LR[i].c := by
  obtain ⟨G, T, h1, h2, h3, h4⟩ := h
  obtain ⟨A1, c1, he1, _, _, hrow, _⟩ := K.Own.slice h1
  obtain ⟨rfl, rfl⟩ : A = A1 ∧ cc = c1 := by injection he1 with a b c; exact ⟨a, c⟩
  obtain ⟨g0, g1⟩ := Fee.cellsL_at LR i hi
  obtain ⟨ad, e, hc0⟩ := hrow _ _ g0
  obtain ⟨ad1, e1, hc1⟩ := hrow _ _ g1
  obtain rfl := Option.some.inj (e.symm.trans e1)
  obtain ⟨a1, a2, _, _⟩ := h2 LR[i] (List.getElem_mem hi)
  exact ⟨ad, e, hc0, hc1, a1, a2⟩
def bodies (L : List (UInt8 × List UInt8)) : Nat := (L.map fun f => f.2.length).sum
section
variable {w w' : World} {L : Lay} {s : Br} {F : Nat → Prop} {id : Int} {c : Cn}
theorem Bt.feed (h : Bt L w s F) (hg : get s id = some c) : ∃ Fl, Fee.Feed w (L.cn id).pf c.fb c.fe Fl ∧ (∀ k, Fl k → F k) ∧ ∀ (w' : World) (b : List UInt8) (e : Int) (Fl' : Nat → Prop), Fee.Feed w' (L.cn id).pf b e Fl' → Upd Fl w w' → (∀ k, Fl' k → Fl k ∨ w.heap.size ≤ k) → ∃ F', Bt L w' (set s id { c with fb := b, fe := e }) F' ∧ Tn w F w' F' ∧ ∀ k, F' k → F k ∨ Fl' k := by
  obtain ⟨Fi, hp, hF, hput⟩ := h.bk.turnE (.feed id)
  simp only [PartAt] at hp
  rw [hg] at hp
  refine ⟨Fi, hp, hF, fun w' b e Fl' a1 a2 a3 => ?_⟩
  obtain ⟨F', hbk, ht, he⟩ := hput w' (set s id { c with fb := b, fe := e }) Fl' (by simp only [PartAt]; rw [get_set_same hg]; exact a1) (fun j hj W Fj hw => set_part hg hw (fun _ => ⟨rfl, rfl, rfl, rfl⟩) (fun e => absurd e hj) (fun _ => rfl) (fun _ => rfl)) ⟨a2, a3⟩
  exact ⟨F', h.go hbk ht, ht, he⟩
theorem fpush_calls {q : Nat} {n l : Nat} {Ff : Nat → Prop} (hc : CnOk n l c) (h : Fee.Feed w q c.fb c.fe Ff) (A : Option Addr) (cp : Nat) (b : List UInt8) (hr : Rd w A b.length b) (hb : b.length ≤ 10000000) : Calls Tryz.prog 50 #[.pointer (some ⟨q, 0, none⟩), .slice A b.length cp] w (Fee.PushPost q (push c b) Ff w) := by
  unfold push
  by_cases he : c.fe = 0
  · rw [if_neg (fun h => h he)]
    rw [he] at h
    exact Fee.push_live h A b.length cp b hr (by have := hc.fb; omega)
  · rw [if_pos he]
    rw [hc.fe he] at h
    exact Fee.push_dead h he A b.length cp
theorem fx_len {n l : Nat} (hc : CnOk n l c) (b : List UInt8) : (push c b).1.length ≤ 3000 + b.length := by
  unfold push
  split
  · simp
  · have := FdMath.all_len (c.fb ++ b)
    have := hc.fb
    rw [List.length_append] at *
    omega
theorem closed_eq {s : Br} {id : Int} {c : Cn} (h : get s id = some c) : closed s id = (c.st == 2) := by unfold closed; rw [h]
def cIdle0 (c : Cn) : Cn := { c with idle := 0 }
theorem bodies_drop {L : List (UInt8 × List UInt8)} {i : Nat} {f : UInt8 × List UInt8} (h : L.drop i = f :: L.drop (i + 1)) : bodies (L.drop i) = f.2.length + bodies (L.drop (i + 1)) := by rw [h]; simp [bodies]
set_option maxHeartbeats 16000000 in
set_option maxRecDepth 100000 in
theorem bytes_calls (n : Nat) (h : Bt L w s F) (hd : Gd n s) (hn : n ≤ 10000000) (id : Int) (hid : -9223372036854775808 ≤ id ∧ id ≤ 9223372036854775807) (A : Option Addr) (cp : Nat) (b : List UInt8) (hr : Rd w A b.length b) (hA : ∀ ad, A = some ad → 0 < b.length → ¬ F ad.block) (hbl : b.length ≤ 10000000) : Calls Tryz.prog 19 #[ptr L.q, .int .i64 id, .slice A b.length cp] w (Goes L (bytes s id b).1 F w (.int .i64 (bytes s id b).2)) := by
  have q12 := keepsC (o := 12) (v := .map (some L.m)) h.own rfl
  have hlook := h.look id hid
  have hs : Upd (fun _ => False) w w := Upd.refl _ _
  have H := Asd.mk h
  have HD := Asd.mk hd
  cases hg : get s id with
  | none =>
    have hw : bytes s id b = (s, 2) := by unfold bytes; rw [hg]
    rw [hw]
    rw [hg] at hlook
    simp only at hlook ⊢
    clear h hd hg hw hr hA
    go_enter Tryz.func19, Tryz.ntmps19
    go_wp2
    go_ret
    exact ⟨rfl, F, H.out, Tn.refl _ _⟩
  | some c =>
    rw [hg] at hlook
    simp only at hlook
    obtain ⟨vx, hbx⟩ := h.conn hg
    have x1 := keepsC (o := 1) (v := .int .i64 c.st) hbx rfl
    by_cases hst : c.st = 2
    · have hw : bytes s id b = (s, 3) := by unfold bytes; rw [hg]; simp only; rw [if_pos hst]
      have hb1 : (c.st == 2) = true := beq_iff_eq.2 hst
      rw [hw]
      clear h hd hg hw hr hA hbx hst
      go_enter Tryz.func19, Tryz.ntmps19
      go_wp2
      go_ret
      exact ⟨rfl, F, H.out, Tn.refl _ _⟩
    have hb1 : (c.st == 2) = false := beq_eq_false_iff_ne.2 hst
    obtain ⟨r, hrr⟩ : ∃ r, r = push c b := ⟨_, rfl⟩
    obtain ⟨s1, hs1⟩ : ∃ s1, s1 = set s id (took c b) := ⟨_, rfl⟩
    obtain ⟨s2, hs2⟩ : ∃ s2, s2 = r.1.foldl (frame1 id) s1 := ⟨_, rfl⟩
    obtain ⟨s3, hs3⟩ : ∃ s3, s3 = if closed s2 id = false ∧ r.2.2 ≠ 0 then shut s2 id 1 else s2 := ⟨_, rfl⟩
    have hw : bytes s id b = (settle s3, 0) := by
      unfold bytes
      rw [hg]
      simp only
      rw [if_neg hst, hs3, hs2, hs1, hrr]
      rfl
    rw [hw]
    have hps := push_sizes (hd.cns id c hg) b
    rw [← hrr] at hps
    have HPS := Asd.mk hps
    have HG := Asd.mk hg
    have HR := Asd.mk hr
    have HA := Asd.mk hA
    have HRR := Asd.mk hrr
    have HS2 := Asd.mk hs2
    have HS3d := Asd.mk hs3
    have HD1 : Asd (Gd n s1) := ⟨by rw [hs1]; exact hd.took hg b⟩
    have HG1 : Asd (∃ x, get s1 id = some x ∧ x.fe = r.2.2) := ⟨⟨_, by rw [hs1]; exact get_set_same hg, by rw [hrr]; rfl⟩⟩
    have HCO := Asd.mk (hd.cns id c hg)
    clear h hd hg hw hr hA hst hps hrr hs2 hs3
    by_cases hbe : b = []
    · have hb6 : decide (0 < (b.length : Int)) = false := by rw [hbe]; rfl
      have hb7 : decide (0 < b.length) = false := by rw [hbe]; rfl
      have hb8 : ¬ 0 < b.length := by rw [hbe]; simp
      have HEa : Asd (set s id { c with fb := r.2.1, fe := r.2.2 } = s1) := ⟨by rw [hs1, HRR.out]; unfold took; rw [if_pos hbe]⟩
      have HAa := H
      have HGa := HG
      have HRa := HR
      have HCc := HCO
      obtain ⟨wa, hwa⟩ : ∃ wa, wa = w := ⟨_, rfl⟩
      obtain ⟨Fa, hFa⟩ : ∃ Fa, Fa = F := ⟨_, rfl⟩
      have Ta : Asd (Tn w F wa Fa) := ⟨by rw [hwa, hFa]; exact Tn.refl _ _⟩
      rw [← hwa, ← hFa] at HAa
      rw [← hwa] at HRa
      clear hbe hbx hs1
      go_enter Tryz.func19, Tryz.ntmps19
      go_upto_region 8 with fail
      clear q12 hlook hs x1 hb1 hb6
      rw [← hwa]
      clear hwa hFa
      obtain ⟨Ff, hfd, hFf, hput⟩ := HAa.out.feed HGa.out
      have HFD := Asd.mk hfd
      have HFF := Asd.mk hFf
      have HPUT := Asd.mk hput
      obtain ⟨vy, hby⟩ := HAa.out.conn HGa.out
      have y4 := keepsC (o := 4) (v := ptr (L.cn id).pf) hby rfl
      have hsa : Upd (fun _ => False) wa wa := Upd.refl _ _
      clear hfd hFf hput hby
      go_wp2_with fail
      refine (fpush_calls (q := (L.cn id).pf) (c := c) HCc.out HFD.out A cp b HRa.out hbl).mono ?_
      rintro e w3 ⟨A3, c3, LR, G3, Ff3, rfl, hab, hl3, hm3, hO3, hFr3, hfd3, hu3, hn3, hG3⟩
      have hrr2 : push c b = r := HRR.out.symm
      rw [hrr2] at hab hfd3
      obtain ⟨F3, h3, t3, e3⟩ := HPUT.out w3 _ _ Ff3 hfd3 hu3 hn3
      rw [HEa.out] at h3
      have H3 := Asd.mk h3
      have T3 := Asd.mk (Ta.out.trans t3)
      have HFR : Asd (Frames w3 F3 A3 c3 LR) := ⟨⟨G3, fun k => wa.heap.size ≤ k ∧ k < w3.heap.size ∧ ¬ Ff3 k, hO3, hFr3, fun k hk => ⟨fun hf => (e3 k hf).elim (fun h => by have := HAa.out.bk.lt k h; omega) (fun h => hk.2.2 h), hk.2.1⟩, fun g e hf => (e3 g hf).elim (fun h => by have := HAa.out.bk.lt g h; have := (hG3 g e).1; omega) (fun h => (hG3 g e).2 h)⟩⟩
      obtain ⟨N, hN⟩ : ∃ N, N = LR.length := ⟨_, rfl⟩
      have HN := Asd.mk hN
      have HAB := Asd.mk hab
      have hNl : N ≤ 20000000 := by
        have h1 := (fx_len HCc.out b)
        rw [hrr2, ← hab, Fee.abs_length] at h1
        omega
      rw [← hN]
      clear hab hl3 hm3 hO3 hFr3 hfd3 hu3 hn3 hG3 h3 t3 e3 hN hrr2 y4 hsa
      go_wp2
      go_loopw [36] (fun v36 wr => ∃ (i m : Nat) (st : Br) (F4 : Nat → Prop), v36 = .int .i64 (i : Int) ∧ i ≤ N ∧ Asd (Bt L wr st F4) ∧ Asd (Gd m st ∧ m + bodies (r.1.drop i) ≤ n + 3000 + b.length) ∧ Asd (∃ x, get st id = some x ∧ x.fe = r.2.2) ∧ Asd (s2 = (r.1.drop i).foldl (frame1 id) st) ∧ Asd (Frames wr F4 A3 c3 LR) ∧ Asd (Tn w F wr F4)) (fun v36 _ => N - (intOf v36).toNat)
      case atStart => exact ⟨0, n, s1, F3, rfl, Nat.zero_le _, H3, ⟨HD1.out, by have := HPS.out.1; rw [List.drop_zero]; show n + bodies r.1 ≤ _; unfold bodies; omega⟩, HG1, ⟨by rw [HS2.out]; rfl⟩, HFR, T3⟩
      case round =>
        obtain ⟨i, m, st, F4, rfl, hi, HB, HGD, HEX, HL, HFRa, HTn⟩ := hrel
        by_cases hlt : i < N
        · have hlt2 : i < LR.length := by rw [← HN.out]; exact hlt
          obtain ⟨ad, rfl, hc0, hc1, hrd, hle⟩ := HFRa.out.at_ i hlt2
          obtain ⟨x, hx⟩ : ∃ x, x = LR[i] := ⟨_, rfl⟩
          rw [← hx] at hc0 hc1 hrd hle
          rw [FdAll.add_succ] at hc1
          have hdrop : r.1.drop i = (x.kind, x.body) :: r.1.drop (i + 1) := by
            rw [← HAB.out, hx]
            have : (abs LR)[i]'(by rw [Fee.abs_length]; exact hlt2) = (LR[i].kind, LR[i].body) := by simp [Fee.abs]
            rw [← this]
            exact List.drop_eq_getElem_cons (by rw [Fee.abs_length]; exact hlt2)
          have HDR := Asd.mk hdrop
          have HBL : Asd (x.body.length ≤ 2048) := ⟨HPS.out.2.1 (x.kind, x.body) (by
            have : (x.kind, x.body) ∈ r.1.drop i := by rw [hdrop]; exact List.mem_cons_self
            exact List.mem_of_mem_drop this)⟩
          obtain ⟨y, hy, hye⟩ := HEX.out
          have HY := Asd.mk hy
          have HYE := Asd.mk hye
          obtain ⟨s9, hs9⟩ : ∃ s9, s9 = frame1 id st (x.kind, x.body) := ⟨_, rfl⟩
          have HNX : Asd (s2 = (r.1.drop (i + 1)).foldl (frame1 id) s9) := ⟨by rw [HL.out, hdrop, List.foldl_cons, hs9]⟩
          have HG9 : Asd (Gd (m + x.body.length) s9 ∧ m + x.body.length + bodies (r.1.drop (i + 1)) ≤ n + 3000 + b.length) := ⟨by rw [hs9]; exact HGD.out.1.frame1 id (x.kind, x.body) HBL.out, by have := HGD.out.2; rw [bodies_drop hdrop] at this; simp only at this; omega⟩
          have HE9 : Asd (∃ x, get s9 id = some x ∧ x.fe = r.2.2) := ⟨by
            obtain ⟨y9, a1, a2, _⟩ := (fx_frame1 id st (x.kind, x.body)).cn id y hy
            exact ⟨y9, by rw [hs9]; exact a1, a2.trans hye⟩⟩
          have HS9 : Asd (s9 = if closed st id then st else turned (message st id x.kind x.body)) := ⟨by rw [hs9]; rfl⟩
          have HRD := Asd.mk hrd
          have HLE := Asd.mk hle
          have hd0 : ∀ W, Upd (fun _ => False) wr W → W.cell? (ad.add (i * 2)) = some (.int .u8 (x.kind.toNat : Int)) := fun W k => k.cell hc0 (fun h => h)
          have hd1 : ∀ W, Upd (fun _ => False) wr W → W.cell? ⟨(ad.add (i * 2)).block, (ad.add (i * 2)).off + 1, none⟩ = some (.slice x.A x.body.length x.c) := fun W k => k.cell hc1 (fun h => h)
          have hs4 : Upd (fun _ => False) wr wr := Upd.refl _ _
          clear hx hdrop hy hye hs9 hc0 hc1 hrd hle
          go_upto_region 11 with fail
          have hk1 := (Upd.refl (fun _ => False) wr).alloc (.cells #[.int .u8 (x.kind.toNat : Int), .slice x.A x.body.length x.c] 105)
          have hm1 := heap_alloc_new wr (.cells #[.int .u8 (x.kind.toNat : Int), .slice x.A x.body.length x.c] 105)
          generalize hw5 : wr.alloc (.cells #[.int .u8 (x.kind.toNat : Int), .slice x.A x.body.length x.c] 105) = w5 at hk1 hm1 ⊢
          have H5 := Asd.mk (HB.out.up hk1)
          have T5 := Asd.mk (HTn.out.trans (Tn.grow F4 hk1))
          have HFR5 := Asd.mk (HFRa.out.up hk1)
          have HRD5 := Asd.mk (HRD.out.up hk1)
          obtain ⟨v5, hb5⟩ := H5.out.conn HY.out
          have z1 := keepsC (o := 1) (v := .int .i64 y.st) hb5 rfl
          have f0 := keepsC (o := 0) (v := .int .u8 (x.kind.toNat : Int)) hm1 rfl
          have f1 := keepsC (o := 1) (v := .slice x.A x.body.length x.c) hm1 rfl
          have hs5 : Upd (fun _ => False) w5 w5 := Upd.refl _ _
          clear hd0 hd1 hs4 hb5 hk1 hm1 hw5
          by_cases hcl : y.st = 2
          · have hb2 : (y.st != 2) = false := by rw [hcl]; rfl
            have HE : Asd (s9 = st) := ⟨by rw [HS9.out, if_pos (by rw [closed_eq HY.out, hcl]; rfl)]⟩
            clear hcl
            go_wp2
            go_roundw
            case rel => exact ⟨i + 1, m + x.body.length, s9, F4, by go_num, by omega, ⟨by rw [HE.out]; exact H5.out⟩, HG9, HE9, HNX, HFR5, T5⟩
            case measure => simp only [intOf]; omega
          · have hb2 : (y.st != 2) = true := bne_iff_ne.2 hcl
            have HE : Asd (s9 = turned (message st id x.kind x.body)) := ⟨by rw [HS9.out, if_neg (by rw [closed_eq HY.out]; simpa using hcl)]⟩
            have HGM : Asd (Gd (m + x.body.length) (message st id x.kind x.body)) := ⟨HGD.out.1.message id _ _ HBL.out⟩
            have HMN : Asd (m ≤ 100000000) := ⟨by have := HGD.out.2; omega⟩
            have HNC := Asd.mk hcl
            clear hcl
            go_wp2_with fail
            refine (message_calls m H5.out HGD.out.1 HMN.out HY.out HNC.out x.kind x.A x.c x.body HRD5.out HLE.out HBL.out).mono ?_
            rintro e w6 ⟨rfl, F6, h6, t6⟩
            have H6 := Asd.mk h6
            have T6 := Asd.mk (T5.out.trans t6)
            have HFR6 := Asd.mk (HFR5.out.tn t6)
            clear h6 t6 z1 f0 f1 hs5
            go_wp2_with fail
            refine (turned_calls H6.out HGM.out.ok).mono ?_
            rw [← HE.out]
            rintro e w7 ⟨rfl, F7, h7, t7⟩
            have H7 := Asd.mk h7
            have T7 := Asd.mk (T6.out.trans t7)
            have HFR7 := Asd.mk (HFR6.out.tn t7)
            clear h7 t7
            go_wp2
            go_roundw
            case rel => exact ⟨i + 1, m + x.body.length, s9, F7, by go_num, by omega, H7, HG9, HE9, HNX, HFR7, T7⟩
            case measure => simp only [intOf]; omega
        · have HE : Asd (s2 = st) := ⟨by rw [HL.out, List.drop_eq_nil_of_le (by have := HN.out; rw [← HAB.out, Fee.abs_length]; omega)]; rfl⟩
          obtain ⟨y, hy, hye⟩ := HEX.out
          have HY := Asd.mk hy
          have HYE := Asd.mk hye
          obtain ⟨v5, hb5⟩ := HB.out.conn hy
          have z1 := keepsC (o := 1) (v := .int .i64 y.st) hb5 rfl
          have z4 := keepsC (o := 4) (v := ptr (L.cn id).pf) hb5 rfl
          have hs5 : Upd (fun _ => False) wr wr := Upd.refl _ _
          have HGE : Asd (Gd (n + 3000 + b.length) st) := ⟨HGD.out.1.mono (by have := HGD.out.2; omega)⟩
          obtain ⟨Fe, hfe, _, _⟩ := HB.out.feed hy
          have HFE := Asd.mk hfe
          clear hy hye hb5 hfe
          by_cases hcl : y.st = 2
          · have hb2 : (y.st != 2) = false := by rw [hcl]; rfl
            have HS3 : Asd (s3 = st) := ⟨by rw [HS3d.out, HE.out, if_neg (fun h => by have := h.1; rw [closed_eq HY.out, hcl] at this; exact absurd this (by decide))]⟩
            clear hcl
            go_wp2_with fail
            refine (settle_calls (n + 3000 + b.length) HB.out HGE.out (by omega)).mono ?_
            rw [← HS3.out]
            rintro e w8 ⟨rfl, F8, h8, t8⟩
            have H8 := Asd.mk h8
            have T8 := Asd.mk (HTn.out.trans t8)
            clear h8 t8 z1 z4 hs5
            go_wp2
            go_ret
            exact ⟨rfl, F8, H8.out, T8.out⟩
          have hb2 : (y.st != 2) = true := bne_iff_ne.2 hcl
          have hco : closed st id = false := by rw [closed_eq HY.out]; simpa using hcl
          by_cases hfe : y.fe = 0
          · have hb3 : (y.fe != 0) = false := by rw [hfe]; rfl
            have HS3 : Asd (s3 = st) := ⟨by rw [HS3d.out, HE.out, if_neg (fun h => h.2 (by rw [← HYE.out]; exact hfe))]⟩
            clear hcl hfe hco
            go_wp2_with fail
            refine (Fee.err_calls HFE.out).mono ?_
            rintro e w7 ⟨rfl, rfl⟩
            go_wp2_with fail
            refine (settle_calls (n + 3000 + b.length) HB.out HGE.out (by omega)).mono ?_
            rw [← HS3.out]
            rintro e w8 ⟨rfl, F8, h8, t8⟩
            have H8 := Asd.mk h8
            have T8 := Asd.mk (HTn.out.trans t8)
            clear h8 t8 z1 z4 hs5
            go_wp2
            go_ret
            exact ⟨rfl, F8, H8.out, T8.out⟩
          · have hb3 : (y.fe != 0) = true := bne_iff_ne.2 hfe
            have HS3 : Asd (s3 = shut st id 1) := ⟨by rw [HS3d.out, HE.out, if_pos ⟨hco, fun e => hfe (by rw [HYE.out]; exact e)⟩]⟩
            have HGS : Asd (Gd (n + 3000 + b.length) (shut st id 1)) := ⟨HGE.out.shut id 1⟩
            clear hcl hfe hco
            go_wp2_with fail
            refine (Fee.err_calls HFE.out).mono ?_
            rintro e w7 ⟨rfl, rfl⟩
            go_wp2_with fail
            refine (shut_calls HB.out HGE.out.ok HY.out 1).mono ?_
            rintro e w8 ⟨rfl, F8, h8, t8⟩
            have H8 := Asd.mk h8
            have T8 := Asd.mk (HTn.out.trans t8)
            clear h8 t8 z1 z4 hs5
            go_wp2_with fail
            refine (settle_calls (n + 3000 + b.length) H8.out HGS.out (by omega)).mono ?_
            rw [← HS3.out]
            rintro e w9 ⟨rfl, F9, h9, t9⟩
            have H9 := Asd.mk h9
            have T9 := Asd.mk (T8.out.trans t9)
            clear h9 t9
            go_wp2
            go_ret
            exact ⟨rfl, F9, H9.out, T9.out⟩
    · have hbl0 : 0 < b.length := List.length_pos_iff.2 hbe
      have hb6 : decide (0 < (b.length : Int)) = true := decide_eq_true (by omega)
      have hb7 : decide (0 < b.length) = true := decide_eq_true (by omega)
      have HEa : Asd (set (set s id (cIdle0 c)) id { cIdle0 c with fb := r.2.1, fe := r.2.2 } = s1) := ⟨by rw [hs1, HRR.out, set_set]; unfold took cIdle0; rw [if_neg hbe]⟩
      have xf := fun o => keepsF (o := o) hbx
      have x3 := keepsC (o := 3) (v := .int .i64 c.idle) hbx rfl
      obtain ⟨Fa, ha, ta⟩ := H.out.setConn (w' := w.setCell ⟨(L.cn id).p, 3, none⟩ (.int .i64 0)) (c' := cIdle0 c) HG.out rfl ⟨rfl, rfl⟩ rfl rfl ((Upd.refl (fun k => k = (L.cn id).p) w).setCell (fun _ => rfl) _) (fun v hv => blk_setCell (o := 3) hv (.int .i64 0))
      have HAa := Asd.mk ha
      have Ta := Asd.mk ta
      have HRa := Asd.mk (HR.out.upd ta.upd (fun ad e => HA.out ad e hbl0))
      have HGa : Asd (get (set s id (cIdle0 c)) id = some (cIdle0 c)) := ⟨get_set_same HG.out⟩
      have HCc : Asd (CnOk (n + 1) s.log.length (cIdle0 c)) := ⟨{ HCO.out with idle := ⟨Int.le_refl _, by show (0 : Int) ≤ ((n + 1 : Nat) : Int); omega⟩ }⟩
      have HRR2 : Asd (r = push (cIdle0 c) b) := ⟨HRR.out⟩
      clear hbe hbx hs1 ha ta
      go_enter Tryz.func19, Tryz.ntmps19
      go_upto_region 8 with fail
      clear q12 hlook hs x1 hb1 hb6 xf x3
      generalize hwa : w.setCell ⟨(L.cn id).p, 3, none⟩ (.int .i64 0) = wa at HAa Ta HRa ⊢
      clear hwa
      obtain ⟨Ff, hfd, hFf, hput⟩ := HAa.out.feed HGa.out
      have HFD := Asd.mk hfd
      have HFF := Asd.mk hFf
      have HPUT := Asd.mk hput
      obtain ⟨vy, hby⟩ := HAa.out.conn HGa.out
      have y4 := keepsC (o := 4) (v := ptr (L.cn id).pf) hby rfl
      have hsa : Upd (fun _ => False) wa wa := Upd.refl _ _
      clear hfd hFf hput hby
      go_wp2_with fail
      refine (fpush_calls (q := (L.cn id).pf) (c := (cIdle0 c)) HCc.out HFD.out A cp b HRa.out hbl).mono ?_
      rintro e w3 ⟨A3, c3, LR, G3, Ff3, rfl, hab, hl3, hm3, hO3, hFr3, hfd3, hu3, hn3, hG3⟩
      have hrr2 : push (cIdle0 c) b = r := HRR2.out.symm
      rw [hrr2] at hab hfd3
      obtain ⟨F3, h3, t3, e3⟩ := HPUT.out w3 _ _ Ff3 hfd3 hu3 hn3
      rw [HEa.out] at h3
      have H3 := Asd.mk h3
      have T3 := Asd.mk (Ta.out.trans t3)
      have HFR : Asd (Frames w3 F3 A3 c3 LR) := ⟨⟨G3, fun k => wa.heap.size ≤ k ∧ k < w3.heap.size ∧ ¬ Ff3 k, hO3, hFr3, fun k hk => ⟨fun hf => (e3 k hf).elim (fun h => by have := HAa.out.bk.lt k h; omega) (fun h => hk.2.2 h), hk.2.1⟩, fun g e hf => (e3 g hf).elim (fun h => by have := HAa.out.bk.lt g h; have := (hG3 g e).1; omega) (fun h => (hG3 g e).2 h)⟩⟩
      obtain ⟨N, hN⟩ : ∃ N, N = LR.length := ⟨_, rfl⟩
      have HN := Asd.mk hN
      have HAB := Asd.mk hab
      have hNl : N ≤ 20000000 := by
        have h1 := (fx_len HCc.out b)
        rw [hrr2, ← hab, Fee.abs_length] at h1
        omega
      rw [← hN]
      clear hab hl3 hm3 hO3 hFr3 hfd3 hu3 hn3 hG3 h3 t3 e3 hN hrr2 y4 hsa
      go_wp2
      go_loopw [36] (fun v36 wr => ∃ (i m : Nat) (st : Br) (F4 : Nat → Prop), v36 = .int .i64 (i : Int) ∧ i ≤ N ∧ Asd (Bt L wr st F4) ∧ Asd (Gd m st ∧ m + bodies (r.1.drop i) ≤ n + 3000 + b.length) ∧ Asd (∃ x, get st id = some x ∧ x.fe = r.2.2) ∧ Asd (s2 = (r.1.drop i).foldl (frame1 id) st) ∧ Asd (Frames wr F4 A3 c3 LR) ∧ Asd (Tn w F wr F4)) (fun v36 _ => N - (intOf v36).toNat)
      case atStart => exact ⟨0, n, s1, F3, rfl, Nat.zero_le _, H3, ⟨HD1.out, by have := HPS.out.1; rw [List.drop_zero]; show n + bodies r.1 ≤ _; unfold bodies; omega⟩, HG1, ⟨by rw [HS2.out]; rfl⟩, HFR, T3⟩
      case round =>
        obtain ⟨i, m, st, F4, rfl, hi, HB, HGD, HEX, HL, HFRa, HTn⟩ := hrel
        by_cases hlt : i < N
        · have hlt2 : i < LR.length := by rw [← HN.out]; exact hlt
          obtain ⟨ad, rfl, hc0, hc1, hrd, hle⟩ := HFRa.out.at_ i hlt2
          obtain ⟨x, hx⟩ : ∃ x, x = LR[i] := ⟨_, rfl⟩
          rw [← hx] at hc0 hc1 hrd hle
          rw [FdAll.add_succ] at hc1
          have hdrop : r.1.drop i = (x.kind, x.body) :: r.1.drop (i + 1) := by
            rw [← HAB.out, hx]
            have : (abs LR)[i]'(by rw [Fee.abs_length]; exact hlt2) = (LR[i].kind, LR[i].body) := by simp [Fee.abs]
            rw [← this]
            exact List.drop_eq_getElem_cons (by rw [Fee.abs_length]; exact hlt2)
          have HDR := Asd.mk hdrop
          have HBL : Asd (x.body.length ≤ 2048) := ⟨HPS.out.2.1 (x.kind, x.body) (by
            have : (x.kind, x.body) ∈ r.1.drop i := by rw [hdrop]; exact List.mem_cons_self
            exact List.mem_of_mem_drop this)⟩
          obtain ⟨y, hy, hye⟩ := HEX.out
          have HY := Asd.mk hy
          have HYE := Asd.mk hye
          obtain ⟨s9, hs9⟩ : ∃ s9, s9 = frame1 id st (x.kind, x.body) := ⟨_, rfl⟩
          have HNX : Asd (s2 = (r.1.drop (i + 1)).foldl (frame1 id) s9) := ⟨by rw [HL.out, hdrop, List.foldl_cons, hs9]⟩
          have HG9 : Asd (Gd (m + x.body.length) s9 ∧ m + x.body.length + bodies (r.1.drop (i + 1)) ≤ n + 3000 + b.length) := ⟨by rw [hs9]; exact HGD.out.1.frame1 id (x.kind, x.body) HBL.out, by have := HGD.out.2; rw [bodies_drop hdrop] at this; simp only at this; omega⟩
          have HE9 : Asd (∃ x, get s9 id = some x ∧ x.fe = r.2.2) := ⟨by
            obtain ⟨y9, a1, a2, _⟩ := (fx_frame1 id st (x.kind, x.body)).cn id y hy
            exact ⟨y9, by rw [hs9]; exact a1, a2.trans hye⟩⟩
          have HS9 : Asd (s9 = if closed st id then st else turned (message st id x.kind x.body)) := ⟨by rw [hs9]; rfl⟩
          have HRD := Asd.mk hrd
          have HLE := Asd.mk hle
          have hd0 : ∀ W, Upd (fun _ => False) wr W → W.cell? (ad.add (i * 2)) = some (.int .u8 (x.kind.toNat : Int)) := fun W k => k.cell hc0 (fun h => h)
          have hd1 : ∀ W, Upd (fun _ => False) wr W → W.cell? ⟨(ad.add (i * 2)).block, (ad.add (i * 2)).off + 1, none⟩ = some (.slice x.A x.body.length x.c) := fun W k => k.cell hc1 (fun h => h)
          have hs4 : Upd (fun _ => False) wr wr := Upd.refl _ _
          clear hx hdrop hy hye hs9 hc0 hc1 hrd hle
          go_upto_region 11 with fail
          have hk1 := (Upd.refl (fun _ => False) wr).alloc (.cells #[.int .u8 (x.kind.toNat : Int), .slice x.A x.body.length x.c] 105)
          have hm1 := heap_alloc_new wr (.cells #[.int .u8 (x.kind.toNat : Int), .slice x.A x.body.length x.c] 105)
          generalize hw5 : wr.alloc (.cells #[.int .u8 (x.kind.toNat : Int), .slice x.A x.body.length x.c] 105) = w5 at hk1 hm1 ⊢
          have H5 := Asd.mk (HB.out.up hk1)
          have T5 := Asd.mk (HTn.out.trans (Tn.grow F4 hk1))
          have HFR5 := Asd.mk (HFRa.out.up hk1)
          have HRD5 := Asd.mk (HRD.out.up hk1)
          obtain ⟨v5, hb5⟩ := H5.out.conn HY.out
          have z1 := keepsC (o := 1) (v := .int .i64 y.st) hb5 rfl
          have f0 := keepsC (o := 0) (v := .int .u8 (x.kind.toNat : Int)) hm1 rfl
          have f1 := keepsC (o := 1) (v := .slice x.A x.body.length x.c) hm1 rfl
          have hs5 : Upd (fun _ => False) w5 w5 := Upd.refl _ _
          clear hd0 hd1 hs4 hb5 hk1 hm1 hw5
          by_cases hcl : y.st = 2
          · have hb2 : (y.st != 2) = false := by rw [hcl]; rfl
            have HE : Asd (s9 = st) := ⟨by rw [HS9.out, if_pos (by rw [closed_eq HY.out, hcl]; rfl)]⟩
            clear hcl
            go_wp2
            go_roundw
            case rel => exact ⟨i + 1, m + x.body.length, s9, F4, by go_num, by omega, ⟨by rw [HE.out]; exact H5.out⟩, HG9, HE9, HNX, HFR5, T5⟩
            case measure => simp only [intOf]; omega
          · have hb2 : (y.st != 2) = true := bne_iff_ne.2 hcl
            have HE : Asd (s9 = turned (message st id x.kind x.body)) := ⟨by rw [HS9.out, if_neg (by rw [closed_eq HY.out]; simpa using hcl)]⟩
            have HGM : Asd (Gd (m + x.body.length) (message st id x.kind x.body)) := ⟨HGD.out.1.message id _ _ HBL.out⟩
            have HMN : Asd (m ≤ 100000000) := ⟨by have := HGD.out.2; omega⟩
            have HNC := Asd.mk hcl
            clear hcl
            go_wp2_with fail
            refine (message_calls m H5.out HGD.out.1 HMN.out HY.out HNC.out x.kind x.A x.c x.body HRD5.out HLE.out HBL.out).mono ?_
            rintro e w6 ⟨rfl, F6, h6, t6⟩
            have H6 := Asd.mk h6
            have T6 := Asd.mk (T5.out.trans t6)
            have HFR6 := Asd.mk (HFR5.out.tn t6)
            clear h6 t6 z1 f0 f1 hs5
            go_wp2_with fail
            refine (turned_calls H6.out HGM.out.ok).mono ?_
            rw [← HE.out]
            rintro e w7 ⟨rfl, F7, h7, t7⟩
            have H7 := Asd.mk h7
            have T7 := Asd.mk (T6.out.trans t7)
            have HFR7 := Asd.mk (HFR6.out.tn t7)
            clear h7 t7
            go_wp2
            go_roundw
            case rel => exact ⟨i + 1, m + x.body.length, s9, F7, by go_num, by omega, H7, HG9, HE9, HNX, HFR7, T7⟩
            case measure => simp only [intOf]; omega
        · have HE : Asd (s2 = st) := ⟨by rw [HL.out, List.drop_eq_nil_of_le (by have := HN.out; rw [← HAB.out, Fee.abs_length]; omega)]; rfl⟩
          obtain ⟨y, hy, hye⟩ := HEX.out
          have HY := Asd.mk hy
          have HYE := Asd.mk hye
          obtain ⟨v5, hb5⟩ := HB.out.conn hy
          have z1 := keepsC (o := 1) (v := .int .i64 y.st) hb5 rfl
          have z4 := keepsC (o := 4) (v := ptr (L.cn id).pf) hb5 rfl
          have hs5 : Upd (fun _ => False) wr wr := Upd.refl _ _
          have HGE : Asd (Gd (n + 3000 + b.length) st) := ⟨HGD.out.1.mono (by have := HGD.out.2; omega)⟩
          obtain ⟨Fe, hfe, _, _⟩ := HB.out.feed hy
          have HFE := Asd.mk hfe
          clear hy hye hb5 hfe
          by_cases hcl : y.st = 2
          · have hb2 : (y.st != 2) = false := by rw [hcl]; rfl
            have HS3 : Asd (s3 = st) := ⟨by rw [HS3d.out, HE.out, if_neg (fun h => by have := h.1; rw [closed_eq HY.out, hcl] at this; exact absurd this (by decide))]⟩
            clear hcl
            go_wp2_with fail
            refine (settle_calls (n + 3000 + b.length) HB.out HGE.out (by omega)).mono ?_
            rw [← HS3.out]
            rintro e w8 ⟨rfl, F8, h8, t8⟩
            have H8 := Asd.mk h8
            have T8 := Asd.mk (HTn.out.trans t8)
            clear h8 t8 z1 z4 hs5
            go_wp2
            go_ret
            exact ⟨rfl, F8, H8.out, T8.out⟩
          have hb2 : (y.st != 2) = true := bne_iff_ne.2 hcl
          have hco : closed st id = false := by rw [closed_eq HY.out]; simpa using hcl
          by_cases hfe : y.fe = 0
          · have hb3 : (y.fe != 0) = false := by rw [hfe]; rfl
            have HS3 : Asd (s3 = st) := ⟨by rw [HS3d.out, HE.out, if_neg (fun h => h.2 (by rw [← HYE.out]; exact hfe))]⟩
            clear hcl hfe hco
            go_wp2_with fail
            refine (Fee.err_calls HFE.out).mono ?_
            rintro e w7 ⟨rfl, rfl⟩
            go_wp2_with fail
            refine (settle_calls (n + 3000 + b.length) HB.out HGE.out (by omega)).mono ?_
            rw [← HS3.out]
            rintro e w8 ⟨rfl, F8, h8, t8⟩
            have H8 := Asd.mk h8
            have T8 := Asd.mk (HTn.out.trans t8)
            clear h8 t8 z1 z4 hs5
            go_wp2
            go_ret
            exact ⟨rfl, F8, H8.out, T8.out⟩
          · have hb3 : (y.fe != 0) = true := bne_iff_ne.2 hfe
            have HS3 : Asd (s3 = shut st id 1) := ⟨by rw [HS3d.out, HE.out, if_pos ⟨hco, fun e => hfe (by rw [HYE.out]; exact e)⟩]⟩
            have HGS : Asd (Gd (n + 3000 + b.length) (shut st id 1)) := ⟨HGE.out.shut id 1⟩
            clear hcl hfe hco
            go_wp2_with fail
            refine (Fee.err_calls HFE.out).mono ?_
            rintro e w7 ⟨rfl, rfl⟩
            go_wp2_with fail
            refine (shut_calls HB.out HGE.out.ok HY.out 1).mono ?_
            rintro e w8 ⟨rfl, F8, h8, t8⟩
            have H8 := Asd.mk h8
            have T8 := Asd.mk (HTn.out.trans t8)
            clear h8 t8 z1 z4 hs5
            go_wp2_with fail
            refine (settle_calls (n + 3000 + b.length) H8.out HGS.out (by omega)).mono ?_
            rw [← HS3.out]
            rintro e w9 ⟨rfl, F9, h9, t9⟩
            have H9 := Asd.mk h9
            have T9 := Asd.mk (T8.out.trans t9)
            clear h9 t9
            go_wp2
            go_ret
            exact ⟨rfl, F9, H9.out, T9.out⟩
end
end Go.Proofs.YteepkanbiefpjaaGreatDoor.Bk
