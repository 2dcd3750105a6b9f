/- What these laws lean on, part YBounds: contracts of the given program's functions and plain lists. No condition. -/
import Derived.Test.YteepkanbiefpjaaGreatDoorXo
import Derived.Test.YteepkanbiefpjaaGreatDoorZa
set_option linter.unusedVariables false
set_option linter.unusedSimpArgs false
namespace Go.Proofs.YteepkanbiefpjaaGreatDoor.Bk
open Go.RowKit K
open MgRow (M mC Ms)
set_option maxHeartbeats 16000000 in
set_option maxRecDepth 100000 in
theorem bounds_law (w : World) (henv : Or.Env w) (c : Cf) {A : Option Addr} {n cp : Nat} {L : List Ev} (hL : Evs w A n L) : Calls Tryz.prog 14 #[.agg (cfV c), .slice A n cp] w fun e w' => e = .returned (.bool true) ∧ Upd (fun _ => False) w w' := by
  have hm := heap_alloc_new w (.cells (cfV c) 26)
  have hk := (Upd.refl (fun _ => False) w).alloc (.cells (cfV c) 26)
  have hz : w.heap.size < (w.alloc (.cells (cfV c) 26)).heap.size := by rw [World.size_alloc]; omega
  have m0 := keepsC (o := 0) (v := .int .i64 c.log) hm rfl
  have m1 := keepsC (o := 1) (v := .int .i64 c.data) hm rfl
  have m2 := keepsC (o := 2) (v := .int .i64 c.queue) hm rfl
  have m3 := keepsC (o := 3) (v := .int .i64 c.input) hm rfl
  have m4 := keepsC (o := 4) (v := .int .i64 c.strikes) hm rfl
  have m5 := keepsC (o := 5) (v := .int .i64 c.lease) hm rfl
  have m6 := keepsC (o := 6) (v := .int .i64 c.idle) hm rfl
  have m7 := keepsC (o := 7) (v := .int .i64 c.width) hm rfl
  have HB := Asd.mk hk
  have HENV := Asd.mk (env_upd henv hk (fun _ h => h.elim))
  have HE := Asd.mk hL
  have HLN := Asd.mk hL.len
  have HLM := Asd.mk hL.lim
  have HHE := Asd.mk (fun w h => head_calls w h)
  have HFW := Asd.mk (fun w' (k : Upd (fun _ => False) w w') => few_calls (c := cp) (K.Els.up hL REv.stays k))
  have HRI := Asd.mk (fun w => rightL_calls c w)
  unfold cfV at hk hz HB HENV HRI m0 m1 m2 m3 m4 m5 m6 m7 ⊢
  clear hm hL henv
  have first : ∀ (K1 : Prop), K1 → K1 := fun _ h => h
  cases hf : few L with
  | false =>
    go_enter Tryz.func14, Tryz.ntmps14
    go_wp2_with fail
    refine (HHE.out _ HENV.out).mono ?_
    rintro e w1 ⟨rfl, hu1⟩
    have HU1 := Asd.mk hu1
    have hs1 := hu1
    clear hu1
    go_wp2_with fail
    refine (HFW.out w1 (HB.out.trans HU1.out (fun _ _ h => h))).mono ?_
    rw [hf]
    rintro e w2 ⟨rfl, hu2⟩
    have hs2 := HU1.out.trans hu2 (fun _ _ h => h)
    have HU2 := Asd.mk hs2
    clear hu2 hs1
    go_wp2
    go_ret
    exact ⟨rfl, HB.out.trans HU2.out (fun _ _ h => h)⟩
  | true =>
    cases hr : rightC c with
    | false =>
      go_enter Tryz.func14, Tryz.ntmps14
      go_wp2_with fail
      refine (HHE.out _ HENV.out).mono ?_
      rintro e w1 ⟨rfl, hu1⟩
      have HU1 := Asd.mk hu1
      have hs1 := hu1
      clear hu1
      go_wp2_with fail
      refine (HFW.out w1 (HB.out.trans HU1.out (fun _ _ h => h))).mono ?_
      rw [hf]
      rintro e w2 ⟨rfl, hu2⟩
      have hs2 := HU1.out.trans hu2 (fun _ _ h => h)
      have HU2 := Asd.mk hs2
      clear hu2 hs1
      go_wp2_with fail
      refine (HRI.out w2).mono ?_
      rw [hr]
      rintro e w3 ⟨rfl, hu3⟩
      have hs3 := HU2.out.trans hu3 (fun _ _ h => h)
      have HU3 := Asd.mk hs3
      clear hu3 hs2
      go_wp2
      go_ret
      exact ⟨rfl, HB.out.trans HU3.out (fun _ _ h => h)⟩
    | true =>
      go_enter Tryz.func14, Tryz.ntmps14
      go_wp2_with fail
      refine (HHE.out _ HENV.out).mono ?_
      rintro e w1 ⟨rfl, hu1⟩
      have HU1 := Asd.mk hu1
      have hs1 := hu1
      clear hu1
      go_wp2_with fail
      refine (HFW.out w1 (HB.out.trans HU1.out (fun _ _ h => h))).mono ?_
      rw [hf]
      rintro e w2 ⟨rfl, hu2⟩
      have hs2 := HU1.out.trans hu2 (fun _ _ h => h)
      have HU2 := Asd.mk hs2
      clear hu2 hs1
      go_wp2_with fail
      refine (HRI.out w2).mono ?_
      rw [hr]
      rintro e w3 ⟨rfl, hu3⟩
      have hs3 := HU2.out.trans hu3 (fun _ _ h => h)
      have HU3 := Asd.mk hs3
      clear hu3 hs2
      obtain ⟨s0, hs0⟩ : ∃ s0, s0 = new c := ⟨_, rfl⟩
      have HG0 : Asd (Gd 0 s0) := ⟨by rw [hs0]; exact Gd.new _ hr⟩
      have HC0 : Asd (s0.cf = c) := ⟨by rw [hs0]; rfl⟩
      have HNW := Asd.mk (scnew_calls HU3.out (env_upd HENV.out HU3.out (fun _ h => h.elim)) c hr)
      rw [← hs0] at HNW
      unfold cfV at HNW
      have HFEW : Asd (L.length ≤ 120 ∧ total L ≤ 6000) := ⟨by unfold few at hf; simpa using hf⟩
      clear hs0 hr hf first
      go_wp2_with fail
      refine HNW.out.mono ?_
      rintro e w4 ⟨q, F4, rfl, h4, hl4, hu4⟩
      have H4 := Asd.mk h4
      clear h4 hl4 hu4 HU2 HU3 HNW hs3
      obtain ⟨wb, hwb⟩ : ∃ wb, wb = w.alloc (.cells #[.int .i64 c.log, .int .i64 c.data, .int .i64 c.queue, .int .i64 c.input, .int .i64 c.strikes, .int .i64 c.lease, .int .i64 c.idle, .int .i64 c.width] 26) := ⟨_, rfl⟩
      rw [← hwb] at H4 HB HENV hz m0 m1 m2 m3 m4 m5 m6 m7
      have HZ := Asd.mk hz
      clear hwb hk hz
      have hs4 := H4.out.up
      go_upto_region 9 with fail
      go_loopw [30] (fun v wr => ∃ (i : Nat) (s : Br) (F : Nat → Prop), v = .int .i64 (i : Int) ∧ i ≤ n ∧ Asd (Sc wb q s wr F) ∧ Asd (Gd (i * 3000 + total (L.take i)) s) ∧ Asd (s.cf = c)) (fun v _ => n - (intOf v).toNat)
      case atStart => exact ⟨0, s0, F4, rfl, Nat.zero_le _, H4, ⟨by simpa [total] using HG0.out⟩, HC0⟩
      case round =>
        obtain ⟨i, s, F, rfl, hi, HS, HG, HC⟩ := hrel
        have hn120 : n ≤ 120 := by have := HFEW.out.1; have := HLN.out; omega
        by_cases hlt : i < n
        · obtain ⟨e, he⟩ : ∃ e, L[i]? = some e := ⟨_, List.getElem?_eq_getElem (by rw [HLN.out]; exact hlt)⟩
          obtain ⟨ad, Ad, cd, rfl, a0, a1, a2, a3, hrd, hre, hi64⟩ := ev_at HE.out hlt he
          have hsw := HS.out.up
          have HWW := Asd.mk (HB.out.trans hsw (fun _ _ h => h))
          have b0 : ∀ W, Upd (fun _ => False) wr W → W.cell? (ad.add (i * 4)) = some (.int .i64 e.1) := fun W k => (HWW.out.trans k (fun _ _ h => h)).cell a0 (fun h => h)
          have b1 : ∀ W, Upd (fun _ => False) wr W → W.cell? ⟨(ad.add (i * 4)).block, (ad.add (i * 4)).off + 1, none⟩ = some (.int .i64 e.2.1) := fun W k => (HWW.out.trans k (fun _ _ h => h)).cell a1 (fun h => h)
          have b2 : ∀ W, Upd (fun _ => False) wr W → W.cell? ⟨(ad.add (i * 4)).block, (ad.add (i * 4)).off + 2, none⟩ = some (.int .i64 e.2.2.1) := fun W k => (HWW.out.trans k (fun _ _ h => h)).cell a2 (fun h => h)
          have b3 : ∀ W, Upd (fun _ => False) wr W → W.cell? ⟨(ad.add (i * 4)).block, (ad.add (i * 4)).off + 3, none⟩ = some (.slice Ad e.2.2.2.length cd) := fun W k => (HWW.out.trans k (fun _ _ h => h)).cell a3 (fun h => h)
          have hs := Upd.refl (fun _ => False) wr
          have HU2 := Asd.mk ((Upd.refl (fun _ => False) wr).alloc (.cells #[.int .i64 e.1, .int .i64 e.2.1, .int .i64 e.2.2.1, .slice Ad e.2.2.2.length cd] 73))
          have HT := Asd.mk (total_take L i e he)
          have HT2 := Asd.mk (total_le L i e he)
          have hDO := sc_doE (HS.out.upd HU2.out) HG.out (by have := HFEW.out.2; have := HT2.out; have := HT.out; omega) e Ad cd ((hrd.up HWW.out).up HU2.out) (fun ad e1 hp hF => by have h1 := rd_lt hrd hp ad e1; have h2 := HS.out.lo _ hF; have h3 := HB.out.size; omega) (by have := HFEW.out.2; have := HT2.out; omega) hi64
          have HDO := Asd.mk hDO
          have HGD : Asd (Gd ((i + 1) * 3000 + total (L.take (i + 1))) (doE s e).1) := ⟨(HG.out.doE e).mono (by have := HT.out; omega)⟩
          have HCD : Asd ((doE s e).1.cf = c) := ⟨(cf_doE s e).trans HC.out⟩
          obtain ⟨s2, hs2⟩ : ∃ s2, s2 = (doE s e).1 := ⟨_, rfl⟩
          have HS2 := Asd.mk hs2
          rw [← hs2] at HGD HCD
          have HOK := Asd.mk HGD.out.ok
          clear a0 a1 a2 a3 hrd hre hi64 he hDO hs2
          go_wp2_with fail
          refine HDO.out.mono ?_
          rintro e2 w5 ⟨rfl, F5, h5, t5⟩
          rw [← HS2.out] at h5
          have H5 := Asd.mk h5
          have hs5 := h5.up
          clear h5 t5 b0 b1 b2 b3 hs hsw HDO
          obtain ⟨l, hl⟩ : ∃ l, l = ids s2 := ⟨_, rfl⟩
          have HLI : Asd (∀ x ∈ l, 1 ≤ x ∧ x ≤ 16) := ⟨by rw [hl]; exact HOK.out.rng⟩
          have hll : l.length ≤ 16 := by have := HOK.out.few; rw [hl]; unfold ids; rw [List.length_map]; exact this
          have HCO := Asd.mk (H5.out.conns HOK.out)
          rw [← hl] at HCO
          clear hl
          go_wp2_with fail
          refine HCO.out.mono ?_
          rintro e3 w6 ⟨A6, c6, G6, rfl, ho6, hg6, hu6⟩
          have HO6 := Asd.mk ho6
          have H6 := Asd.mk (H5.out.upd hu6)
          have hs6 := H6.out.up
          clear ho6 hg6 hu6 HCO
          go_upto_region 13 with fail
          go_loopw [40] (fun v wx => ∃ (j : Nat), v = .int .i64 (j : Int) ∧ j ≤ l.length ∧ Asd (Upd (fun _ => False) w6 wx)) (fun v _ => l.length - (intOf v).toNat)
          case atStart => exact ⟨0, rfl, Nat.zero_le _, ⟨Upd.refl _ _⟩⟩
          case round =>
            obtain ⟨j, rfl, hj, HJ⟩ := hrel
            have HX := Asd.mk (H6.out.upd HJ.out)
            have hsx := HX.out.up
            by_cases hlj : j < l.length
            · obtain ⟨ad6, rfl, hc6⟩ := OI.at (HO6.out.up HJ.out) j hlj
              obtain ⟨x, hx⟩ : ∃ x, x = l[j] := ⟨_, rfl⟩
              have hx16 : 1 ≤ x ∧ x ≤ 16 := by rw [hx]; exact HLI.out _ (List.getElem_mem hlj)
              rw [← hx] at hc6
              have k6 : ∀ W, Upd (fun _ => False) wr W → W.cell? (ad6.add j) = some (.int .i64 x) := fun W k => k.cell hc6 (fun h => h)
              have hs := Upd.refl (fun _ => False) wr
              obtain ⟨y, hy⟩ : ∃ y, y = waitN s2 x := ⟨_, rfl⟩
              have hq0 : 220 ≤ c.queue := by have := HGD.out.cf; rw [HCD.out] at this; unfold rightC at this; simp only [decide_eq_true_eq] at this; omega
              have hyq : (y : Int) ≤ c.queue := by
                have h1 := HX.out.fit x
                rw [HCD.out, ← hy] at h1
                omega
              have e1 : decide (c.queue < (y : Int)) = false := decide_eq_false (by omega)
              have e2 : decide ((y : Int) < 0) = false := decide_eq_false (by omega)
              have HWT := Asd.mk (fun (W : World) (k : Upd (fun _ => False) wr W) => (HX.out.upd k).waiting x (by omega))
              rw [← hy] at HWT
              clear hx hc6 hy hyq hq0
              go_upto_region 15 with fail
              go_quiet ((go_at_call 41; refine (HWT.out _ (by repeat (first | assumption | with_reducible exact Upd.refl _ _ | with_reducible refine Upd.drewN ?_ _ | with_reducible refine Upd.drew ?_ | with_reducible refine Upd.alloc ?_ _ | with_reducible refine Upd.setAt ?_ ?_ | exact Or.inl rfl | exact Or.inr (by simp) | exact Or.inr (by omega)))).mono ?_; rintro e w'' ⟨rfl, rfl⟩; exact ⟨rfl, _, rfl⟩))
              go_wp2
              go_roundw
              case rel => exact ⟨j + 1, by go_num, by omega, ⟨HJ.out.trans (by first | exact (by repeat (first | assumption | with_reducible exact Upd.refl _ _ | with_reducible refine Upd.drewN ?_ _ | with_reducible refine Upd.drew ?_ | with_reducible refine Upd.alloc ?_ _ | with_reducible refine Upd.setAt ?_ ?_ | exact Or.inl rfl | exact Or.inr (by simp) | exact Or.inr (by omega))) | exact Upd.refl _ _) (fun _ _ h => h)⟩⟩
              case measure => simp only [intOf]; omega
            · clear HO6
              obtain ⟨l2, hl2⟩ : ∃ l2, l2 = Fl.keys s2.tab := ⟨_, rfl⟩
              have HL2 : Asd (∀ x ∈ l2, 1 ≤ x ∧ x ≤ 9223372036854775807 ∧ (seenO s2 x).isSome = true) := ⟨by rw [hl2]; exact fun x hx => ⟨(HOK.out.kin hx).1, (HOK.out.kin hx).2, HOK.out.seen hx⟩⟩
              have hll2 : l2.length ≤ 16 := by rw [hl2]; unfold Fl.keys; rw [List.length_map]; exact HOK.out.g.lens.2
              have HUS := Asd.mk (HX.out.users HOK.out)
              rw [← hl2] at HUS
              clear hl2
              go_wp2_with fail
              refine HUS.out.mono ?_
              rintro e4 w7 ⟨A7, c7, G7, rfl, ho7, hg7, hu7⟩
              have HO7 := Asd.mk ho7
              have H7 := Asd.mk (HX.out.upd hu7)
              have hs7 := H7.out.up
              clear ho7 hg7 hu7 HUS
              go_upto_region 19 with fail
              go_loopw [60] (fun v wz => ∃ (k : Nat), v = .int .i64 (k : Int) ∧ k ≤ l2.length ∧ Asd (Upd (fun _ => False) w7 wz)) (fun v _ => l2.length - (intOf v).toNat)
              case atStart => exact ⟨0, rfl, Nat.zero_le _, ⟨Upd.refl _ _⟩⟩
              case round =>
                obtain ⟨k, rfl, hk, HK⟩ := hrel
                have HY := Asd.mk (H7.out.upd HK.out)
                have hsy := HY.out.up
                by_cases hlk : k < l2.length
                · obtain ⟨ad7, rfl, hc7⟩ := OI.at (HO7.out.up HK.out) k hlk
                  obtain ⟨x, hx⟩ : ∃ x, x = l2[k] := ⟨_, rfl⟩
                  have hx16 := HL2.out x (by rw [hx]; exact List.getElem_mem hlk)
                  rw [← hx] at hc7
                  have k7 : ∀ W, Upd (fun _ => False) wr W → W.cell? (ad7.add k) = some (.int .i64 x) := fun W k => k.cell hc7 (fun h => h)
                  have hs := Upd.refl (fun _ => False) wr
                  obtain ⟨y, hy⟩ := Option.isSome_iff_exists.1 hx16.2.2
                  have e2 : decide ((y : Int) < 0) = false := decide_eq_false (by omega)
                  have HWT := Asd.mk (HY.out.seen HOK.out x (by omega))
                  rw [hy] at HWT
                  clear hx hc7 hy hx16
                  go_wp2_with fail
                  refine HWT.out.mono ?_
                  rintro e w'' ⟨rfl, rfl⟩
                  go_wp2
                  go_roundw
                  case rel => exact ⟨k + 1, by go_num, by omega, HK⟩
                  case measure => simp only [intOf]; omega
                · clear HO7
                  have HEND : Asd (Sc wb q s2 wr F5) := HY
                  go_wp2
                  go_roundw
                  case rel => exact ⟨i + 1, s2, F5, by go_num, by omega, HEND, HGD, HCD⟩
                  case measure => simp only [intOf]; omega
        · have hsw := HS.out.up
          go_wp2
          go_ret
          exact ⟨rfl, HB.out.trans HS.out.up (fun _ _ h => h)⟩
theorem bounds_row (W : World) (henv : Or.Env W) (cs : Array Value) (x : Int × Int × Int × Int × Int × Int × Int × Int) (h : RCf W cs.toList x) (a : Option Addr) (len cap : Nat) (L : List Ev) (h1 : K.RSlice REv 4 W [.slice a len cap] L) : Calls Tryz.prog 14 #[.agg cs, .slice a len cap] W fun e w' => e = .returned (.bool true) ∧ Upd (fun _ => False) W w' :=
  law_row (f := 14) (Q := fun W e w' => e = .returned (.bool true) ∧ Upd (fun _ => False) W w') (fun c {_ _ _ _} h => bounds_law W henv c h) cs x h a len cap L h1
end Go.Proofs.YteepkanbiefpjaaGreatDoor.Bk
