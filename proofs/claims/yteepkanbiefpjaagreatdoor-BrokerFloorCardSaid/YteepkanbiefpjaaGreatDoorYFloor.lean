/- What these laws lean on, part YFloor: contracts of the given program's functions and plain lists. No condition. -/
import Derived.Test.YteepkanbiefpjaaGreatDoorXo
import Derived.Test.YteepkanbiefpjaaGreatDoorZa
set_option linter.unusedVariables false
set_option linter.unusedSimpArgs false
namespace Go.Proofs.YteepkanbiefpjaaGreatDoor.Bk
open Go.RowKit K
open MgRow (M mC Ms)
theorem sub_len : ∀ (l1 l2 : List Int), l1.Pairwise (· < ·) → (∀ x ∈ l1, x ∈ l2) → l1.length ≤ l2.length
  | [], l2, _, _ => Nat.zero_le _
  | a :: r, l2, hp, hs => by
    have ha : a ∈ l2 := hs a List.mem_cons_self
    have h1 := sub_len r (l2.erase a) (List.pairwise_cons.1 hp).2 (fun x hx => (List.mem_erase_of_ne (by have := (List.pairwise_cons.1 hp).1 x hx; omega)).2 (hs x (List.mem_cons_of_mem _ hx)))
    have h2 := List.length_erase_of_mem ha
    have h3 := List.length_pos_of_mem ha
    simp only [List.length_cons]
    omega
theorem Ok.less {s : Br} (h : Ok s) : (Fl.keys s.tab).length ≤ (ids s).length := sub_len _ _ h.krt (fun x hx => by
  obtain ⟨c, hg, _⟩ := h.use x (rget_keys hx)
  exact get_ids hg)
theorem Ok.zero {s : Br} (h : Ok s) : Fl.rget s.tab.roles 0 = none := by
  cases hr : Fl.rget s.tab.roles 0 with
  | none => rfl
  | some r =>
    have := h.g.ids _ (Fl.rget_mem hr)
    simp at this
theorem Ok.held {s : Br} (h : Ok s) (h0 : s.tab.holder ≠ 0) : ∃ r, Fl.rget s.tab.roles s.tab.holder = some r ∧ r ≠ 0 ∧ 0 < (Fl.keys s.tab).length := by
  obtain ⟨r, h1, h2⟩ := h.g.hold h0 h0
  refine ⟨r, h1, h2, ?_⟩
  unfold Fl.keys
  rw [List.length_map]
  exact List.length_pos_of_mem (Fl.rget_mem h1)
set_option maxHeartbeats 16000000 in
set_option maxRecDepth 100000 in
theorem floor_law (w : World) (henv : Or.Env w) (c : Cf) {A : Option Addr} {n cp : Nat} {L : List Ev} (hL : Evs w A n L) : Calls Tryz.prog 13 #[.agg (cfV c), .slice A n cp] w fun e w' => e = .returned (.bool true) ∧ Upd (fun _ => False) w w' := by
  have hm := heap_alloc_new w (.cells (cfV c) 26)
  have hk := (Upd.refl (fun _ => False) w).alloc (.cells (cfV c) 26)
  have hz : w.heap.size < (w.alloc (.cells (cfV c) 26)).heap.size := by rw [World.size_alloc]; omega
  have m0 := keepsC (o := 0) (v := .int .i64 c.log) hm rfl
  have m1 := keepsC (o := 1) (v := .int .i64 c.data) hm rfl
  have m2 := keepsC (o := 2) (v := .int .i64 c.queue) hm rfl
  have m3 := keepsC (o := 3) (v := .int .i64 c.input) hm rfl
  have m4 := keepsC (o := 4) (v := .int .i64 c.strikes) hm rfl
  have m5 := keepsC (o := 5) (v := .int .i64 c.lease) hm rfl
  have m6 := keepsC (o := 6) (v := .int .i64 c.idle) hm rfl
  have m7 := keepsC (o := 7) (v := .int .i64 c.width) hm rfl
  have HB := Asd.mk hk
  have HENV := Asd.mk (env_upd henv hk (fun _ h => h.elim))
  have HE := Asd.mk hL
  have HLN := Asd.mk hL.len
  have HLM := Asd.mk hL.lim
  have HHE := Asd.mk (fun w h => head_calls w h)
  have HFW := Asd.mk (fun w' (k : Upd (fun _ => False) w w') => few_calls (c := cp) (K.Els.up hL REv.stays k))
  have HRI := Asd.mk (fun w => rightL_calls c w)
  unfold cfV at hk hz HB HENV HRI m0 m1 m2 m3 m4 m5 m6 m7 ⊢
  clear hm hL henv
  have first : ∀ (K1 : Prop), K1 → K1 := fun _ h => h
  cases hf : few L with
  | false =>
    go_enter Tryz.func13, Tryz.ntmps13
    go_wp2_with fail
    refine (HHE.out _ HENV.out).mono ?_
    rintro e w1 ⟨rfl, hu1⟩
    have HU1 := Asd.mk hu1
    have hs1 := hu1
    clear hu1
    go_wp2_with fail
    refine (HFW.out w1 (HB.out.trans HU1.out (fun _ _ h => h))).mono ?_
    rw [hf]
    rintro e w2 ⟨rfl, hu2⟩
    have hs2 := HU1.out.trans hu2 (fun _ _ h => h)
    have HU2 := Asd.mk hs2
    clear hu2 hs1
    go_wp2
    go_ret
    exact ⟨rfl, HB.out.trans HU2.out (fun _ _ h => h)⟩
  | true =>
    cases hr : rightC c with
    | false =>
      go_enter Tryz.func13, Tryz.ntmps13
      go_wp2_with fail
      refine (HHE.out _ HENV.out).mono ?_
      rintro e w1 ⟨rfl, hu1⟩
      have HU1 := Asd.mk hu1
      have hs1 := hu1
      clear hu1
      go_wp2_with fail
      refine (HFW.out w1 (HB.out.trans HU1.out (fun _ _ h => h))).mono ?_
      rw [hf]
      rintro e w2 ⟨rfl, hu2⟩
      have hs2 := HU1.out.trans hu2 (fun _ _ h => h)
      have HU2 := Asd.mk hs2
      clear hu2 hs1
      go_wp2_with fail
      refine (HRI.out w2).mono ?_
      rw [hr]
      rintro e w3 ⟨rfl, hu3⟩
      have hs3 := HU2.out.trans hu3 (fun _ _ h => h)
      have HU3 := Asd.mk hs3
      clear hu3 hs2
      go_wp2
      go_ret
      exact ⟨rfl, HB.out.trans HU3.out (fun _ _ h => h)⟩
    | true =>
      go_enter Tryz.func13, Tryz.ntmps13
      go_wp2_with fail
      refine (HHE.out _ HENV.out).mono ?_
      rintro e w1 ⟨rfl, hu1⟩
      have HU1 := Asd.mk hu1
      have hs1 := hu1
      clear hu1
      go_wp2_with fail
      refine (HFW.out w1 (HB.out.trans HU1.out (fun _ _ h => h))).mono ?_
      rw [hf]
      rintro e w2 ⟨rfl, hu2⟩
      have hs2 := HU1.out.trans hu2 (fun _ _ h => h)
      have HU2 := Asd.mk hs2
      clear hu2 hs1
      go_wp2_with fail
      refine (HRI.out w2).mono ?_
      rw [hr]
      rintro e w3 ⟨rfl, hu3⟩
      have hs3 := HU2.out.trans hu3 (fun _ _ h => h)
      have HU3 := Asd.mk hs3
      clear hu3 hs2
      obtain ⟨s0, hs0⟩ : ∃ s0, s0 = new c := ⟨_, rfl⟩
      have HG0 : Asd (Gd 0 s0) := ⟨by rw [hs0]; exact Gd.new _ hr⟩
      have HC0 : Asd (s0.cf = c) := ⟨by rw [hs0]; rfl⟩
      have HNW := Asd.mk (scnew_calls HU3.out (env_upd HENV.out HU3.out (fun _ h => h.elim)) c hr)
      rw [← hs0] at HNW
      unfold cfV at HNW
      have HFEW : Asd (L.length ≤ 120 ∧ total L ≤ 6000) := ⟨by unfold few at hf; simpa using hf⟩
      clear hs0 hr hf first
      go_wp2_with fail
      refine HNW.out.mono ?_
      rintro e w4 ⟨q, F4, rfl, h4, hl4, hu4⟩
      have H4 := Asd.mk h4
      clear h4 hl4 hu4 HU2 HU3 HNW hs3
      obtain ⟨wb, hwb⟩ : ∃ wb, wb = w.alloc (.cells #[.int .i64 c.log, .int .i64 c.data, .int .i64 c.queue, .int .i64 c.input, .int .i64 c.strikes, .int .i64 c.lease, .int .i64 c.idle, .int .i64 c.width] 26) := ⟨_, rfl⟩
      rw [← hwb] at H4 HB HENV hz m0 m1 m2 m3 m4 m5 m6 m7
      have HZ := Asd.mk hz
      clear hwb hk hz
      have hs4 := H4.out.up
      go_upto_region 9 with fail
      go_loopw [33] (fun v wr => ∃ (i : Nat) (s : Br) (F : Nat → Prop), v = .int .i64 (i : Int) ∧ i ≤ n ∧ Asd (Sc wb q s wr F) ∧ Asd (Gd (i * 3000 + total (L.take i)) s) ∧ Asd (s.cf = c)) (fun v _ => n - (intOf v).toNat)
      case atStart => exact ⟨0, s0, F4, rfl, Nat.zero_le _, H4, ⟨by simpa [total] using HG0.out⟩, HC0⟩
      case round =>
        obtain ⟨i, s, F, rfl, hi, HS, HG, HC⟩ := hrel
        have hn120 : n ≤ 120 := by have := HFEW.out.1; have := HLN.out; omega
        by_cases hlt : i < n
        · obtain ⟨e, he⟩ : ∃ e, L[i]? = some e := ⟨_, List.getElem?_eq_getElem (by rw [HLN.out]; exact hlt)⟩
          obtain ⟨ad, Ad, cd, rfl, a0, a1, a2, a3, hrd, hre, hi64⟩ := ev_at HE.out hlt he
          have hsw := HS.out.up
          have HWW := Asd.mk (HB.out.trans hsw (fun _ _ h => h))
          have b0 : ∀ W, Upd (fun _ => False) wr W → W.cell? (ad.add (i * 4)) = some (.int .i64 e.1) := fun W k => (HWW.out.trans k (fun _ _ h => h)).cell a0 (fun h => h)
          have b1 : ∀ W, Upd (fun _ => False) wr W → W.cell? ⟨(ad.add (i * 4)).block, (ad.add (i * 4)).off + 1, none⟩ = some (.int .i64 e.2.1) := fun W k => (HWW.out.trans k (fun _ _ h => h)).cell a1 (fun h => h)
          have b2 : ∀ W, Upd (fun _ => False) wr W → W.cell? ⟨(ad.add (i * 4)).block, (ad.add (i * 4)).off + 2, none⟩ = some (.int .i64 e.2.2.1) := fun W k => (HWW.out.trans k (fun _ _ h => h)).cell a2 (fun h => h)
          have b3 : ∀ W, Upd (fun _ => False) wr W → W.cell? ⟨(ad.add (i * 4)).block, (ad.add (i * 4)).off + 3, none⟩ = some (.slice Ad e.2.2.2.length cd) := fun W k => (HWW.out.trans k (fun _ _ h => h)).cell a3 (fun h => h)
          have hs := Upd.refl (fun _ => False) wr
          have HU2 := Asd.mk ((Upd.refl (fun _ => False) wr).alloc (.cells #[.int .i64 e.1, .int .i64 e.2.1, .int .i64 e.2.2.1, .slice Ad e.2.2.2.length cd] 73))
          have HT := Asd.mk (total_take L i e he)
          have HT2 := Asd.mk (total_le L i e he)
          have hDO := sc_doE (HS.out.upd HU2.out) HG.out (by have := HFEW.out.2; have := HT2.out; have := HT.out; omega) e Ad cd ((hrd.up HWW.out).up HU2.out) (fun ad e1 hp hF => by have h1 := rd_lt hrd hp ad e1; have h2 := HS.out.lo _ hF; have h3 := HB.out.size; omega) (by have := HFEW.out.2; have := HT2.out; omega) hi64
          have HDO := Asd.mk hDO
          have HGD : Asd (Gd ((i + 1) * 3000 + total (L.take (i + 1))) (doE s e).1) := ⟨(HG.out.doE e).mono (by have := HT.out; omega)⟩
          have HCD : Asd ((doE s e).1.cf = c) := ⟨(cf_doE s e).trans HC.out⟩
          obtain ⟨s2, hs2⟩ : ∃ s2, s2 = (doE s e).1 := ⟨_, rfl⟩
          have HS2 := Asd.mk hs2
          rw [← hs2] at HGD HCD
          have HOK := Asd.mk HGD.out.ok
          clear a0 a1 a2 a3 hrd hre hi64 he hDO hs2
          go_wp2_with fail
          refine HDO.out.mono ?_
          rintro e2 w5 ⟨rfl, F5, h5, t5⟩
          rw [← HS2.out] at h5
          have H5 := Asd.mk h5
          have hs5 := h5.up
          clear h5 t5 b0 b1 b2 b3 hs hsw HDO
          obtain ⟨hd, hhd⟩ : ∃ h, h = s2.tab.holder := ⟨_, rfl⟩
          obtain ⟨l, hl⟩ : ∃ l, l = ids s2 := ⟨_, rfl⟩
          obtain ⟨l2, hl2⟩ : ∃ l2, l2 = Fl.keys s2.tab := ⟨_, rfl⟩
          obtain ⟨n1, hn1⟩ : ∃ n1, n1 = l.length := ⟨_, rfl⟩
          obtain ⟨n2, hn2⟩ : ∃ n2, n2 = l2.length := ⟨_, rfl⟩
          have hll : n1 ≤ 16 := by have := HOK.out.few; rw [hn1, hl]; unfold ids; rw [List.length_map]; exact this
          have hless : n2 ≤ n1 := by rw [hn1, hn2, hl, hl2]; exact HOK.out.less
          have HL2 : Asd (∀ x ∈ l2, 1 ≤ x ∧ x ≤ 9223372036854775807 ∧ (seenO s2 x).isSome = true) := ⟨by rw [hl2]; exact fun x hx => ⟨(HOK.out.kin hx).1, (HOK.out.kin hx).2, HOK.out.seen hx⟩⟩
          have HN2 := Asd.mk hn2
          have HHL := Asd.mk (fun (w' : World) (F' : Nat → Prop) (h : Sc wb q s2 w' F') => h.holder)
          have HCO := Asd.mk (fun (w' : World) (F' : Nat → Prop) (h : Sc wb q s2 w' F') => h.conns HOK.out)
          have HUS := Asd.mk (fun (w' : World) (F' : Nat → Prop) (h : Sc wb q s2 w' F') => h.users HOK.out)
          have HRO := Asd.mk (fun (w' : World) (F' : Nat → Prop) (h : Sc wb q s2 w' F') => h.role hd (by rw [hhd]; have := HOK.out.g.hpos; omega))
          unfold NewI at HCO HUS
          rw [← hhd] at HHL
          rw [← hl, ← hn1] at HCO
          rw [← hl2, ← hn2] at HUS
          have hgt : decide ((n1 : Int) < (n2 : Int)) = false := decide_eq_false (by omega)
          have hgt2 : decide (n1 < n2) = false := decide_eq_false (by omega)
          have hgt3 : ¬ n1 < n2 := by omega
          have hcase : (hd = 0 ∧ Fl.rget s2.tab.roles hd = none) ∨ (hd ≠ 0 ∧ ∃ r, Fl.rget s2.tab.roles hd = some r ∧ r ≠ 0 ∧ 0 < n2) := by
            by_cases h0 : hd = 0
            · exact .inl ⟨h0, by rw [h0]; exact HOK.out.zero⟩
            · exact .inr ⟨h0, by rw [hn2, hl2, hhd]; exact HOK.out.held (by rw [← hhd]; exact h0)⟩
          clear hl hl2 hn1 hn2 hhd
          have hn2c : n2 = 0 ∨ 0 < n2 := by omega
          rcases hcase with ⟨rfl, hr0⟩ | ⟨h0, r, hr0, hr1, hp⟩
          · rw [hr0] at HRO
            clear hr0
            rcases hn2c with e0 | hp
            · have en3 : ((n2 : Int) == 0) = true := by rw [e0]; rfl
              clear e0
              go_wp2_with fail
              refine (HHL.out _ _ H5.out).mono ?_
              rintro e3 w6 ⟨rfl, rfl⟩
              go_wp2_with fail
              refine (HRO.out _ _ H5.out).mono ?_
              rintro e3 w6 ⟨rfl, rfl⟩
              go_wp2_with fail
              refine (HUS.out _ _ H5.out).mono ?_
              rintro e3 w6 ⟨A6, c6, G6, rfl, ho6, hg6, hu6⟩
              have HO6 := Asd.mk ho6
              have H6 := Asd.mk (H5.out.upd hu6)
              have hs6 := H6.out.up
              clear ho6 hg6 hu6
              go_wp2_with fail
              refine (HCO.out _ _ H6.out).mono ?_
              rintro e3 w7 ⟨A7, c7, G7, rfl, ho7, hg7, hu7⟩
              have HO7 := Asd.mk (HO6.out.up hu7)
              have H7 := Asd.mk (H6.out.upd hu7)
              have hs7 := H7.out.up
              clear ho7 hg7 hu7 HO6 H6 hs6
              go_upto_region 21 with fail
              go_loopw [85] (fun v wz => ∃ (k : Nat), v = .int .i64 (k : Int) ∧ k ≤ n2 ∧ Asd (Upd (fun _ => False) w7 wz)) (fun v _ => n2 - (intOf v).toNat)
              case atStart => exact ⟨0, rfl, Nat.zero_le _, ⟨Upd.refl _ _⟩⟩
              case round =>
                obtain ⟨k, rfl, hk, HK⟩ := hrel
                have HY := Asd.mk (H7.out.upd HK.out)
                have hsy := HY.out.up
                by_cases hlk : k < n2
                · have hlk2 : k < l2.length := by rw [← HN2.out]; exact hlk
                  have HO8 := HO7.out.up HK.out
                  rw [HN2.out] at HO8
                  obtain ⟨ad7, rfl, hc7⟩ := OI.at HO8 k hlk2
                  obtain ⟨x, hx⟩ : ∃ x, x = l2[k] := ⟨_, rfl⟩
                  have hx16 := HL2.out x (by rw [hx]; exact List.getElem_mem hlk2)
                  rw [← hx] at hc7
                  have k7 : ∀ W, Upd (fun _ => False) wr W → W.cell? (ad7.add k) = some (.int .i64 x) := fun W k => k.cell hc7 (fun h => h)
                  have hs := Upd.refl (fun _ => False) wr
                  obtain ⟨y, hy⟩ := Option.isSome_iff_exists.1 hx16.2.2
                  have HWT := Asd.mk (HY.out.seen HOK.out x (by omega))
                  rw [hy] at HWT
                  clear hx hc7 hy hx16 hlk2 HO8
                  go_wp2_with fail
                  refine HWT.out.mono ?_
                  rintro e w'' ⟨rfl, rfl⟩
                  go_wp2
                  go_roundw
                  case rel => exact ⟨k + 1, by go_num, by omega, HK⟩
                  case measure => simp only [intOf]; omega
                · clear HO7
                  have HEND : Asd (Sc wb q s2 wr F5) := HY
                  go_wp2
                  go_roundw
                  case rel => exact ⟨i + 1, s2, F5, by go_num, by omega, HEND, HGD, HCD⟩
                  case measure => simp only [intOf]; omega
            · have en3 : ((n2 : Int) == 0) = false := beq_eq_false_iff_ne.2 (by omega)
              go_wp2_with fail
              refine (HHL.out _ _ H5.out).mono ?_
              rintro e3 w6 ⟨rfl, rfl⟩
              go_wp2_with fail
              refine (HRO.out _ _ H5.out).mono ?_
              rintro e3 w6 ⟨rfl, rfl⟩
              go_wp2_with fail
              refine (HUS.out _ _ H5.out).mono ?_
              rintro e3 w6 ⟨A6, c6, G6, rfl, ho6, hg6, hu6⟩
              have HO6 := Asd.mk ho6
              have H6 := Asd.mk (H5.out.upd hu6)
              have hs6 := H6.out.up
              clear ho6 hg6 hu6
              go_wp2_with fail
              refine (HCO.out _ _ H6.out).mono ?_
              rintro e3 w7 ⟨A7, c7, G7, rfl, ho7, hg7, hu7⟩
              have HO7 := Asd.mk (HO6.out.up hu7)
              have H7 := Asd.mk (H6.out.upd hu7)
              have hs7 := H7.out.up
              clear ho7 hg7 hu7 HO6 H6 hs6
              go_upto_region 21 with fail
              go_loopw [85] (fun v wz => ∃ (k : Nat), v = .int .i64 (k : Int) ∧ k ≤ n2 ∧ Asd (Upd (fun _ => False) w7 wz)) (fun v _ => n2 - (intOf v).toNat)
              case atStart => exact ⟨0, rfl, Nat.zero_le _, ⟨Upd.refl _ _⟩⟩
              case round =>
                obtain ⟨k, rfl, hk, HK⟩ := hrel
                have HY := Asd.mk (H7.out.upd HK.out)
                have hsy := HY.out.up
                by_cases hlk : k < n2
                · have hlk2 : k < l2.length := by rw [← HN2.out]; exact hlk
                  have HO8 := HO7.out.up HK.out
                  rw [HN2.out] at HO8
                  obtain ⟨ad7, rfl, hc7⟩ := OI.at HO8 k hlk2
                  obtain ⟨x, hx⟩ : ∃ x, x = l2[k] := ⟨_, rfl⟩
                  have hx16 := HL2.out x (by rw [hx]; exact List.getElem_mem hlk2)
                  rw [← hx] at hc7
                  have k7 : ∀ W, Upd (fun _ => False) wr W → W.cell? (ad7.add k) = some (.int .i64 x) := fun W k => k.cell hc7 (fun h => h)
                  have hs := Upd.refl (fun _ => False) wr
                  obtain ⟨y, hy⟩ := Option.isSome_iff_exists.1 hx16.2.2
                  have HWT := Asd.mk (HY.out.seen HOK.out x (by omega))
                  rw [hy] at HWT
                  clear hx hc7 hy hx16 hlk2 HO8
                  go_wp2_with fail
                  refine HWT.out.mono ?_
                  rintro e w'' ⟨rfl, rfl⟩
                  go_wp2
                  go_roundw
                  case rel => exact ⟨k + 1, by go_num, by omega, HK⟩
                  case measure => simp only [intOf]; omega
                · clear HO7
                  have HEND : Asd (Sc wb q s2 wr F5) := HY
                  go_wp2
                  go_roundw
                  case rel => exact ⟨i + 1, s2, F5, by go_num, by omega, HEND, HGD, HCD⟩
                  case measure => simp only [intOf]; omega
          · have en3 : ((n2 : Int) == 0) = false := beq_eq_false_iff_ne.2 (by omega)
            have e4 : (hd == 0) = false := beq_eq_false_iff_ne.2 h0
            have e5 : (hd != 0) = true := bne_iff_ne.2 h0
            have e6 : (r == 0) = false := beq_eq_false_iff_ne.2 hr1
            rw [hr0] at HRO
            clear hr0 h0 hr1 hp hn2c
            go_wp2_with fail
            refine (HHL.out _ _ H5.out).mono ?_
            rintro e3 w6 ⟨rfl, rfl⟩
            go_wp2_with fail
            refine (HRO.out _ _ H5.out).mono ?_
            rintro e3 w6 ⟨rfl, rfl⟩
            go_wp2_with fail
            refine (HUS.out _ _ H5.out).mono ?_
            rintro e3 w6 ⟨A6, c6, G6, rfl, ho6, hg6, hu6⟩
            have HO6 := Asd.mk ho6
            have H6 := Asd.mk (H5.out.upd hu6)
            have hs6 := H6.out.up
            clear ho6 hg6 hu6
            go_wp2_with fail
            refine (HCO.out _ _ H6.out).mono ?_
            rintro e3 w7 ⟨A7, c7, G7, rfl, ho7, hg7, hu7⟩
            have HO7 := Asd.mk (HO6.out.up hu7)
            have H7 := Asd.mk (H6.out.upd hu7)
            have hs7 := H7.out.up
            clear ho7 hg7 hu7 HO6 H6 hs6
            go_upto_region 21 with fail
            go_loopw [85] (fun v wz => ∃ (k : Nat), v = .int .i64 (k : Int) ∧ k ≤ n2 ∧ Asd (Upd (fun _ => False) w7 wz)) (fun v _ => n2 - (intOf v).toNat)
            case atStart => exact ⟨0, rfl, Nat.zero_le _, ⟨Upd.refl _ _⟩⟩
            case round =>
              obtain ⟨k, rfl, hk, HK⟩ := hrel
              have HY := Asd.mk (H7.out.upd HK.out)
              have hsy := HY.out.up
              by_cases hlk : k < n2
              · have hlk2 : k < l2.length := by rw [← HN2.out]; exact hlk
                have HO8 := HO7.out.up HK.out
                rw [HN2.out] at HO8
                obtain ⟨ad7, rfl, hc7⟩ := OI.at HO8 k hlk2
                obtain ⟨x, hx⟩ : ∃ x, x = l2[k] := ⟨_, rfl⟩
                have hx16 := HL2.out x (by rw [hx]; exact List.getElem_mem hlk2)
                rw [← hx] at hc7
                have k7 : ∀ W, Upd (fun _ => False) wr W → W.cell? (ad7.add k) = some (.int .i64 x) := fun W k => k.cell hc7 (fun h => h)
                have hs := Upd.refl (fun _ => False) wr
                obtain ⟨y, hy⟩ := Option.isSome_iff_exists.1 hx16.2.2
                have HWT := Asd.mk (HY.out.seen HOK.out x (by omega))
                rw [hy] at HWT
                clear hx hc7 hy hx16 hlk2 HO8
                go_wp2_with fail
                refine HWT.out.mono ?_
                rintro e w'' ⟨rfl, rfl⟩
                go_wp2
                go_roundw
                case rel => exact ⟨k + 1, by go_num, by omega, HK⟩
                case measure => simp only [intOf]; omega
              · clear HO7
                have HEND : Asd (Sc wb q s2 wr F5) := HY
                go_wp2
                go_roundw
                case rel => exact ⟨i + 1, s2, F5, by go_num, by omega, HEND, HGD, HCD⟩
                case measure => simp only [intOf]; omega
        · have hsw := HS.out.up
          go_wp2
          go_ret
          exact ⟨rfl, HB.out.trans HS.out.up (fun _ _ h => h)⟩
theorem floor_row (W : World) (henv : Or.Env W) (cs : Array Value) (x : Int × Int × Int × Int × Int × Int × Int × Int) (h : RCf W cs.toList x) (a : Option Addr) (len cap : Nat) (L : List Ev) (h1 : K.RSlice REv 4 W [.slice a len cap] L) : Calls Tryz.prog 13 #[.agg cs, .slice a len cap] W fun e w' => e = .returned (.bool true) ∧ Upd (fun _ => False) W w' :=
  law_row (f := 13) (Q := fun W e w' => e = .returned (.bool true) ∧ Upd (fun _ => False) W w') (fun c {_ _ _ _} h => floor_law W henv c h) cs x h a len cap L h1
end Go.Proofs.YteepkanbiefpjaaGreatDoor.Bk
