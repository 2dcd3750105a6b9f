/- The law AuditRaw: what its call comes to, for every input. -/
import Derived.Test.YtpphejjdgplalaaAuRaw
import Derived.Test.YtpphejjdgplalaaMsgHead
import Derived.Deep.RegionHeld3
set_option linter.unusedVariables false
set_option linter.unusedSimpArgs false
namespace Go.Proofs.Ytpphejjdgplalaa.Au
open Go.RowKit K Mg MgRow
section
variable {w : World} {A : Option Addr} {n c : Nat} {L : List M} {out : List UInt8} {strikes : Int}
set_option maxHeartbeats 2000000 in
theorem law_first_calls (HM : Ms w A n L) (hnc : n ≤ c) (hn : n ≤ 1000000000) (ho : out.length ≤ 1000000000) (w0 : World) (h0 : Upd (fun _ => False) w w0) :
    Calls Try.prog 41 #[.slice A n c, .string (S out), .int .i64 strikes] w0 fun e w' => e = .returned (.int .i64 (run1 out strikes init L 0)) ∧ Upd (fun _ => False) w0 w' := by
  have HM := Asd.mk (HM.up h0)
  obtain ⟨r, hr⟩ : ∃ r, r = run1 out strikes init L 0 := ⟨_, rfl⟩
  rw [← hr]
  have HR := Asd.mk hr
  have HL := Asd.mk HM.out.len
  clear hr h0
  have hnci : (n : Int) ≤ (c : Int) := by omega
  go_enter Try.func41, Try.ntmps41
  go_wp2
  go_loopw [11] (fun v11 wr => ∃ (i : Nat) (s : St), v11 = .int .i64 (i : Int) ∧ i ≤ n ∧ Asd (after out strikes init (L.take i) = some s) ∧ Asd (r = run1 out strikes s (L.drop i) i) ∧ Asd (Upd (fun _ => False) w0 wr)) (fun v11 _ => n - (intOf v11).toNat)
  case atStart => exact ⟨0, init, rfl, by omega, ⟨rfl⟩, HR, ⟨Upd.refl _ _⟩⟩
  case round =>
    obtain ⟨i, s, rfl, hi, HA, HI, HU⟩ := hrel
    by_cases hlt : i < n
    · obtain ⟨ad, rfl, hc⟩ := (HM.out.up HU.out).at_ i hlt
      obtain ⟨m, hm⟩ : ∃ m, m = L[i]'(by rw [HL.out]; exact hlt) := ⟨_, rfl⟩
      rw [← hm] at hc
      have hst := run1_step (out := out) (strikes := strikes) (L := L) i (by rw [HL.out]; exact hlt) (s := s)
      have hts : L.take (i + 1) = L.take i ++ [m] := by rw [List.take_succ_eq_append_getElem (by rw [HL.out]; exact hlt), hm]
      rw [← hm] at hst
      have HST : Asd (r = if okay out strikes s m then run1 out strikes (nxt s m) (L.drop (i + 1)) (i + 1) else (i : Int)) := ⟨HI.out.trans hst⟩
      have HC := Asd.mk hc
      have HTS := Asd.mk hts
      clear hm hst hc hts
      go_wp2_with (with_reducible refine stop_load 44 _ rfl ?_)
      refine wp_loadAgg (mC m) (ad.add (i * 4)) 4 rfl _ _ rfl rfl Try.underlying44 rfl (by kernel_rfl) rfl (fun j u hj => by rw [add_add]; exact HC.out j u hj) ?_
      simp only [mC]
      have hb := heap_alloc_new wr (.cells #[.int .i64 m.k, .int .i64 m.a, .int .i64 m.b, .string (S m.t)] 44)
      have hu1 := HU.out.alloc (.cells #[.int .i64 m.k, .int .i64 m.a, .int .i64 m.b, .string (S m.t)] 44)
      obtain ⟨w1, hw1⟩ : ∃ w1, w1 = wr.alloc (.cells #[.int .i64 m.k, .int .i64 m.a, .int .i64 m.b, .string (S m.t)] 44) := ⟨_, rfl⟩
      rw [← hw1] at hb hu1
      have c0 := keepsC (o := 0) (v := .int .i64 m.k) hb rfl
      have c1 := keepsC (o := 1) (v := .int .i64 m.a) hb rfl
      have c2 := keepsC (o := 2) (v := .int .i64 m.b) hb rfl
      have c3 := keepsC (o := 3) (v := .string (S m.t)) hb rfl
      have END : ∀ W, Upd (fun _ => False) w1 W → Upd (fun _ => False) w0 W := fun W h => hu1.trans h (fun _ _ h => h)
      replace END := Asd.mk END
      have g1 : (0 : Int) ≤ (i : Int) := by omega
      have g2 : (i : Int) ≤ (c : Int) := by omega
      have g3 : i ≤ c := by omega
      clear hb hu1 HC
      have HK : Upd (fun _ => False) w1 w1 := Upd.refl _ _
      go_wp2
      rw [← hw1]
      clear hw1
      refine wp_region_held_drew (S := fun W => Upd (fun _ => False) w1 W) (by kernel_rfl) (by exact (by repeat (first | exact HUn | exact hSw | exact Upd.refl _ _ | refine Upd.drewN ?_ _ | refine Upd.drew ?_ | refine Upd.alloc ?_ _))) (fun hHeld => ?_)
      refine wpAnyH_take (i := 0) (oi := ?_) (v := ?_) ?_ (by kernel_rfl) (by kernel_rfl) (by kernel_rfl) ?_ (Or.inl ⟨?_, ?_⟩) (by assumption) ?_
      rotate_left 2
      · (simp only [List.getElem?_toArray, List.getElem?_cons_succ, List.getElem?_cons_zero]; exact rfl)
      · exact (fun _ _ _ h => h)
      · rfl
      · (intro w hSw; (try dsimp only at hSw); go_simp; (try with_reducible rfl))
      try simp only [Act.put, List.setIfInBounds_toArray, List.set_cons_zero, List.set_cons_succ]
      refine wpAnyH_take (i := 1) (oi := ?_) (v := ?_) ?_ (by kernel_rfl) (by kernel_rfl) (by kernel_rfl) ?_ (Or.inl ⟨?_, ?_⟩) (by assumption) ?_
      rotate_left 2
      · (simp only [List.getElem?_toArray, List.getElem?_cons_succ, List.getElem?_cons_zero]; exact rfl)
      · exact (fun _ _ _ h => h)
      · rfl
      · (intro w hSw; (try dsimp only at hSw); go_simp; (try with_reducible rfl))
      try simp only [Act.put, List.setIfInBounds_toArray, List.set_cons_zero, List.set_cons_succ]
      refine wpAnyH_take (i := 2) (oi := ?_) (v := ?_) ?_ (by kernel_rfl) (by kernel_rfl) (by kernel_rfl) ?_ (Or.inl ⟨?_, ?_⟩) (by assumption) ?_
      rotate_left 2
      · (simp only [List.getElem?_toArray, List.getElem?_cons_succ, List.getElem?_cons_zero]; exact rfl)
      · exact (fun _ _ _ h => h)
      · rfl
      · (intro w hSw; (try dsimp only at hSw); go_simp; (try with_reducible rfl))
      try simp only [Act.put, List.setIfInBounds_toArray, List.set_cons_zero, List.set_cons_succ]
      refine wpAnyH_take (i := 3) (oi := ?_) (v := ?_) ?_ (by kernel_rfl) (by kernel_rfl) (by kernel_rfl) ?_ (Or.inl ⟨?_, ?_⟩) (by assumption) ?_
      rotate_left 2
      · (simp only [List.getElem?_toArray, List.getElem?_cons_succ, List.getElem?_cons_zero]; exact rfl)
      · exact (fun _ _ _ h => h)
      · rfl
      · (intro w hSw; (try dsimp only at hSw); go_simp; (try with_reducible rfl))
      try simp only [Act.put, List.setIfInBounds_toArray, List.set_cons_zero, List.set_cons_succ]
      refine wpAnyH_take (i := 4) (oi := ?_) (v := ?_) ?_ (by kernel_rfl) (by kernel_rfl) (by kernel_rfl) ?_ (Or.inl ⟨?_, ?_⟩) (by assumption) ?_
      rotate_left 2
      · (simp only [List.getElem?_toArray, List.getElem?_cons_succ, List.getElem?_cons_zero]; exact rfl)
      · exact (fun _ _ _ h => h)
      · rfl
      · (intro w hSw; (try dsimp only at hSw); go_simp; (try with_reducible rfl))
      try simp only [Act.put, List.setIfInBounds_toArray, List.set_cons_zero, List.set_cons_succ]
      refine wpAnyH_take (i := 5) (oi := ?_) (v := ?_) ?_ (by kernel_rfl) (by kernel_rfl) (by kernel_rfl) ?_ (Or.inl ⟨?_, ?_⟩) (by assumption) ?_
      rotate_left 2
      · (simp only [List.getElem?_toArray, List.getElem?_cons_succ, List.getElem?_cons_zero]; exact rfl)
      · exact (fun _ _ _ h => h)
      · rfl
      · (intro w hSw; (try dsimp only at hSw); go_simp; (try with_reducible rfl))
      try simp only [Act.put, List.setIfInBounds_toArray, List.set_cons_zero, List.set_cons_succ]
      refine wpAnyH_ready (rs := [6]) (by kernel_rfl) (by simp) (AllReadyH.cons (o := ?_) ?_ (fun K hK => ?_) AllReadyH.nil)
      rotate_left 1
      · (simp only [List.getElem?_toArray, List.getElem?_cons_succ, List.getElem?_cons_zero]; exact rfl)
      (go_simp; (go_at_call 49; refine (may_calls (HM.out.take i (by omega)) (by omega) ho HA.out m _ (by exact END.out _ (by repeat (first | exact Upd.refl _ _ | refine Upd.drewN ?_ _ | refine Upd.drew ?_)))).mono ?_; rintro e wn ⟨rfl, hu⟩; have HUn : Upd (fun _ => False) w1 wn := Upd.trans (by repeat (first | exact Upd.refl _ _ | refine Upd.drewN ?_ _ | refine Upd.drew ?_)) hu (fun _ _ h => h); clear hu))
      refine hK.out _ _ (by exact (by repeat (first | exact HUn | exact hSw | exact Upd.refl _ _ | refine Upd.drewN ?_ _ | refine Upd.drew ?_ | refine Upd.alloc ?_ _))) (fun hHeld => ?_)
      clear hK K
      try simp only [Act.put, List.setIfInBounds_toArray, List.set_cons_zero, List.set_cons_succ]
      refine wpAnyH_take (i := 7) (oi := ?_) (v := ?_) ?_ (by kernel_rfl) (by kernel_rfl) (by kernel_rfl) ?_ (Or.inl ⟨?_, ?_⟩) (by assumption) ?_
      rotate_left 2
      · (simp only [List.getElem?_toArray, List.getElem?_cons_succ, List.getElem?_cons_zero]; exact rfl)
      · exact (fun _ _ _ h => h)
      · rfl
      · (intro w hSw; (try dsimp only at hSw); go_simp; (try with_reducible rfl))
      try simp only [Act.put, List.setIfInBounds_toArray, List.set_cons_zero, List.set_cons_succ]
      refine wpAnyH_done (by kernel_rfl) ?_ _
      have HU2 := Asd.mk (END.out _ HUn)
      cases hok : okay out strikes s m with
      | true =>
        have HI2 : Asd (r = run1 out strikes (nxt s m) (L.drop (i + 1)) (i + 1)) := ⟨by have := HST.out; rw [hok, if_pos rfl] at this; exact this⟩
        have HA2 : Asd (after out strikes init (L.take (i + 1)) = some (nxt s m)) := ⟨by rw [HTS.out, after_snoc, HA.out]; simp [hok]⟩
        clear hok
        go_wp2
        go_roundw
        case rel => exact ⟨i + 1, nxt s m, by go_num, by omega, HA2, HI2, HU2⟩
        case measure => simp only [intOf]; omega
      | false =>
        have HI2 : Asd (r = (i : Int)) := ⟨by have := HST.out; rw [hok, if_neg (by simp)] at this; exact this⟩
        clear hok
        go_wp2
        go_ret
        exact ⟨by rw [HI2.out]; rfl, HU2.out⟩
    · have hi2 : i = n := by omega
      subst hi2
      have HI2 : Asd (r = -1) := ⟨by have := HI.out; rw [← HL.out, run1_end] at this; exact this⟩
      go_wp2
      go_ret
      exact ⟨by rw [HI2.out]; rfl, HU.out⟩
set_option maxHeartbeats 2000000 in
theorem head_calls (w : World) : Calls Try.prog 39 #[] w fun e w' => e = .returned (.bool true) ∧ Upd (fun _ => False) w w' := by
  have hS1 : ({ data := #[97, 98, 99] } : ByteArray) = S [97, 98, 99] := rfl
  have hS2 : ({ data := #[111, 119, 110, 101, 114] } : ByteArray) = S [111, 119, 110, 101, 114] := rfl
  have hS3 : ({ data := #[98] } : ByteArray) = S [98] := rfl
  have hS4 : ({ data := #[97, 98] } : ByteArray) = S [97, 98] := rfl
  have r1 : run1 [97, 98, 99] 0 init [⟨5, 1, 0, [111, 119, 110, 101, 114]⟩, ⟨6, 1, 0, [98]⟩] 0 = 1 := by decide
  have r2 : run1 [97, 98, 99] 0 init [⟨5, 1, 0, [111, 119, 110, 101, 114]⟩, ⟨6, 0, 0, [97, 98]⟩] 0 = -1 := by decide
  have R1 := Asd.mk r1
  have R2 := Asd.mk r2
  clear r1 r2
  go_enter Try.func39, Try.ntmps39
  go_wp2_with fail
  refine (first_calls (Ms.litg _ _ (by simp) _ _ _ 2 [⟨5, 1, 0, [111, 119, 110, 101, 114]⟩, ⟨6, 1, 0, [98]⟩] rfl rfl (by omega)) (by omega) (by decide) _ (Upd.refl _ _)).mono ?_
  rw [R1.out]
  rintro e w2 ⟨rfl, hu⟩
  have c1 := fun o v h => keepsC (o := o) (v := v) (hu.blk (blk_past (blk_past (blk_past (blk_new (w := w) rfl)))) (fun h => h)) h
  have c3 := fun o v h => keepsC (o := o) (v := v) (hu.blk (blk_past (blk_new (g := w.heap.size + 1 + 1) (by simp))) (fun h => h)) h
  have d10 := c1 0 _ rfl
  have d11 := c1 1 _ rfl
  have d12 := c1 2 _ rfl
  have d13 := c1 3 _ rfl
  have d30 := c3 0 _ rfl
  have d31 := c3 1 _ rfl
  have d32 := c3 2 _ rfl
  have d33 := c3 3 _ rfl
  have HU := Asd.mk (((((Upd.refl (fun _ => False) w).alloc _).alloc _).alloc _).alloc _ |>.trans hu (fun _ _ h => h))
  clear c1 c3 hu
  go_wp2_with fail
  refine (first_calls (Ms.litg _ _ (by simp) _ _ _ 2 [⟨5, 1, 0, [111, 119, 110, 101, 114]⟩, ⟨6, 0, 0, [97, 98]⟩] rfl rfl (by omega)) (by omega) (by decide) _ (Upd.refl _ _)).mono ?_
  rw [R2.out]
  rintro e w3 ⟨rfl, hu⟩
  have HU3 := Asd.mk ((HU.out.alloc _).trans hu (fun _ _ h => h))
  clear hu d10 d11 d12 d13 d30 d31 d32 d33
  go_wp2
  go_ret
  exact ⟨rfl, HU3.out⟩
set_option maxHeartbeats 2000000 in
theorem raw_walk (w : World) (A : Option Addr) (n c : Nat) (X : List (Int × Int × Int × ByteArray)) (hX : RSlice RMsg 4 w [.slice A n c] X) (s : ByteArray) (ws : s.size ≤ 9223372036854775807) (strikes : Int) (wi : (Lit.int .i64 strikes).wf = true) :
    Calls Try.prog 13 #[.slice A n c, .string s, .int .i64 strikes] w fun e w' => e = .returned (.bool true) ∧ Upd (fun _ => False) w w' := by
  obtain ⟨A', c', he, hE, hc, hm, _⟩ := hX
  simp only [List.cons.injEq, Value.slice.injEq, and_true] at he
  obtain ⟨rfl, rfl, rfl⟩ := he
  obtain ⟨hM, hr⟩ := Ms.ofEls hE
  obtain ⟨L, hL⟩ : ∃ L, L = X.map toM := ⟨_, rfl⟩
  rw [← hL] at hM hr
  obtain ⟨n, hn⟩ : ∃ n, n = X.length := ⟨_, rfl⟩
  rw [← hn] at hM hc
  rw [← hn]
  obtain ⟨out, hout⟩ : ∃ out, out = s.data.toList := ⟨_, rfl⟩
  have hs : s = S out := by rw [hout]; exact S_of s
  subst hs
  have hz : (S out).size = out.length := S_size out
  rw [hz] at ws
  have HM := Asd.mk hM
  have HR := Asd.mk hr
  have HLN := Asd.mk hM.len
  have hlim := hM.lim
  clear hM hr hL hn hE hout wi
  go_enter Try.func13, Try.ntmps13
  go_wp2_with fail
  refine (head_calls _).mono ?_
  rintro e w1 ⟨rfl, hu⟩
  have HK : Upd (fun _ => False) w w1 := hu
  clear hu
  by_cases h1 : 60 < n
  · go_wp2
    go_ret
    exact ⟨rfl, HK⟩
  by_cases h2 : 500 < out.length
  · go_wp2
    go_ret
    exact ⟨rfl, HK⟩
  go_wp2
  go_loopw [21] (fun v21 wr => ∃ i : Nat, v21 = .int .i64 (i : Int) ∧ i ≤ n ∧ Upd (fun _ => False) w wr) (fun v21 _ => n - (intOf v21).toNat)
  case atStart => exact ⟨0, rfl, by omega, HK⟩
  case round =>
    clear HK
    obtain ⟨i, rfl, hi, HK⟩ := hrel
    by_cases hlt : i < n
    · obtain ⟨ad, rfl, hc⟩ := (HM.out.up HK).at_ i hlt
      obtain ⟨m, hm⟩ : ∃ m, m = L[i]'(by rw [HLN.out]; exact hlt) := ⟨_, rfl⟩
      rw [← hm] at hc
      have hml := HR.out m (by rw [hm]; exact List.getElem_mem _)
      have hmz : (S m.t).size = m.t.length := S_size m.t
      have HC := Asd.mk hc
      simp only [reach] at hml
      clear hm hc
      go_wp2_with (with_reducible refine stop_load 44 _ rfl ?_)
      refine wp_loadAgg (mC m) (ad.add (i * 4)) 4 rfl _ _ rfl rfl Try.underlying44 rfl (by kernel_rfl) rfl (fun j u hj => by rw [add_add]; exact HC.out j u hj) ?_
      simp only [mC]
      by_cases hbig : 300 < m.t.length
      · go_wp2
        go_ret
        exact ⟨rfl, HK.alloc _⟩
      · go_wp2
        go_roundw
        case rel => exact ⟨i + 1, by go_num, by omega, HK.alloc _⟩
        case measure => simp only [intOf]; omega
    · have HKw := Asd.mk HK
      go_wp2_with fail
      refine (first_calls (HM.out.up HKw.out) (by omega) (by omega) _ (Upd.refl _ _)).mono ?_
      rintro e w2 ⟨rfl, hu⟩
      have HK2 := Asd.mk (HKw.out.trans hu (fun _ _ h => h))
      clear hu HK HKw
      go_wp2_with fail
      refine (law_first_calls (HM.out.up HK2.out) hc (by omega) (by omega) _ (Upd.refl _ _)).mono ?_
      rintro e w3 ⟨rfl, hu⟩
      have HK3 := Asd.mk (HK2.out.trans hu (fun _ _ h => h))
      clear hu
      go_wp2
      go_ret
      exact ⟨by simp, HK3.out⟩
end
end Go.Proofs.Ytpphejjdgplalaa.Au
