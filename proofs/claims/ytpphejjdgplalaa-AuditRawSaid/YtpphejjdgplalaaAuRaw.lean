/- The law AuditRaw: what its call comes to, for every input. -/
import Derived.Test.YtpphejjdgplalaaAuMath
set_option linter.unusedVariables false
set_option linter.unusedSimpArgs false
namespace Go.Proofs.Ytpphejjdgplalaa.Au
open Go.RowKit K Mg MgRow
section
variable {w : World} {A : Option Addr} {n c : Nat} {L : List M} {out : List UInt8} {strikes : Int}
set_option maxHeartbeats 1000000 in
theorem first_calls (HM : Ms w A n L) (hn : n ≤ 1000000000) (ho : out.length ≤ 1000000000) (w0 : World) (h0 : Upd (fun _ => False) w w0) :
    Calls Try.prog 40 #[.slice A n c, .string (S out), .int .i64 strikes] w0 fun e w' => e = .returned (.int .i64 (run1 out strikes init L 0)) ∧ Upd (fun _ => False) w0 w' := by
  have HM := Asd.mk (HM.up h0)
  obtain ⟨r, hr⟩ : ∃ r, r = run1 out strikes init L 0 := ⟨_, rfl⟩
  rw [← hr]
  have HR := Asd.mk hr
  have HL := Asd.mk HM.out.len
  clear hr h0
  go_enter Try.func40, Try.ntmps40
  go_wp2
  go_loopw [16] (fun v16 wr => ∃ (i : Nat) (s : St), v16 = .int .i64 (i : Int) ∧ i ≤ n ∧ Asd (Sane out i s) ∧ Asd (r = run1 out strikes s (L.drop i) i) ∧ Asd (wr.heap[w0.heap.size]? = some (.cells (stC out strikes s) 87 (0, 0))) ∧ Asd (Upd (fun _ => False) w0 wr)) (fun v16 _ => n - (intOf v16).toNat)
  case atStart => exact ⟨0, init, rfl, by omega, ⟨Sane.init⟩, HR, ⟨heap_alloc_new w0 _⟩, ⟨(Upd.refl _ _).alloc _⟩⟩
  case round =>
    obtain ⟨i, s, rfl, hi, HS, HI, HB, HU⟩ := hrel
    by_cases hlt : i < n
    · obtain ⟨ad, rfl, hc⟩ := (HM.out.up HU.out).at_ i hlt
      obtain ⟨m, hm⟩ : ∃ m, m = L[i]'(by rw [HL.out]; exact hlt) := ⟨_, rfl⟩
      rw [← hm] at hc
      have hst := run1_step (out := out) (strikes := strikes) (L := L) i (by rw [HL.out]; exact hlt) (s := s)
      rw [← hm] at hst
      have HST : Asd (r = if okay out strikes s m then run1 out strikes (nxt s m) (L.drop (i + 1)) (i + 1) else (i : Int)) := ⟨HI.out.trans hst⟩
      have HC := Asd.mk hc
      clear hm hst hc
      go_wp2_with (with_reducible refine stop_load 44 _ rfl ?_)
      refine wp_loadAgg (mC m) (ad.add (i * 4)) 4 rfl _ _ rfl rfl Try.underlying44 rfl (by kernel_rfl) rfl (fun j u hj => by rw [add_add]; exact HC.out j u hj) ?_
      simp only [mC]
      go_wp2_with fail
      refine (step_calls w0.heap.size out strikes s n m _ (((Upd.refl (fun _ => False) _).alloc _).blk HB.out (fun h => h)) ⟨HS.out.at0, HS.out.at1, HS.out.g0, Int.le_trans HS.out.g1 (by omega)⟩ hn ho).mono ?_
      rintro e w2 ⟨rfl, hk, hu⟩
      have HU2 : Asd (Upd (fun _ => False) w0 w2) := ⟨(HU.out.alloc _).trans hu (fun k hk e => by omega)⟩
      clear hu HB HC HU
      cases hok : okay out strikes s m with
      | true =>
        have HB2 := Asd.mk (hk hok)
        have HS2 := Asd.mk (Sane.next HS.out hok)
        have HI2 : Asd (r = run1 out strikes (nxt s m) (L.drop (i + 1)) (i + 1)) := ⟨by have := HST.out; rw [hok, if_pos rfl] at this; exact this⟩
        clear hk hok
        go_wp2
        go_roundw
        case rel => exact ⟨i + 1, nxt s m, by go_num, by omega, HS2, HI2, HB2, HU2⟩
        case measure => simp only [intOf]; omega
      | false =>
        have HI2 : Asd (r = (i : Int)) := ⟨by have := HST.out; rw [hok, if_neg (by simp)] at this; exact this⟩
        clear hk hok
        go_wp2
        go_ret
        exact ⟨by rw [HI2.out]; rfl, HU2.out⟩
    · have hi2 : i = n := by omega
      subst hi2
      have HI2 : Asd (r = -1) := ⟨by have := HI.out; rw [← HL.out, run1_end] at this; exact this⟩
      go_wp2
      go_ret
      exact ⟨by rw [HI2.out]; rfl, HU.out⟩
set_option maxHeartbeats 4000000 in
set_option maxRecDepth 100000 in
theorem may_calls (HM : Ms w A n L) (hn : n ≤ 1000000000) (ho : out.length ≤ 1000000000) {s : St} (hs : after out strikes init L = some s) (m : M) (w0 : World) (h0 : Upd (fun _ => False) w w0) :
    Calls Try.prog 49 #[.slice A n c, .agg #[.int .i64 m.k, .int .i64 m.a, .int .i64 m.b, .string (S m.t)], .string (S out), .int .i64 strikes] w0 fun e w' => e = .returned (.bool (okay out strikes s m)) ∧ Upd (fun _ => False) w0 w' := by
  obtain ⟨k, a, b, t⟩ := m
  have HM := Asd.mk (HM.up h0)
  obtain ⟨r, hr⟩ : ∃ r, r = okay out strikes s ⟨k, a, b, t⟩ := ⟨_, rfl⟩
  simp only
  rw [← hr]
  have HR := Asd.mk hr
  have HL := Asd.mk HM.out.len
  have HS := Asd.mk hs
  clear hr h0 hs
  have hb := heap_alloc_new w0 (.cells #[.int .i64 k, .int .i64 a, .int .i64 b, .string (S t)] 44)
  have HU := (Upd.refl (fun _ => False) w0).alloc (.cells #[.int .i64 k, .int .i64 a, .int .i64 b, .string (S t)] 44)
  obtain ⟨w1, hw1⟩ : ∃ w1, w1 = w0.alloc (.cells #[.int .i64 k, .int .i64 a, .int .i64 b, .string (S t)] 44) := ⟨_, rfl⟩
  rw [← hw1] at hb HU
  have c0 := keepsC (o := 0) (v := .int .i64 k) hb rfl
  have c1 := keepsC (o := 1) (v := .int .i64 a) hb rfl
  have c2 := keepsC (o := 2) (v := .int .i64 b) hb rfl
  have c3 := keepsC (o := 3) (v := .string (S t)) hb rfl
  have HK : Upd (fun _ => False) w1 w1 := Upd.refl _ _
  have HX : Asd (r = (right k a b t.length && (!s.over && (decide (5 ≤ k) && (!((s.here == decide (k = 5)) && decide (k ≠ 13)) && fits out strikes s ⟨k, a, b, t⟩))))) := HR
  clear hb HR
  go_enter Try.func49, Try.ntmps49
  go_wp2_with fail
  rw [← hw1]
  clear hw1
  go_wp2_with fail
  refine (law_right_calls k a b (S t) _).mono ?_
  rw [S_size]
  rintro e w2 ⟨rfl, hu⟩
  have HUw := Asd.mk HU
  clear HK HU
  have HK : Upd (fun _ => False) w1 w2 := hu
  clear hu
  have END : ∀ W, Upd (fun _ => False) w1 W → Upd (fun _ => False) w0 W := fun W h => HUw.out.trans h (fun _ _ h => h)
  replace END := Asd.mk END
  cases hrt : right k a b t.length with
  | false =>
    have HF : Asd (r = false) := ⟨by rw [HX.out, hrt]; rfl⟩
    clear hrt
    go_wp2
    go_ret
    exact ⟨by rw [HF.out]; rfl, END.out _ HK⟩
  | true =>
  rw [hrt, Bool.true_and] at HX
  have HRT := Asd.mk hrt
  clear hrt
  by_cases hk4 : k ≤ 4
  · have HF : Asd (r = false) := ⟨by rw [HX.out, show decide (5 ≤ k) = false from decide_eq_false (by omega), Bool.false_and, Bool.and_false]⟩
    go_wp2
    go_ret
    exact ⟨by rw [HF.out]; rfl, END.out _ HK⟩
  have hk5 : 5 ≤ k := by omega
  rw [show decide (5 ≤ k) = true from decide_eq_true hk5, Bool.true_and] at HX
  have hsane : ∀ {L : List M} {s : St}, after out strikes init L = some s → Sane out L.length s := fun h => by have := after_sane Sane.init h; simpa using this
  replace hsane := Asd.mk @hsane
  go_wp2
  go_loopw [9, 10, 25] (fun v9 v10 v25 wr => ∃ (i : Nat) (si : St), v25 = .int .i64 (i : Int) ∧ i ≤ n ∧ v9 = .int .i64 si.at_ ∧ v10 = .int .i64 si.gaps ∧ Asd (after out strikes init (L.take i) = some si) ∧ Asd (si.over = false) ∧ Upd (fun _ => False) w1 wr) (fun _ _ v25 _ => n - (intOf v25).toNat)
  case atStart => exact ⟨0, init, rfl, by omega, rfl, rfl, ⟨rfl⟩, ⟨rfl⟩, HK⟩
  case round =>
    clear HK
    obtain ⟨i, si, rfl, hi, rfl, rfl, HA, HO, HKr⟩ := hrel
    have hsn := hsane.out HA.out
    have hq1 := hsn.at0
    have hq2 := hsn.at1
    have hq3 := hsn.g0
    have hq4 := hsn.g1
    have hq5 : si.gaps ≤ i := by rw [List.length_take] at hq4; omega
    clear hsn hq4
    by_cases hlt : i < n
    · have hlt9 : i < L.length := by rw [HL.out]; exact hlt
      obtain ⟨s1, ht1, hok, ht2, ht3⟩ := after_take HS.out i hlt9
      obtain rfl : si = s1 := by have := HA.out; rw [this] at ht1; exact Option.some.inj ht1
      obtain ⟨ad, rfl, hc⟩ := (HM.out.up (END.out _ HKr)).at_ i hlt
      obtain ⟨x, hx⟩ : ∃ x, x = L[i]'hlt9 := ⟨_, rfl⟩
      rw [← hx] at hc hok ht2 ht3
      have hhere := here_iff HA.out HO.out
      rw [List.length_take, Nat.min_eq_left (by omega)] at hhere
      obtain ⟨xk, xa, xb, xt⟩ := x
      have hok2 := hok
      simp only [okay, Bool.and_eq_true] at hok2
      obtain ⟨hxr, _, hx5, hxh, hxf⟩ := hok2
      have hxl : xt.length ≤ 2042 := by
        simp only [right, Bool.and_eq_true, decide_eq_true_eq] at hxr
        exact Nat.le_trans hxr.2.1 (most_le _)
      have hx5 : 5 ≤ xk := by simpa using hx5
      have HC := Asd.mk hc
      have HA2 := Asd.mk ht2
      have HN3 := Asd.mk ht3
      have HHR := Asd.mk hhere
      have HXH := Asd.mk hxh
      have HXF := Asd.mk hxf
      clear ht1 ht2 ht3 hok hx hc hhere hxr hxh hxf hlt9
      go_wp2_with (with_reducible refine stop_load 44 _ rfl ?_)
      refine wp_loadAgg (mC ⟨xk, xa, xb, xt⟩) (ad.add (i * 4)) 4 rfl _ _ rfl rfl Try.underlying44 rfl (by kernel_rfl) rfl (fun j u hj => by rw [add_add]; exact HC.out j u hj) ?_
      simp only [mC]
      clear HC
      by_cases ho2 : xk = 12 ∨ xk = 13
      · have hov : (nxt si ⟨xk, xa, xb, xt⟩).over = true := by
          rcases ho2 with rfl | rfl <;> simp [nxt]
        have HF : Asd (r = false) := ⟨by rw [HX.out, after_over hov HN3.out]; rfl⟩
        clear hov
        rcases ho2 with rfl | rfl
        all_goals
          go_wp2
          go_ret
          exact ⟨by rw [HF.out]; rfl, END.out _ (HKr.alloc _)⟩
      have hn12 : (xk == 12) = false := beq_eq_false_iff_ne.2 (fun e => ho2 (.inl e))
      have hn13 : (xk == 13) = false := beq_eq_false_iff_ne.2 (fun e => ho2 (.inr e))
      have HN : Asd ((nxt si ⟨xk, xa, xb, xt⟩).over = false) := ⟨by have := HO.out; unfold nxt; simp only; split <;> (try split) <;> (try split) <;> (try split) <;> first | exact this | exact absurd (by assumption) ho2⟩
      clear ho2
      by_cases h5 : xk = 5
      · subst h5
        have hi0 : i = 0 := by
          have h1 := HXH.out
          have h2 := HHR.out
          rcases Nat.eq_zero_or_pos i with h | h
          · exact h
          · rw [show decide (0 < i) = true from decide_eq_true h] at h2
            simp [h2] at h1
        subst hi0
        have e1 : (nxt si ⟨5, xa, xb, xt⟩).at_ = xb := by simp [nxt]
        have e2 : (nxt si ⟨5, xa, xb, xt⟩).gaps = si.gaps := by simp [nxt]
        have E1 := Asd.mk e1
        have E2 := Asd.mk e2
        clear e1 e2
        go_wp2
        go_roundw
        case rel => exact ⟨1, nxt si ⟨5, xa, xb, xt⟩, by go_num, by omega, by rw [E1.out], by rw [E2.out], HA2, HN, HKr.alloc _⟩
        case measure => simp only [intOf]; omega
      have g5 : (xk == 5) = false := beq_eq_false_iff_ne.2 h5
      by_cases h6 : xk = 6
      · subst h6
        have hxa : xa = si.at_ := by
          have := HXF.out
          simp [fits] at this
          exact this.1
        subst hxa
        have e1 : (nxt si ⟨6, si.at_, xb, xt⟩).at_ = si.at_ + xt.length := by simp [nxt]
        have e2 : (nxt si ⟨6, si.at_, xb, xt⟩).gaps = si.gaps := by simp [nxt]
        have E1 := Asd.mk e1
        have E2 := Asd.mk e2
        clear e1 e2 h5
        go_wp2
        go_roundw
        case rel => exact ⟨i + 1, nxt si ⟨6, si.at_, xb, xt⟩, by go_num, by omega, by rw [E1.out], by rw [E2.out], HA2, HN, HKr.alloc _⟩
        case measure => simp only [intOf]; omega
      have g6 : (xk == 6) = false := beq_eq_false_iff_ne.2 h6
      by_cases h7 : xk = 7
      · subst h7
        have e1 : (nxt si ⟨7, xa, xb, xt⟩).at_ = xb := by simp [nxt]
        have e2 : (nxt si ⟨7, xa, xb, xt⟩).gaps = si.gaps + 1 := by simp [nxt]
        have E1 := Asd.mk e1
        have E2 := Asd.mk e2
        clear e1 e2 h5 h6
        go_wp2
        go_roundw
        case rel => exact ⟨i + 1, nxt si ⟨7, xa, xb, xt⟩, by go_num, by omega, by rw [E1.out], by rw [E2.out], HA2, HN, HKr.alloc _⟩
        case measure => simp only [intOf]; omega
      have g7 : (xk == 7) = false := beq_eq_false_iff_ne.2 h7
      have e1 : (nxt si ⟨xk, xa, xb, xt⟩).at_ = si.at_ := by simp only [nxt, h5, h6, h7, if_false]; split <;> rfl
      have e2 : (nxt si ⟨xk, xa, xb, xt⟩).gaps = si.gaps := by simp only [nxt, h5, h6, h7, if_false]; split <;> rfl
      have E1 := Asd.mk e1
      have E2 := Asd.mk e2
      clear e1 e2 h5 h6 h7
      go_wp2
      go_roundw
      case rel => exact ⟨i + 1, nxt si ⟨xk, xa, xb, xt⟩, by go_num, by omega, by rw [E1.out], by rw [E2.out], HA2, HN, HKr.alloc _⟩
      case measure => simp only [intOf]; omega
    · have hi2 : i = n := by omega
      subst hi2
      obtain rfl : si = s := by
        have h1 := HA.out
        rw [List.take_of_length_le (by rw [HL.out]; exact Nat.le_refl _), HS.out] at h1
        exact (Option.some.inj h1).symm
      have hhere := here_iff HS.out HO.out
      rw [HL.out] at hhere
      have hov := HO.out
      rw [hov] at HX
      simp only [Bool.not_false, Bool.true_and] at HX
      have hzn : (S out).size = out.length := S_size out
      have hzt : (S t).size = t.length := S_size t
      clear HA hi hlt hov
      by_cases h5 : k = 5
      · subst h5
        rcases Nat.eq_zero_or_pos i with h0 | h0
        · subst h0
          have HF : Asd (r = decide (b ≤ out.length)) := ⟨by rw [HX.out, hhere]; simp [fits]⟩
          clear hhere
          go_wp2
          go_ret
          exact ⟨by rw [HF.out]; rfl, END.out _ HKr⟩
        · have HF : Asd (r = false) := ⟨by rw [HX.out, hhere, show decide (0 < i) = true from decide_eq_true h0]; simp⟩
          have hb0 : ((i : Int) == 0) = false := beq_eq_false_iff_ne.2 (by omega)
          clear hhere
          go_wp2
          go_ret
          exact ⟨by rw [HF.out]; rfl, END.out _ HKr⟩
      have g5 : (k == 5) = false := beq_eq_false_iff_ne.2 h5
      rcases Nat.eq_zero_or_pos i with h0 | h0
      · subst h0
        have HF : Asd (r = (k == 13)) := ⟨by
          rw [HX.out, hhere]
          by_cases h13 : k = 13
          · subst h13; simp [fits]
          · simp [h5, h13]⟩
        clear hhere h5
        go_wp2
        go_ret
        exact ⟨by rw [HF.out]; rfl, END.out _ HKr⟩
      have hb0 : ((i : Int) == 0) = false := beq_eq_false_iff_ne.2 (by omega)
      have HX2 : Asd (r = fits out strikes si ⟨k, a, b, t⟩) := ⟨by rw [HX.out, hhere, show decide (0 < i) = true from decide_eq_true h0]; simp [h5]⟩
      clear HX hhere h0
      have hl : t.length ≤ 2042 := by
        have := HRT.out
        simp only [right, Bool.and_eq_true, decide_eq_true_eq] at this
        exact Nat.le_trans this.2.1 (most_le _)
      by_cases h6 : k = 6
      · subst h6
        have hempty : ({ data := #[] } : ByteArray).toList = [] := by rw [ByteArray.toList_eq]
        by_cases ha : a = si.at_
        · subst ha
          by_cases ht : t = []
          · subst ht
            have HF : Asd (r = false) := ⟨by rw [HX2.out]; simp [fits]⟩
            go_wp2
            go_quiet (fail)
            go_wp2
            go_ret
            exact ⟨by rw [HF.out]; rfl, by first | exact END.out _ HKr | exact (END.out _ HKr).drewN _ | exact (END.out _ HKr).drew⟩
          · have hft : (t == []) = false := beq_eq_false_iff_ne.2 ht
            have hft2 : (t != []) = true := bne_iff_ne.2 ht
            have HT := Asd.mk ht
            clear ht
            by_cases hs : (si.at_ + t.length : Int) ≤ out.length
            · have HF : Asd (r = ((out.drop si.at_.toNat).take t.length == t)) := ⟨by rw [HX2.out, Bool.eq_iff_iff]; simp [fits, HT.out, hs]⟩
              have hsl : ∀ wx, (Instr.slice 9 (.string (S out)) (some (.int .i64 si.at_)) (some (.int .i64 (si.at_ + t.length))) none).run Try.prog wx = .ok (.string (S ((out.drop si.at_.toNat).take t.length))) wx := fun wx => by
                rw [run_slice_string wx 9 (S out) .i64 .i64 si.at_ (si.at_ + t.length) Try.underlying9 (by omega) (by omega) (by rw [S_size]; omega), S_extract]
                rw [show (si.at_ + t.length : Int).toNat - si.at_.toNat = t.length by omega]
              go_wp2
              go_quiet (fail)
              go_wp2
              go_ret
              exact ⟨by rw [HF.out]; rfl, by first | exact END.out _ HKr | exact (END.out _ HKr).drewN _ | exact (END.out _ HKr).drew⟩
            · have HF : Asd (r = false) := ⟨by rw [HX2.out]; simp [fits, HT.out, hs]⟩
              have hsf : decide ((si.at_ + t.length : Int) ≤ out.length) = false := decide_eq_false hs
              clear hs
              go_wp2
              go_quiet (fail)
              go_wp2
              go_ret
              exact ⟨by rw [HF.out]; rfl, by first | exact END.out _ HKr | exact (END.out _ HKr).drewN _ | exact (END.out _ HKr).drew⟩
        · have HF : Asd (r = false) := ⟨by rw [HX2.out]; simp [fits, ha]⟩
          have hfa : (a == si.at_) = false := beq_eq_false_iff_ne.2 ha
          clear ha
          go_wp2
          go_quiet (fail)
          go_wp2
          go_ret
          exact ⟨by rw [HF.out]; rfl, by first | exact END.out _ HKr | exact (END.out _ HKr).drewN _ | exact (END.out _ HKr).drew⟩
      by_cases h7 : k = 7
      · subst h7
        by_cases ha : a = si.at_
        · subst ha
          by_cases hg : b > si.at_
          · have hgt : decide (b > si.at_) = true := decide_eq_true hg
            have hgt2 : decide (si.at_ < b) = true := decide_eq_true hg
            by_cases hs : b ≤ (out.length : Int)
            · have HF : Asd (r = decide (si.gaps < strikes)) := ⟨by rw [HX2.out, Bool.eq_iff_iff]; simp [fits, hg, hs]; omega⟩
              go_wp2
              go_ret
              exact ⟨by rw [HF.out]; rfl, by first | exact END.out _ HKr | exact (END.out _ HKr).drewN _ | exact (END.out _ HKr).drew⟩
            · have HF : Asd (r = false) := ⟨by rw [HX2.out]; simp [fits, hs]⟩
              have hsf : decide (b ≤ (out.length : Int)) = false := decide_eq_false hs
              clear hs
              go_wp2
              go_ret
              exact ⟨by rw [HF.out]; rfl, by first | exact END.out _ HKr | exact (END.out _ HKr).drewN _ | exact (END.out _ HKr).drew⟩
          · have HF : Asd (r = false) := ⟨by rw [HX2.out]; simp [fits, hg]⟩
            have hgt : decide (b > si.at_) = false := decide_eq_false hg
            have hgt2 : decide (si.at_ < b) = false := decide_eq_false hg
            clear hg
            go_wp2
            go_ret
            exact ⟨by rw [HF.out]; rfl, by first | exact END.out _ HKr | exact (END.out _ HKr).drewN _ | exact (END.out _ HKr).drew⟩
        · have HF : Asd (r = false) := ⟨by rw [HX2.out]; simp [fits, ha]⟩
          have hfa : (a == si.at_) = false := beq_eq_false_iff_ne.2 ha
          clear ha
          go_wp2
          go_ret
          exact ⟨by rw [HF.out]; rfl, by first | exact END.out _ HKr | exact (END.out _ HKr).drewN _ | exact (END.out _ HKr).drew⟩
      have HF : Asd (r = true) := ⟨by rw [HX2.out]; simp [fits, h5, h6, h7]⟩
      have g6 : (k == 6) = false := beq_eq_false_iff_ne.2 h6
      have g7 : (k == 7) = false := beq_eq_false_iff_ne.2 h7
      clear h5 h6 h7
      go_wp2
      go_ret
      exact ⟨by rw [HF.out]; rfl, END.out _ HKr⟩
end
end Go.Proofs.Ytpphejjdgplalaa.Au
