/- The law MsgFrames: what its call comes to, for every input. -/
import Derived.Test.YtpphejjdgplalaaMsgTwo
import Derived.Deep.RegionHeld3
set_option linter.unusedVariables false
set_option linter.unusedSimpArgs false
namespace Go.Proofs.Ytpphejjdgplalaa.MgFrames
open Go.RowKit K Mg MgNum MgOf MgFr MgHead MgLawOf MgPut MgTwo
open Fr (fbytes fbytes_length)

theorem and3 (x : Int) : ∃ k : Nat, k ≤ 3 ∧ Go.bits .and .i64 x 3 = (k : Int) := by
  have h : (BitVec.ofInt 64 x &&& BitVec.ofInt 64 3).toNat ≤ 3 := by
    rw [BitVec.toNat_and]
    exact Nat.le_trans Nat.and_le_right (by decide)
  refine ⟨(BitVec.ofInt 64 x &&& BitVec.ofInt 64 3).toNat, h, ?_⟩
  show IntKind.i64.wrap (((BitVec.ofInt 64 x &&& BitVec.ofInt 64 3).toNat : Nat) : Int) = _
  exact w64i _ (by omega) (by omega)
set_option maxHeartbeats 8000000 in
set_option maxRecDepth 100000 in
theorem frames_walk (w : World) (k a b : Int) (t : List UInt8) (hl : t.length ≤ 9223372036854775807) (long : Int) (wl : (Lit.int .i64 long).wf = true) :
    Calls Try.prog 12 #[.agg #[.int .i64 k, .int .i64 a, .int .i64 b, .string (S t)], .int .i64 long] w fun e w' => e = .returned (.bool true) ∧ Upd (fun _ => False) w w' := by
  have HM0 := Asd.mk (heap_alloc_new w (.cells #[.int .i64 k, .int .i64 a, .int .i64 b, .string (S t)] 44))
  have HU0 := Asd.mk ((Upd.refl (fun _ => False) w).alloc (.cells #[.int .i64 k, .int .i64 a, .int .i64 b, .string (S t)] 44))
  clear wl
  go_enter Try.func12, Try.ntmps12
  go_wp2_with fail
  refine (MgHead.head_calls _).mono ?_
  rintro e wr ⟨rfl, hu⟩
  have HM := Asd.mk (hu.blk HM0.out (fun h => h))
  have HU := Asd.mk (HU0.out.trans hu (fun _ _ h => h))
  clear hu HM0 HU0
  have cx : wr.cell? ⟨w.heap.size, 3, none⟩ = some (.string (S t)) := by simp [World.cell?, HM.out]
  have zt : (S t).size = t.length := S_size t
  by_cases h300 : 300 < t.length
  · go_wp2
    go_ret
    exact ⟨rfl, HU.out⟩
  clear zt
  by_cases hlg : Go.bits .and .i64 long 3 = 3
  · have hlgb : (Go.bits .and .i64 long 3 == 3) = true := beq_iff_eq.2 hlg
    obtain ⟨jj, hjj, hand⟩ := and3 (long / 4)
    have ck : wr.cell? ⟨w.heap.size, 0, none⟩ = some (.int .i64 k) := by simp [World.cell?, HM.out]
    clear hlg
    go_wp2_with fail
    refine (has_calls k _).mono ?_
    obtain ⟨T, hT⟩ : ∃ T : Int, T = (if known k then (most k : Int) else -1) := ⟨_, rfl⟩
    have hT1 : -1 ≤ T := by rw [hT]; split <;> omega
    have hT2 : T ≤ 2042 := by rw [hT]; have := most_le k; split <;> omega
    obtain ⟨N0, hN0⟩ : ∃ N0 : Int, N0 = (if known k then (nums k : Int) else -1) := ⟨_, rfl⟩
    rw [← hT, ← hN0]
    clear hT hN0
    rintro e w1 ⟨rfl, hu⟩
    replace HM := Asd.mk (hu.blk HM.out (fun h => h))
    replace HU := Asd.mk (HU.out.trans hu (fun _ _ h => h))
    clear hu ck cx
    obtain ⟨Lm, hLm⟩ : ∃ Lm : Int, Lm = T - 1 + (jj : Int) := ⟨_, rfl⟩
    have hLm2 : Lm ≤ 2044 := by omega
    have hLm1 : -2 ≤ Lm := by omega
    obtain ⟨hwa, hwb⟩ := And.intro (w64i (T - 1) (by omega) (by omega)) (show IntKind.i64.wrap (T - 1 + (jj : Int)) = Lm by rw [w64i _ (by omega) (by omega), hLm])
    clear hLm
    go_wp2
    go_loopw [7] (fun v7 wr2 => ∃ (i : Nat) (Ab : Option Addr) (cb : Nat) (Gb : Option Nat), v7 = .slice Ab i cb ∧ i ≤ 2045 ∧ i ≤ cb ∧ cb ≤ maxLen ∧ Asd (Own wr2 5 1 (.slice Ab i cb) i (B (List.replicate i 120)) Gb) ∧ Asd (∀ g, Gb = some g → w1.heap.size ≤ g) ∧ Asd (Upd (fun _ => False) w1 wr2)) (fun v7 _ => 2045 - (match v7 with | .slice _ n _ => n | _ => 0))
    case atStart => exact ⟨0, some ⟨w1.heap.size, 0, none⟩, 0, some w1.heap.size, rfl, by omega, by omega, by simp [maxLen], ⟨Own.lit w1 _ 1 0 #[] (by simp [maxLen]) rfl⟩, ⟨fun g e => by obtain rfl := Option.some.inj e; exact Nat.le_refl _⟩, ⟨(Upd.refl _ _).alloc _⟩⟩
    case round =>
      obtain ⟨i, Ab, cb, Gb, rfl, hi, hic, hcm, HO, HG, HW⟩ := hrel
      by_cases hlt : (i : Int) < Lm
      · go_wp2_with (first | (with_reducible refine stop_append _ _ _ _ rfl ?_) | (with_reducible refine stop_copy _ _ _ _ rfl ?_) | (with_reducible refine stop_make _ _ _ rfl ?_) | (with_reducible refine stop_conv 27 9 _ rfl ?_))
        refine wp_appendF (S := fun _ => False) (w0 := w1) (by exact (by repeat (first | exact HW.out | refine Upd.drew ?_ | refine Upd.drewN ?_ _ | refine Upd.alloc ?_ _))) (i + 1) 5 (List.replicate i 120) [120] Gb Ab i cb (some ⟨wr.heap.size, 0, none⟩) 1 1 rfl _ _ 27 rfl Try.underlying27 info8 rfl rfl (HO.out.upd ((Upd.refl (fun _ => False) _).alloc _) (fun _ _ h => h)) HG.out (Rd.lit wr _ _ _ 1 _ rfl rfl (by omega)) rfl (by omega) ?_
        intro A5 c5 w5 G5 hc5 hm5 hO5 hG5 hu5 _ _
        rw [← List.replicate_succ'] at hO5
        have HO5 := Asd.mk hO5
        have HG5 := Asd.mk hG5
        have HU5 := Asd.mk hu5
        clear hO5 hG5 hu5 HO HG HW
        go_wp2
        go_roundw
        case rel => exact ⟨i + 1, A5, c5, G5, rfl, by omega, hc5, hm5, HO5, HG5, HU5⟩
        case measure => show 2045 - (i + 1) < 2045 - i; omega
      · have hMw := HW.out.blk HM.out (fun h => h)
        have cx : wr.cell? ⟨w.heap.size, 3, none⟩ = some (.string (S t)) := by simp [World.cell?, hMw]
        obtain ⟨t, ht⟩ : ∃ t2, t2 = List.replicate i (120 : UInt8) := ⟨_, rfl⟩
        have htl : t.length ≤ 2045 := by rw [ht, List.length_replicate]; exact hi
        have hs0 := run_str (P := Try.prog) (c := cb) Try.underlying27 Try.underlying5 Try.underlying9 HO.out.rd
        rw [← ht] at hs0
        have cz : wr.frozen? ⟨w.heap.size, 3, none⟩ = false := by simp [World.frozen?, hMw]
        replace HM := Asd.mk (show (wr.setCell ⟨w.heap.size, 3, none⟩ (.string (S t))).heap[w.heap.size]? = some (.cells #[.int .i64 k, .int .i64 a, .int .i64 b, .string (S t)] 44 (0, 0)) by rw [blk_setCell hMw]; rfl)
        replace HU := Asd.mk ((HU.out.trans HW.out (fun _ _ h => h)).setCell (p := ⟨w.heap.size, 3, none⟩) (fun e => by simp only at e; omega) (.string (S t)))
        clear ht hMw HO HG HW
        have c0 : (wr.setCell ⟨w.heap.size, 3, none⟩ (.string (S t))).cell? ⟨w.heap.size, 0, none⟩ = some (.int .i64 k) := by simp [World.cell?, HM.out]
        have c1 : (wr.setCell ⟨w.heap.size, 3, none⟩ (.string (S t))).cell? ⟨w.heap.size, 1, none⟩ = some (.int .i64 a) := by simp [World.cell?, HM.out]
        have c2 : (wr.setCell ⟨w.heap.size, 3, none⟩ (.string (S t))).cell? ⟨w.heap.size, 2, none⟩ = some (.int .i64 b) := by simp [World.cell?, HM.out]
        have c3 : (wr.setCell ⟨w.heap.size, 3, none⟩ (.string (S t))).cell? ⟨w.heap.size, 3, none⟩ = some (.string (S t)) := by simp [World.cell?, HM.out]
        have ht2 : t.length ≤ 1048576 := by omega
        go_wp2_with fail
        refine (frame_calls k a b t _).mono ?_
        rintro e w2 ⟨hu, hno, hyes⟩
        replace HM := Asd.mk (hu.blk HM.out (fun h => h))
        replace HU := Asd.mk (HU.out.trans hu (fun _ _ h => h))
        clear hu c0 c1 c2 c3
        cases hrt : right k a b t.length with
        | false =>
          obtain rfl := hno hrt
          have HRT := Asd.mk hrt
          clear hrt hno hyes
          obtain ⟨w3, hw3⟩ : ∃ w3, w3 = w2.alloc (.cells #[.int .u8 0, .slice none 0 0] 53) := ⟨_, rfl⟩
          have k3 : Upd (fun _ => False) w2 w3 := by rw [hw3]; exact (Upd.refl _ _).alloc _
          have HX3 : Asd (w3.heap[w2.heap.size]? = some (.cells #[.int .u8 0, .slice none 0 0] 53 (0, 0))) := ⟨by rw [hw3]; exact heap_alloc_new w2 _⟩
          have HM3 := Asd.mk (k3.blk HM.out (fun h => h))
          replace HU := Asd.mk (HU.out.trans k3 (fun _ _ h => h))
          have c0 : w3.cell? ⟨w.heap.size, 0, none⟩ = some (.int .i64 k) := by simp [World.cell?, HM3.out]
          have c1 : w3.cell? ⟨w.heap.size, 1, none⟩ = some (.int .i64 a) := by simp [World.cell?, HM3.out]
          have c2 : w3.cell? ⟨w.heap.size, 2, none⟩ = some (.int .i64 b) := by simp [World.cell?, HM3.out]
          have c3 : w3.cell? ⟨w.heap.size, 3, none⟩ = some (.string (S t)) := by simp [World.cell?, HM3.out]
          clear k3
          go_wp2
          (try rw [← hw3])
          clear hw3
          have hst : ∀ W, Upd (fun _ => False) w3 W → Asd (W.cell? ⟨w.heap.size, 0, none⟩ = some (.int .i64 k) ∧ W.cell? ⟨w.heap.size, 1, none⟩ = some (.int .i64 a) ∧ W.cell? ⟨w.heap.size, 2, none⟩ = some (.int .i64 b) ∧ W.cell? ⟨w.heap.size, 3, none⟩ = some (.string (S t))) := fun W h => ⟨h.cell c0 (fun h => h), h.cell c1 (fun h => h), h.cell c2 (fun h => h), h.cell c3 (fun h => h)⟩
          have HST := Asd.mk hst
          clear hst
          go_region_held3 (fun W => W.cell? ⟨w.heap.size, 0, none⟩ = some (.int .i64 k) ∧ W.cell? ⟨w.heap.size, 1, none⟩ = some (.int .i64 a) ∧ W.cell? ⟨w.heap.size, 2, none⟩ = some (.int .i64 b) ∧ W.cell? ⟨w.heap.size, 3, none⟩ = some (.string (S t)))
            (exact (HST.out _ (by repeat (first | exact HUn.out | exact Upd.refl _ _ | refine Upd.drewN ?_ _ | refine Upd.drew ?_ | refine Upd.alloc ?_ _))).out)
            (first
            | (go_at_call 37; refine (right_calls _ _ _ _ _).mono ?_; rw [S_size, HRT.out]; rintro e wn ⟨rfl, hu⟩; have HUn : Asd (Upd (fun _ => False) w3 wn) := ⟨Upd.trans (by repeat (first | exact HUn.out | exact Upd.refl _ _ | refine Upd.drewN ?_ _ | refine Upd.drew ?_ | refine Upd.alloc ?_ _)) hu (fun _ _ h => h)⟩; clear hu)
            | (go_at_call 32; refine (law_right_calls _ _ _ _ _).mono ?_; rw [S_size, HRT.out]; rintro e wn ⟨rfl, hu⟩; have HUn : Asd (Upd (fun _ => False) w3 wn) := ⟨Upd.trans (by repeat (first | exact HUn.out | exact Upd.refl _ _ | refine Upd.drewN ?_ _ | refine Upd.drew ?_ | refine Upd.alloc ?_ _)) hu (fun _ _ h => h)⟩; clear hu))
          clear HST
          all_goals
            have HX4 := Asd.mk (HUn.out.blk HX3.out (fun h => h))
            have HM4 := Asd.mk (HUn.out.blk HM3.out (fun h => h))
            replace HU := Asd.mk (HU.out.trans HUn.out (fun _ _ h => h))
            clear c0 c1 c2 c3 HUn
            have c0 : wn.cell? ⟨w.heap.size, 0, none⟩ = some (.int .i64 k) := by simp [World.cell?, HM4.out]
            have c1 : wn.cell? ⟨w.heap.size, 1, none⟩ = some (.int .i64 a) := by simp [World.cell?, HM4.out]
            have c2 : wn.cell? ⟨w.heap.size, 2, none⟩ = some (.int .i64 b) := by simp [World.cell?, HM4.out]
            have c3 : wn.cell? ⟨w.heap.size, 3, none⟩ = some (.string (S t)) := by simp [World.cell?, HM4.out]
            have kL := (Upd.refl (fun _ => False) wn).alloc (.cells #[.int .u8 1, .int .u8 2] 5)
            have e0 := kL.cell c0 (fun h => h)
            have e1 := kL.cell c1 (fun h => h)
            have e2 := kL.cell c2 (fun h => h)
            have e3 := kL.cell c3 (fun h => h)
            clear kL
            go_wp2_with fail
            refine (put_no _ k a b t _ HRT.out).mono ?_
            rintro e w6 ⟨rfl, hu⟩
            have kV := ((Upd.refl (fun _ => False) wn).alloc (.cells #[.int .u8 1, .int .u8 2] 5)).trans hu (fun _ _ h => h)
            have hR6 := (Rd.lit wn #[.int .u8 1, .int .u8 2] 5 (0, 0) 2 [1, 2] rfl rfl (by omega)).up hu
            have hs6 := run_str (P := Try.prog) (c := 2) Try.underlying27 Try.underlying5 Try.underlying9 hR6
            have hS : S [1, 2] = { data := #[1, 2] } := rfl
            rw [hS] at hs6
            have hX6 := kV.blk HX4.out (fun h => h)
            have f0 : w6.cell? ⟨w2.heap.size, 0, none⟩ = some (.int .u8 0) := by simp [World.cell?, hX6]
            have f1 : w6.cell? ⟨w2.heap.size, 1, none⟩ = some (.slice none 0 0) := by simp [World.cell?, hX6]
            replace HU := Asd.mk (HU.out.trans kV (fun _ _ h => h))
            clear hS hu kV hR6 hX6 c0 c1 c2 c3 e0 e1 e2 e3
            go_wp2
            go_ret
            exact ⟨rfl, HU.out⟩
        | true =>
          obtain ⟨A4, d4, G4, rfl, ho, hg, hd4, hm4⟩ := hyes hrt
          have HRT := Asd.mk hrt
          obtain ⟨hkn, htl, ha0, hb0, ha1, hb1, _, _⟩ := right_nat k a b t.length hrt
          obtain ⟨a, rfl⟩ : ∃ x : Nat, a = (x : Int) := ⟨a.toNat, by omega⟩
          obtain ⟨b, rfl⟩ : ∃ x : Nat, b = (x : Int) := ⟨b.toNat, by omega⟩
          obtain ⟨kind, hkk⟩ := kind_exists k hkn
          have hk15 : 1 ≤ k ∧ k ≤ 15 := of_decide_eq_true hkn
          have HKK := Asd.mk hkk
          have HKN := Asd.mk hkn
          have ha : a ≤ 1099511627776 := by omega
          have hb : b ≤ 1099511627776 := by omega
          have hku : IntKind.u8.wrap k = k := by simp only [IntKind.wrap, IntKind.signed, IntKind.bits]; simp; omega
          have hkm : k % 256 = k := by omega
          simp only [Int.toNat_natCast] at ho hd4
          obtain ⟨hi1, hi2, hi3, hi4⟩ := body_is k a b t hrt
          have hrf := room_for k
          have hbl0 := mbody_length k a b t
          obtain ⟨body, hbody⟩ : ∃ body, body = mbody k a b t := ⟨_, rfl⟩
          rw [← hbody] at hi1 hi2 hi3 hi4 ho hd4 hbl0
          have HI := Asd.mk (And.intro hi1 (And.intro hi2 (And.intro hi3 hi4)))
          have HBD := Asd.mk hbody
          have hbl : body.length ≤ 2048 := by omega
          obtain ⟨fb, hfb⟩ : ∃ fb, fb = fbytes kind body := ⟨_, rfl⟩
          have HFB := Asd.mk hfb
          obtain ⟨fl, hfl⟩ : ∃ fl, fl = fb.length := ⟨_, rfl⟩
          have HFL := Asd.mk hfl
          have HSZ := Asd.mk (show 5 + 6 * nums k + t.length = fl by rw [hfl, hfb, fbytes_length, hbl0]; omega)
          have hflb : fl ≤ 2053 := by rw [hfl, hfb, fbytes_length]; omega
          obtain ⟨Z, hZ⟩ : ∃ Z, Z = [1, 2] ++ mbytes (UInt8.ofNat k.toNat) a b t := ⟨_, rfl⟩
          have HZ := Asd.mk (show Z = [1, 2] ++ fb by rw [hZ, hfb, hbody, hkk]; simp [mbytes])
          have HZ0 := Asd.mk hZ
          have HO4 := Asd.mk ho.rd
          simp only [Int.toNat_natCast, ← hbody]
          clear hrt hno hyes ho hg hi1 hi2 hi3 hi4 hrf hbl0 hbody hfb hfl hZ hkk hkn htl ha0 hb0 ha1 hb1
          obtain ⟨w3, hw3⟩ : ∃ w3, w3 = w2.alloc (.cells #[.int .u8 k, .slice A4 body.length d4] 53) := ⟨_, rfl⟩
          have k3 : Upd (fun _ => False) w2 w3 := by rw [hw3]; exact (Upd.refl _ _).alloc _
          have HX3 : Asd (w3.heap[w2.heap.size]? = some (.cells #[.int .u8 k, .slice A4 body.length d4] 53 (0, 0))) := ⟨by rw [hw3]; exact heap_alloc_new w2 _⟩
          have HM3 := Asd.mk (k3.blk HM.out (fun h => h))
          replace HU := Asd.mk (HU.out.trans k3 (fun _ _ h => h))
          replace HO4 := Asd.mk (HO4.out.up k3)
          have c0 : w3.cell? ⟨w.heap.size, 0, none⟩ = some (.int .i64 k) := by simp [World.cell?, HM3.out]
          have c1 : w3.cell? ⟨w.heap.size, 1, none⟩ = some (.int .i64 (a : Int)) := by simp [World.cell?, HM3.out]
          have c2 : w3.cell? ⟨w.heap.size, 2, none⟩ = some (.int .i64 (b : Int)) := by simp [World.cell?, HM3.out]
          have c3 : w3.cell? ⟨w.heap.size, 3, none⟩ = some (.string (S t)) := by simp [World.cell?, HM3.out]
          clear k3 HM
          go_wp2
          (try rw [← hw3])
          clear hw3
          have hst : ∀ W, Upd (fun _ => False) w3 W → Asd (W.cell? ⟨w.heap.size, 0, none⟩ = some (.int .i64 k) ∧ W.cell? ⟨w.heap.size, 1, none⟩ = some (.int .i64 (a : Int)) ∧ W.cell? ⟨w.heap.size, 2, none⟩ = some (.int .i64 (b : Int)) ∧ W.cell? ⟨w.heap.size, 3, none⟩ = some (.string (S t))) := fun W h => ⟨h.cell c0 (fun h => h), h.cell c1 (fun h => h), h.cell c2 (fun h => h), h.cell c3 (fun h => h)⟩
          have HST := Asd.mk hst
          clear hst
          go_region_held3 (fun W => W.cell? ⟨w.heap.size, 0, none⟩ = some (.int .i64 k) ∧ W.cell? ⟨w.heap.size, 1, none⟩ = some (.int .i64 (a : Int)) ∧ W.cell? ⟨w.heap.size, 2, none⟩ = some (.int .i64 (b : Int)) ∧ W.cell? ⟨w.heap.size, 3, none⟩ = some (.string (S t)))
            (exact (HST.out _ (by repeat (first | exact HUn.out | exact Upd.refl _ _ | refine Upd.drewN ?_ _ | refine Upd.drew ?_ | refine Upd.alloc ?_ _))).out)
            (first
            | (go_at_call 37; refine (right_calls _ _ _ _ _).mono ?_; rw [S_size, HRT.out]; rintro e wn ⟨rfl, hu⟩; have HUn : Asd (Upd (fun _ => False) w3 wn) := ⟨Upd.trans (by repeat (first | exact HUn.out | exact Upd.refl _ _ | refine Upd.drewN ?_ _ | refine Upd.drew ?_ | refine Upd.alloc ?_ _)) hu (fun _ _ h => h)⟩; clear hu)
            | (go_at_call 32; refine (law_right_calls _ _ _ _ _).mono ?_; rw [S_size, HRT.out]; rintro e wn ⟨rfl, hu⟩; have HUn : Asd (Upd (fun _ => False) w3 wn) := ⟨Upd.trans (by repeat (first | exact HUn.out | exact Upd.refl _ _ | refine Upd.drewN ?_ _ | refine Upd.drew ?_ | refine Upd.alloc ?_ _)) hu (fun _ _ h => h)⟩; clear hu))
          clear HST
          all_goals
            have HX4 := Asd.mk (HUn.out.blk HX3.out (fun h => h))
            have HM4 := Asd.mk (HUn.out.blk HM3.out (fun h => h))
            replace HU := Asd.mk (HU.out.trans HUn.out (fun _ _ h => h))
            replace HO4 := Asd.mk (HO4.out.up HUn.out)
            clear c0 c1 c2 c3 HUn
            have c0 : wn.cell? ⟨w.heap.size, 0, none⟩ = some (.int .i64 k) := by simp [World.cell?, HM4.out]
            have c1 : wn.cell? ⟨w.heap.size, 1, none⟩ = some (.int .i64 (a : Int)) := by simp [World.cell?, HM4.out]
            have c2 : wn.cell? ⟨w.heap.size, 2, none⟩ = some (.int .i64 (b : Int)) := by simp [World.cell?, HM4.out]
            have c3 : wn.cell? ⟨w.heap.size, 3, none⟩ = some (.string (S t)) := by simp [World.cell?, HM4.out]
            have kL := (Upd.refl (fun _ => False) wn).alloc (.cells #[.int .u8 1, .int .u8 2] 5)
            have e0 := kL.cell c0 (fun h => h)
            have e1 := kL.cell c1 (fun h => h)
            have e2 := kL.cell c2 (fun h => h)
            have e3 := kL.cell c3 (fun h => h)
            go_wp2_with fail
            refine (put_calls (some ⟨wn.heap.size, 0, none⟩) 2 [1, 2] k (a : Int) (b : Int) t _ HRT.out (Rd.lit wn _ _ _ 2 _ rfl rfl (by omega)) (by simp)).mono ?_
            rw [Int.toNat_natCast, Int.toNat_natCast, ← HZ0.out]
            unfold Fr.PutPost
            rintro e w6 ⟨A6, d6, G6, rfl, ho6, hg6, hd6, _, hu⟩
            have kV := kL.trans hu (fun _ _ h => h)
            have HX6 := Asd.mk (kV.blk HX4.out (fun h => h))
            have HM6 := Asd.mk (kV.blk HM4.out (fun h => h))
            have HO6 := Asd.mk ho6.rd
            replace HO4 := Asd.mk (HO4.out.up kV)
            replace HU := Asd.mk (HU.out.trans kV (fun _ _ h => h))
            have f0 : w6.cell? ⟨w2.heap.size, 0, none⟩ = some (.int .u8 k) := by simp [World.cell?, HX6.out]
            have f1 : w6.cell? ⟨w2.heap.size, 1, none⟩ = some (.slice A4 body.length d4) := by simp [World.cell?, HX6.out]
            clear hu kV kL ho6 hg6 c0 c1 c2 c3 e0 e1 e2 e3 HX4 HM4
            have hof := of_calls kind A4 d4 body w6 HO4.out hd4 (by omega)
            unfold OfPost at hof
            rw [← HKK.out, HI.out.1, HI.out.2.1, HI.out.2.2.1, HI.out.2.2.2, if_pos rfl] at hof
            have HOF := Asd.mk hof
            clear hof
            go_wp2_with fail
            refine HOF.out.mono ?_
            rintro e w7 ⟨hu, rfl⟩
            obtain ⟨w8, hw8⟩ : ∃ w8, w8 = w7.alloc (.cells #[.int .i64 k, .int .i64 (a : Int), .int .i64 (b : Int), .string (S t)] 44) := ⟨_, rfl⟩
            have k8 : Upd (fun _ => False) w6 w8 := hu.trans (by rw [hw8]; exact (Upd.refl (fun _ => False) w7).alloc _) (fun _ _ h => h)
            have hY8 : w8.heap[w7.heap.size]? = some (.cells #[.int .i64 k, .int .i64 (a : Int), .int .i64 (b : Int), .string (S t)] 44 (0, 0)) := by rw [hw8]; exact heap_alloc_new w7 _
            have hX8 := k8.blk HX6.out (fun h => h)
            have hM8 := k8.blk HM6.out (fun h => h)
            replace HO4 := Asd.mk (HO4.out.up k8)
            replace HO6 := Asd.mk (HO6.out.up k8)
            replace HU := Asd.mk (HU.out.trans k8 (fun _ _ h => h))
            clear hu k8 f0 f1 HOF HX6 HM6
            have c0 : w8.cell? ⟨w.heap.size, 0, none⟩ = some (.int .i64 k) := by simp [World.cell?, hM8]
            have c1 : w8.cell? ⟨w.heap.size, 1, none⟩ = some (.int .i64 (a : Int)) := by simp [World.cell?, hM8]
            have c2 : w8.cell? ⟨w.heap.size, 2, none⟩ = some (.int .i64 (b : Int)) := by simp [World.cell?, hM8]
            have c3 : w8.cell? ⟨w.heap.size, 3, none⟩ = some (.string (S t)) := by simp [World.cell?, hM8]
            have x0 : w8.cell? ⟨w2.heap.size, 0, none⟩ = some (.int .u8 k) := by simp [World.cell?, hX8]
            have x1 : w8.cell? ⟨w2.heap.size, 1, none⟩ = some (.slice A4 body.length d4) := by simp [World.cell?, hX8]
            have y0 : w8.cell? ⟨w7.heap.size, 0, none⟩ = some (.int .i64 k) := by simp [World.cell?, hY8]
            have y1 : w8.cell? ⟨w7.heap.size, 1, none⟩ = some (.int .i64 (a : Int)) := by simp [World.cell?, hY8]
            have y2 : w8.cell? ⟨w7.heap.size, 2, none⟩ = some (.int .i64 (b : Int)) := by simp [World.cell?, hY8]
            have y3 : w8.cell? ⟨w7.heap.size, 3, none⟩ = some (.string (S t)) := by simp [World.cell?, hY8]
            clear hX8 hY8 hM8
            have hst : ∀ W, Upd (fun _ => False) w8 W → Asd (W.cell? ⟨w.heap.size, 0, none⟩ = some (.int .i64 k) ∧ W.cell? ⟨w.heap.size, 1, none⟩ = some (.int .i64 (a : Int)) ∧ W.cell? ⟨w.heap.size, 2, none⟩ = some (.int .i64 (b : Int)) ∧ W.cell? ⟨w.heap.size, 3, none⟩ = some (.string (S t))) := fun W h => ⟨h.cell c0 (fun h => h), h.cell c1 (fun h => h), h.cell c2 (fun h => h), h.cell c3 (fun h => h)⟩
            have HST := Asd.mk hst
            clear hst
            go_wp2
            (try rw [← hw8])
            clear hw8
            refine wp_region_held_drew (S := (fun W => W.cell? ⟨w.heap.size, 0, none⟩ = some (.int .i64 k) ∧ W.cell? ⟨w.heap.size, 1, none⟩ = some (.int .i64 (a : Int)) ∧ W.cell? ⟨w.heap.size, 2, none⟩ = some (.int .i64 (b : Int)) ∧ W.cell? ⟨w.heap.size, 3, none⟩ = some (.string (S t)))) (by kernel_rfl) (by ((first | exact (HST.out _ HUb.out).out | exact (HST.out _ HUa.out).out | exact (HST.out _ (Upd.refl _ _).drew).out))) (fun hHeld => ?_)
            refine wpAnyH_take (i := 0) (oi := ?_) (v := ?_) ?_ (by kernel_rfl) (by kernel_rfl) (by kernel_rfl) ?_ (Or.inl ⟨?_, ?_⟩) (by assumption) ?_
            rotate_left 2
            · (simp only [List.getElem?_toArray, List.getElem?_cons_succ, List.getElem?_cons_zero]; exact rfl)
            · exact (fun _ _ _ h => h)
            · rfl
            · (intro w hSw; (try dsimp only at hSw); go_simp; (try with_reducible rfl))
            try simp only [Act.put, List.setIfInBounds_toArray, List.set_cons_zero, List.set_cons_succ]
            refine wpAnyH_take (i := 1) (oi := ?_) (v := ?_) ?_ (by kernel_rfl) (by kernel_rfl) (by kernel_rfl) ?_ (Or.inl ⟨?_, ?_⟩) (by assumption) ?_
            rotate_left 2
            · (simp only [List.getElem?_toArray, List.getElem?_cons_succ, List.getElem?_cons_zero]; exact rfl)
            · exact (fun _ _ _ h => h)
            · rfl
            · (intro w hSw; (try dsimp only at hSw); go_simp; (try with_reducible rfl))
            try simp only [Act.put, List.setIfInBounds_toArray, List.set_cons_zero, List.set_cons_succ]
            refine wpAnyH_take (i := 2) (oi := ?_) (v := ?_) ?_ (by kernel_rfl) (by kernel_rfl) (by kernel_rfl) ?_ (Or.inl ⟨?_, ?_⟩) (by assumption) ?_
            rotate_left 2
            · (simp only [List.getElem?_toArray, List.getElem?_cons_succ, List.getElem?_cons_zero]; exact rfl)
            · exact (fun _ _ _ h => h)
            · rfl
            · (intro w hSw; (try dsimp only at hSw); go_simp; (try with_reducible rfl))
            try simp only [Act.put, List.setIfInBounds_toArray, List.set_cons_zero, List.set_cons_succ]
            refine wpAnyH_take (i := 3) (oi := ?_) (v := ?_) ?_ (by kernel_rfl) (by kernel_rfl) (by kernel_rfl) ?_ (Or.inl ⟨?_, ?_⟩) (by assumption) ?_
            rotate_left 2
            · (simp only [List.getElem?_toArray, List.getElem?_cons_succ, List.getElem?_cons_zero]; exact rfl)
            · exact (fun _ _ _ h => h)
            · rfl
            · (intro w hSw; (try dsimp only at hSw); go_simp; (try with_reducible rfl))
            try simp only [Act.put, List.setIfInBounds_toArray, List.set_cons_zero, List.set_cons_succ]
            refine wpAnyH_ready (rs := [4]) (by kernel_rfl) (by simp) (AllReadyH.cons (o := ?_) ?_ (fun K hK => ?_) AllReadyH.nil)
            rotate_left 1
            · (simp only [List.getElem?_toArray, List.getElem?_cons_succ, List.getElem?_cons_zero]; exact rfl)
            (go_simp; (go_at_call 33; refine (body_calls k a b t _ HKN.out ha hb ht2).mono ?_; unfold RowPost; rw [← HBD.out]; rintro e w9 ⟨A9, d9, G9, rfl, ho9, hg9, hd9, hm9, hu⟩; have HUa : Asd (Upd (fun _ => False) w8 w9) := ⟨Upd.trans (by repeat (first | exact Upd.refl _ _ | refine Upd.drewN ?_ _ | refine Upd.drew ?_ | refine Upd.alloc ?_ _)) hu (fun _ _ h => h)⟩; have HO9 := Asd.mk ho9.rd; clear ho9 hg9 hu))
            refine hK.out _ _ (by ((first | exact (HST.out _ HUb.out).out | exact (HST.out _ HUa.out).out | exact (HST.out _ (Upd.refl _ _).drew).out))) (fun hHeld => ?_)
            clear hK K
            try simp only [Act.put, List.setIfInBounds_toArray, List.set_cons_zero, List.set_cons_succ]
            refine wpAnyH_ready (rs := [5]) (by kernel_rfl) (by simp) (AllReadyH.cons (o := ?_) ?_ (fun K hK => ?_) AllReadyH.nil)
            rotate_left 1
            · (simp only [List.getElem?_toArray, List.getElem?_cons_succ, List.getElem?_cons_zero]; exact rfl)
            (go_simp; (go_at_call 38; have hbc := Fr.bytes_calls kind A9 d9 body w9 HO9.out (by omega); rw [← HKK.out, ← HFB.out] at hbc; refine hbc.mono ?_; unfold Fr.PutPost; rw [← HFL.out]; rintro e w10 ⟨A10, d10, G10, rfl, ho10, hg10, hd10, hm10, hu⟩; have HUb : Asd (Upd (fun _ => False) w8 w10) := ⟨HUa.out.trans hu (fun _ _ h => h)⟩; have HO10 := Asd.mk ho10.rd; clear ho10 hg10 hu))
            refine hK.out _ _ (by ((first | exact (HST.out _ HUb.out).out | exact (HST.out _ HUa.out).out | exact (HST.out _ (Upd.refl _ _).drew).out))) (fun hHeld => ?_)
            clear hK K
            try simp only [Act.put, List.setIfInBounds_toArray, List.set_cons_zero, List.set_cons_succ]
            refine wpAnyH_take (i := 6) (oi := ?_) (v := ?_) ?_ (by kernel_rfl) (by kernel_rfl) (by kernel_rfl) ?_ (Or.inl ⟨?_, ?_⟩) (by assumption) ?_
            rotate_left 2
            · (simp only [List.getElem?_toArray, List.getElem?_cons_succ, List.getElem?_cons_zero]; exact rfl)
            · exact (fun _ _ _ h => h)
            · rfl
            · (intro w hSw; (try dsimp only at hSw); go_simp; (try with_reducible rfl))
            try simp only [Act.put, List.setIfInBounds_toArray, List.set_cons_zero, List.set_cons_succ]
            refine wpAnyH_done (by kernel_rfl) ?_ _
            have hst : ∀ W, Upd (fun _ => False) w10 W → Asd (W.cell? ⟨w.heap.size, 0, none⟩ = some (.int .i64 k) ∧ W.cell? ⟨w.heap.size, 1, none⟩ = some (.int .i64 (a : Int)) ∧ W.cell? ⟨w.heap.size, 2, none⟩ = some (.int .i64 (b : Int)) ∧ W.cell? ⟨w.heap.size, 3, none⟩ = some (.string (S t)) ∧ W.cell? ⟨w2.heap.size, 0, none⟩ = some (.int .u8 k) ∧ W.cell? ⟨w2.heap.size, 1, none⟩ = some (.slice A4 body.length d4) ∧ W.cell? ⟨w7.heap.size, 0, none⟩ = some (.int .i64 k) ∧ W.cell? ⟨w7.heap.size, 1, none⟩ = some (.int .i64 (a : Int)) ∧ W.cell? ⟨w7.heap.size, 2, none⟩ = some (.int .i64 (b : Int)) ∧ W.cell? ⟨w7.heap.size, 3, none⟩ = some (.string (S t)) ∧ (convert 27 9 (.slice A4 body.length d4)).run Try.prog W = .ok (.string (S body)) W ∧ (convert 27 9 (.slice A6 Z.length d6)).run Try.prog W = .ok (.string (S Z)) W ∧ (convert 27 9 (.slice A10 fl d10)).run Try.prog W = .ok (.string (S fb)) W) := fun W h => (fun h8 => ⟨h8.cell c0 (fun h => h), h8.cell c1 (fun h => h), h8.cell c2 (fun h => h), h8.cell c3 (fun h => h), h8.cell x0 (fun h => h), h8.cell x1 (fun h => h), h8.cell y0 (fun h => h), h8.cell y1 (fun h => h), h8.cell y2 (fun h => h), h8.cell y3 (fun h => h), run_str Try.underlying27 Try.underlying5 Try.underlying9 (HO4.out.up h8), run_str Try.underlying27 Try.underlying5 Try.underlying9 (HO6.out.up h8), run_str Try.underlying27 Try.underlying5 Try.underlying9 (HO10.out.up h)⟩) (HUb.out.trans h (fun _ _ h => h))
            have HST2 := Asd.mk hst
            have hadd : Op.stringOp .add ({ data := #[1, 2] } : ByteArray) (S fb) = pure (.string (S Z)) := by rw [HZ.out]; exact str_add [1, 2] fb (by rw [← HFL.out]; simp only [List.length_cons, List.length_nil]; omega)
            replace HU := Asd.mk (HU.out.trans HUb.out (fun _ _ h => h))
            clear hst c0 c1 c2 c3 x0 x1 y0 y1 y2 y3 HST hbc HUb HUa HO9
            go_wp2
            refine wp_region_held_drew (S := (fun W => W.cell? ⟨w.heap.size, 0, none⟩ = some (.int .i64 k) ∧ W.cell? ⟨w.heap.size, 1, none⟩ = some (.int .i64 (a : Int)) ∧ W.cell? ⟨w.heap.size, 2, none⟩ = some (.int .i64 (b : Int)) ∧ W.cell? ⟨w.heap.size, 3, none⟩ = some (.string (S t)) ∧ W.cell? ⟨w2.heap.size, 0, none⟩ = some (.int .u8 k) ∧ W.cell? ⟨w2.heap.size, 1, none⟩ = some (.slice A4 body.length d4) ∧ W.cell? ⟨w7.heap.size, 0, none⟩ = some (.int .i64 k) ∧ W.cell? ⟨w7.heap.size, 1, none⟩ = some (.int .i64 (a : Int)) ∧ W.cell? ⟨w7.heap.size, 2, none⟩ = some (.int .i64 (b : Int)) ∧ W.cell? ⟨w7.heap.size, 3, none⟩ = some (.string (S t)) ∧ (convert 27 9 (.slice A4 body.length d4)).run Try.prog W = .ok (.string (S body)) W ∧ (convert 27 9 (.slice A6 Z.length d6)).run Try.prog W = .ok (.string (S Z)) W ∧ (convert 27 9 (.slice A10 fl d10)).run Try.prog W = .ok (.string (S fb)) W)) (by kernel_rfl) (by ((first | exact (HST2.out _ HUd.out).out | exact (HST2.out _ HUc.out).out | exact (HST2.out _ (Upd.refl _ _).drew).out))) (fun hHeld => ?_)
            refine wpAnyH_take (i := 0) (oi := ?_) (v := ?_) ?_ (by kernel_rfl) (by kernel_rfl) (by kernel_rfl) ?_ (Or.inl ⟨?_, ?_⟩) (by assumption) ?_
            rotate_left 2
            · (simp only [List.getElem?_toArray, List.getElem?_cons_succ, List.getElem?_cons_zero]; exact rfl)
            · exact (fun _ _ _ h => h)
            · rfl
            · (intro w hSw; (try dsimp only at hSw); go_simp; (try with_reducible rfl))
            try simp only [Act.put, List.setIfInBounds_toArray, List.set_cons_zero, List.set_cons_succ]
            refine wpAnyH_take (i := 1) (oi := ?_) (v := ?_) ?_ (by kernel_rfl) (by kernel_rfl) (by kernel_rfl) ?_ (Or.inl ⟨?_, ?_⟩) (by assumption) ?_
            rotate_left 2
            · (simp only [List.getElem?_toArray, List.getElem?_cons_succ, List.getElem?_cons_zero]; exact rfl)
            · exact (fun _ _ _ h => h)
            · rfl
            · (intro w hSw; (try dsimp only at hSw); go_simp; (try with_reducible rfl))
            try simp only [Act.put, List.setIfInBounds_toArray, List.set_cons_zero, List.set_cons_succ]
            refine wpAnyH_take (i := 2) (oi := ?_) (v := ?_) ?_ (by kernel_rfl) (by kernel_rfl) (by kernel_rfl) ?_ (Or.inl ⟨?_, ?_⟩) (by assumption) ?_
            rotate_left 2
            · (simp only [List.getElem?_toArray, List.getElem?_cons_succ, List.getElem?_cons_zero]; exact rfl)
            · exact (fun _ _ _ h => h)
            · rfl
            · (intro w hSw; (try dsimp only at hSw); go_simp; (try with_reducible rfl))
            try simp only [Act.put, List.setIfInBounds_toArray, List.set_cons_zero, List.set_cons_succ]
            refine wpAnyH_take (i := 3) (oi := ?_) (v := ?_) ?_ (by kernel_rfl) (by kernel_rfl) (by kernel_rfl) ?_ (Or.inl ⟨?_, ?_⟩) (by assumption) ?_
            rotate_left 2
            · (simp only [List.getElem?_toArray, List.getElem?_cons_succ, List.getElem?_cons_zero]; exact rfl)
            · exact (fun _ _ _ h => h)
            · rfl
            · (intro w hSw; (try dsimp only at hSw); go_simp; (try with_reducible rfl))
            try simp only [Act.put, List.setIfInBounds_toArray, List.set_cons_zero, List.set_cons_succ]
            refine wpAnyH_take (i := 4) (oi := ?_) (v := ?_) ?_ (by kernel_rfl) (by kernel_rfl) (by kernel_rfl) ?_ (Or.inl ⟨?_, ?_⟩) (by assumption) ?_
            rotate_left 2
            · (simp only [List.getElem?_toArray, List.getElem?_cons_succ, List.getElem?_cons_zero]; exact rfl)
            · exact (fun _ _ _ h => h)
            · rfl
            · (intro w hSw; (try dsimp only at hSw); go_simp; (try with_reducible rfl))
            try simp only [Act.put, List.setIfInBounds_toArray, List.set_cons_zero, List.set_cons_succ]
            refine wpAnyH_take (i := 5) (oi := ?_) (v := ?_) ?_ (by kernel_rfl) (by kernel_rfl) (by kernel_rfl) ?_ (Or.inl ⟨?_, ?_⟩) (by assumption) ?_
            rotate_left 2
            · (simp only [List.getElem?_toArray, List.getElem?_cons_succ, List.getElem?_cons_zero]; exact rfl)
            · exact (fun _ _ _ h => h)
            · rfl
            · (intro w hSw; (try dsimp only at hSw); go_simp; (try with_reducible rfl))
            try simp only [Act.put, List.setIfInBounds_toArray, List.set_cons_zero, List.set_cons_succ]
            refine wpAnyH_take (i := 6) (oi := ?_) (v := ?_) ?_ (by kernel_rfl) (by kernel_rfl) (by kernel_rfl) ?_ (Or.inl ⟨?_, ?_⟩) (by assumption) ?_
            rotate_left 2
            · (simp only [List.getElem?_toArray, List.getElem?_cons_succ, List.getElem?_cons_zero]; exact rfl)
            · exact (fun _ _ _ h => h)
            · rfl
            · (intro w hSw; (try dsimp only at hSw); go_simp; (try with_reducible rfl))
            try simp only [Act.put, List.setIfInBounds_toArray, List.set_cons_zero, List.set_cons_succ]
            refine wpAnyH_take (i := 7) (oi := ?_) (v := ?_) ?_ (by kernel_rfl) (by kernel_rfl) (by kernel_rfl) ?_ (Or.inl ⟨?_, ?_⟩) (by assumption) ?_
            rotate_left 2
            · (simp only [List.getElem?_toArray, List.getElem?_cons_succ, List.getElem?_cons_zero]; exact rfl)
            · exact (fun _ _ _ h => h)
            · rfl
            · (intro w hSw; (try dsimp only at hSw); go_simp; (try with_reducible rfl))
            try simp only [Act.put, List.setIfInBounds_toArray, List.set_cons_zero, List.set_cons_succ]
            refine wpAnyH_take (i := 8) (oi := ?_) (v := ?_) ?_ (by kernel_rfl) (by kernel_rfl) (by kernel_rfl) ?_ (Or.inl ⟨?_, ?_⟩) (by assumption) ?_
            rotate_left 2
            · (simp only [List.getElem?_toArray, List.getElem?_cons_succ, List.getElem?_cons_zero]; exact rfl)
            · exact (fun _ _ _ h => h)
            · rfl
            · (intro w hSw; (try dsimp only at hSw); go_simp; (try with_reducible rfl))
            try simp only [Act.put, List.setIfInBounds_toArray, List.set_cons_zero, List.set_cons_succ]
            refine wpAnyH_take (i := 9) (oi := ?_) (v := ?_) ?_ (by kernel_rfl) (by kernel_rfl) (by kernel_rfl) ?_ (Or.inl ⟨?_, ?_⟩) (by assumption) ?_
            rotate_left 2
            · (simp only [List.getElem?_toArray, List.getElem?_cons_succ, List.getElem?_cons_zero]; exact rfl)
            · exact (fun _ _ _ h => h)
            · rfl
            · (intro w hSw; (try dsimp only at hSw); go_simp; (try with_reducible rfl))
            try simp only [Act.put, List.setIfInBounds_toArray, List.set_cons_zero, List.set_cons_succ]
            refine wpAnyH_take (i := 10) (oi := ?_) (v := ?_) ?_ (by kernel_rfl) (by kernel_rfl) (by kernel_rfl) ?_ (Or.inl ⟨?_, ?_⟩) (by assumption) ?_
            rotate_left 2
            · (simp only [List.getElem?_toArray, List.getElem?_cons_succ, List.getElem?_cons_zero]; exact rfl)
            · exact (fun _ _ _ h => h)
            · rfl
            · (intro w hSw; (try dsimp only at hSw); go_simp; (try with_reducible rfl))
            try simp only [Act.put, List.setIfInBounds_toArray, List.set_cons_zero, List.set_cons_succ]
            refine wpAnyH_take (i := 11) (oi := ?_) (v := ?_) ?_ (by kernel_rfl) (by kernel_rfl) (by kernel_rfl) ?_ (Or.inl ⟨?_, ?_⟩) (by assumption) ?_
            rotate_left 2
            · (simp only [List.getElem?_toArray, List.getElem?_cons_succ, List.getElem?_cons_zero]; exact rfl)
            · exact (fun _ _ _ h => h)
            · rfl
            · (intro w hSw; (try dsimp only at hSw); go_simp; (try with_reducible rfl))
            try simp only [Act.put, List.setIfInBounds_toArray, List.set_cons_zero, List.set_cons_succ]
            refine wpAnyH_take (i := 12) (oi := ?_) (v := ?_) ?_ (by kernel_rfl) (by kernel_rfl) (by kernel_rfl) ?_ (Or.inl ⟨?_, ?_⟩) (by assumption) ?_
            rotate_left 2
            · (simp only [List.getElem?_toArray, List.getElem?_cons_succ, List.getElem?_cons_zero]; exact rfl)
            · exact (fun _ _ _ h => h)
            · rfl
            · (intro w hSw; (try dsimp only at hSw); go_simp; (try with_reducible rfl))
            try simp only [Act.put, List.setIfInBounds_toArray, List.set_cons_zero, List.set_cons_succ]
            refine wpAnyH_take (i := 13) (oi := ?_) (v := ?_) ?_ (by kernel_rfl) (by kernel_rfl) (by kernel_rfl) ?_ (Or.inl ⟨?_, ?_⟩) (by assumption) ?_
            rotate_left 2
            · (simp only [List.getElem?_toArray, List.getElem?_cons_succ, List.getElem?_cons_zero]; exact rfl)
            · exact (fun _ _ _ h => h)
            · rfl
            · (intro w hSw; (try dsimp only at hSw); go_simp; (try with_reducible rfl))
            try simp only [Act.put, List.setIfInBounds_toArray, List.set_cons_zero, List.set_cons_succ]
            refine wpAnyH_take (i := 14) (oi := ?_) (v := ?_) ?_ (by kernel_rfl) (by kernel_rfl) (by kernel_rfl) ?_ (Or.inl ⟨?_, ?_⟩) (by assumption) ?_
            rotate_left 2
            · (simp only [List.getElem?_toArray, List.getElem?_cons_succ, List.getElem?_cons_zero]; exact rfl)
            · exact (fun _ _ _ h => h)
            · rfl
            · (intro w hSw; (try dsimp only at hSw); go_simp; (try with_reducible rfl))
            try simp only [Act.put, List.setIfInBounds_toArray, List.set_cons_zero, List.set_cons_succ]
            refine wpAnyH_take (i := 15) (oi := ?_) (v := ?_) ?_ (by kernel_rfl) (by kernel_rfl) (by kernel_rfl) ?_ (Or.inl ⟨?_, ?_⟩) (by assumption) ?_
            rotate_left 2
            · (simp only [List.getElem?_toArray, List.getElem?_cons_succ, List.getElem?_cons_zero]; exact rfl)
            · exact (fun _ _ _ h => h)
            · rfl
            · (intro w hSw; (try dsimp only at hSw); go_simp; (try with_reducible rfl))
            try simp only [Act.put, List.setIfInBounds_toArray, List.set_cons_zero, List.set_cons_succ]
            refine wpAnyH_take (i := 16) (oi := ?_) (v := ?_) ?_ (by kernel_rfl) (by kernel_rfl) (by kernel_rfl) ?_ (Or.inl ⟨?_, ?_⟩) (by assumption) ?_
            rotate_left 2
            · (simp only [List.getElem?_toArray, List.getElem?_cons_succ, List.getElem?_cons_zero]; exact rfl)
            · exact (fun _ _ _ h => h)
            · rfl
            · (intro w hSw; (try dsimp only at hSw); go_simp; (try with_reducible rfl))
            try simp only [Act.put, List.setIfInBounds_toArray, List.set_cons_zero, List.set_cons_succ]
            refine wpAnyH_take (i := 17) (oi := ?_) (v := ?_) ?_ (by kernel_rfl) (by kernel_rfl) (by kernel_rfl) ?_ (Or.inl ⟨?_, ?_⟩) (by assumption) ?_
            rotate_left 2
            · (simp only [List.getElem?_toArray, List.getElem?_cons_succ, List.getElem?_cons_zero]; exact rfl)
            · exact (fun _ _ _ h => h)
            · rfl
            · (intro w hSw; (try dsimp only at hSw); go_simp; (try with_reducible rfl))
            try simp only [Act.put, List.setIfInBounds_toArray, List.set_cons_zero, List.set_cons_succ]
            refine wpAnyH_take (i := 18) (oi := ?_) (v := ?_) ?_ (by kernel_rfl) (by kernel_rfl) (by kernel_rfl) ?_ (Or.inl ⟨?_, ?_⟩) (by assumption) ?_
            rotate_left 2
            · (simp only [List.getElem?_toArray, List.getElem?_cons_succ, List.getElem?_cons_zero]; exact rfl)
            · exact (fun _ _ _ h => h)
            · rfl
            · (intro w hSw; (try dsimp only at hSw); go_simp; (try with_reducible rfl))
            try simp only [Act.put, List.setIfInBounds_toArray, List.set_cons_zero, List.set_cons_succ]
            refine wpAnyH_ready (rs := [19]) (by kernel_rfl) (by simp) (AllReadyH.cons (o := ?_) ?_ (fun K hK => ?_) AllReadyH.nil)
            rotate_left 1
            · (simp only [List.getElem?_toArray, List.getElem?_cons_succ, List.getElem?_cons_zero]; exact rfl)
            (go_simp; (go_at_call 33; refine (body_calls k a b t _ HKN.out ha hb ht2).mono ?_; unfold RowPost; rw [← HBD.out]; rintro e w11 ⟨A11, d11, G11, rfl, ho11, hg11, hd11, hm11, hu⟩; have HUc : Asd (Upd (fun _ => False) w10 w11) := ⟨Upd.trans (by repeat (first | exact Upd.refl _ _ | refine Upd.drewN ?_ _ | refine Upd.drew ?_ | refine Upd.alloc ?_ _)) hu (fun _ _ h => h)⟩; have hsR := run_str (P := Try.prog) (c := d11) Try.underlying27 Try.underlying5 Try.underlying9 ho11.rd; clear ho11 hg11 hu))
            refine hK.out _ _ (by ((first | exact (HST2.out _ HUd.out).out | exact (HST2.out _ HUc.out).out | exact (HST2.out _ (Upd.refl _ _).drew).out))) (fun hHeld => ?_)
            clear hK K
            try simp only [Act.put, List.setIfInBounds_toArray, List.set_cons_zero, List.set_cons_succ]
            refine wpAnyH_ready (rs := [20]) (by kernel_rfl) (by simp) (AllReadyH.cons (o := ?_) ?_ (fun K hK => ?_) AllReadyH.nil)
            rotate_left 1
            · (simp only [List.getElem?_toArray, List.getElem?_cons_succ, List.getElem?_cons_zero]; exact rfl)
            go_simp
            refine hK.out _ _ (by ((first | exact (HST2.out _ HUd.out).out | exact (HST2.out _ HUc.out).out | exact (HST2.out _ (Upd.refl _ _).drew).out))) (fun hHeld => ?_)
            clear hK K
            try simp only [Act.put, List.setIfInBounds_toArray, List.set_cons_zero, List.set_cons_succ]
            refine wpAnyH_take (i := 21) (oi := ?_) (v := ?_) ?_ (by kernel_rfl) (by kernel_rfl) (by kernel_rfl) ?_ (Or.inl ⟨?_, ?_⟩) (by assumption) ?_
            rotate_left 2
            · (simp only [List.getElem?_toArray, List.getElem?_cons_succ, List.getElem?_cons_zero]; exact rfl)
            · exact (fun _ _ _ h => h)
            · rfl
            · (intro w hSw; (try dsimp only at hSw); go_simp; (try with_reducible rfl))
            try simp only [Act.put, List.setIfInBounds_toArray, List.set_cons_zero, List.set_cons_succ]
            refine wpAnyH_take (i := 22) (oi := ?_) (v := ?_) ?_ (by kernel_rfl) (by kernel_rfl) (by kernel_rfl) ?_ (Or.inl ⟨?_, ?_⟩) (by assumption) ?_
            rotate_left 2
            · (simp only [List.getElem?_toArray, List.getElem?_cons_succ, List.getElem?_cons_zero]; exact rfl)
            · exact (fun _ _ _ h => h)
            · rfl
            · (intro w hSw; (try dsimp only at hSw); go_simp; (try with_reducible rfl))
            try simp only [Act.put, List.setIfInBounds_toArray, List.set_cons_zero, List.set_cons_succ]
            refine wpAnyH_take (i := 23) (oi := ?_) (v := ?_) ?_ (by kernel_rfl) (by kernel_rfl) (by kernel_rfl) ?_ (Or.inl ⟨?_, ?_⟩) (by assumption) ?_
            rotate_left 2
            · (simp only [List.getElem?_toArray, List.getElem?_cons_succ, List.getElem?_cons_zero]; exact rfl)
            · exact (fun _ _ _ h => h)
            · rfl
            · (intro w hSw; (try dsimp only at hSw); go_simp; (try with_reducible rfl))
            try simp only [Act.put, List.setIfInBounds_toArray, List.set_cons_zero, List.set_cons_succ]
            refine wpAnyH_take (i := 24) (oi := ?_) (v := ?_) ?_ (by kernel_rfl) (by kernel_rfl) (by kernel_rfl) ?_ (Or.inl ⟨?_, ?_⟩) (by assumption) ?_
            rotate_left 2
            · (simp only [List.getElem?_toArray, List.getElem?_cons_succ, List.getElem?_cons_zero]; exact rfl)
            · exact (fun _ _ _ h => h)
            · rfl
            · (intro w hSw; (try dsimp only at hSw); go_simp; (try with_reducible rfl))
            try simp only [Act.put, List.setIfInBounds_toArray, List.set_cons_zero, List.set_cons_succ]
            refine wpAnyH_take (i := 25) (oi := ?_) (v := ?_) ?_ (by kernel_rfl) (by kernel_rfl) (by kernel_rfl) ?_ (Or.inl ⟨?_, ?_⟩) (by assumption) ?_
            rotate_left 2
            · (simp only [List.getElem?_toArray, List.getElem?_cons_succ, List.getElem?_cons_zero]; exact rfl)
            · exact (fun _ _ _ h => h)
            · rfl
            · (intro w hSw; (try dsimp only at hSw); go_simp; (try with_reducible rfl))
            try simp only [Act.put, List.setIfInBounds_toArray, List.set_cons_zero, List.set_cons_succ]
            refine wpAnyH_take (i := 26) (oi := ?_) (v := ?_) ?_ (by kernel_rfl) (by kernel_rfl) (by kernel_rfl) ?_ (Or.inl ⟨?_, ?_⟩) (by assumption) ?_
            rotate_left 2
            · (simp only [List.getElem?_toArray, List.getElem?_cons_succ, List.getElem?_cons_zero]; exact rfl)
            · exact (fun _ _ _ h => h)
            · rfl
            · (intro w hSw; (try dsimp only at hSw); go_simp; (try with_reducible rfl))
            try simp only [Act.put, List.setIfInBounds_toArray, List.set_cons_zero, List.set_cons_succ]
            refine wpAnyH_take (i := 27) (oi := ?_) (v := ?_) ?_ (by kernel_rfl) (by kernel_rfl) (by kernel_rfl) ?_ (Or.inl ⟨?_, ?_⟩) (by assumption) ?_
            rotate_left 2
            · (simp only [List.getElem?_toArray, List.getElem?_cons_succ, List.getElem?_cons_zero]; exact rfl)
            · exact (fun _ _ _ h => h)
            · rfl
            · (intro w hSw; (try dsimp only at hSw); go_simp; (try with_reducible rfl))
            try simp only [Act.put, List.setIfInBounds_toArray, List.set_cons_zero, List.set_cons_succ]
            refine wpAnyH_take (i := 28) (oi := ?_) (v := ?_) ?_ (by kernel_rfl) (by kernel_rfl) (by kernel_rfl) ?_ (Or.inl ⟨?_, ?_⟩) (by assumption) ?_
            rotate_left 2
            · (simp only [List.getElem?_toArray, List.getElem?_cons_succ, List.getElem?_cons_zero]; exact rfl)
            · exact (fun _ _ _ h => h)
            · rfl
            · (intro w hSw; (try dsimp only at hSw); go_simp; (try with_reducible rfl))
            try simp only [Act.put, List.setIfInBounds_toArray, List.set_cons_zero, List.set_cons_succ]
            refine wpAnyH_take (i := 29) (oi := ?_) (v := ?_) ?_ (by kernel_rfl) (by kernel_rfl) (by kernel_rfl) ?_ (Or.inl ⟨?_, ?_⟩) (by assumption) ?_
            rotate_left 2
            · (simp only [List.getElem?_toArray, List.getElem?_cons_succ, List.getElem?_cons_zero]; exact rfl)
            · exact (fun _ _ _ h => h)
            · rfl
            · (intro w hSw; (try dsimp only at hSw); go_simp; (try with_reducible rfl))
            try simp only [Act.put, List.setIfInBounds_toArray, List.set_cons_zero, List.set_cons_succ]
            refine wpAnyH_take (i := 30) (oi := ?_) (v := ?_) ?_ (by kernel_rfl) (by kernel_rfl) (by kernel_rfl) ?_ (Or.inl ⟨?_, ?_⟩) (by assumption) ?_
            rotate_left 2
            · (simp only [List.getElem?_toArray, List.getElem?_cons_succ, List.getElem?_cons_zero]; exact rfl)
            · exact (fun _ _ _ h => h)
            · rfl
            · (intro w hSw; (try dsimp only at hSw); go_simp; (try with_reducible rfl))
            try simp only [Act.put, List.setIfInBounds_toArray, List.set_cons_zero, List.set_cons_succ]
            refine wpAnyH_take (i := 31) (oi := ?_) (v := ?_) ?_ (by kernel_rfl) (by kernel_rfl) (by kernel_rfl) ?_ (Or.inl ⟨?_, ?_⟩) (by assumption) ?_
            rotate_left 2
            · (simp only [List.getElem?_toArray, List.getElem?_cons_succ, List.getElem?_cons_zero]; exact rfl)
            · exact (fun _ _ _ h => h)
            · rfl
            · (intro w hSw; (try dsimp only at hSw); go_simp; (try with_reducible rfl))
            try simp only [Act.put, List.setIfInBounds_toArray, List.set_cons_zero, List.set_cons_succ]
            refine wpAnyH_take (i := 32) (oi := ?_) (v := ?_) ?_ (by kernel_rfl) (by kernel_rfl) (by kernel_rfl) ?_ (Or.inl ⟨?_, ?_⟩) (by assumption) ?_
            rotate_left 2
            · (simp only [List.getElem?_toArray, List.getElem?_cons_succ, List.getElem?_cons_zero]; exact rfl)
            · exact (fun _ _ _ h => h)
            · rfl
            · (intro w hSw; (try dsimp only at hSw); go_simp; (try with_reducible rfl))
            try simp only [Act.put, List.setIfInBounds_toArray, List.set_cons_zero, List.set_cons_succ]
            refine wpAnyH_take (i := 34) (oi := ?_) (v := ?_) ?_ (by kernel_rfl) (by kernel_rfl) (by kernel_rfl) ?_ (Or.inl ⟨?_, ?_⟩) (by assumption) ?_
            rotate_left 2
            · (simp only [List.getElem?_toArray, List.getElem?_cons_succ, List.getElem?_cons_zero]; exact rfl)
            · exact (fun _ _ _ h => h)
            · rfl
            · (intro w hSw; (try dsimp only at hSw); go_simp; (try with_reducible rfl))
            try simp only [Act.put, List.setIfInBounds_toArray, List.set_cons_zero, List.set_cons_succ]
            refine wpAnyH_take (i := 35) (oi := ?_) (v := ?_) ?_ (by kernel_rfl) (by kernel_rfl) (by kernel_rfl) ?_ (Or.inl ⟨?_, ?_⟩) (by assumption) ?_
            rotate_left 2
            · (simp only [List.getElem?_toArray, List.getElem?_cons_succ, List.getElem?_cons_zero]; exact rfl)
            · exact (fun _ _ _ h => h)
            · rfl
            · (intro w hSw; (try dsimp only at hSw); go_simp; (try with_reducible rfl))
            try simp only [Act.put, List.setIfInBounds_toArray, List.set_cons_zero, List.set_cons_succ]
            refine wpAnyH_ready (rs := [33]) (by kernel_rfl) (by simp) (AllReadyH.cons (o := ?_) ?_ (fun K hK => ?_) AllReadyH.nil)
            rotate_left 1
            · (simp only [List.getElem?_toArray, List.getElem?_cons_succ, List.getElem?_cons_zero]; exact rfl)
            (go_simp; (go_at_call 28; refine (size_calls k (a : Int) (b : Int) t _ ht2).mono ?_; rw [HSZ.out]; rintro e w12 ⟨rfl, hu⟩; have HUd : Asd (Upd (fun _ => False) w10 w12) := ⟨HUc.out.trans hu (fun _ _ h => h)⟩; clear hu))
            refine hK.out _ _ (by ((first | exact (HST2.out _ HUd.out).out | exact (HST2.out _ HUc.out).out | exact (HST2.out _ (Upd.refl _ _).drew).out))) (fun hHeld => ?_)
            clear hK K
            try simp only [Act.put, List.setIfInBounds_toArray, List.set_cons_zero, List.set_cons_succ]
            refine wpAnyH_take (i := 36) (oi := ?_) (v := ?_) ?_ (by kernel_rfl) (by kernel_rfl) (by kernel_rfl) ?_ (Or.inl ⟨?_, ?_⟩) (by assumption) ?_
            rotate_left 2
            · (simp only [List.getElem?_toArray, List.getElem?_cons_succ, List.getElem?_cons_zero]; exact rfl)
            · exact (fun _ _ _ h => h)
            · rfl
            · (intro w hSw; (try dsimp only at hSw); go_simp; (try with_reducible rfl))
            try simp only [Act.put, List.setIfInBounds_toArray, List.set_cons_zero, List.set_cons_succ]
            refine wpAnyH_take (i := 37) (oi := ?_) (v := ?_) ?_ (by kernel_rfl) (by kernel_rfl) (by kernel_rfl) ?_ (Or.inl ⟨?_, ?_⟩) (by assumption) ?_
            rotate_left 2
            · (simp only [List.getElem?_toArray, List.getElem?_cons_succ, List.getElem?_cons_zero]; exact rfl)
            · exact (fun _ _ _ h => h)
            · rfl
            · (intro w hSw; (try dsimp only at hSw); go_simp; (try with_reducible rfl))
            try simp only [Act.put, List.setIfInBounds_toArray, List.set_cons_zero, List.set_cons_succ]
            refine wpAnyH_take (i := 38) (oi := ?_) (v := ?_) ?_ (by kernel_rfl) (by kernel_rfl) (by kernel_rfl) ?_ (Or.inl ⟨?_, ?_⟩) (by assumption) ?_
            rotate_left 2
            · (simp only [List.getElem?_toArray, List.getElem?_cons_succ, List.getElem?_cons_zero]; exact rfl)
            · exact (fun _ _ _ h => h)
            · rfl
            · (intro w hSw; (try dsimp only at hSw); go_simp; (try with_reducible rfl))
            try simp only [Act.put, List.setIfInBounds_toArray, List.set_cons_zero, List.set_cons_succ]
            refine wpAnyH_done (by kernel_rfl) ?_ _
            go_wp2
            go_ret
            exact ⟨by simp, HU.out.trans HUd.out (fun _ _ h => h)⟩
  have hlgb : (Go.bits .and .i64 long 3 == 3) = false := beq_eq_false_iff_ne.2 hlg
  clear hlg cx
  have c0 : wr.cell? ⟨w.heap.size, 0, none⟩ = some (.int .i64 k) := by simp [World.cell?, HM.out]
  have c1 : wr.cell? ⟨w.heap.size, 1, none⟩ = some (.int .i64 a) := by simp [World.cell?, HM.out]
  have c2 : wr.cell? ⟨w.heap.size, 2, none⟩ = some (.int .i64 b) := by simp [World.cell?, HM.out]
  have c3 : wr.cell? ⟨w.heap.size, 3, none⟩ = some (.string (S t)) := by simp [World.cell?, HM.out]
  have ht2 : t.length ≤ 1048576 := by omega
  go_wp2_with fail
  refine (frame_calls k a b t _).mono ?_
  rintro e w2 ⟨hu, hno, hyes⟩
  replace HM := Asd.mk (hu.blk HM.out (fun h => h))
  replace HU := Asd.mk (HU.out.trans hu (fun _ _ h => h))
  clear hu c0 c1 c2 c3
  cases hrt : right k a b t.length with
  | false =>
    obtain rfl := hno hrt
    have HRT := Asd.mk hrt
    clear hrt hno hyes
    obtain ⟨w3, hw3⟩ : ∃ w3, w3 = w2.alloc (.cells #[.int .u8 0, .slice none 0 0] 53) := ⟨_, rfl⟩
    have k3 : Upd (fun _ => False) w2 w3 := by rw [hw3]; exact (Upd.refl _ _).alloc _
    have HX3 : Asd (w3.heap[w2.heap.size]? = some (.cells #[.int .u8 0, .slice none 0 0] 53 (0, 0))) := ⟨by rw [hw3]; exact heap_alloc_new w2 _⟩
    have HM3 := Asd.mk (k3.blk HM.out (fun h => h))
    replace HU := Asd.mk (HU.out.trans k3 (fun _ _ h => h))
    have c0 : w3.cell? ⟨w.heap.size, 0, none⟩ = some (.int .i64 k) := by simp [World.cell?, HM3.out]
    have c1 : w3.cell? ⟨w.heap.size, 1, none⟩ = some (.int .i64 a) := by simp [World.cell?, HM3.out]
    have c2 : w3.cell? ⟨w.heap.size, 2, none⟩ = some (.int .i64 b) := by simp [World.cell?, HM3.out]
    have c3 : w3.cell? ⟨w.heap.size, 3, none⟩ = some (.string (S t)) := by simp [World.cell?, HM3.out]
    clear k3
    go_wp2
    (try rw [← hw3])
    clear hw3
    have hst : ∀ W, Upd (fun _ => False) w3 W → Asd (W.cell? ⟨w.heap.size, 0, none⟩ = some (.int .i64 k) ∧ W.cell? ⟨w.heap.size, 1, none⟩ = some (.int .i64 a) ∧ W.cell? ⟨w.heap.size, 2, none⟩ = some (.int .i64 b) ∧ W.cell? ⟨w.heap.size, 3, none⟩ = some (.string (S t))) := fun W h => ⟨h.cell c0 (fun h => h), h.cell c1 (fun h => h), h.cell c2 (fun h => h), h.cell c3 (fun h => h)⟩
    have HST := Asd.mk hst
    clear hst
    go_region_held3 (fun W => W.cell? ⟨w.heap.size, 0, none⟩ = some (.int .i64 k) ∧ W.cell? ⟨w.heap.size, 1, none⟩ = some (.int .i64 a) ∧ W.cell? ⟨w.heap.size, 2, none⟩ = some (.int .i64 b) ∧ W.cell? ⟨w.heap.size, 3, none⟩ = some (.string (S t)))
      (exact (HST.out _ (by repeat (first | exact HUn.out | exact Upd.refl _ _ | refine Upd.drewN ?_ _ | refine Upd.drew ?_ | refine Upd.alloc ?_ _))).out)
      (first
      | (go_at_call 37; refine (right_calls _ _ _ _ _).mono ?_; rw [S_size, HRT.out]; rintro e wn ⟨rfl, hu⟩; have HUn : Asd (Upd (fun _ => False) w3 wn) := ⟨Upd.trans (by repeat (first | exact HUn.out | exact Upd.refl _ _ | refine Upd.drewN ?_ _ | refine Upd.drew ?_ | refine Upd.alloc ?_ _)) hu (fun _ _ h => h)⟩; clear hu)
      | (go_at_call 32; refine (law_right_calls _ _ _ _ _).mono ?_; rw [S_size, HRT.out]; rintro e wn ⟨rfl, hu⟩; have HUn : Asd (Upd (fun _ => False) w3 wn) := ⟨Upd.trans (by repeat (first | exact HUn.out | exact Upd.refl _ _ | refine Upd.drewN ?_ _ | refine Upd.drew ?_ | refine Upd.alloc ?_ _)) hu (fun _ _ h => h)⟩; clear hu))
    clear HST
    all_goals
      have HX4 := Asd.mk (HUn.out.blk HX3.out (fun h => h))
      have HM4 := Asd.mk (HUn.out.blk HM3.out (fun h => h))
      replace HU := Asd.mk (HU.out.trans HUn.out (fun _ _ h => h))
      clear c0 c1 c2 c3 HUn
      have c0 : wn.cell? ⟨w.heap.size, 0, none⟩ = some (.int .i64 k) := by simp [World.cell?, HM4.out]
      have c1 : wn.cell? ⟨w.heap.size, 1, none⟩ = some (.int .i64 a) := by simp [World.cell?, HM4.out]
      have c2 : wn.cell? ⟨w.heap.size, 2, none⟩ = some (.int .i64 b) := by simp [World.cell?, HM4.out]
      have c3 : wn.cell? ⟨w.heap.size, 3, none⟩ = some (.string (S t)) := by simp [World.cell?, HM4.out]
      have kL := (Upd.refl (fun _ => False) wn).alloc (.cells #[.int .u8 1, .int .u8 2] 5)
      have e0 := kL.cell c0 (fun h => h)
      have e1 := kL.cell c1 (fun h => h)
      have e2 := kL.cell c2 (fun h => h)
      have e3 := kL.cell c3 (fun h => h)
      clear kL
      go_wp2_with fail
      refine (put_no _ k a b t _ HRT.out).mono ?_
      rintro e w6 ⟨rfl, hu⟩
      have kV := ((Upd.refl (fun _ => False) wn).alloc (.cells #[.int .u8 1, .int .u8 2] 5)).trans hu (fun _ _ h => h)
      have hR6 := (Rd.lit wn #[.int .u8 1, .int .u8 2] 5 (0, 0) 2 [1, 2] rfl rfl (by omega)).up hu
      have hs6 := run_str (P := Try.prog) (c := 2) Try.underlying27 Try.underlying5 Try.underlying9 hR6
      have hS : S [1, 2] = { data := #[1, 2] } := rfl
      rw [hS] at hs6
      have hX6 := kV.blk HX4.out (fun h => h)
      have f0 : w6.cell? ⟨w2.heap.size, 0, none⟩ = some (.int .u8 0) := by simp [World.cell?, hX6]
      have f1 : w6.cell? ⟨w2.heap.size, 1, none⟩ = some (.slice none 0 0) := by simp [World.cell?, hX6]
      replace HU := Asd.mk (HU.out.trans kV (fun _ _ h => h))
      clear hS hu kV hR6 hX6 c0 c1 c2 c3 e0 e1 e2 e3
      go_wp2
      go_ret
      exact ⟨rfl, HU.out⟩
  | true =>
    obtain ⟨A4, d4, G4, rfl, ho, hg, hd4, hm4⟩ := hyes hrt
    have HRT := Asd.mk hrt
    obtain ⟨hkn, htl, ha0, hb0, ha1, hb1, _, _⟩ := right_nat k a b t.length hrt
    obtain ⟨a, rfl⟩ : ∃ x : Nat, a = (x : Int) := ⟨a.toNat, by omega⟩
    obtain ⟨b, rfl⟩ : ∃ x : Nat, b = (x : Int) := ⟨b.toNat, by omega⟩
    obtain ⟨kind, hkk⟩ := kind_exists k hkn
    have hk15 : 1 ≤ k ∧ k ≤ 15 := of_decide_eq_true hkn
    have HKK := Asd.mk hkk
    have HKN := Asd.mk hkn
    have ha : a ≤ 1099511627776 := by omega
    have hb : b ≤ 1099511627776 := by omega
    have hku : IntKind.u8.wrap k = k := by simp only [IntKind.wrap, IntKind.signed, IntKind.bits]; simp; omega
    have hkm : k % 256 = k := by omega
    simp only [Int.toNat_natCast] at ho hd4
    obtain ⟨hi1, hi2, hi3, hi4⟩ := body_is k a b t hrt
    have hrf := room_for k
    have hbl0 := mbody_length k a b t
    obtain ⟨body, hbody⟩ : ∃ body, body = mbody k a b t := ⟨_, rfl⟩
    rw [← hbody] at hi1 hi2 hi3 hi4 ho hd4 hbl0
    have HI := Asd.mk (And.intro hi1 (And.intro hi2 (And.intro hi3 hi4)))
    have HBD := Asd.mk hbody
    have hbl : body.length ≤ 2048 := by omega
    obtain ⟨fb, hfb⟩ : ∃ fb, fb = fbytes kind body := ⟨_, rfl⟩
    have HFB := Asd.mk hfb
    obtain ⟨fl, hfl⟩ : ∃ fl, fl = fb.length := ⟨_, rfl⟩
    have HFL := Asd.mk hfl
    have HSZ := Asd.mk (show 5 + 6 * nums k + t.length = fl by rw [hfl, hfb, fbytes_length, hbl0]; omega)
    have hflb : fl ≤ 2053 := by rw [hfl, hfb, fbytes_length]; omega
    obtain ⟨Z, hZ⟩ : ∃ Z, Z = [1, 2] ++ mbytes (UInt8.ofNat k.toNat) a b t := ⟨_, rfl⟩
    have HZ := Asd.mk (show Z = [1, 2] ++ fb by rw [hZ, hfb, hbody, hkk]; simp [mbytes])
    have HZ0 := Asd.mk hZ
    have HO4 := Asd.mk ho.rd
    simp only [Int.toNat_natCast, ← hbody]
    clear hrt hno hyes ho hg hi1 hi2 hi3 hi4 hrf hbl0 hbody hfb hfl hZ hkk hkn htl ha0 hb0 ha1 hb1
    obtain ⟨w3, hw3⟩ : ∃ w3, w3 = w2.alloc (.cells #[.int .u8 k, .slice A4 body.length d4] 53) := ⟨_, rfl⟩
    have k3 : Upd (fun _ => False) w2 w3 := by rw [hw3]; exact (Upd.refl _ _).alloc _
    have HX3 : Asd (w3.heap[w2.heap.size]? = some (.cells #[.int .u8 k, .slice A4 body.length d4] 53 (0, 0))) := ⟨by rw [hw3]; exact heap_alloc_new w2 _⟩
    have HM3 := Asd.mk (k3.blk HM.out (fun h => h))
    replace HU := Asd.mk (HU.out.trans k3 (fun _ _ h => h))
    replace HO4 := Asd.mk (HO4.out.up k3)
    have c0 : w3.cell? ⟨w.heap.size, 0, none⟩ = some (.int .i64 k) := by simp [World.cell?, HM3.out]
    have c1 : w3.cell? ⟨w.heap.size, 1, none⟩ = some (.int .i64 (a : Int)) := by simp [World.cell?, HM3.out]
    have c2 : w3.cell? ⟨w.heap.size, 2, none⟩ = some (.int .i64 (b : Int)) := by simp [World.cell?, HM3.out]
    have c3 : w3.cell? ⟨w.heap.size, 3, none⟩ = some (.string (S t)) := by simp [World.cell?, HM3.out]
    clear k3 HM
    go_wp2
    (try rw [← hw3])
    clear hw3
    have hst : ∀ W, Upd (fun _ => False) w3 W → Asd (W.cell? ⟨w.heap.size, 0, none⟩ = some (.int .i64 k) ∧ W.cell? ⟨w.heap.size, 1, none⟩ = some (.int .i64 (a : Int)) ∧ W.cell? ⟨w.heap.size, 2, none⟩ = some (.int .i64 (b : Int)) ∧ W.cell? ⟨w.heap.size, 3, none⟩ = some (.string (S t))) := fun W h => ⟨h.cell c0 (fun h => h), h.cell c1 (fun h => h), h.cell c2 (fun h => h), h.cell c3 (fun h => h)⟩
    have HST := Asd.mk hst
    clear hst
    go_region_held3 (fun W => W.cell? ⟨w.heap.size, 0, none⟩ = some (.int .i64 k) ∧ W.cell? ⟨w.heap.size, 1, none⟩ = some (.int .i64 (a : Int)) ∧ W.cell? ⟨w.heap.size, 2, none⟩ = some (.int .i64 (b : Int)) ∧ W.cell? ⟨w.heap.size, 3, none⟩ = some (.string (S t)))
      (exact (HST.out _ (by repeat (first | exact HUn.out | exact Upd.refl _ _ | refine Upd.drewN ?_ _ | refine Upd.drew ?_ | refine Upd.alloc ?_ _))).out)
      (first
      | (go_at_call 37; refine (right_calls _ _ _ _ _).mono ?_; rw [S_size, HRT.out]; rintro e wn ⟨rfl, hu⟩; have HUn : Asd (Upd (fun _ => False) w3 wn) := ⟨Upd.trans (by repeat (first | exact HUn.out | exact Upd.refl _ _ | refine Upd.drewN ?_ _ | refine Upd.drew ?_ | refine Upd.alloc ?_ _)) hu (fun _ _ h => h)⟩; clear hu)
      | (go_at_call 32; refine (law_right_calls _ _ _ _ _).mono ?_; rw [S_size, HRT.out]; rintro e wn ⟨rfl, hu⟩; have HUn : Asd (Upd (fun _ => False) w3 wn) := ⟨Upd.trans (by repeat (first | exact HUn.out | exact Upd.refl _ _ | refine Upd.drewN ?_ _ | refine Upd.drew ?_ | refine Upd.alloc ?_ _)) hu (fun _ _ h => h)⟩; clear hu))
    clear HST
    all_goals
      have HX4 := Asd.mk (HUn.out.blk HX3.out (fun h => h))
      have HM4 := Asd.mk (HUn.out.blk HM3.out (fun h => h))
      replace HU := Asd.mk (HU.out.trans HUn.out (fun _ _ h => h))
      replace HO4 := Asd.mk (HO4.out.up HUn.out)
      clear c0 c1 c2 c3 HUn
      have c0 : wn.cell? ⟨w.heap.size, 0, none⟩ = some (.int .i64 k) := by simp [World.cell?, HM4.out]
      have c1 : wn.cell? ⟨w.heap.size, 1, none⟩ = some (.int .i64 (a : Int)) := by simp [World.cell?, HM4.out]
      have c2 : wn.cell? ⟨w.heap.size, 2, none⟩ = some (.int .i64 (b : Int)) := by simp [World.cell?, HM4.out]
      have c3 : wn.cell? ⟨w.heap.size, 3, none⟩ = some (.string (S t)) := by simp [World.cell?, HM4.out]
      have kL := (Upd.refl (fun _ => False) wn).alloc (.cells #[.int .u8 1, .int .u8 2] 5)
      have e0 := kL.cell c0 (fun h => h)
      have e1 := kL.cell c1 (fun h => h)
      have e2 := kL.cell c2 (fun h => h)
      have e3 := kL.cell c3 (fun h => h)
      go_wp2_with fail
      refine (put_calls (some ⟨wn.heap.size, 0, none⟩) 2 [1, 2] k (a : Int) (b : Int) t _ HRT.out (Rd.lit wn _ _ _ 2 _ rfl rfl (by omega)) (by simp)).mono ?_
      rw [Int.toNat_natCast, Int.toNat_natCast, ← HZ0.out]
      unfold Fr.PutPost
      rintro e w6 ⟨A6, d6, G6, rfl, ho6, hg6, hd6, _, hu⟩
      have kV := kL.trans hu (fun _ _ h => h)
      have HX6 := Asd.mk (kV.blk HX4.out (fun h => h))
      have HM6 := Asd.mk (kV.blk HM4.out (fun h => h))
      have HO6 := Asd.mk ho6.rd
      replace HO4 := Asd.mk (HO4.out.up kV)
      replace HU := Asd.mk (HU.out.trans kV (fun _ _ h => h))
      have f0 : w6.cell? ⟨w2.heap.size, 0, none⟩ = some (.int .u8 k) := by simp [World.cell?, HX6.out]
      have f1 : w6.cell? ⟨w2.heap.size, 1, none⟩ = some (.slice A4 body.length d4) := by simp [World.cell?, HX6.out]
      clear hu kV kL ho6 hg6 c0 c1 c2 c3 e0 e1 e2 e3 HX4 HM4
      have hof := of_calls kind A4 d4 body w6 HO4.out hd4 (by omega)
      unfold OfPost at hof
      rw [← HKK.out, HI.out.1, HI.out.2.1, HI.out.2.2.1, HI.out.2.2.2, if_pos rfl] at hof
      have HOF := Asd.mk hof
      clear hof
      go_wp2_with fail
      refine HOF.out.mono ?_
      rintro e w7 ⟨hu, rfl⟩
      obtain ⟨w8, hw8⟩ : ∃ w8, w8 = w7.alloc (.cells #[.int .i64 k, .int .i64 (a : Int), .int .i64 (b : Int), .string (S t)] 44) := ⟨_, rfl⟩
      have k8 : Upd (fun _ => False) w6 w8 := hu.trans (by rw [hw8]; exact (Upd.refl (fun _ => False) w7).alloc _) (fun _ _ h => h)
      have hY8 : w8.heap[w7.heap.size]? = some (.cells #[.int .i64 k, .int .i64 (a : Int), .int .i64 (b : Int), .string (S t)] 44 (0, 0)) := by rw [hw8]; exact heap_alloc_new w7 _
      have hX8 := k8.blk HX6.out (fun h => h)
      have hM8 := k8.blk HM6.out (fun h => h)
      replace HO4 := Asd.mk (HO4.out.up k8)
      replace HO6 := Asd.mk (HO6.out.up k8)
      replace HU := Asd.mk (HU.out.trans k8 (fun _ _ h => h))
      clear hu k8 f0 f1 HOF HX6 HM6
      have c0 : w8.cell? ⟨w.heap.size, 0, none⟩ = some (.int .i64 k) := by simp [World.cell?, hM8]
      have c1 : w8.cell? ⟨w.heap.size, 1, none⟩ = some (.int .i64 (a : Int)) := by simp [World.cell?, hM8]
      have c2 : w8.cell? ⟨w.heap.size, 2, none⟩ = some (.int .i64 (b : Int)) := by simp [World.cell?, hM8]
      have c3 : w8.cell? ⟨w.heap.size, 3, none⟩ = some (.string (S t)) := by simp [World.cell?, hM8]
      have x0 : w8.cell? ⟨w2.heap.size, 0, none⟩ = some (.int .u8 k) := by simp [World.cell?, hX8]
      have x1 : w8.cell? ⟨w2.heap.size, 1, none⟩ = some (.slice A4 body.length d4) := by simp [World.cell?, hX8]
      have y0 : w8.cell? ⟨w7.heap.size, 0, none⟩ = some (.int .i64 k) := by simp [World.cell?, hY8]
      have y1 : w8.cell? ⟨w7.heap.size, 1, none⟩ = some (.int .i64 (a : Int)) := by simp [World.cell?, hY8]
      have y2 : w8.cell? ⟨w7.heap.size, 2, none⟩ = some (.int .i64 (b : Int)) := by simp [World.cell?, hY8]
      have y3 : w8.cell? ⟨w7.heap.size, 3, none⟩ = some (.string (S t)) := by simp [World.cell?, hY8]
      clear hX8 hY8 hM8
      have hst : ∀ W, Upd (fun _ => False) w8 W → Asd (W.cell? ⟨w.heap.size, 0, none⟩ = some (.int .i64 k) ∧ W.cell? ⟨w.heap.size, 1, none⟩ = some (.int .i64 (a : Int)) ∧ W.cell? ⟨w.heap.size, 2, none⟩ = some (.int .i64 (b : Int)) ∧ W.cell? ⟨w.heap.size, 3, none⟩ = some (.string (S t))) := fun W h => ⟨h.cell c0 (fun h => h), h.cell c1 (fun h => h), h.cell c2 (fun h => h), h.cell c3 (fun h => h)⟩
      have HST := Asd.mk hst
      clear hst
      go_wp2
      (try rw [← hw8])
      clear hw8
      refine wp_region_held_drew (S := (fun W => W.cell? ⟨w.heap.size, 0, none⟩ = some (.int .i64 k) ∧ W.cell? ⟨w.heap.size, 1, none⟩ = some (.int .i64 (a : Int)) ∧ W.cell? ⟨w.heap.size, 2, none⟩ = some (.int .i64 (b : Int)) ∧ W.cell? ⟨w.heap.size, 3, none⟩ = some (.string (S t)))) (by kernel_rfl) (by ((first | exact (HST.out _ HUb.out).out | exact (HST.out _ HUa.out).out | exact (HST.out _ (Upd.refl _ _).drew).out))) (fun hHeld => ?_)
      refine wpAnyH_take (i := 0) (oi := ?_) (v := ?_) ?_ (by kernel_rfl) (by kernel_rfl) (by kernel_rfl) ?_ (Or.inl ⟨?_, ?_⟩) (by assumption) ?_
      rotate_left 2
      · (simp only [List.getElem?_toArray, List.getElem?_cons_succ, List.getElem?_cons_zero]; exact rfl)
      · exact (fun _ _ _ h => h)
      · rfl
      · (intro w hSw; (try dsimp only at hSw); go_simp; (try with_reducible rfl))
      try simp only [Act.put, List.setIfInBounds_toArray, List.set_cons_zero, List.set_cons_succ]
      refine wpAnyH_take (i := 1) (oi := ?_) (v := ?_) ?_ (by kernel_rfl) (by kernel_rfl) (by kernel_rfl) ?_ (Or.inl ⟨?_, ?_⟩) (by assumption) ?_
      rotate_left 2
      · (simp only [List.getElem?_toArray, List.getElem?_cons_succ, List.getElem?_cons_zero]; exact rfl)
      · exact (fun _ _ _ h => h)
      · rfl
      · (intro w hSw; (try dsimp only at hSw); go_simp; (try with_reducible rfl))
      try simp only [Act.put, List.setIfInBounds_toArray, List.set_cons_zero, List.set_cons_succ]
      refine wpAnyH_take (i := 2) (oi := ?_) (v := ?_) ?_ (by kernel_rfl) (by kernel_rfl) (by kernel_rfl) ?_ (Or.inl ⟨?_, ?_⟩) (by assumption) ?_
      rotate_left 2
      · (simp only [List.getElem?_toArray, List.getElem?_cons_succ, List.getElem?_cons_zero]; exact rfl)
      · exact (fun _ _ _ h => h)
      · rfl
      · (intro w hSw; (try dsimp only at hSw); go_simp; (try with_reducible rfl))
      try simp only [Act.put, List.setIfInBounds_toArray, List.set_cons_zero, List.set_cons_succ]
      refine wpAnyH_take (i := 3) (oi := ?_) (v := ?_) ?_ (by kernel_rfl) (by kernel_rfl) (by kernel_rfl) ?_ (Or.inl ⟨?_, ?_⟩) (by assumption) ?_
      rotate_left 2
      · (simp only [List.getElem?_toArray, List.getElem?_cons_succ, List.getElem?_cons_zero]; exact rfl)
      · exact (fun _ _ _ h => h)
      · rfl
      · (intro w hSw; (try dsimp only at hSw); go_simp; (try with_reducible rfl))
      try simp only [Act.put, List.setIfInBounds_toArray, List.set_cons_zero, List.set_cons_succ]
      refine wpAnyH_ready (rs := [4]) (by kernel_rfl) (by simp) (AllReadyH.cons (o := ?_) ?_ (fun K hK => ?_) AllReadyH.nil)
      rotate_left 1
      · (simp only [List.getElem?_toArray, List.getElem?_cons_succ, List.getElem?_cons_zero]; exact rfl)
      (go_simp; (go_at_call 33; refine (body_calls k a b t _ HKN.out ha hb ht2).mono ?_; unfold RowPost; rw [← HBD.out]; rintro e w9 ⟨A9, d9, G9, rfl, ho9, hg9, hd9, hm9, hu⟩; have HUa : Asd (Upd (fun _ => False) w8 w9) := ⟨Upd.trans (by repeat (first | exact Upd.refl _ _ | refine Upd.drewN ?_ _ | refine Upd.drew ?_ | refine Upd.alloc ?_ _)) hu (fun _ _ h => h)⟩; have HO9 := Asd.mk ho9.rd; clear ho9 hg9 hu))
      refine hK.out _ _ (by ((first | exact (HST.out _ HUb.out).out | exact (HST.out _ HUa.out).out | exact (HST.out _ (Upd.refl _ _).drew).out))) (fun hHeld => ?_)
      clear hK K
      try simp only [Act.put, List.setIfInBounds_toArray, List.set_cons_zero, List.set_cons_succ]
      refine wpAnyH_ready (rs := [5]) (by kernel_rfl) (by simp) (AllReadyH.cons (o := ?_) ?_ (fun K hK => ?_) AllReadyH.nil)
      rotate_left 1
      · (simp only [List.getElem?_toArray, List.getElem?_cons_succ, List.getElem?_cons_zero]; exact rfl)
      (go_simp; (go_at_call 38; have hbc := Fr.bytes_calls kind A9 d9 body w9 HO9.out (by omega); rw [← HKK.out, ← HFB.out] at hbc; refine hbc.mono ?_; unfold Fr.PutPost; rw [← HFL.out]; rintro e w10 ⟨A10, d10, G10, rfl, ho10, hg10, hd10, hm10, hu⟩; have HUb : Asd (Upd (fun _ => False) w8 w10) := ⟨HUa.out.trans hu (fun _ _ h => h)⟩; have HO10 := Asd.mk ho10.rd; clear ho10 hg10 hu))
      refine hK.out _ _ (by ((first | exact (HST.out _ HUb.out).out | exact (HST.out _ HUa.out).out | exact (HST.out _ (Upd.refl _ _).drew).out))) (fun hHeld => ?_)
      clear hK K
      try simp only [Act.put, List.setIfInBounds_toArray, List.set_cons_zero, List.set_cons_succ]
      refine wpAnyH_take (i := 6) (oi := ?_) (v := ?_) ?_ (by kernel_rfl) (by kernel_rfl) (by kernel_rfl) ?_ (Or.inl ⟨?_, ?_⟩) (by assumption) ?_
      rotate_left 2
      · (simp only [List.getElem?_toArray, List.getElem?_cons_succ, List.getElem?_cons_zero]; exact rfl)
      · exact (fun _ _ _ h => h)
      · rfl
      · (intro w hSw; (try dsimp only at hSw); go_simp; (try with_reducible rfl))
      try simp only [Act.put, List.setIfInBounds_toArray, List.set_cons_zero, List.set_cons_succ]
      refine wpAnyH_done (by kernel_rfl) ?_ _
      have hst : ∀ W, Upd (fun _ => False) w10 W → Asd (W.cell? ⟨w.heap.size, 0, none⟩ = some (.int .i64 k) ∧ W.cell? ⟨w.heap.size, 1, none⟩ = some (.int .i64 (a : Int)) ∧ W.cell? ⟨w.heap.size, 2, none⟩ = some (.int .i64 (b : Int)) ∧ W.cell? ⟨w.heap.size, 3, none⟩ = some (.string (S t)) ∧ W.cell? ⟨w2.heap.size, 0, none⟩ = some (.int .u8 k) ∧ W.cell? ⟨w2.heap.size, 1, none⟩ = some (.slice A4 body.length d4) ∧ W.cell? ⟨w7.heap.size, 0, none⟩ = some (.int .i64 k) ∧ W.cell? ⟨w7.heap.size, 1, none⟩ = some (.int .i64 (a : Int)) ∧ W.cell? ⟨w7.heap.size, 2, none⟩ = some (.int .i64 (b : Int)) ∧ W.cell? ⟨w7.heap.size, 3, none⟩ = some (.string (S t)) ∧ (convert 27 9 (.slice A4 body.length d4)).run Try.prog W = .ok (.string (S body)) W ∧ (convert 27 9 (.slice A6 Z.length d6)).run Try.prog W = .ok (.string (S Z)) W ∧ (convert 27 9 (.slice A10 fl d10)).run Try.prog W = .ok (.string (S fb)) W) := fun W h => (fun h8 => ⟨h8.cell c0 (fun h => h), h8.cell c1 (fun h => h), h8.cell c2 (fun h => h), h8.cell c3 (fun h => h), h8.cell x0 (fun h => h), h8.cell x1 (fun h => h), h8.cell y0 (fun h => h), h8.cell y1 (fun h => h), h8.cell y2 (fun h => h), h8.cell y3 (fun h => h), run_str Try.underlying27 Try.underlying5 Try.underlying9 (HO4.out.up h8), run_str Try.underlying27 Try.underlying5 Try.underlying9 (HO6.out.up h8), run_str Try.underlying27 Try.underlying5 Try.underlying9 (HO10.out.up h)⟩) (HUb.out.trans h (fun _ _ h => h))
      have HST2 := Asd.mk hst
      have hadd : Op.stringOp .add ({ data := #[1, 2] } : ByteArray) (S fb) = pure (.string (S Z)) := by rw [HZ.out]; exact str_add [1, 2] fb (by rw [← HFL.out]; simp only [List.length_cons, List.length_nil]; omega)
      replace HU := Asd.mk (HU.out.trans HUb.out (fun _ _ h => h))
      clear hst c0 c1 c2 c3 x0 x1 y0 y1 y2 y3 HST hbc HUb HUa HO9
      go_wp2
      refine wp_region_held_drew (S := (fun W => W.cell? ⟨w.heap.size, 0, none⟩ = some (.int .i64 k) ∧ W.cell? ⟨w.heap.size, 1, none⟩ = some (.int .i64 (a : Int)) ∧ W.cell? ⟨w.heap.size, 2, none⟩ = some (.int .i64 (b : Int)) ∧ W.cell? ⟨w.heap.size, 3, none⟩ = some (.string (S t)) ∧ W.cell? ⟨w2.heap.size, 0, none⟩ = some (.int .u8 k) ∧ W.cell? ⟨w2.heap.size, 1, none⟩ = some (.slice A4 body.length d4) ∧ W.cell? ⟨w7.heap.size, 0, none⟩ = some (.int .i64 k) ∧ W.cell? ⟨w7.heap.size, 1, none⟩ = some (.int .i64 (a : Int)) ∧ W.cell? ⟨w7.heap.size, 2, none⟩ = some (.int .i64 (b : Int)) ∧ W.cell? ⟨w7.heap.size, 3, none⟩ = some (.string (S t)) ∧ (convert 27 9 (.slice A4 body.length d4)).run Try.prog W = .ok (.string (S body)) W ∧ (convert 27 9 (.slice A6 Z.length d6)).run Try.prog W = .ok (.string (S Z)) W ∧ (convert 27 9 (.slice A10 fl d10)).run Try.prog W = .ok (.string (S fb)) W)) (by kernel_rfl) (by ((first | exact (HST2.out _ HUd.out).out | exact (HST2.out _ HUc.out).out | exact (HST2.out _ (Upd.refl _ _).drew).out))) (fun hHeld => ?_)
      refine wpAnyH_take (i := 0) (oi := ?_) (v := ?_) ?_ (by kernel_rfl) (by kernel_rfl) (by kernel_rfl) ?_ (Or.inl ⟨?_, ?_⟩) (by assumption) ?_
      rotate_left 2
      · (simp only [List.getElem?_toArray, List.getElem?_cons_succ, List.getElem?_cons_zero]; exact rfl)
      · exact (fun _ _ _ h => h)
      · rfl
      · (intro w hSw; (try dsimp only at hSw); go_simp; (try with_reducible rfl))
      try simp only [Act.put, List.setIfInBounds_toArray, List.set_cons_zero, List.set_cons_succ]
      refine wpAnyH_take (i := 1) (oi := ?_) (v := ?_) ?_ (by kernel_rfl) (by kernel_rfl) (by kernel_rfl) ?_ (Or.inl ⟨?_, ?_⟩) (by assumption) ?_
      rotate_left 2
      · (simp only [List.getElem?_toArray, List.getElem?_cons_succ, List.getElem?_cons_zero]; exact rfl)
      · exact (fun _ _ _ h => h)
      · rfl
      · (intro w hSw; (try dsimp only at hSw); go_simp; (try with_reducible rfl))
      try simp only [Act.put, List.setIfInBounds_toArray, List.set_cons_zero, List.set_cons_succ]
      refine wpAnyH_take (i := 2) (oi := ?_) (v := ?_) ?_ (by kernel_rfl) (by kernel_rfl) (by kernel_rfl) ?_ (Or.inl ⟨?_, ?_⟩) (by assumption) ?_
      rotate_left 2
      · (simp only [List.getElem?_toArray, List.getElem?_cons_succ, List.getElem?_cons_zero]; exact rfl)
      · exact (fun _ _ _ h => h)
      · rfl
      · (intro w hSw; (try dsimp only at hSw); go_simp; (try with_reducible rfl))
      try simp only [Act.put, List.setIfInBounds_toArray, List.set_cons_zero, List.set_cons_succ]
      refine wpAnyH_take (i := 3) (oi := ?_) (v := ?_) ?_ (by kernel_rfl) (by kernel_rfl) (by kernel_rfl) ?_ (Or.inl ⟨?_, ?_⟩) (by assumption) ?_
      rotate_left 2
      · (simp only [List.getElem?_toArray, List.getElem?_cons_succ, List.getElem?_cons_zero]; exact rfl)
      · exact (fun _ _ _ h => h)
      · rfl
      · (intro w hSw; (try dsimp only at hSw); go_simp; (try with_reducible rfl))
      try simp only [Act.put, List.setIfInBounds_toArray, List.set_cons_zero, List.set_cons_succ]
      refine wpAnyH_take (i := 4) (oi := ?_) (v := ?_) ?_ (by kernel_rfl) (by kernel_rfl) (by kernel_rfl) ?_ (Or.inl ⟨?_, ?_⟩) (by assumption) ?_
      rotate_left 2
      · (simp only [List.getElem?_toArray, List.getElem?_cons_succ, List.getElem?_cons_zero]; exact rfl)
      · exact (fun _ _ _ h => h)
      · rfl
      · (intro w hSw; (try dsimp only at hSw); go_simp; (try with_reducible rfl))
      try simp only [Act.put, List.setIfInBounds_toArray, List.set_cons_zero, List.set_cons_succ]
      refine wpAnyH_take (i := 5) (oi := ?_) (v := ?_) ?_ (by kernel_rfl) (by kernel_rfl) (by kernel_rfl) ?_ (Or.inl ⟨?_, ?_⟩) (by assumption) ?_
      rotate_left 2
      · (simp only [List.getElem?_toArray, List.getElem?_cons_succ, List.getElem?_cons_zero]; exact rfl)
      · exact (fun _ _ _ h => h)
      · rfl
      · (intro w hSw; (try dsimp only at hSw); go_simp; (try with_reducible rfl))
      try simp only [Act.put, List.setIfInBounds_toArray, List.set_cons_zero, List.set_cons_succ]
      refine wpAnyH_take (i := 6) (oi := ?_) (v := ?_) ?_ (by kernel_rfl) (by kernel_rfl) (by kernel_rfl) ?_ (Or.inl ⟨?_, ?_⟩) (by assumption) ?_
      rotate_left 2
      · (simp only [List.getElem?_toArray, List.getElem?_cons_succ, List.getElem?_cons_zero]; exact rfl)
      · exact (fun _ _ _ h => h)
      · rfl
      · (intro w hSw; (try dsimp only at hSw); go_simp; (try with_reducible rfl))
      try simp only [Act.put, List.setIfInBounds_toArray, List.set_cons_zero, List.set_cons_succ]
      refine wpAnyH_take (i := 7) (oi := ?_) (v := ?_) ?_ (by kernel_rfl) (by kernel_rfl) (by kernel_rfl) ?_ (Or.inl ⟨?_, ?_⟩) (by assumption) ?_
      rotate_left 2
      · (simp only [List.getElem?_toArray, List.getElem?_cons_succ, List.getElem?_cons_zero]; exact rfl)
      · exact (fun _ _ _ h => h)
      · rfl
      · (intro w hSw; (try dsimp only at hSw); go_simp; (try with_reducible rfl))
      try simp only [Act.put, List.setIfInBounds_toArray, List.set_cons_zero, List.set_cons_succ]
      refine wpAnyH_take (i := 8) (oi := ?_) (v := ?_) ?_ (by kernel_rfl) (by kernel_rfl) (by kernel_rfl) ?_ (Or.inl ⟨?_, ?_⟩) (by assumption) ?_
      rotate_left 2
      · (simp only [List.getElem?_toArray, List.getElem?_cons_succ, List.getElem?_cons_zero]; exact rfl)
      · exact (fun _ _ _ h => h)
      · rfl
      · (intro w hSw; (try dsimp only at hSw); go_simp; (try with_reducible rfl))
      try simp only [Act.put, List.setIfInBounds_toArray, List.set_cons_zero, List.set_cons_succ]
      refine wpAnyH_take (i := 9) (oi := ?_) (v := ?_) ?_ (by kernel_rfl) (by kernel_rfl) (by kernel_rfl) ?_ (Or.inl ⟨?_, ?_⟩) (by assumption) ?_
      rotate_left 2
      · (simp only [List.getElem?_toArray, List.getElem?_cons_succ, List.getElem?_cons_zero]; exact rfl)
      · exact (fun _ _ _ h => h)
      · rfl
      · (intro w hSw; (try dsimp only at hSw); go_simp; (try with_reducible rfl))
      try simp only [Act.put, List.setIfInBounds_toArray, List.set_cons_zero, List.set_cons_succ]
      refine wpAnyH_take (i := 10) (oi := ?_) (v := ?_) ?_ (by kernel_rfl) (by kernel_rfl) (by kernel_rfl) ?_ (Or.inl ⟨?_, ?_⟩) (by assumption) ?_
      rotate_left 2
      · (simp only [List.getElem?_toArray, List.getElem?_cons_succ, List.getElem?_cons_zero]; exact rfl)
      · exact (fun _ _ _ h => h)
      · rfl
      · (intro w hSw; (try dsimp only at hSw); go_simp; (try with_reducible rfl))
      try simp only [Act.put, List.setIfInBounds_toArray, List.set_cons_zero, List.set_cons_succ]
      refine wpAnyH_take (i := 11) (oi := ?_) (v := ?_) ?_ (by kernel_rfl) (by kernel_rfl) (by kernel_rfl) ?_ (Or.inl ⟨?_, ?_⟩) (by assumption) ?_
      rotate_left 2
      · (simp only [List.getElem?_toArray, List.getElem?_cons_succ, List.getElem?_cons_zero]; exact rfl)
      · exact (fun _ _ _ h => h)
      · rfl
      · (intro w hSw; (try dsimp only at hSw); go_simp; (try with_reducible rfl))
      try simp only [Act.put, List.setIfInBounds_toArray, List.set_cons_zero, List.set_cons_succ]
      refine wpAnyH_take (i := 12) (oi := ?_) (v := ?_) ?_ (by kernel_rfl) (by kernel_rfl) (by kernel_rfl) ?_ (Or.inl ⟨?_, ?_⟩) (by assumption) ?_
      rotate_left 2
      · (simp only [List.getElem?_toArray, List.getElem?_cons_succ, List.getElem?_cons_zero]; exact rfl)
      · exact (fun _ _ _ h => h)
      · rfl
      · (intro w hSw; (try dsimp only at hSw); go_simp; (try with_reducible rfl))
      try simp only [Act.put, List.setIfInBounds_toArray, List.set_cons_zero, List.set_cons_succ]
      refine wpAnyH_take (i := 13) (oi := ?_) (v := ?_) ?_ (by kernel_rfl) (by kernel_rfl) (by kernel_rfl) ?_ (Or.inl ⟨?_, ?_⟩) (by assumption) ?_
      rotate_left 2
      · (simp only [List.getElem?_toArray, List.getElem?_cons_succ, List.getElem?_cons_zero]; exact rfl)
      · exact (fun _ _ _ h => h)
      · rfl
      · (intro w hSw; (try dsimp only at hSw); go_simp; (try with_reducible rfl))
      try simp only [Act.put, List.setIfInBounds_toArray, List.set_cons_zero, List.set_cons_succ]
      refine wpAnyH_take (i := 14) (oi := ?_) (v := ?_) ?_ (by kernel_rfl) (by kernel_rfl) (by kernel_rfl) ?_ (Or.inl ⟨?_, ?_⟩) (by assumption) ?_
      rotate_left 2
      · (simp only [List.getElem?_toArray, List.getElem?_cons_succ, List.getElem?_cons_zero]; exact rfl)
      · exact (fun _ _ _ h => h)
      · rfl
      · (intro w hSw; (try dsimp only at hSw); go_simp; (try with_reducible rfl))
      try simp only [Act.put, List.setIfInBounds_toArray, List.set_cons_zero, List.set_cons_succ]
      refine wpAnyH_take (i := 15) (oi := ?_) (v := ?_) ?_ (by kernel_rfl) (by kernel_rfl) (by kernel_rfl) ?_ (Or.inl ⟨?_, ?_⟩) (by assumption) ?_
      rotate_left 2
      · (simp only [List.getElem?_toArray, List.getElem?_cons_succ, List.getElem?_cons_zero]; exact rfl)
      · exact (fun _ _ _ h => h)
      · rfl
      · (intro w hSw; (try dsimp only at hSw); go_simp; (try with_reducible rfl))
      try simp only [Act.put, List.setIfInBounds_toArray, List.set_cons_zero, List.set_cons_succ]
      refine wpAnyH_take (i := 16) (oi := ?_) (v := ?_) ?_ (by kernel_rfl) (by kernel_rfl) (by kernel_rfl) ?_ (Or.inl ⟨?_, ?_⟩) (by assumption) ?_
      rotate_left 2
      · (simp only [List.getElem?_toArray, List.getElem?_cons_succ, List.getElem?_cons_zero]; exact rfl)
      · exact (fun _ _ _ h => h)
      · rfl
      · (intro w hSw; (try dsimp only at hSw); go_simp; (try with_reducible rfl))
      try simp only [Act.put, List.setIfInBounds_toArray, List.set_cons_zero, List.set_cons_succ]
      refine wpAnyH_take (i := 17) (oi := ?_) (v := ?_) ?_ (by kernel_rfl) (by kernel_rfl) (by kernel_rfl) ?_ (Or.inl ⟨?_, ?_⟩) (by assumption) ?_
      rotate_left 2
      · (simp only [List.getElem?_toArray, List.getElem?_cons_succ, List.getElem?_cons_zero]; exact rfl)
      · exact (fun _ _ _ h => h)
      · rfl
      · (intro w hSw; (try dsimp only at hSw); go_simp; (try with_reducible rfl))
      try simp only [Act.put, List.setIfInBounds_toArray, List.set_cons_zero, List.set_cons_succ]
      refine wpAnyH_take (i := 18) (oi := ?_) (v := ?_) ?_ (by kernel_rfl) (by kernel_rfl) (by kernel_rfl) ?_ (Or.inl ⟨?_, ?_⟩) (by assumption) ?_
      rotate_left 2
      · (simp only [List.getElem?_toArray, List.getElem?_cons_succ, List.getElem?_cons_zero]; exact rfl)
      · exact (fun _ _ _ h => h)
      · rfl
      · (intro w hSw; (try dsimp only at hSw); go_simp; (try with_reducible rfl))
      try simp only [Act.put, List.setIfInBounds_toArray, List.set_cons_zero, List.set_cons_succ]
      refine wpAnyH_ready (rs := [19]) (by kernel_rfl) (by simp) (AllReadyH.cons (o := ?_) ?_ (fun K hK => ?_) AllReadyH.nil)
      rotate_left 1
      · (simp only [List.getElem?_toArray, List.getElem?_cons_succ, List.getElem?_cons_zero]; exact rfl)
      (go_simp; (go_at_call 33; refine (body_calls k a b t _ HKN.out ha hb ht2).mono ?_; unfold RowPost; rw [← HBD.out]; rintro e w11 ⟨A11, d11, G11, rfl, ho11, hg11, hd11, hm11, hu⟩; have HUc : Asd (Upd (fun _ => False) w10 w11) := ⟨Upd.trans (by repeat (first | exact Upd.refl _ _ | refine Upd.drewN ?_ _ | refine Upd.drew ?_ | refine Upd.alloc ?_ _)) hu (fun _ _ h => h)⟩; have hsR := run_str (P := Try.prog) (c := d11) Try.underlying27 Try.underlying5 Try.underlying9 ho11.rd; clear ho11 hg11 hu))
      refine hK.out _ _ (by ((first | exact (HST2.out _ HUd.out).out | exact (HST2.out _ HUc.out).out | exact (HST2.out _ (Upd.refl _ _).drew).out))) (fun hHeld => ?_)
      clear hK K
      try simp only [Act.put, List.setIfInBounds_toArray, List.set_cons_zero, List.set_cons_succ]
      refine wpAnyH_ready (rs := [20]) (by kernel_rfl) (by simp) (AllReadyH.cons (o := ?_) ?_ (fun K hK => ?_) AllReadyH.nil)
      rotate_left 1
      · (simp only [List.getElem?_toArray, List.getElem?_cons_succ, List.getElem?_cons_zero]; exact rfl)
      go_simp
      refine hK.out _ _ (by ((first | exact (HST2.out _ HUd.out).out | exact (HST2.out _ HUc.out).out | exact (HST2.out _ (Upd.refl _ _).drew).out))) (fun hHeld => ?_)
      clear hK K
      try simp only [Act.put, List.setIfInBounds_toArray, List.set_cons_zero, List.set_cons_succ]
      refine wpAnyH_take (i := 21) (oi := ?_) (v := ?_) ?_ (by kernel_rfl) (by kernel_rfl) (by kernel_rfl) ?_ (Or.inl ⟨?_, ?_⟩) (by assumption) ?_
      rotate_left 2
      · (simp only [List.getElem?_toArray, List.getElem?_cons_succ, List.getElem?_cons_zero]; exact rfl)
      · exact (fun _ _ _ h => h)
      · rfl
      · (intro w hSw; (try dsimp only at hSw); go_simp; (try with_reducible rfl))
      try simp only [Act.put, List.setIfInBounds_toArray, List.set_cons_zero, List.set_cons_succ]
      refine wpAnyH_take (i := 22) (oi := ?_) (v := ?_) ?_ (by kernel_rfl) (by kernel_rfl) (by kernel_rfl) ?_ (Or.inl ⟨?_, ?_⟩) (by assumption) ?_
      rotate_left 2
      · (simp only [List.getElem?_toArray, List.getElem?_cons_succ, List.getElem?_cons_zero]; exact rfl)
      · exact (fun _ _ _ h => h)
      · rfl
      · (intro w hSw; (try dsimp only at hSw); go_simp; (try with_reducible rfl))
      try simp only [Act.put, List.setIfInBounds_toArray, List.set_cons_zero, List.set_cons_succ]
      refine wpAnyH_take (i := 23) (oi := ?_) (v := ?_) ?_ (by kernel_rfl) (by kernel_rfl) (by kernel_rfl) ?_ (Or.inl ⟨?_, ?_⟩) (by assumption) ?_
      rotate_left 2
      · (simp only [List.getElem?_toArray, List.getElem?_cons_succ, List.getElem?_cons_zero]; exact rfl)
      · exact (fun _ _ _ h => h)
      · rfl
      · (intro w hSw; (try dsimp only at hSw); go_simp; (try with_reducible rfl))
      try simp only [Act.put, List.setIfInBounds_toArray, List.set_cons_zero, List.set_cons_succ]
      refine wpAnyH_take (i := 24) (oi := ?_) (v := ?_) ?_ (by kernel_rfl) (by kernel_rfl) (by kernel_rfl) ?_ (Or.inl ⟨?_, ?_⟩) (by assumption) ?_
      rotate_left 2
      · (simp only [List.getElem?_toArray, List.getElem?_cons_succ, List.getElem?_cons_zero]; exact rfl)
      · exact (fun _ _ _ h => h)
      · rfl
      · (intro w hSw; (try dsimp only at hSw); go_simp; (try with_reducible rfl))
      try simp only [Act.put, List.setIfInBounds_toArray, List.set_cons_zero, List.set_cons_succ]
      refine wpAnyH_take (i := 25) (oi := ?_) (v := ?_) ?_ (by kernel_rfl) (by kernel_rfl) (by kernel_rfl) ?_ (Or.inl ⟨?_, ?_⟩) (by assumption) ?_
      rotate_left 2
      · (simp only [List.getElem?_toArray, List.getElem?_cons_succ, List.getElem?_cons_zero]; exact rfl)
      · exact (fun _ _ _ h => h)
      · rfl
      · (intro w hSw; (try dsimp only at hSw); go_simp; (try with_reducible rfl))
      try simp only [Act.put, List.setIfInBounds_toArray, List.set_cons_zero, List.set_cons_succ]
      refine wpAnyH_take (i := 26) (oi := ?_) (v := ?_) ?_ (by kernel_rfl) (by kernel_rfl) (by kernel_rfl) ?_ (Or.inl ⟨?_, ?_⟩) (by assumption) ?_
      rotate_left 2
      · (simp only [List.getElem?_toArray, List.getElem?_cons_succ, List.getElem?_cons_zero]; exact rfl)
      · exact (fun _ _ _ h => h)
      · rfl
      · (intro w hSw; (try dsimp only at hSw); go_simp; (try with_reducible rfl))
      try simp only [Act.put, List.setIfInBounds_toArray, List.set_cons_zero, List.set_cons_succ]
      refine wpAnyH_take (i := 27) (oi := ?_) (v := ?_) ?_ (by kernel_rfl) (by kernel_rfl) (by kernel_rfl) ?_ (Or.inl ⟨?_, ?_⟩) (by assumption) ?_
      rotate_left 2
      · (simp only [List.getElem?_toArray, List.getElem?_cons_succ, List.getElem?_cons_zero]; exact rfl)
      · exact (fun _ _ _ h => h)
      · rfl
      · (intro w hSw; (try dsimp only at hSw); go_simp; (try with_reducible rfl))
      try simp only [Act.put, List.setIfInBounds_toArray, List.set_cons_zero, List.set_cons_succ]
      refine wpAnyH_take (i := 28) (oi := ?_) (v := ?_) ?_ (by kernel_rfl) (by kernel_rfl) (by kernel_rfl) ?_ (Or.inl ⟨?_, ?_⟩) (by assumption) ?_
      rotate_left 2
      · (simp only [List.getElem?_toArray, List.getElem?_cons_succ, List.getElem?_cons_zero]; exact rfl)
      · exact (fun _ _ _ h => h)
      · rfl
      · (intro w hSw; (try dsimp only at hSw); go_simp; (try with_reducible rfl))
      try simp only [Act.put, List.setIfInBounds_toArray, List.set_cons_zero, List.set_cons_succ]
      refine wpAnyH_take (i := 29) (oi := ?_) (v := ?_) ?_ (by kernel_rfl) (by kernel_rfl) (by kernel_rfl) ?_ (Or.inl ⟨?_, ?_⟩) (by assumption) ?_
      rotate_left 2
      · (simp only [List.getElem?_toArray, List.getElem?_cons_succ, List.getElem?_cons_zero]; exact rfl)
      · exact (fun _ _ _ h => h)
      · rfl
      · (intro w hSw; (try dsimp only at hSw); go_simp; (try with_reducible rfl))
      try simp only [Act.put, List.setIfInBounds_toArray, List.set_cons_zero, List.set_cons_succ]
      refine wpAnyH_take (i := 30) (oi := ?_) (v := ?_) ?_ (by kernel_rfl) (by kernel_rfl) (by kernel_rfl) ?_ (Or.inl ⟨?_, ?_⟩) (by assumption) ?_
      rotate_left 2
      · (simp only [List.getElem?_toArray, List.getElem?_cons_succ, List.getElem?_cons_zero]; exact rfl)
      · exact (fun _ _ _ h => h)
      · rfl
      · (intro w hSw; (try dsimp only at hSw); go_simp; (try with_reducible rfl))
      try simp only [Act.put, List.setIfInBounds_toArray, List.set_cons_zero, List.set_cons_succ]
      refine wpAnyH_take (i := 31) (oi := ?_) (v := ?_) ?_ (by kernel_rfl) (by kernel_rfl) (by kernel_rfl) ?_ (Or.inl ⟨?_, ?_⟩) (by assumption) ?_
      rotate_left 2
      · (simp only [List.getElem?_toArray, List.getElem?_cons_succ, List.getElem?_cons_zero]; exact rfl)
      · exact (fun _ _ _ h => h)
      · rfl
      · (intro w hSw; (try dsimp only at hSw); go_simp; (try with_reducible rfl))
      try simp only [Act.put, List.setIfInBounds_toArray, List.set_cons_zero, List.set_cons_succ]
      refine wpAnyH_take (i := 32) (oi := ?_) (v := ?_) ?_ (by kernel_rfl) (by kernel_rfl) (by kernel_rfl) ?_ (Or.inl ⟨?_, ?_⟩) (by assumption) ?_
      rotate_left 2
      · (simp only [List.getElem?_toArray, List.getElem?_cons_succ, List.getElem?_cons_zero]; exact rfl)
      · exact (fun _ _ _ h => h)
      · rfl
      · (intro w hSw; (try dsimp only at hSw); go_simp; (try with_reducible rfl))
      try simp only [Act.put, List.setIfInBounds_toArray, List.set_cons_zero, List.set_cons_succ]
      refine wpAnyH_take (i := 34) (oi := ?_) (v := ?_) ?_ (by kernel_rfl) (by kernel_rfl) (by kernel_rfl) ?_ (Or.inl ⟨?_, ?_⟩) (by assumption) ?_
      rotate_left 2
      · (simp only [List.getElem?_toArray, List.getElem?_cons_succ, List.getElem?_cons_zero]; exact rfl)
      · exact (fun _ _ _ h => h)
      · rfl
      · (intro w hSw; (try dsimp only at hSw); go_simp; (try with_reducible rfl))
      try simp only [Act.put, List.setIfInBounds_toArray, List.set_cons_zero, List.set_cons_succ]
      refine wpAnyH_take (i := 35) (oi := ?_) (v := ?_) ?_ (by kernel_rfl) (by kernel_rfl) (by kernel_rfl) ?_ (Or.inl ⟨?_, ?_⟩) (by assumption) ?_
      rotate_left 2
      · (simp only [List.getElem?_toArray, List.getElem?_cons_succ, List.getElem?_cons_zero]; exact rfl)
      · exact (fun _ _ _ h => h)
      · rfl
      · (intro w hSw; (try dsimp only at hSw); go_simp; (try with_reducible rfl))
      try simp only [Act.put, List.setIfInBounds_toArray, List.set_cons_zero, List.set_cons_succ]
      refine wpAnyH_ready (rs := [33]) (by kernel_rfl) (by simp) (AllReadyH.cons (o := ?_) ?_ (fun K hK => ?_) AllReadyH.nil)
      rotate_left 1
      · (simp only [List.getElem?_toArray, List.getElem?_cons_succ, List.getElem?_cons_zero]; exact rfl)
      (go_simp; (go_at_call 28; refine (size_calls k (a : Int) (b : Int) t _ ht2).mono ?_; rw [HSZ.out]; rintro e w12 ⟨rfl, hu⟩; have HUd : Asd (Upd (fun _ => False) w10 w12) := ⟨HUc.out.trans hu (fun _ _ h => h)⟩; clear hu))
      refine hK.out _ _ (by ((first | exact (HST2.out _ HUd.out).out | exact (HST2.out _ HUc.out).out | exact (HST2.out _ (Upd.refl _ _).drew).out))) (fun hHeld => ?_)
      clear hK K
      try simp only [Act.put, List.setIfInBounds_toArray, List.set_cons_zero, List.set_cons_succ]
      refine wpAnyH_take (i := 36) (oi := ?_) (v := ?_) ?_ (by kernel_rfl) (by kernel_rfl) (by kernel_rfl) ?_ (Or.inl ⟨?_, ?_⟩) (by assumption) ?_
      rotate_left 2
      · (simp only [List.getElem?_toArray, List.getElem?_cons_succ, List.getElem?_cons_zero]; exact rfl)
      · exact (fun _ _ _ h => h)
      · rfl
      · (intro w hSw; (try dsimp only at hSw); go_simp; (try with_reducible rfl))
      try simp only [Act.put, List.setIfInBounds_toArray, List.set_cons_zero, List.set_cons_succ]
      refine wpAnyH_take (i := 37) (oi := ?_) (v := ?_) ?_ (by kernel_rfl) (by kernel_rfl) (by kernel_rfl) ?_ (Or.inl ⟨?_, ?_⟩) (by assumption) ?_
      rotate_left 2
      · (simp only [List.getElem?_toArray, List.getElem?_cons_succ, List.getElem?_cons_zero]; exact rfl)
      · exact (fun _ _ _ h => h)
      · rfl
      · (intro w hSw; (try dsimp only at hSw); go_simp; (try with_reducible rfl))
      try simp only [Act.put, List.setIfInBounds_toArray, List.set_cons_zero, List.set_cons_succ]
      refine wpAnyH_take (i := 38) (oi := ?_) (v := ?_) ?_ (by kernel_rfl) (by kernel_rfl) (by kernel_rfl) ?_ (Or.inl ⟨?_, ?_⟩) (by assumption) ?_
      rotate_left 2
      · (simp only [List.getElem?_toArray, List.getElem?_cons_succ, List.getElem?_cons_zero]; exact rfl)
      · exact (fun _ _ _ h => h)
      · rfl
      · (intro w hSw; (try dsimp only at hSw); go_simp; (try with_reducible rfl))
      try simp only [Act.put, List.setIfInBounds_toArray, List.set_cons_zero, List.set_cons_succ]
      refine wpAnyH_done (by kernel_rfl) ?_ _
      go_wp2
      go_ret
      exact ⟨by simp, HU.out.trans HUd.out (fun _ _ h => h)⟩
theorem frames_row_walk (w : World) (cs : Array Value) (x : Int × Int × Int × ByteArray) (h : R4 (RInt .i64) (RInt .i64) (RInt .i64) RStr w cs.toList x) (long : Int) (wl : (Lit.int .i64 long).wf = true) :
    Calls Try.prog 12 #[.agg cs, .int .i64 long] w fun e w' => e = .returned (.bool true) ∧ Upd (fun _ => False) w w' := by
  obtain ⟨k, a, b, t, rfl, hl⟩ := msg_cells h
  exact frames_walk w k a b t hl long wl
end Go.Proofs.Ytpphejjdgplalaa.MgFrames
