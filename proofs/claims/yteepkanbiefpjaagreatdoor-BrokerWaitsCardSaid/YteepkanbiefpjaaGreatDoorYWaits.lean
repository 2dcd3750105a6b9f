/- What these laws lean on, part YWaits: contracts of the given program's functions and plain lists. No condition. -/
import Derived.Test.YteepkanbiefpjaaGreatDoorZo
import Derived.Test.YteepkanbiefpjaaGreatDoorZa
set_option linter.unusedVariables false
set_option linter.unusedSimpArgs false
namespace Go.Proofs.YteepkanbiefpjaaGreatDoor.Bk
open Go.RowKit K
open MgRow (M mC Ms)
def wIn (s : Br) (i : Int) : Br := (bytes (bytes (connect s i).1 i (helloB [117])).1 i (typedB 1 cFloor)).1
def jn : Nat → Nat → Br → Br
  | 0, _, s => s
  | c + 1, j, s => jn c (j + 1) (wIn s ((j + 1 : Nat) : Int))
def tks : Nat → Br → Br
  | 0, s => s
  | k + 1, s => tks k (tick s)
def chk (L : Nat) : Nat → Nat → Br → Bool
  | 0, k, s => s.tab.holder == ((k : Int) - 1)
  | m + 1, k, s => s.tab.holder == (k : Int) && chk L m (k + 1) (tks L s)
def cfL (l : Nat) : Cf := { dflt with lease := (l : Int) }
def wOk (u l : Nat) : Bool := chk (l + 1) (u + 2) 1 (jn (u + 2) 0 (new (cfL (l + 1))))
theorem waits0 : ∀ l < 8, wOk 0 l = true := by decide +kernel
theorem waits1 : ∀ l < 8, wOk 1 l = true := by decide +kernel
theorem waits2 : ∀ l < 8, wOk 2 l = true := by decide +kernel
theorem waits3 : ∀ l < 8, wOk 3 l = true := by decide +kernel
theorem waits4 : ∀ l < 8, wOk 4 l = true := by decide +kernel
theorem waits5 : ∀ l < 8, wOk 5 l = true := by decide +kernel
theorem waits6 : ∀ l < 8, wOk 6 l = true := by decide +kernel
theorem waits7 : ∀ l < 8, wOk 7 l = true := by decide +kernel
theorem waits_all (u l : Nat) (hu : u < 8) (hl : l < 8) : wOk u l = true := by
  have h : u = 0 ∨ u = 1 ∨ u = 2 ∨ u = 3 ∨ u = 4 ∨ u = 5 ∨ u = 6 ∨ u = 7 := by omega
  rcases h with rfl | rfl | rfl | rfl | rfl | rfl | rfl | rfl
  · exact waits0 l hl
  · exact waits1 l hl
  · exact waits2 l hl
  · exact waits3 l hl
  · exact waits4 l hl
  · exact waits5 l hl
  · exact waits6 l hl
  · exact waits7 l hl
end Go.Proofs.YteepkanbiefpjaaGreatDoor.Bk
set_option linter.unusedVariables false
set_option linter.unusedSimpArgs false
namespace Go.Proofs.YteepkanbiefpjaaGreatDoor.Bk
open Go.RowKit K
open MgRow (M mC Ms)
theorem gd_wIn {n : Nat} {s : Br} (h : Gd n s) (i : Int) : Gd (n + 20000) (wIn s i) := by
  have h1 := h.connect i
  have h2 := (h1.bytes i (helloB [117])).bytes i (typedB 1 cFloor)
  exact h2.mono (by have := helloB_len [117]; have := typedB_len 1 cFloor; omega)
theorem wIn_eq (s : Br) (i : Int) : wIn s i = (bytes (bytes (connect s i).1 i (helloB [117])).1 i (typedB 1 cFloor)).1 := rfl
theorem chk_next {L m k : Nat} {s : Br} (h : chk L (m + 1) k s = true) : s.tab.holder = (k : Int) ∧ chk L m (k + 1) (tks L s) = true := by
  unfold chk at h
  simp only [Bool.and_eq_true, beq_iff_eq] at h
  exact h
theorem chk_end {L k : Nat} {s : Br} (h : chk L 0 k s = true) : s.tab.holder = (k : Int) - 1 := by
  unfold chk at h
  simpa using h
set_option maxHeartbeats 8000000 in
set_option maxRecDepth 100000 in
theorem waits_law (w : World) (henv : Or.Env w) (lease : Int) (wl : (Lit.int .i64 lease).wf = true) (users : Int) (wu : (Lit.int .i64 users).wf = true) : Calls Tryz.prog 6 #[.int .i64 lease, .int .i64 users] w fun e w' => e = .returned (.bool true) ∧ Upd (fun _ => False) w w' := by
  have HENV := Asd.mk henv
  obtain ⟨l0, hl0, hb1⟩ := and_le lease 7 (by omega)
  obtain ⟨u0, hu0, hb2⟩ := and_le users 7 (by omega)
  have hand1 : Go.bits .and .i64 lease 7 = (l0 : Int) := hb1
  have hand2 : Go.bits .and .i64 users 7 = (u0 : Int) := hb2
  obtain ⟨L, hL⟩ : ∃ L, L = l0 + 1 := ⟨_, rfl⟩
  obtain ⟨U, hU⟩ : ∃ U, U = u0 + 2 := ⟨_, rfl⟩
  have hLi : (1 : Int) + (l0 : Int) = (L : Int) := by omega
  have hUi : (2 : Int) + (u0 : Int) = (U : Int) := by omega
  have hL1 : 1 ≤ L := by omega
  have hL2 : L ≤ 8 := by omega
  have hU1 : 2 ≤ U := by omega
  have hU2 : U ≤ 9 := by omega
  have hall : chk L U 1 (jn U 0 (new (cfL L))) = true := by rw [hL, hU]; exact waits_all u0 l0 (by omega) (by omega)
  have hrt : rightC (cfL L) = true := by unfold rightC cfL dflt; simp only [decide_eq_true_eq]; omega
  obtain ⟨s0, hs0⟩ : ∃ s0, s0 = new (cfL L) := ⟨_, rfl⟩
  rw [← hs0] at hall
  have HS0 := Asd.mk hs0
  have HALL := Asd.mk hall
  have HRT := Asd.mk hrt
  have HG0 : Asd (Gd 0 s0) := ⟨by rw [hs0]; exact Gd.new _ hrt⟩
  have HHE := Asd.mk (fun w h => head_calls w h)
  have HTL := Asd.mk (fun w => helloN_calls [117] w)
  have HTY := Asd.mk (fun w => typedN_calls 1 cFloor w)
  have HDF := Asd.mk (fun w => default_calls w)
  unfold cfV dflt at HDF
  clear hb1 hb2 hL hU wl wu henv hall hrt hs0
  go_enter Tryz.func6, Tryz.ntmps6
  go_wp2_with fail
  refine (HHE.out w HENV.out).mono ?_
  rintro e w1 ⟨rfl, hu1⟩
  have HU1 := Asd.mk hu1
  clear hu1
  go_wp2_with fail
  refine (HDF.out w1).mono ?_
  rintro e w2 ⟨rfl, hu2⟩
  have HU2 := Asd.mk (HU1.out.trans hu2 (fun _ _ h => h))
  clear hu2 HU1
  go_upto_region 7 with fail
  have HU3 := Asd.mk (HU2.out.alloc (.cells #[.int .i64 4096, .int .i64 512, .int .i64 2048, .int .i64 256, .int .i64 3, .int .i64 (L : Int), .int .i64 0, .int .i64 80] 26))
  go_wp2_with fail
  refine (scnew_calls HU3.out (env_upd HENV.out HU3.out (fun _ h => h.elim)) (cfL L) HRT.out).mono ?_
  rw [← HS0.out]
  rintro e w4 ⟨q, F4, rfl, h4, hl4, hu4⟩
  have H4 := Asd.mk h4
  clear h4 hl4 hu4 HU2 HU3
  go_wp2
  go_loopw [7] (fun v7 wr => ∃ (j : Nat) (s : Br) (F : Nat → Prop), v7 = .int .i64 ((j + 1 : Nat) : Int) ∧ j ≤ U ∧ Asd (Sc w q s wr F) ∧ Asd (Gd (20000 * j) s) ∧ Asd (chk L U 1 (jn (U - j) j s) = true)) (fun v7 _ => U + 1 - (intOf v7).toNat)
  case atStart => exact ⟨0, s0, F4, rfl, Nat.zero_le _, H4, HG0, HALL⟩
  case round =>
    obtain ⟨j, s, F, rfl, hj, HS, HG, HC⟩ := hrel
    by_cases hlt : j < U
    · obtain ⟨i, hi⟩ : ∃ i : Nat, i = j + 1 := ⟨_, rfl⟩
      have hle : (i : Int) ≤ (U : Int) := by omega
      rw [← hi]
      have HI := Asd.mk hi
      have hi9 : i ≤ 9 := by omega
      obtain ⟨s1, hs1⟩ : ∃ s1, s1 = (connect s (i : Int)).1 := ⟨_, rfl⟩
      obtain ⟨s2, hs2⟩ : ∃ s2, s2 = (bytes s1 (i : Int) (helloB [117])).1 := ⟨_, rfl⟩
      obtain ⟨s3, hs3⟩ : ∃ s3, s3 = (bytes s2 (i : Int) (typedB 1 cFloor)).1 := ⟨_, rfl⟩
      have hw3 : s3 = wIn s (i : Int) := by rw [hs3, hs2, hs1]; rfl
      have HC3 : Asd (chk L U 1 (jn (U - i) i s3) = true) := ⟨by
        have h := HC.out
        rw [show U - j = (U - i) + 1 by omega] at h
        unfold jn at h
        rw [← hi, ← hw3] at h
        exact h⟩
      have HG1 : Asd (Gd (20000 * j) s1) := ⟨by rw [hs1]; exact HG.out.connect _⟩
      have HG2 : Asd (Gd (20000 * j + 6000) s2) := ⟨by rw [hs2]; exact (HG1.out.bytes _ _).mono (by have := helloB_len [117]; omega)⟩
      have HG3 : Asd (Gd (20000 * i) s3) := ⟨by rw [hs3]; exact (HG2.out.bytes _ _).mono (by have := typedB_len 1 cFloor; omega)⟩
      have HS1 := Asd.mk hs1
      have HS2 := Asd.mk hs2
      have HS3 := Asd.mk hs3
      have HJB : Asd (j ≤ 8) := ⟨by omega⟩
      clear hi hs1 hs2 hs3 hw3 hlt
      go_wp2_with fail
      refine (HS.out.connect HG.out (i : Int) (by omega)).mono ?_
      rw [← HS1.out]
      rintro e w5 ⟨rfl, F5, h5, t5⟩
      have H5 := Asd.mk h5
      clear h5 t5
      go_wp2_with fail
      refine (HTL.out w5).mono ?_
      rintro e w6 ⟨A6, c6, G6, rfl, ho6, hg6, hl6, hm6, hu6⟩
      have H6 := Asd.mk (H5.out.upd hu6)
      have P6 := Asd.mk (H5.out.fresh ho6 hg6)
      clear ho6 hg6 hl6 hm6 hu6
      go_wp2_with fail
      refine (H6.out.bytes HG1.out (by have := HJB.out; omega) (i : Int) (by omega) A6 c6 (helloB [117]) P6.out.rd P6.out.ad (by have := helloB_len [117]; omega)).mono ?_
      rw [← HS2.out]
      rintro e w7 ⟨rfl, F7, h7, t7⟩
      have H7 := Asd.mk h7
      clear h7 t7
      go_wp2_with fail
      refine (HTY.out w7).mono ?_
      rintro e w8 ⟨A8, c8, G8, rfl, ho8, hg8, hl8, hm8, hu8⟩
      have H8 := Asd.mk (H7.out.upd hu8)
      have P8 := Asd.mk (H7.out.fresh ho8 hg8)
      clear ho8 hg8 hl8 hm8 hu8
      go_wp2_with fail
      refine (H8.out.bytes HG2.out (by have := HJB.out; omega) (i : Int) (by omega) A8 c8 (typedB 1 cFloor) P8.out.rd P8.out.ad (by have := typedB_len 1 cFloor; omega)).mono ?_
      rw [← HS3.out]
      rintro e w9 ⟨rfl, F9, h9, t9⟩
      have H9 := Asd.mk h9
      clear h9 t9
      go_wp2
      go_roundw
      case rel => exact ⟨i, s3, F9, by go_num, by have := HI.out; omega, H9, HG3, HC3⟩
      case measure => have := HI.out; simp only [intOf]; omega
    · have hjU : j = U := by omega
      have hgt : ¬ (((j + 1 : Nat) : Int) ≤ (U : Int)) := by omega
      have HC2 : Asd (chk L U 1 s = true) := ⟨by have h := HC.out; rw [hjU, Nat.sub_self] at h; exact h⟩
      have HGB : Asd (Gd 180000 s) := ⟨HG.out.mono (by omega)⟩
      clear hlt hjU
      go_wp2
      go_loopw [8] (fun v8 wr => ∃ (k : Nat) (t : Br) (F1 : Nat → Prop), v8 = .int .i64 ((k + 1 : Nat) : Int) ∧ k ≤ U ∧ Asd (Sc w q t wr F1) ∧ Asd (Gd (180000 + 200 * k) t) ∧ Asd (chk L (U - k) (k + 1) t = true)) (fun v8 _ => U + 1 - (intOf v8).toNat)
      case atStart => exact ⟨0, s, F, rfl, Nat.zero_le _, HS, HGB, HC2⟩
      case round =>
        clear HS HG HC HC2 HGB
        obtain ⟨k, t, F1, rfl, hk, HS, HG, HC⟩ := hrel
        by_cases hkU : k < U
        · obtain ⟨i, hi⟩ : ∃ i : Nat, i = k + 1 := ⟨_, rfl⟩
          have hle : (i : Int) ≤ (U : Int) := by omega
          have hch := HC.out
          rw [show U - k = (U - i) + 1 by omega, ← hi] at hch
          obtain ⟨hh, hn⟩ := chk_next hch
          rw [← hi]
          have HI := Asd.mk hi
          have HH := Asd.mk hh
          have HN := Asd.mk hn
          have hii : ((i : Int) != (i : Int)) = false := bne_self_eq_false _
          have HKB : Asd (k ≤ 9) := ⟨by omega⟩
          clear hi hch hh hn hkU
          go_wp2_with fail
          refine HS.out.holder.mono ?_
          rw [HH.out]
          rintro e w5 ⟨rfl, rfl⟩
          go_wp2
          go_loopw [9] (fun v9 wr2 => ∃ (a : Nat) (t2 : Br) (F2 : Nat → Prop), v9 = .int .i64 (a : Int) ∧ a ≤ L ∧ Asd (Sc w q t2 wr2 F2) ∧ Asd (Gd (180000 + 200 * k + 16 * a) t2) ∧ Asd (chk L (U - i) (i + 1) (tks (L - a) t2) = true)) (fun v9 _ => L - (intOf v9).toNat)
          case atStart => exact ⟨0, t, F1, rfl, Nat.zero_le _, HS, HG, HN⟩
          case round =>
            clear HS HG HC HN
            obtain ⟨a, t2, F2, rfl, ha, HS, HG, HC⟩ := hrel
            by_cases haL : a < L
            · have HC2 : Asd (chk L (U - i) (i + 1) (tks (L - (a + 1)) (tick t2)) = true) := ⟨by
                have h := HC.out
                rw [show L - a = (L - (a + 1)) + 1 by omega] at h
                exact h⟩
              have HG2 : Asd (Gd (180000 + 200 * k + 16 * (a + 1)) (tick t2)) := ⟨HG.out.tick.mono (by omega)⟩
              go_wp2_with fail
              refine (HS.out.tick HG.out (by have := HKB.out; omega)).mono ?_
              rintro e w6 ⟨rfl, F6, h6, t6⟩
              have H6 := Asd.mk h6
              clear h6 t6
              go_wp2
              go_roundw
              case rel => exact ⟨a + 1, tick t2, F6, by go_num, by omega, H6, HG2, HC2⟩
              case measure => simp only [intOf]; omega
            · have haL2 : a = L := by omega
              have HC2 : Asd (chk L (U - i) (i + 1) t2 = true) := ⟨by have h := HC.out; rw [haL2, Nat.sub_self] at h; exact h⟩
              have HG2 : Asd (Gd (180000 + 200 * i) t2) := ⟨HG.out.mono (by have := HI.out; omega)⟩
              go_wp2
              go_roundw
              case rel => exact ⟨i, t2, F2, by go_num, by have := HI.out; omega, HS, HG2, HC2⟩
              case measure => have := HI.out; simp only [intOf]; omega
        · have hkU2 : k = U := by omega
          subst hkU2
          have hgt2 : ¬ (((k + 1 : Nat) : Int) ≤ (k : Int)) := by omega
          have hch := HC.out
          rw [Nat.sub_self] at hch
          have hh := chk_end hch
          have HH : Asd (t.tab.holder = (k : Int)) := ⟨by rw [hh]; omega⟩
          have hkk : ((k : Int) == (k : Int)) = true := by simp
          clear hch hh hkU
          go_wp2_with fail
          refine HS.out.holder.mono ?_
          rw [HH.out]
          rintro e w5 ⟨rfl, rfl⟩
          go_wp2
          go_ret
          exact ⟨rfl, HS.out.up⟩
end Go.Proofs.YteepkanbiefpjaaGreatDoor.Bk
