/- Messages as frames (package msg): numbers, Frame, Of, Size; the law's Body. -/
import Derived.Test.YtpphejjdgplalaaMsg
import Derived.Test.YtpphejjdgplalaaK4
set_option linter.unusedVariables false
set_option linter.unusedSimpArgs false
namespace Go.Proofs.Ytpphejjdgplalaa.MgNum
open Go.RowKit K Mg

theorem info8 : (Try.prog.info? 5).map (fun i => (i.zero, i.size, i.bytes)) = some (some (.int .u8 0), 1, 1) := by kernel_rfl
/-- A number's six bytes. -/
def num6 (x : Nat) : List UInt8 := [UInt8.ofNat (x / 1099511627776), UInt8.ofNat (x / 4294967296), UInt8.ofNat (x / 16777216), UInt8.ofNat (x / 65536), UInt8.ofNat (x / 256), UInt8.ofNat x]
theorem num6_length (x : Nat) : (num6 x).length = 6 := rfl
set_option maxHeartbeats 2000000 in
theorem number_calls (A : Option Addr) (c : Nat) (l : List UInt8) (x : Nat) (G : Option Nat) (w0 w : World) (hu : Upd (fun _ => False) w0 w) (ho : Own w 5 1 (.slice A l.length c) l.length (B l) G) (hG : ∀ g, G = some g → w0.heap.size ≤ g) (hx : x ≤ 1099511627776) (hl : l.length ≤ 1000) :
    Calls Try.prog 46 #[.slice A l.length c, .int .i64 (x : Int)] w fun e w' => ∃ A' c' G', e = .returned (.slice A' (l.length + 6) c') ∧ Own w' 5 1 (.slice A' (l.length + 6) c') (l.length + 6) (B (l ++ num6 x)) G' ∧ (∀ g, G' = some g → w0.heap.size ≤ g) ∧ Upd (fun _ => False) w0 w' := by
  have HU := Asd.mk hu
  have HO := Asd.mk ho
  have HG := Asd.mk hG
  obtain ⟨_, _, hv, hc, hm, _, _⟩ := ho.slice
  injection hv with e1 e2 e3
  subst e3
  obtain ⟨n, hn⟩ : ∃ n, n = l.length := ⟨_, rfl⟩
  rw [← hn] at HO hc hl
  rw [← hn]
  have HN := Asd.mk hn
  clear hu ho hG e2 e1 hn
  go_enter Try.func46, Try.ntmps46
  go_wp2
  go_loopw [0, 5] (fun v0 v5 wr => ∃ (j pl : Nat) (Ab : Option Addr) (cb : Nat) (Gb : Option Nat), j ≤ 6 ∧ v5 = .int .i64 (40 - 8 * (j : Int)) ∧ v0 = .slice Ab pl cb ∧ pl = n + j ∧ pl ≤ cb ∧ cb ≤ maxLen ∧ Asd (Own wr 5 1 (.slice Ab pl cb) pl (B (l ++ (num6 x).take j)) Gb) ∧ Asd (∀ g, Gb = some g → w0.heap.size ≤ g) ∧ Asd (Upd (fun _ => False) w0 wr)) (fun _ v5 _ => (intOf v5 + 8).toNat)
  case atStart => exact ⟨0, n, A, _, G, by omega, rfl, rfl, rfl, hc, hm, by simpa using HO, HG, HU⟩
  case round =>
    obtain ⟨j, pl, Ab, cb, Gb, hj, rfl, rfl, hpl, hplc, hcm, HOb, HGb, HUb⟩ := hrel
    by_cases h6 : j = 6
    · subst h6
      have HL := Asd.mk (show pl = n + 6 from hpl)
      have HT := Asd.mk (show (num6 x).take 6 = num6 x from rfl)
      clear hpl
      go_wp2
      go_ret
      have h1 := HOb.out
      rw [HT.out, HL.out] at h1
      exact ⟨Ab, cb, Gb, by rw [HL.out]; rfl, h1, HGb.out, HUb.out⟩
    · have HPl := Asd.mk hpl
      have hpb : pl ≤ 1006 := by omega
      clear hpl
      rcases (by omega : j = 0 ∨ j = 1 ∨ j = 2 ∨ j = 3 ∨ j = 4 ∨ j = 5) with rfl | rfl | rfl | rfl | rfl | rfl
      · go_wp2_with (first | (with_reducible refine stop_append _ _ _ _ rfl ?_) | (with_reducible refine stop_copy _ _ _ _ rfl ?_) | (with_reducible refine stop_make _ _ _ rfl ?_) | (with_reducible refine stop_conv 27 9 _ rfl ?_))
        refine wp_appendF (S := fun _ => False) (w0 := w0) (by exact (by repeat (first | exact HUb.out | refine Upd.drew ?_ | refine Upd.drewN ?_ _ | refine Upd.alloc ?_ _))) (pl + 1) 5 (l ++ (num6 x).take 0) [(num6 x).getD 0 0] Gb Ab pl cb (some ⟨wr.heap.size, 0, none⟩) 1 1 rfl _ _ 27 rfl Try.underlying27 info8 rfl rfl (HOb.out.upd ((Upd.refl (fun _ => False) _).alloc _) (fun _ _ h => h)) HGb.out (Rd.lit wr _ _ _ 1 _ (by simp [B, num6] <;> omega) rfl (by omega)) rfl (by omega) ?_
        intro A5 c5 w5 G5 hc5 hm5 hO5 hG5 hu5 _ _
        rw [List.append_assoc, show (num6 x).take 0 ++ [(num6 x).getD 0 0] = (num6 x).take 1 from rfl] at hO5
        have HO5 := Asd.mk hO5
        have HG5 := Asd.mk hG5
        have HU5 := Asd.mk hu5
        clear hO5 hG5 hu5 HOb HGb HUb
        go_wp2
        go_roundw
        case rel => exact ⟨1, pl + 1, A5, c5, G5, by omega, rfl, rfl, by have := HPl.out; omega, hc5, hm5, HO5, HG5, HU5⟩
        case measure => (simp only [intOf]; decide)
      · go_wp2_with (first | (with_reducible refine stop_append _ _ _ _ rfl ?_) | (with_reducible refine stop_copy _ _ _ _ rfl ?_) | (with_reducible refine stop_make _ _ _ rfl ?_) | (with_reducible refine stop_conv 27 9 _ rfl ?_))
        refine wp_appendF (S := fun _ => False) (w0 := w0) (by exact (by repeat (first | exact HUb.out | refine Upd.drew ?_ | refine Upd.drewN ?_ _ | refine Upd.alloc ?_ _))) (pl + 1) 5 (l ++ (num6 x).take 1) [(num6 x).getD 1 0] Gb Ab pl cb (some ⟨wr.heap.size, 0, none⟩) 1 1 rfl _ _ 27 rfl Try.underlying27 info8 rfl rfl (HOb.out.upd ((Upd.refl (fun _ => False) _).alloc _) (fun _ _ h => h)) HGb.out (Rd.lit wr _ _ _ 1 _ (by simp [B, num6] <;> omega) rfl (by omega)) rfl (by omega) ?_
        intro A5 c5 w5 G5 hc5 hm5 hO5 hG5 hu5 _ _
        rw [List.append_assoc, show (num6 x).take 1 ++ [(num6 x).getD 1 0] = (num6 x).take 2 from rfl] at hO5
        have HO5 := Asd.mk hO5
        have HG5 := Asd.mk hG5
        have HU5 := Asd.mk hu5
        clear hO5 hG5 hu5 HOb HGb HUb
        go_wp2
        go_roundw
        case rel => exact ⟨2, pl + 1, A5, c5, G5, by omega, rfl, rfl, by have := HPl.out; omega, hc5, hm5, HO5, HG5, HU5⟩
        case measure => (simp only [intOf]; decide)
      · go_wp2_with (first | (with_reducible refine stop_append _ _ _ _ rfl ?_) | (with_reducible refine stop_copy _ _ _ _ rfl ?_) | (with_reducible refine stop_make _ _ _ rfl ?_) | (with_reducible refine stop_conv 27 9 _ rfl ?_))
        refine wp_appendF (S := fun _ => False) (w0 := w0) (by exact (by repeat (first | exact HUb.out | refine Upd.drew ?_ | refine Upd.drewN ?_ _ | refine Upd.alloc ?_ _))) (pl + 1) 5 (l ++ (num6 x).take 2) [(num6 x).getD 2 0] Gb Ab pl cb (some ⟨wr.heap.size, 0, none⟩) 1 1 rfl _ _ 27 rfl Try.underlying27 info8 rfl rfl (HOb.out.upd ((Upd.refl (fun _ => False) _).alloc _) (fun _ _ h => h)) HGb.out (Rd.lit wr _ _ _ 1 _ (by simp [B, num6] <;> omega) rfl (by omega)) rfl (by omega) ?_
        intro A5 c5 w5 G5 hc5 hm5 hO5 hG5 hu5 _ _
        rw [List.append_assoc, show (num6 x).take 2 ++ [(num6 x).getD 2 0] = (num6 x).take 3 from rfl] at hO5
        have HO5 := Asd.mk hO5
        have HG5 := Asd.mk hG5
        have HU5 := Asd.mk hu5
        clear hO5 hG5 hu5 HOb HGb HUb
        go_wp2
        go_roundw
        case rel => exact ⟨3, pl + 1, A5, c5, G5, by omega, rfl, rfl, by have := HPl.out; omega, hc5, hm5, HO5, HG5, HU5⟩
        case measure => (simp only [intOf]; decide)
      · go_wp2_with (first | (with_reducible refine stop_append _ _ _ _ rfl ?_) | (with_reducible refine stop_copy _ _ _ _ rfl ?_) | (with_reducible refine stop_make _ _ _ rfl ?_) | (with_reducible refine stop_conv 27 9 _ rfl ?_))
        refine wp_appendF (S := fun _ => False) (w0 := w0) (by exact (by repeat (first | exact HUb.out | refine Upd.drew ?_ | refine Upd.drewN ?_ _ | refine Upd.alloc ?_ _))) (pl + 1) 5 (l ++ (num6 x).take 3) [(num6 x).getD 3 0] Gb Ab pl cb (some ⟨wr.heap.size, 0, none⟩) 1 1 rfl _ _ 27 rfl Try.underlying27 info8 rfl rfl (HOb.out.upd ((Upd.refl (fun _ => False) _).alloc _) (fun _ _ h => h)) HGb.out (Rd.lit wr _ _ _ 1 _ (by simp [B, num6] <;> omega) rfl (by omega)) rfl (by omega) ?_
        intro A5 c5 w5 G5 hc5 hm5 hO5 hG5 hu5 _ _
        rw [List.append_assoc, show (num6 x).take 3 ++ [(num6 x).getD 3 0] = (num6 x).take 4 from rfl] at hO5
        have HO5 := Asd.mk hO5
        have HG5 := Asd.mk hG5
        have HU5 := Asd.mk hu5
        clear hO5 hG5 hu5 HOb HGb HUb
        go_wp2
        go_roundw
        case rel => exact ⟨4, pl + 1, A5, c5, G5, by omega, rfl, rfl, by have := HPl.out; omega, hc5, hm5, HO5, HG5, HU5⟩
        case measure => (simp only [intOf]; decide)
      · go_wp2_with (first | (with_reducible refine stop_append _ _ _ _ rfl ?_) | (with_reducible refine stop_copy _ _ _ _ rfl ?_) | (with_reducible refine stop_make _ _ _ rfl ?_) | (with_reducible refine stop_conv 27 9 _ rfl ?_))
        refine wp_appendF (S := fun _ => False) (w0 := w0) (by exact (by repeat (first | exact HUb.out | refine Upd.drew ?_ | refine Upd.drewN ?_ _ | refine Upd.alloc ?_ _))) (pl + 1) 5 (l ++ (num6 x).take 4) [(num6 x).getD 4 0] Gb Ab pl cb (some ⟨wr.heap.size, 0, none⟩) 1 1 rfl _ _ 27 rfl Try.underlying27 info8 rfl rfl (HOb.out.upd ((Upd.refl (fun _ => False) _).alloc _) (fun _ _ h => h)) HGb.out (Rd.lit wr _ _ _ 1 _ (by simp [B, num6] <;> omega) rfl (by omega)) rfl (by omega) ?_
        intro A5 c5 w5 G5 hc5 hm5 hO5 hG5 hu5 _ _
        rw [List.append_assoc, show (num6 x).take 4 ++ [(num6 x).getD 4 0] = (num6 x).take 5 from rfl] at hO5
        have HO5 := Asd.mk hO5
        have HG5 := Asd.mk hG5
        have HU5 := Asd.mk hu5
        clear hO5 hG5 hu5 HOb HGb HUb
        go_wp2
        go_roundw
        case rel => exact ⟨5, pl + 1, A5, c5, G5, by omega, rfl, rfl, by have := HPl.out; omega, hc5, hm5, HO5, HG5, HU5⟩
        case measure => (simp only [intOf]; decide)
      · go_wp2_with (first | (with_reducible refine stop_append _ _ _ _ rfl ?_) | (with_reducible refine stop_copy _ _ _ _ rfl ?_) | (with_reducible refine stop_make _ _ _ rfl ?_) | (with_reducible refine stop_conv 27 9 _ rfl ?_))
        refine wp_appendF (S := fun _ => False) (w0 := w0) (by exact (by repeat (first | exact HUb.out | refine Upd.drew ?_ | refine Upd.drewN ?_ _ | refine Upd.alloc ?_ _))) (pl + 1) 5 (l ++ (num6 x).take 5) [(num6 x).getD 5 0] Gb Ab pl cb (some ⟨wr.heap.size, 0, none⟩) 1 1 rfl _ _ 27 rfl Try.underlying27 info8 rfl rfl (HOb.out.upd ((Upd.refl (fun _ => False) _).alloc _) (fun _ _ h => h)) HGb.out (Rd.lit wr _ _ _ 1 _ (by simp [B, num6] <;> omega) rfl (by omega)) rfl (by omega) ?_
        intro A5 c5 w5 G5 hc5 hm5 hO5 hG5 hu5 _ _
        rw [List.append_assoc, show (num6 x).take 5 ++ [(num6 x).getD 5 0] = (num6 x).take 6 from rfl] at hO5
        have HO5 := Asd.mk hO5
        have HG5 := Asd.mk hG5
        have HU5 := Asd.mk hu5
        clear hO5 hG5 hu5 HOb HGb HUb
        go_wp2
        go_roundw
        case rel => exact ⟨6, pl + 1, A5, c5, G5, by omega, rfl, rfl, by have := HPl.out; omega, hc5, hm5, HO5, HG5, HU5⟩
        case measure => (simp only [intOf]; decide)
/-- A message's body. -/
def mbody (k : Int) (a b : Nat) (t : List UInt8) : List UInt8 := (num6 a ++ num6 b).take (6 * nums k) ++ t
theorem mbody_length (k : Int) (a b : Nat) (t : List UInt8) : (mbody k a b t).length = 6 * nums k + t.length := by
  unfold mbody
  have := nums_le k
  rw [List.length_append, List.length_take, List.length_append, num6_length, num6_length]
  omega
def RowPost (l : List UInt8) (w : World) (e : Ending) (w' : World) : Prop :=
  ∃ A c G, e = .returned (.slice A l.length c) ∧ Own w' 5 1 (.slice A l.length c) l.length (B l) G ∧ (∀ g, G = some g → w.heap.size ≤ g) ∧ l.length ≤ c ∧ c ≤ maxLen ∧ Upd (fun _ => False) w w'
set_option maxHeartbeats 2000000 in
theorem body_calls (k : Int) (a b : Nat) (t : List UInt8) (w : World) (hk : known k = true) (ha : a ≤ 1099511627776) (hb : b ≤ 1099511627776) (ht : t.length ≤ 1048576) :
    Calls Try.prog 33 #[.agg #[.int .i64 k, .int .i64 (a : Int), .int .i64 (b : Int), .string (S t)]] w (RowPost (mbody k a b t) w) := by
  obtain ⟨N, hN⟩ : ∃ N, N = nums k := ⟨_, rfl⟩
  have hN2 : N ≤ 2 := by rw [hN]; exact nums_le k
  obtain ⟨R, hR⟩ : ∃ R, R = mbody k a b t := ⟨_, rfl⟩
  have HR := Asd.mk (show R = (num6 a ++ num6 b).take (6 * N) ++ t by rw [hR, hN]; rfl)
  have HRL := Asd.mk (show R.length = 6 * N + t.length by rw [hR, mbody_length, hN])
  rw [← hR]
  have HK := Asd.mk (And.intro hk hN)
  clear hk hN hR
  go_enter Try.func33, Try.ntmps33
  go_wp2_with fail
  refine (has_calls k _).mono ?_
  rw [HK.out.1, if_pos rfl, if_pos rfl, ← HK.out.2]
  rintro e w1 ⟨rfl, hu⟩
  have hbk := hu.blk (heap_alloc_new w (.cells #[.int .i64 k, .int .i64 (a : Int), .int .i64 (b : Int), .string (S t)] 44)) (fun h => h)
  have hx1 : w1.cell? ⟨w.heap.size, 1, none⟩ = some (.int .i64 (a : Int)) := by simp [World.cell?, hbk]
  have hx2 : w1.cell? ⟨w.heap.size, 2, none⟩ = some (.int .i64 (b : Int)) := by simp [World.cell?, hbk]
  have hx3 : w1.cell? ⟨w.heap.size, 3, none⟩ = some (.string (S t)) := by simp [World.cell?, hbk]
  have HX := Asd.mk (And.intro hx1 (And.intro hx2 hx3))
  have HU := Asd.mk (((Upd.refl (fun _ => False) w).alloc (.cells #[.int .i64 k, .int .i64 (a : Int), .int .i64 (b : Int), .string (S t)] 44)).trans hu (fun _ _ h => h))
  have hs1 := HU.out.size
  clear hu hbk hx1 hx2 hx3
  go_wp2
  go_loopw [5, 6] (fun v5 v6 wr => ∃ (j pl : Nat) (Ab : Option Addr) (cb : Nat) (Gb : Option Nat), j ≤ N ∧ v6 = .int .i64 (j : Int) ∧ v5 = .slice Ab pl cb ∧ Asd (pl = 6 * j) ∧ pl ≤ 12 ∧ pl ≤ cb ∧ cb ≤ maxLen ∧ Asd (Own wr 5 1 (.slice Ab pl cb) pl (B ((num6 a ++ num6 b).take (6 * j))) Gb) ∧ Asd (∀ g, Gb = some g → w1.heap.size ≤ g) ∧ Asd (Upd (fun _ => False) w1 wr)) (fun _ v6 _ => N - (intOf v6).toNat)
  case atStart => exact ⟨0, 0, some ⟨w1.heap.size, 0, none⟩, 0, some w1.heap.size, by omega, rfl, rfl, ⟨rfl⟩, by omega, by omega, by simp [maxLen], ⟨Own.lit w1 _ 1 0 #[] (by simp [maxLen]) rfl⟩, ⟨fun g e => by obtain rfl := Option.some.inj e; exact Nat.le_refl _⟩, ⟨(Upd.refl _ _).alloc _⟩⟩
  case round =>
    obtain ⟨j, pl, Ab, cb, Gb, hj, rfl, rfl, HPl, hpl, hplc, hcm, HO, HG, HW⟩ := hrel
    have hx1 := HW.out.cell HX.out.1 (fun h => h)
    have hx2 := HW.out.cell HX.out.2.1 (fun h => h)
    have hx3 := HW.out.cell HX.out.2.2 (fun h => h)
    by_cases hlt : j < N
    · rcases (by omega : j = 0 ∨ j = 1) with rfl | rfl
      · go_wp2_with (first | (with_reducible refine stop_append _ _ _ _ rfl ?_) | (with_reducible refine stop_copy _ _ _ _ rfl ?_) | (with_reducible refine stop_make _ _ _ rfl ?_) | (with_reducible refine stop_conv 27 9 _ rfl ?_))
        refine wp_appendF (S := fun _ => False) (w0 := w1) (by exact (by repeat (first | exact HW.out | refine Upd.drew ?_ | refine Upd.drewN ?_ _ | refine Upd.alloc ?_ _))) (pl + 6) 5 ((num6 a ++ num6 b).take (6 * 0)) (num6 a) Gb Ab pl cb (some ⟨wr.heap.size, 0, none⟩) 6 6 rfl _ _ 27 rfl Try.underlying27 info8 rfl rfl (HO.out.upd ((Upd.refl (fun _ => False) _).alloc _) (fun _ _ h => h)) HG.out (Rd.lit wr _ _ _ 6 _ (by simp [B, num6] <;> omega) rfl (by omega)) rfl (by omega) ?_
        intro A5 c5 w5 G5 hc5 hm5 hO5 hG5 hu5 _ _
        rw [show (num6 a ++ num6 b).take (6 * 0) ++ num6 a = (num6 a ++ num6 b).take (6 * 1) from rfl] at hO5
        have HO5 := Asd.mk hO5
        have HG5 := Asd.mk hG5
        have HU5 := Asd.mk hu5
        have HPl5 := Asd.mk (show pl + 6 = 6 * 1 by have := HPl.out; omega)
        clear hO5 hG5 hu5 HO HG HW hx1 hx2 hx3
        go_wp2
        go_roundw
        case rel => exact ⟨1, pl + 6, A5, c5, G5, by omega, rfl, rfl, HPl5, by have := HPl.out; omega, hc5, hm5, HO5, HG5, HU5⟩
        case measure => (simp only [intOf]; omega)
      · go_wp2_with (first | (with_reducible refine stop_append _ _ _ _ rfl ?_) | (with_reducible refine stop_copy _ _ _ _ rfl ?_) | (with_reducible refine stop_make _ _ _ rfl ?_) | (with_reducible refine stop_conv 27 9 _ rfl ?_))
        refine wp_appendF (S := fun _ => False) (w0 := w1) (by exact (by repeat (first | exact HW.out | refine Upd.drew ?_ | refine Upd.drewN ?_ _ | refine Upd.alloc ?_ _))) (pl + 6) 5 ((num6 a ++ num6 b).take (6 * 1)) (num6 b) Gb Ab pl cb (some ⟨wr.heap.size, 0, none⟩) 6 6 rfl _ _ 27 rfl Try.underlying27 info8 rfl rfl (HO.out.upd ((Upd.refl (fun _ => False) _).alloc _) (fun _ _ h => h)) HG.out (Rd.lit wr _ _ _ 6 _ (by simp [B, num6] <;> omega) rfl (by omega)) rfl (by omega) ?_
        intro A5 c5 w5 G5 hc5 hm5 hO5 hG5 hu5 _ _
        rw [show (num6 a ++ num6 b).take (6 * 1) ++ num6 b = (num6 a ++ num6 b).take (6 * 2) from rfl] at hO5
        have HO5 := Asd.mk hO5
        have HG5 := Asd.mk hG5
        have HU5 := Asd.mk hu5
        have HPl5 := Asd.mk (show pl + 6 = 6 * 2 by have := HPl.out; omega)
        clear hO5 hG5 hu5 HO HG HW hx1 hx2 hx3
        go_wp2
        go_roundw
        case rel => exact ⟨2, pl + 6, A5, c5, G5, by omega, rfl, rfl, HPl5, by have := HPl.out; omega, hc5, hm5, HO5, HG5, HU5⟩
        case measure => (simp only [intOf]; omega)
    · have hjn : j = N := by omega
      subst hjn
      go_wp2_with (first | (with_reducible refine stop_append _ _ _ _ rfl ?_) | (with_reducible refine stop_copy _ _ _ _ rfl ?_) | (with_reducible refine stop_make _ _ _ rfl ?_) | (with_reducible refine stop_conv 27 9 _ rfl ?_))
      refine wp_appendS HW.out (pl + t.length) 5 ((num6 a ++ num6 b).take (6 * j)) t Gb Ab pl cb rfl _ _ 27 9 rfl Try.underlying27 Try.underlying9 info8 rfl rfl HO.out HG.out rfl (by omega) ?_
      intro A5 c5 w5 G5 hc5 hm5 hO5 hG5 hu5
      have hrl : R.length = pl + t.length := by rw [HRL.out, HPl.out]
      rw [← HR.out] at hO5
      have HO5 := Asd.mk hO5
      have HG5 := Asd.mk hG5
      have HU5 := Asd.mk (HU.out.trans hu5 (fun _ _ h => h))
      have HRL2 := Asd.mk hrl
      clear hO5 hG5 hu5 hrl
      go_wp2
      go_ret
      exact ⟨A5, c5, G5, by rw [HRL2.out]; rfl, by rw [HRL2.out]; exact HO5.out, fun g e => by have := HG5.out g e; omega, by rw [HRL2.out]; exact hc5, hm5, HU5.out⟩
end Go.Proofs.Ytpphejjdgplalaa.MgNum
