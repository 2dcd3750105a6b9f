/- A message as a frame (msg.Frame), and how many bytes it has: what each call comes to. -/
import Derived.Test.YtpphejjdgplalaaMsgOfW
set_option linter.unusedVariables false
set_option linter.unusedSimpArgs false
namespace Go.Proofs.Ytpphejjdgplalaa.MgFr
open Go.RowKit K Mg MgNum MgOf

theorem right_nat (k a b : Int) (n : Nat) (h : right k a b n = true) : known k = true ∧ n ≤ most k ∧ 0 ≤ a ∧ 0 ≤ b ∧ a ≤ 1099511627776 ∧ b ≤ 1099511627776 ∧ (0 < nums k ∨ a = 0) ∧ (1 < nums k ∨ b = 0) := by
  unfold right at h
  simpa only [Bool.and_eq_true, Bool.or_eq_true, decide_eq_true_eq, beq_iff_eq] using h
/-- Two cells of a struct are stored into. -/
theorem two {w : World} {r : Nat} {x0 x1 : Value} {e : TypeId} (h : w.heap[r]? = some (.cells #[x0, x1] e (0, 0))) :
    (w.cell? ⟨r, 0, none⟩ = some x0 ∧ w.frozen? ⟨r, 0, none⟩ = false) ∧
    (∀ v0, (w.setCell ⟨r, 0, none⟩ v0).cell? ⟨r, 1, none⟩ = some x1 ∧ (w.setCell ⟨r, 0, none⟩ v0).frozen? ⟨r, 1, none⟩ = false) ∧
    (∀ v0 v1, ((w.setCell ⟨r, 0, none⟩ v0).setCell ⟨r, 1, none⟩ v1).heap[r]? = some (.cells #[v0, v1] e (0, 0))) := by
  have b0 := fun v0 => blk_setCell (o := 0) h v0
  have b1 := fun v0 v1 => blk_setCell (o := 1) (b0 v0) v1
  refine ⟨⟨by simp [World.cell?, h], by simp [World.frozen?, h]⟩, fun v0 => ⟨by simp [World.cell?, b0], by simp [World.frozen?, b0]⟩, fun v0 v1 => ?_⟩
  rw [b1]
  rfl
def FramePost (k a b : Int) (t : List UInt8) (w : World) (e : Ending) (w' : World) : Prop :=
  Upd (fun _ => False) w w' ∧ (right k a b t.length = false → e = .returned (.tuple #[.agg #[.int .u8 0, .slice none 0 0], .bool false])) ∧
    (right k a b t.length = true → ∃ A c G, e = .returned (.tuple #[.agg #[.int .u8 k, .slice A (mbody k a.toNat b.toNat t).length c], .bool true]) ∧ Own w' 5 1 (.slice A (mbody k a.toNat b.toNat t).length c) (mbody k a.toNat b.toNat t).length (B (mbody k a.toNat b.toNat t)) G ∧ (∀ g, G = some g → w.heap.size ≤ g) ∧ (mbody k a.toNat b.toNat t).length ≤ c ∧ c ≤ maxLen)
set_option maxHeartbeats 4000000 in
set_option maxRecDepth 100000 in
theorem frame_calls (k a b : Int) (t : List UInt8) (w : World) :
    Calls Try.prog 36 #[.agg #[.int .i64 k, .int .i64 a, .int .i64 b, .string (S t)]] w (FramePost k a b t w) := by
  obtain ⟨N, hN⟩ : ∃ N, N = nums k := ⟨_, rfl⟩
  have hN2 : N ≤ 2 := by rw [hN]; exact nums_le k
  have HN := Asd.mk hN
  clear hN
  go_enter Try.func36, Try.ntmps36
  go_wp2_with fail
  refine (shape_calls k _).mono ?_
  rw [← HN.out]
  obtain ⟨M, hM⟩ : ∃ M, M = most k := ⟨_, rfl⟩
  rw [← hM]
  clear hM
  rintro e w1 ⟨rfl, rfl⟩
  have h1 := heap_alloc_new w (.cells #[.int .i64 k, .int .i64 a, .int .i64 b, .string (S t)] 44)
  have h2 := heap_alloc_new (w.alloc (.cells #[.int .i64 k, .int .i64 a, .int .i64 b, .string (S t)] 44)) (.cells #[.int .u8 0, .slice none 0 0] 53)
  rw [show (w.alloc (.cells #[.int .i64 k, .int .i64 a, .int .i64 b, .string (S t)] 44)).heap.size = w.heap.size + 1 by simp] at h2
  have h1 := ((Upd.refl (fun _ => False) _).alloc (.cells #[.int .u8 0, .slice none 0 0] 53)).blk h1 (fun h => h)
  have hU := ((Upd.refl (fun _ => False) w).alloc (.cells #[.int .i64 k, .int .i64 a, .int .i64 b, .string (S t)] 44)).alloc (.cells #[.int .u8 0, .slice none 0 0] 53)
  have H1 := Asd.mk h1
  have H2 := Asd.mk h2
  have HU := Asd.mk hU
  clear h1 h2 hU
  go_wp2_with fail
  refine (right_calls k a b (S t) _).mono ?_
  rw [S_size]
  rintro e w2 ⟨rfl, hu⟩
  have HM2 := Asd.mk (hu.blk H1.out (fun h => h))
  have HR2 := Asd.mk (hu.blk H2.out (fun h => h))
  have HU2 := Asd.mk (HU.out.trans hu (fun _ _ h => h))
  have hs2 : w.heap.size + 2 ≤ w2.heap.size := by have := hu.size; simp at this; omega
  clear hu H1 H2 HU
  cases hrt : right k a b t.length with
  | false =>
    have HF := Asd.mk hrt
    obtain ⟨⟨z0, y0⟩, g1, g2⟩ := two HR2.out
    have z1 := fun v0 => (g1 v0).1
    have y1 := fun v0 => (g1 v0).2
    have G2 := Asd.mk g2
    clear g1 g2 hrt
    go_wp2
    have q := G2.out (.int .u8 0) (.slice none 0 0)
    refine bodyPost_ret (v := .tuple #[.agg #[.int .u8 0, .slice none 0 0], .bool false]) (by simp [results, Try.results36, go_sem, World.cell?, q]) rfl ⟨?_, fun _ => rfl, fun h => by rw [HF.out] at h; cases h⟩
    exact (HU2.out.setCell (p := ⟨w.heap.size + 1, 0, none⟩) (fun e => by simp only at e; omega) _).setCell (p := ⟨w.heap.size + 1, 1, none⟩) (fun e => by simp only at e; omega) _
  | true =>
    have HF := Asd.mk hrt
    obtain ⟨hkn, htl, ha0, hb0, ha1, hb1, _, _⟩ := right_nat k a b t.length hrt
    obtain ⟨a, rfl⟩ : ∃ x : Nat, a = (x : Int) := ⟨a.toNat, by omega⟩
    obtain ⟨b, rfl⟩ : ∃ x : Nat, b = (x : Int) := ⟨b.toNat, by omega⟩
    have hk15 : 1 ≤ k ∧ k ≤ 15 := of_decide_eq_true hkn
    have htl2 : t.length ≤ 2042 := Nat.le_trans htl (most_le k)
    have ha : a ≤ 1099511627776 := by omega
    have hb : b ≤ 1099511627776 := by omega
    have hx1 : w2.cell? ⟨w.heap.size, 1, none⟩ = some (.int .i64 (a : Int)) := by simp [World.cell?, HM2.out]
    have hx2 : w2.cell? ⟨w.heap.size, 2, none⟩ = some (.int .i64 (b : Int)) := by simp [World.cell?, HM2.out]
    obtain ⟨R, hR⟩ : ∃ R, R = mbody k a b t := ⟨_, rfl⟩
    have HR := Asd.mk (show R = (num6 a ++ num6 b).take (6 * N) ++ t by rw [hR, HN.out]; rfl)
    have HRL := Asd.mk (show R.length = 6 * N + t.length by rw [hR, mbody_length, HN.out])
    have HRD := Asd.mk hR
    have hN2i : (N : Int) ≤ 2 := by omega
    clear hR hrt hkn htl ha0 hb0 ha1 hb1
    go_wp2
    clear hx1 hx2
    go_loopw [7, 29] (fun v7 v29 wr => ∃ (j pl : Nat) (Ab : Option Addr) (cb : Nat) (Gb : Option Nat), j ≤ N ∧ v29 = .int .i64 (j : Int) ∧ v7 = .slice Ab pl cb ∧ Asd (pl = 6 * j) ∧ pl ≤ 12 ∧ pl ≤ cb ∧ cb ≤ maxLen ∧ Asd (Own wr 5 1 (.slice Ab pl cb) pl (B ((num6 a ++ num6 b).take (6 * j))) Gb) ∧ Asd (∀ g, Gb = some g → (w2.alloc (.cells #[.int .i64 (a : Int), .int .i64 (b : Int)] 2)).heap.size ≤ g) ∧ Asd (Upd (fun _ => False) (w2.alloc (.cells #[.int .i64 (a : Int), .int .i64 (b : Int)] 2)) wr)) (fun _ v29 _ => N - (intOf v29).toNat)
    case atStart => exact ⟨0, 0, none, 0, none, by omega, rfl, rfl, ⟨rfl⟩, by omega, by omega, by simp [maxLen], ⟨Own.nil _ _ _⟩, ⟨fun g e => by cases e⟩, ⟨Upd.refl _ _⟩⟩
    case round =>
      obtain ⟨j, pl, Ab, cb, Gb, hj, rfl, rfl, HPl, hpl, hplc, hcm, HO, HG, HW⟩ := hrel
      have HAr := Asd.mk (HW.out.blk (heap_alloc_new w2 (.cells #[.int .i64 (a : Int), .int .i64 (b : Int)] 2)) (fun h => h))
      by_cases hlt : j < N
      · rcases (by omega : j = 0 ∨ j = 1) with rfl | rfl
        · have hp := HPl.out
          subst hp
          have hc0 : wr.cell? ⟨w2.heap.size, 0, none⟩ = some (.int .i64 (a : Int)) := by simp [World.cell?, HAr.out]
          have hwi : IntKind.i64.wrap (((0 : Nat) : Int) + 1) = ((1 : Nat) : Int) := rfl
          go_wp2_with fail
          refine (number_calls Ab cb ((num6 a ++ num6 b).take 0) a Gb (w2.alloc (.cells #[.int .i64 (a : Int), .int .i64 (b : Int)] 2)) wr HW.out HO.out HG.out ha (by rw [show ((num6 a ++ num6 b).take 0).length = 0 from rfl]; omega)).mono ?_
          rw [show ((num6 a ++ num6 b).take 0).length + 6 = 6 from rfl, show (num6 a ++ num6 b).take 0 ++ num6 a = (num6 a ++ num6 b).take (6 * 1) from rfl]
          rintro e w5 ⟨A5, c5, G5, rfl, ho5, hg5, hu5⟩
          obtain ⟨_, _, hv, hc5, hm5, _, _⟩ := ho5.slice
          injection hv with e1 e2 e3
          subst e1
          subst e3
          have HO5 := Asd.mk ho5
          have HG5 := Asd.mk hg5
          have HU5 := Asd.mk hu5
          clear ho5 hg5 hu5 HO HG HW HAr hc0
          go_wp2
          go_roundw
          case rel => exact ⟨1, 6, A5, c5, G5, by omega, rfl, rfl, ⟨rfl⟩, by omega, hc5, hm5, HO5, HG5, HU5⟩
          case measure => (simp only [intOf]; omega)
        · have hp := HPl.out
          subst hp
          have hc0 : wr.cell? ⟨w2.heap.size, 1, none⟩ = some (.int .i64 (b : Int)) := by simp [World.cell?, HAr.out]
          have hwi : IntKind.i64.wrap (((1 : Nat) : Int) + 1) = ((2 : Nat) : Int) := rfl
          go_wp2_with fail
          refine (number_calls Ab cb ((num6 a ++ num6 b).take 6) b Gb (w2.alloc (.cells #[.int .i64 (a : Int), .int .i64 (b : Int)] 2)) wr HW.out HO.out HG.out hb (by rw [show ((num6 a ++ num6 b).take 6).length = 6 from rfl]; omega)).mono ?_
          rw [show ((num6 a ++ num6 b).take 6).length + 6 = 12 from rfl, show (num6 a ++ num6 b).take 6 ++ num6 b = (num6 a ++ num6 b).take (6 * 2) from rfl]
          rintro e w5 ⟨A5, c5, G5, rfl, ho5, hg5, hu5⟩
          obtain ⟨_, _, hv, hc5, hm5, _, _⟩ := ho5.slice
          injection hv with e1 e2 e3
          subst e1
          subst e3
          have HO5 := Asd.mk ho5
          have HG5 := Asd.mk hg5
          have HU5 := Asd.mk hu5
          clear ho5 hg5 hu5 HO HG HW HAr hc0
          go_wp2
          go_roundw
          case rel => exact ⟨2, 12, A5, c5, G5, by omega, rfl, rfl, ⟨rfl⟩, by omega, hc5, hm5, HO5, HG5, HU5⟩
          case measure => (simp only [intOf]; omega)
      · have hjN : j = N := by omega
        subst hjN
        have hu3 := ((Upd.refl (fun _ => False) w2).alloc (.cells #[.int .i64 (a : Int), .int .i64 (b : Int)] 2)).trans HW.out (fun _ _ h => h)
        have HM3 := Asd.mk (hu3.blk HM2.out (fun h => h))
        have HR3 := Asd.mk (hu3.blk HR2.out (fun h => h))
        have HU3 := Asd.mk (HU2.out.trans hu3 (fun _ _ h => h))
        have HU23 := Asd.mk hu3
        have hs3 : w.heap.size + 2 ≤ wr.heap.size := by have := hu3.size; omega
        have hx0 : wr.cell? ⟨w.heap.size, 0, none⟩ = some (.int .i64 k) := by simp [World.cell?, HM3.out]
        have hx3 : wr.cell? ⟨w.heap.size, 3, none⟩ = some (.string (S t)) := by simp [World.cell?, HM3.out]
        have hkm : k % 256 = k := by omega
        have hku : IntKind.u8.wrap k = k := by simp only [IntKind.wrap, IntKind.signed, IntKind.bits]; simp; omega
        have HG3 : Asd (∀ g, Gb = some g → w2.heap.size ≤ g) := ⟨fun g e => by have := HG.out g e; simp at this; omega⟩
        clear hu3 HG HAr
        go_wp2
        go_region_law (with_reducible refine gate_appS (.tmp 40) (.tmp 42) 27 9 rfl ?_; refine step_appendS (S' := fun _ => False) (w0 := w2) (by repeat (first | exact HU23.out | refine Upd.drewN ?_ _ | refine Upd.drew ?_)) (pl + t.length) 5 ((num6 a ++ num6 b).take (6 * j)) t Gb Ab pl cb (by rfl) (.tmp 40) (.tmp 42) 27 9 (by rfl) Try.underlying27 Try.underlying9 info8 (by simp [Act.eval, Act.put]) (by simp [Act.eval, Act.put]) (HO.out.upd (S := fun _ => False) (by repeat (first | exact Upd.refl _ _ | refine Upd.drewN ?_ _ | refine Upd.drew ?_)) (fun _ _ h => h)) HG3.out (by rfl) (by omega) ?_; intro A5 c5 w5 G5 hc5 hm5 hO5 hG5 hu5; rw [← HR.out] at hO5; have hm5b := hu5.blk HM2.out (fun h => h); have hy0 : w5.cell? ⟨w.heap.size, 0, none⟩ = some (.int .i64 k) := (by simp [World.cell?, hm5b]); obtain ⟨⟨z0, y0⟩, g1, g2⟩ := two (hu5.blk HR2.out (fun h => h)); have z1 := (fun v0 => (g1 v0).1); have y1 := (fun v0 => (g1 v0).2); have G2 := Asd.mk g2; have HO5 := Asd.mk hO5; have HG5 := Asd.mk hG5; have HU5 := Asd.mk hu5; clear hO5 hG5 hu5 g1 g2 hm5b)
        all_goals
          go_wp2
          have q := G2.out (.int .u8 k) (.slice A5 (pl + t.length) c5)
          have hRl : R.length = pl + t.length := by rw [HRL.out, HPl.out]
          refine bodyPost_ret (v := .tuple #[.agg #[.int .u8 k, .slice A5 (pl + t.length) c5], .bool true]) (by simp [results, Try.results36, go_sem, World.cell?, q, hkm]) rfl ⟨?_, fun h => by (rw [HF.out] at h; cases h), fun _ => ⟨A5, c5, G5, ?_, ?_, fun g e => ?_, ?_, hm5⟩⟩
          · exact ((HU2.out.trans HU5.out (fun _ _ h => h)).setCell (p := ⟨w.heap.size + 1, 0, none⟩) (fun e => by simp only at e; omega) _).setCell (p := ⟨w.heap.size + 1, 1, none⟩) (fun e => by simp only at e; omega) _
          · rw [Int.toNat_natCast, Int.toNat_natCast, ← HRD.out, hRl]
          · rw [Int.toNat_natCast, Int.toNat_natCast, ← HRD.out, hRl]
            exact HO5.out.upd (((Upd.refl (fun i => i = w.heap.size + 1) _).setCell (fun _ => rfl) _).setCell (fun _ => rfl) _) (fun g e e2 => by have := HG5.out g e; omega)
          · have := HG5.out g e
            omega
          · rw [Int.toNat_natCast, Int.toNat_natCast, ← HRD.out, hRl]
            exact hc5
end Go.Proofs.Ytpphejjdgplalaa.MgFr
