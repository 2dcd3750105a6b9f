/- The law MsgOf: what its call comes to, for every input. -/
import Derived.Test.YtpphejjdgplalaaMsgHead
import Derived.Test.YtpphejjdgplalaaK2
import Derived.Test.YtpphejjdgplalaaRingLasts
import Derived.Deep.RegionHeld3
set_option linter.unusedVariables false
set_option linter.unusedSimpArgs false
namespace Go.Proofs.Ytpphejjdgplalaa.MgLawOf
open Go.RowKit K Mg MgNum MgOf MgFr MgHead

theorem num6_val (l : List UInt8) (h : l.length = 6) : num6 (val l) = l := by
  match l, h with
  | [b0, b1, b2, b3, b4, b5], _ =>
    have h0 := b0.toNat_lt
    have h1 := b1.toNat_lt
    have h2 := b2.toNat_lt
    have h3 := b3.toNat_lt
    have h4 := b4.toNat_lt
    have h5 := b5.toNat_lt
    simp only [num6, val, List.foldl_cons, List.foldl_nil, List.cons.injEq, and_true]
    refine ⟨?_, ?_, ?_, ?_, ?_, ?_⟩ <;> (apply UInt8.toNat_inj.1; simp only [UInt8.toNat_ofNat']; omega)
theorem mbody_is (k : Int) (body : List UInt8) (h : 6 * nums k ≤ body.length) : mbody k (numA (nums k) body) (numB (nums k) body) (body.drop (6 * nums k)) = body := by
  have hn := nums_le k
  unfold mbody
  generalize nums k = N at *
  rcases (by omega : N = 0 ∨ N = 1 ∨ N = 2) with rfl | rfl | rfl
  · simp
  · have h1 : num6 (numA 1 body) = body.take 6 := num6_val _ (by rw [List.length_take]; omega)
    rw [h1, List.take_append_of_le_length (by rw [List.length_take]; omega), List.take_of_length_le (by rw [List.length_take]; omega), List.take_append_drop]
  · have h1 : num6 (numA 2 body) = body.take 6 := num6_val _ (by rw [List.length_take]; omega)
    have h2 : num6 (numB 2 body) = (body.drop 6).take 6 := num6_val _ (by rw [List.length_take, List.length_drop]; omega)
    rw [h1, h2, List.take_of_length_le (by rw [List.length_append, List.length_take, List.length_take]; omega), List.append_assoc]
    have h3 : body.drop (6 * 2) = (body.drop 6).drop 6 := by rw [List.drop_drop]
    rw [h3, List.take_append_drop, List.take_append_drop]
set_option maxHeartbeats 4000000 in
set_option maxRecDepth 100000 in
theorem of_walk (w : World) (kind : UInt8) (A : Option Addr) (c : Nat) (body : List UInt8) (hr : Rd w A body.length body) (hc : body.length ≤ c) :
    Calls Try.prog 10 #[.agg #[.int .u8 (kind.toNat : Int), .slice A body.length c]] w fun e w' => e = .returned (.bool true) ∧ Upd (fun _ => False) w w' := by
  have HB := Asd.mk hr
  have hlim := hr.lim
  obtain ⟨k, hk⟩ : ∃ k : Int, k = (kind.toNat : Int) := ⟨_, rfl⟩
  have HKD := Asd.mk hk
  have hk0 : 0 ≤ k ∧ k ≤ 255 := by have := kind.toNat_lt; omega
  rw [← hk]
  clear hr hk
  go_enter Try.func10, Try.ntmps10
  go_wp2_with fail
  refine (MgHead.head_calls _).mono ?_
  rintro e w1 ⟨rfl, hu⟩
  have HF1 := Asd.mk (hu.blk (heap_alloc_new w (.cells #[.int .u8 k, .slice A body.length c] 53)) (fun h => h))
  have HU1 := Asd.mk (((Upd.refl (fun _ => False) w).alloc (.cells #[.int .u8 k, .slice A body.length c] 53)).trans hu (fun _ _ h => h))
  clear hu
  have hf0 : w1.cell? ⟨w.heap.size, 0, none⟩ = some (.int .u8 k) := by simp [World.cell?, HF1.out]
  have hf1 : w1.cell? ⟨w.heap.size, 1, none⟩ = some (.slice A body.length c) := by simp [World.cell?, HF1.out]
  by_cases h3 : 300 < body.length
  · go_wp2
    go_ret
    exact ⟨rfl, HU1.out⟩
  go_wp2_with fail
  rw [HKD.out]
  refine (of_calls kind A c body _ (HB.out.up HU1.out) hc (by omega)).mono ?_
  rw [← HKD.out]
  rintro e w3 ⟨hu3, rfl⟩
  have HF3 := Asd.mk (hu3.blk HF1.out (fun h => h))
  have HU3 := Asd.mk (HU1.out.trans hu3 (fun _ _ h => h))
  have hs3 : w.heap.size < w3.heap.size := blk_lt HF3.out
  clear hu3 hf0 hf1 HF1 HU1
  cases hi : isMsg k body with
  | true =>
    obtain ⟨a, ha⟩ : ∃ a, a = numA (nums k) body := ⟨_, rfl⟩
    obtain ⟨b, hb⟩ : ∃ b, b = numB (nums k) body := ⟨_, rfl⟩
    obtain ⟨t, ht⟩ : ∃ t, t = body.drop (6 * nums k) := ⟨_, rfl⟩
    unfold isMsg at hi
    simp only [Bool.and_eq_true, decide_eq_true_eq] at hi
    obtain ⟨hkn, hlen, hrt⟩ := hi
    have hmb : mbody k a b t = body := by rw [ha, hb, ht]; exact mbody_is k body hlen
    rw [← ha, ← hb, ← ht] at hrt
    obtain ⟨_, _, _, _, ha1, hb1, _, _⟩ := right_nat k a b t.length hrt
    have ha1 : a ≤ 1099511627776 := by omega
    have hb1 : b ≤ 1099511627776 := by omega
    have htl : t.length ≤ 1048576 := by rw [ht, List.length_drop]; omega
    rw [if_pos rfl, ← ha, ← hb, ← ht]
    obtain ⟨w4, hw4⟩ : ∃ w4, w4 = w3.alloc (.cells #[.int .i64 k, .int .i64 (a : Int), .int .i64 (b : Int), .string (S t)] 44) := ⟨_, rfl⟩
    have hM4 : w4.heap[w3.heap.size]? = some (.cells #[.int .i64 k, .int .i64 (a : Int), .int .i64 (b : Int), .string (S t)] 44 (0, 0)) := by rw [hw4]; exact heap_alloc_new w3 _
    have hF4 : w4.heap[w.heap.size]? = some (.cells #[.int .u8 k, .slice A body.length c] 53 (0, 0)) := by rw [hw4]; exact ((Upd.refl (fun _ => False) _).alloc _).blk HF3.out (fun h => h)
    have HU4 : Asd (Upd (fun _ => False) w w4) := ⟨by rw [hw4]; exact HU3.out.alloc _⟩
    have c0 : w4.cell? ⟨w3.heap.size, 0, none⟩ = some (.int .i64 k) := by simp [World.cell?, hM4]
    have c1 : w4.cell? ⟨w3.heap.size, 1, none⟩ = some (.int .i64 (a : Int)) := by simp [World.cell?, hM4]
    have c2 : w4.cell? ⟨w3.heap.size, 2, none⟩ = some (.int .i64 (b : Int)) := by simp [World.cell?, hM4]
    have c3 : w4.cell? ⟨w3.heap.size, 3, none⟩ = some (.string (S t)) := by simp [World.cell?, hM4]
    have f0 : w4.cell? ⟨w.heap.size, 0, none⟩ = some (.int .u8 k) := by simp [World.cell?, hF4]
    have f1 : w4.cell? ⟨w.heap.size, 1, none⟩ = some (.slice A body.length c) := by simp [World.cell?, hF4]
    have hku : IntKind.u8.wrap k = k := by simp only [IntKind.wrap, IntKind.signed, IntKind.bits]; simp; omega
    have hkm : k % 256 = k := by omega
    have hst : ∀ W, Upd (fun _ => False) w4 W → Asd (W.cell? ⟨w3.heap.size, 0, none⟩ = some (.int .i64 k) ∧ W.cell? ⟨w3.heap.size, 1, none⟩ = some (.int .i64 (a : Int)) ∧ W.cell? ⟨w3.heap.size, 2, none⟩ = some (.int .i64 (b : Int)) ∧ W.cell? ⟨w3.heap.size, 3, none⟩ = some (.string (S t)) ∧ W.cell? ⟨w.heap.size, 0, none⟩ = some (.int .u8 k) ∧ W.cell? ⟨w.heap.size, 1, none⟩ = some (.slice A body.length c) ∧ (convert 27 9 (.slice A body.length c)).run Try.prog W = .ok (.string (S body)) W) := fun W h => ⟨h.cell c0 (fun h => h), h.cell c1 (fun h => h), h.cell c2 (fun h => h), h.cell c3 (fun h => h), h.cell f0 (fun h => h), h.cell f1 (fun h => h), run_str Try.underlying27 Try.underlying5 Try.underlying9 (HB.out.up (HU4.out.trans h (fun _ _ h => h)))⟩
    have HST := Asd.mk hst
    clear hst ha hb ht hM4 hF4 c0 c1 c2 c3 f0 f1 hlen
    go_wp2
    (try rw [← hw4])
    clear hw4
    refine wp_region_held_drew (S := (fun W => W.cell? ⟨w3.heap.size, 0, none⟩ = some (.int .i64 k) ∧ W.cell? ⟨w3.heap.size, 1, none⟩ = some (.int .i64 (a : Int)) ∧ W.cell? ⟨w3.heap.size, 2, none⟩ = some (.int .i64 (b : Int)) ∧ W.cell? ⟨w3.heap.size, 3, none⟩ = some (.string (S t)) ∧ W.cell? ⟨w.heap.size, 0, none⟩ = some (.int .u8 k) ∧ W.cell? ⟨w.heap.size, 1, none⟩ = some (.slice A body.length c) ∧ (convert 27 9 (.slice A body.length c)).run Try.prog W = .ok (.string (S body)) W)) (by kernel_rfl) (by ((first | exact (HST.out _ HU7.out).out | exact (HST.out _ HU6.out).out | exact (HST.out _ (Upd.refl _ _).drew).out))) (fun hHeld => ?_)
    refine wpAnyH_take (i := 0) (oi := ?_) (v := ?_) ?_ (by kernel_rfl) (by kernel_rfl) (by kernel_rfl) ?_ (Or.inl ⟨?_, ?_⟩) (by assumption) ?_
    rotate_left 2
    · (simp only [List.getElem?_toArray, List.getElem?_cons_succ, List.getElem?_cons_zero]; exact rfl)
    · exact (fun _ _ _ h => h)
    · rfl
    · (intro w hSw; (try dsimp only at hSw); go_simp; (try with_reducible rfl))
    try simp only [Act.put, List.setIfInBounds_toArray, List.set_cons_zero, List.set_cons_succ]
    refine wpAnyH_ready (rs := [1]) (by kernel_rfl) (by simp) (AllReadyH.cons (o := ?_) ?_ (fun K hK => ?_) AllReadyH.nil)
    rotate_left 1
    · (simp only [List.getElem?_toArray, List.getElem?_cons_succ, List.getElem?_cons_zero]; exact rfl)
    (go_simp; (go_at_call 32; refine (law_right_calls k (a : Int) (b : Int) (S t) _).mono ?_; rw [S_size, hrt]; rintro e w6 ⟨rfl, hu⟩; have HU6 : Asd (Upd (fun _ => False) w4 w6) := ⟨Upd.trans (by repeat (first | exact Upd.refl _ _ | refine Upd.drewN ?_ _ | refine Upd.drew ?_ | refine Upd.alloc ?_ _)) hu (fun _ _ h => h)⟩; clear hu))
    refine hK.out _ _ (by ((first | exact (HST.out _ HU7.out).out | exact (HST.out _ HU6.out).out | exact (HST.out _ (Upd.refl _ _).drew).out))) (fun hHeld => ?_)
    clear hK K
    try simp only [Act.put, List.setIfInBounds_toArray, List.set_cons_zero, List.set_cons_succ]
    refine wpAnyH_take (i := 2) (oi := ?_) (v := ?_) ?_ (by kernel_rfl) (by kernel_rfl) (by kernel_rfl) ?_ (Or.inl ⟨?_, ?_⟩) (by assumption) ?_
    rotate_left 2
    · (simp only [List.getElem?_toArray, List.getElem?_cons_succ, List.getElem?_cons_zero]; exact rfl)
    · exact (fun _ _ _ h => h)
    · rfl
    · (intro w hSw; (try dsimp only at hSw); go_simp; (try with_reducible rfl))
    try simp only [Act.put, List.setIfInBounds_toArray, List.set_cons_zero, List.set_cons_succ]
    refine wpAnyH_take (i := 3) (oi := ?_) (v := ?_) ?_ (by kernel_rfl) (by kernel_rfl) (by kernel_rfl) ?_ (Or.inl ⟨?_, ?_⟩) (by assumption) ?_
    rotate_left 2
    · (simp only [List.getElem?_toArray, List.getElem?_cons_succ, List.getElem?_cons_zero]; exact rfl)
    · exact (fun _ _ _ h => h)
    · rfl
    · (intro w hSw; (try dsimp only at hSw); go_simp; (try with_reducible rfl))
    try simp only [Act.put, List.setIfInBounds_toArray, List.set_cons_zero, List.set_cons_succ]
    refine wpAnyH_take (i := 4) (oi := ?_) (v := ?_) ?_ (by kernel_rfl) (by kernel_rfl) (by kernel_rfl) ?_ (Or.inl ⟨?_, ?_⟩) (by assumption) ?_
    rotate_left 2
    · (simp only [List.getElem?_toArray, List.getElem?_cons_succ, List.getElem?_cons_zero]; exact rfl)
    · exact (fun _ _ _ h => h)
    · rfl
    · (intro w hSw; (try dsimp only at hSw); go_simp; (try with_reducible rfl))
    try simp only [Act.put, List.setIfInBounds_toArray, List.set_cons_zero, List.set_cons_succ]
    refine wpAnyH_take (i := 5) (oi := ?_) (v := ?_) ?_ (by kernel_rfl) (by kernel_rfl) (by kernel_rfl) ?_ (Or.inl ⟨?_, ?_⟩) (by assumption) ?_
    rotate_left 2
    · (simp only [List.getElem?_toArray, List.getElem?_cons_succ, List.getElem?_cons_zero]; exact rfl)
    · exact (fun _ _ _ h => h)
    · rfl
    · (intro w hSw; (try dsimp only at hSw); go_simp; (try with_reducible rfl))
    try simp only [Act.put, List.setIfInBounds_toArray, List.set_cons_zero, List.set_cons_succ]
    refine wpAnyH_take (i := 6) (oi := ?_) (v := ?_) ?_ (by kernel_rfl) (by kernel_rfl) (by kernel_rfl) ?_ (Or.inl ⟨?_, ?_⟩) (by assumption) ?_
    rotate_left 2
    · (simp only [List.getElem?_toArray, List.getElem?_cons_succ, List.getElem?_cons_zero]; exact rfl)
    · exact (fun _ _ _ h => h)
    · rfl
    · (intro w hSw; (try dsimp only at hSw); go_simp; (try with_reducible rfl))
    try simp only [Act.put, List.setIfInBounds_toArray, List.set_cons_zero, List.set_cons_succ]
    refine wpAnyH_take (i := 7) (oi := ?_) (v := ?_) ?_ (by kernel_rfl) (by kernel_rfl) (by kernel_rfl) ?_ (Or.inl ⟨?_, ?_⟩) (by assumption) ?_
    rotate_left 2
    · (simp only [List.getElem?_toArray, List.getElem?_cons_succ, List.getElem?_cons_zero]; exact rfl)
    · exact (fun _ _ _ h => h)
    · rfl
    · (intro w hSw; (try dsimp only at hSw); go_simp; (try with_reducible rfl))
    try simp only [Act.put, List.setIfInBounds_toArray, List.set_cons_zero, List.set_cons_succ]
    refine wpAnyH_take (i := 8) (oi := ?_) (v := ?_) ?_ (by kernel_rfl) (by kernel_rfl) (by kernel_rfl) ?_ (Or.inl ⟨?_, ?_⟩) (by assumption) ?_
    rotate_left 2
    · (simp only [List.getElem?_toArray, List.getElem?_cons_succ, List.getElem?_cons_zero]; exact rfl)
    · exact (fun _ _ _ h => h)
    · rfl
    · (intro w hSw; (try dsimp only at hSw); go_simp; (try with_reducible rfl))
    try simp only [Act.put, List.setIfInBounds_toArray, List.set_cons_zero, List.set_cons_succ]
    refine wpAnyH_take (i := 9) (oi := ?_) (v := ?_) ?_ (by kernel_rfl) (by kernel_rfl) (by kernel_rfl) ?_ (Or.inl ⟨?_, ?_⟩) (by assumption) ?_
    rotate_left 2
    · (simp only [List.getElem?_toArray, List.getElem?_cons_succ, List.getElem?_cons_zero]; exact rfl)
    · exact (fun _ _ _ h => h)
    · rfl
    · (intro w hSw; (try dsimp only at hSw); go_simp; (try with_reducible rfl))
    try simp only [Act.put, List.setIfInBounds_toArray, List.set_cons_zero, List.set_cons_succ]
    refine wpAnyH_take (i := 10) (oi := ?_) (v := ?_) ?_ (by kernel_rfl) (by kernel_rfl) (by kernel_rfl) ?_ (Or.inl ⟨?_, ?_⟩) (by assumption) ?_
    rotate_left 2
    · (simp only [List.getElem?_toArray, List.getElem?_cons_succ, List.getElem?_cons_zero]; exact rfl)
    · exact (fun _ _ _ h => h)
    · rfl
    · (intro w hSw; (try dsimp only at hSw); go_simp; (try with_reducible rfl))
    try simp only [Act.put, List.setIfInBounds_toArray, List.set_cons_zero, List.set_cons_succ]
    refine wpAnyH_take (i := 11) (oi := ?_) (v := ?_) ?_ (by kernel_rfl) (by kernel_rfl) (by kernel_rfl) ?_ (Or.inl ⟨?_, ?_⟩) (by assumption) ?_
    rotate_left 2
    · (simp only [List.getElem?_toArray, List.getElem?_cons_succ, List.getElem?_cons_zero]; exact rfl)
    · exact (fun _ _ _ h => h)
    · rfl
    · (intro w hSw; (try dsimp only at hSw); go_simp; (try with_reducible rfl))
    try simp only [Act.put, List.setIfInBounds_toArray, List.set_cons_zero, List.set_cons_succ]
    refine wpAnyH_take (i := 14) (oi := ?_) (v := ?_) ?_ (by kernel_rfl) (by kernel_rfl) (by kernel_rfl) ?_ (Or.inl ⟨?_, ?_⟩) (by assumption) ?_
    rotate_left 2
    · (simp only [List.getElem?_toArray, List.getElem?_cons_succ, List.getElem?_cons_zero]; exact rfl)
    · exact (fun _ _ _ h => h)
    · rfl
    · (intro w hSw; (try dsimp only at hSw); go_simp; (try with_reducible rfl))
    try simp only [Act.put, List.setIfInBounds_toArray, List.set_cons_zero, List.set_cons_succ]
    refine wpAnyH_take (i := 15) (oi := ?_) (v := ?_) ?_ (by kernel_rfl) (by kernel_rfl) (by kernel_rfl) ?_ (Or.inl ⟨?_, ?_⟩) (by assumption) ?_
    rotate_left 2
    · (simp only [List.getElem?_toArray, List.getElem?_cons_succ, List.getElem?_cons_zero]; exact rfl)
    · exact (fun _ _ _ h => h)
    · rfl
    · (intro w hSw; (try dsimp only at hSw); go_simp; (try with_reducible rfl))
    try simp only [Act.put, List.setIfInBounds_toArray, List.set_cons_zero, List.set_cons_succ]
    refine wpAnyH_take (i := 16) (oi := ?_) (v := ?_) ?_ (by kernel_rfl) (by kernel_rfl) (by kernel_rfl) ?_ (Or.inl ⟨?_, ?_⟩) (by assumption) ?_
    rotate_left 2
    · (simp only [List.getElem?_toArray, List.getElem?_cons_succ, List.getElem?_cons_zero]; exact rfl)
    · exact (fun _ _ _ h => h)
    · rfl
    · (intro w hSw; (try dsimp only at hSw); go_simp; (try with_reducible rfl))
    try simp only [Act.put, List.setIfInBounds_toArray, List.set_cons_zero, List.set_cons_succ]
    refine wpAnyH_ready (rs := [12]) (by kernel_rfl) (by simp) (AllReadyH.cons (o := ?_) ?_ (fun K hK => ?_) AllReadyH.nil)
    rotate_left 1
    · (simp only [List.getElem?_toArray, List.getElem?_cons_succ, List.getElem?_cons_zero]; exact rfl)
    (go_simp; (go_at_call 33; refine (body_calls k a b t _ hkn ha1 hb1 htl).mono ?_; unfold RowPost; rw [hmb]; rintro e w7 ⟨A7, c7, G7, rfl, ho, hg, hc7, hm7, hu⟩; have HU7 : Asd (Upd (fun _ => False) w4 w7) := ⟨HU6.out.trans hu (fun _ _ h => h)⟩; have hsR7 := run_str (P := Try.prog) (c := c7) Try.underlying27 Try.underlying5 Try.underlying9 ho.rd; clear ho hg hu))
    refine hK.out _ _ (by ((first | exact (HST.out _ HU7.out).out | exact (HST.out _ HU6.out).out | exact (HST.out _ (Upd.refl _ _).drew).out))) (fun hHeld => ?_)
    clear hK K
    try simp only [Act.put, List.setIfInBounds_toArray, List.set_cons_zero, List.set_cons_succ]
    refine wpAnyH_ready (rs := [13]) (by kernel_rfl) (by simp) (AllReadyH.cons (o := ?_) ?_ (fun K hK => ?_) AllReadyH.nil)
    rotate_left 1
    · (simp only [List.getElem?_toArray, List.getElem?_cons_succ, List.getElem?_cons_zero]; exact rfl)
    go_simp
    refine hK.out _ _ (by ((first | exact (HST.out _ HU7.out).out | exact (HST.out _ HU6.out).out | exact (HST.out _ (Upd.refl _ _).drew).out))) (fun hHeld => ?_)
    clear hK K
    try simp only [Act.put, List.setIfInBounds_toArray, List.set_cons_zero, List.set_cons_succ]
    refine wpAnyH_take (i := 17) (oi := ?_) (v := ?_) ?_ (by kernel_rfl) (by kernel_rfl) (by kernel_rfl) ?_ (Or.inl ⟨?_, ?_⟩) (by assumption) ?_
    rotate_left 2
    · (simp only [List.getElem?_toArray, List.getElem?_cons_succ, List.getElem?_cons_zero]; exact rfl)
    · exact (fun _ _ _ h => h)
    · rfl
    · (intro w hSw; (try dsimp only at hSw); go_simp; (try with_reducible rfl))
    try simp only [Act.put, List.setIfInBounds_toArray, List.set_cons_zero, List.set_cons_succ]
    refine wpAnyH_take (i := 18) (oi := ?_) (v := ?_) ?_ (by kernel_rfl) (by kernel_rfl) (by kernel_rfl) ?_ (Or.inl ⟨?_, ?_⟩) (by assumption) ?_
    rotate_left 2
    · (simp only [List.getElem?_toArray, List.getElem?_cons_succ, List.getElem?_cons_zero]; exact rfl)
    · exact (fun _ _ _ h => h)
    · rfl
    · (intro w hSw; (try dsimp only at hSw); go_simp; (try with_reducible rfl))
    try simp only [Act.put, List.setIfInBounds_toArray, List.set_cons_zero, List.set_cons_succ]
    refine wpAnyH_take (i := 19) (oi := ?_) (v := ?_) ?_ (by kernel_rfl) (by kernel_rfl) (by kernel_rfl) ?_ (Or.inl ⟨?_, ?_⟩) (by assumption) ?_
    rotate_left 2
    · (simp only [List.getElem?_toArray, List.getElem?_cons_succ, List.getElem?_cons_zero]; exact rfl)
    · exact (fun _ _ _ h => h)
    · rfl
    · (intro w hSw; (try dsimp only at hSw); go_simp; (try with_reducible rfl))
    try simp only [Act.put, List.setIfInBounds_toArray, List.set_cons_zero, List.set_cons_succ]
    refine wpAnyH_done (by kernel_rfl) ?_ _
    go_wp2
    go_ret
    exact ⟨by simp, HU4.out.trans HU7.out (fun _ _ h => h)⟩
  | false =>
    rw [if_neg (by decide)]
    have hempty : S [] = { data := #[] } := rfl
    rw [hempty]
    clear hempty
    obtain ⟨w4, hw4⟩ : ∃ w4, w4 = w3.alloc (.cells #[.int .i64 0, .int .i64 0, .int .i64 0, .string { data := #[] }] 44) := ⟨_, rfl⟩
    have hF4 : w4.heap[w.heap.size]? = some (.cells #[.int .u8 k, .slice A body.length c] 53 (0, 0)) := by rw [hw4]; exact ((Upd.refl (fun _ => False) _).alloc _).blk HF3.out (fun h => h)
    have HU4 : Asd (Upd (fun _ => False) w w4) := ⟨by rw [hw4]; exact HU3.out.alloc _⟩
    have hM4 : w4.heap[w3.heap.size]? = some (.cells #[.int .i64 0, .int .i64 0, .int .i64 0, .string { data := #[] }] 44 (0, 0)) := by rw [hw4]; exact heap_alloc_new w3 _
    have c0 : w4.cell? ⟨w3.heap.size, 0, none⟩ = some (.int .i64 0) := by simp [World.cell?, hM4]
    have c1 : w4.cell? ⟨w3.heap.size, 1, none⟩ = some (.int .i64 0) := by simp [World.cell?, hM4]
    have c2 : w4.cell? ⟨w3.heap.size, 2, none⟩ = some (.int .i64 0) := by simp [World.cell?, hM4]
    have c3 : w4.cell? ⟨w3.heap.size, 3, none⟩ = some (.string { data := #[] }) := by simp [World.cell?, hM4]
    have f0 : w4.cell? ⟨w.heap.size, 0, none⟩ = some (.int .u8 k) := by simp [World.cell?, hF4]
    have f1 : w4.cell? ⟨w.heap.size, 1, none⟩ = some (.slice A body.length c) := by simp [World.cell?, hF4]
    have f0' : (w3.alloc (.cells #[.int .i64 0, .int .i64 0, .int .i64 0, .string { data := #[] }] 44)).cell? ⟨w.heap.size, 0, none⟩ = some (.int .u8 k) := by rw [← hw4]; exact f0
    have hkw : IntKind.i64.wrap k = k := w64i _ (by omega) (by omega)
    have hkw2 : wrap64 k = k := w64 _ (by omega) (by omega)
    have HI := Asd.mk hi
    clear hi
    go_wp2_with fail
    refine (has_calls k _).mono ?_
    obtain ⟨N, hN⟩ : ∃ N, N = nums k := ⟨_, rfl⟩
    have hN2 : N ≤ 2 := by rw [hN]; exact nums_le k
    rw [← hN]
    have HN := Asd.mk hN
    (try rw [← hw4])
    obtain ⟨M, hM⟩ : ∃ M : Int, M = (if known k then (most k : Int) else -1) := ⟨_, rfl⟩
    rw [← hM]
    clear hM hN
    rintro e w5 ⟨rfl, hu5⟩
    have f0 := hu5.cell f0 (fun h => h)
    have f1 := hu5.cell f1 (fun h => h)
    have HW5 : Asd (Upd (fun _ => False) w w5) := ⟨HU4.out.trans hu5 (fun _ _ h => h)⟩
    have hs5 : w.heap.size < w5.heap.size := by have := hu5.size; have := HU4.out.size; have := blk_lt hF4; omega
    clear hu5 hw4 hF4 hM4 c0 c1 c2 c3 HU4
    cases hkn : known k with
    | false =>
      go_wp2
      go_ret
      exact ⟨rfl, HW5.out⟩
    | true =>
      have hN0 : ¬ ((N : Int) < 0) := by omega
      rw [if_pos rfl]
      have HKN := Asd.mk hkn
      clear hkn
      have hw6 : IntKind.i64.wrap (6 * (N : Int)) = 6 * (N : Int) := w64i _ (by omega) (by omega)
      by_cases hlen : body.length < 6 * N
      · have hle : (body.length : Int) < 6 * (N : Int) := by omega
        go_wp2
        go_ret
        exact ⟨rfl, HW5.out⟩
      have hle : ¬ ((body.length : Int) < 6 * (N : Int)) := by omega
      have hlen6 : 6 * N ≤ body.length := by omega
      obtain ⟨t, ht⟩ : ∃ t, t = body.drop (6 * N) := ⟨_, rfl⟩
      have HT := Asd.mk ht
      obtain ⟨A7, hcut, _, hrd7, _⟩ := cut_from' (P := Try.prog) 27 5 .i64 (sz := 1) Try.underlying27 (by kernel_rfl) A body.length c (6 * N) (6 * (N : Int)) (by omega) hlen6 hc
      have hr7 := (hrd7 rfl _ _ HB.out).up HW5.out
      rw [← ht] at hr7
      have HR7 := Asd.mk hr7
      have hw6b : wrap64 (6 * (N : Int)) = 6 * (N : Int) := w64 _ (by omega) (by omega)
      have hst : ∀ W, Upd (fun _ => False) w5 W → Asd (W.cell? ⟨w.heap.size, 0, none⟩ = some (.int .u8 k) ∧ W.cell? ⟨w.heap.size, 1, none⟩ = some (.slice A body.length c) ∧ (convert 27 9 (.slice A7 (body.length - 6 * N) (c - 6 * N))).run Try.prog W = .ok (.string (S t)) W) := fun W h => ⟨h.cell f0 (fun h => h), h.cell f1 (fun h => h), run_str Try.underlying27 Try.underlying5 Try.underlying9 (HR7.out.up h)⟩
      have HST := Asd.mk hst
      clear hst ht hr7 hrd7
      go_wp2
      go_region_held3 (fun W => W.cell? ⟨w.heap.size, 0, none⟩ = some (.int .u8 k) ∧ W.cell? ⟨w.heap.size, 1, none⟩ = some (.slice A body.length c) ∧ (convert 27 9 (.slice A7 (body.length - 6 * N) (c - 6 * N))).run Try.prog W = .ok (.string (S t)) W)
        (exact (HST.out _ (by repeat (first | exact Upd.refl _ _ | refine Upd.drew ?_ | refine Upd.alloc ?_ _ | refine Upd.setCell ?_ (fun h => absurd h (by simp)) _))).out)
        (fail)
      have HX0 : Asd (((w5.alloc (.cells #[.int .i64 k, .int .i64 0, .int .i64 0, .string (S t)] 44)).drew).heap[w5.heap.size]? = some (.cells #[.int .i64 k, .int .i64 0, .int .i64 0, .string (S t)] 44 (0, 0))) := ⟨heap_alloc_new w5 _⟩
      have HU0 : Asd (Upd (fun _ => False) w5 ((w5.alloc (.cells #[.int .i64 k, .int .i64 0, .int .i64 0, .string (S t)] 44)).drew)) := ⟨((Upd.refl _ _).alloc _).drew⟩
      clear hcut HST HR7
      go_wp2
      go_loopw [8] (fun v8 wr => ∃ j : Nat, v8 = .int .i64 (j : Int) ∧ j ≤ N ∧ Asd (wr.heap[w5.heap.size]? = some (.cells #[.int .i64 k, .int .i64 (numA j body : Int), .int .i64 (numB j body : Int), .string (S t)] 44 (0, 0))) ∧ Asd (Upd (fun _ => False) w5 wr)) (fun v8 _ => N - (intOf v8).toNat)
      case atStart => exact ⟨0, rfl, by omega, HX0, HU0⟩
      case round =>
        clear HX0 HU0
        obtain ⟨j, rfl, hj, HX, HU⟩ := hrel
        by_cases hjn : j < N
        · rcases (by omega : j = 0 ∨ j = 1) with rfl | rfl
          · obtain ⟨seg, hseg⟩ : ∃ seg, seg = (body.take 6).drop 0 := ⟨_, rfl⟩
            have h6l : 6 ≤ body.length := by omega
            obtain ⟨A6, hcut6, _, hrd6, _⟩ := cut_both' (P := Try.prog) 27 5 .i64 .i64 (sz := 1) Try.underlying27 (by kernel_rfl) A body.length c 0 6 0 6 rfl rfl (by omega) h6l hc
            have hr6 := hrd6 rfl _ _ HB.out
            rw [← hseg] at hr6
            have HR6 := Asd.mk hr6
            have HSL := Asd.mk (show seg.length = 6 by rw [hseg, List.length_drop, List.length_take]; omega)
            have HSG := Asd.mk hseg
            have hf1 : wr.cell? ⟨w.heap.size, 1, none⟩ = some (.slice A body.length c) := HU.out.cell f1 (fun h => h)
            clear hr6 hrd6 hseg
            go_wp2
            clear hf1
            go_loopw [9, 87] (fun v9 v87 wr2 => ∃ i : Nat, v87 = .int .i64 (i : Int) ∧ v9 = .int .i64 (val (seg.take i) : Int) ∧ i ≤ 6 ∧ wr2 = wr) (fun _ v87 _ => 6 - (intOf v87).toNat)
            case atStart => exact ⟨0, rfl, rfl, by omega, rfl⟩
            case round =>
              obtain ⟨i, rfl, rfl, hi6, rfl⟩ := hrel
              by_cases hlt6 : i < 6
              · obtain ⟨ad, rfl, hc0⟩ := (HR6.out.up (HW5.out.trans HU.out (fun _ _ h => h))).at i hlt6
                obtain ⟨x, hx⟩ : ∃ x, x = seg[i]'(by rw [HSL.out]; exact hlt6) := ⟨_, rfl⟩
                rw [← hx] at hc0
                have HV := Asd.mk (show val (seg.take (i + 1)) = val (seg.take i) * 256 + x.toNat by rw [List.take_succ_eq_append_getElem (by rw [HSL.out]; exact hlt6), val_snoc, ← hx])
                obtain ⟨v, hv⟩ : ∃ v, v = val (seg.take i) := ⟨_, rfl⟩
                have hvl : v < 1099511627776 := by
                  rw [hv]
                  refine Nat.lt_of_lt_of_le (val_lt _) ?_
                  rw [List.length_take, HSL.out]
                  exact Nat.le_trans (Nat.pow_le_pow_right (by omega) (show min i 6 ≤ 5 by omega)) (by decide)
                rw [← hv] at HV
                rw [← hv]
                have hxl := x.toNat_lt
                obtain ⟨v2, hv2⟩ : ∃ v2, v2 = v * 256 + x.toNat := ⟨_, rfl⟩
                rw [← hv2] at HV
                have HV2 := Asd.mk hv2.symm
                clear hv hx hv2
                go_wp2
                go_roundw
                case rel => exact ⟨i + 1, rfl, by rw [HV.out]; have := HV2.out; exact congrArg (Value.int IntKind.i64) (by omega), by omega, trivial⟩
                case measure => (simp only [intOf]; omega)
              · have hi6b : i = 6 := by omega
                subst hi6b
                have hT := List.take_of_length_le (show seg.length ≤ 6 by rw [HSL.out]; omega)
                rw [hT]
                obtain ⟨vs, hvs⟩ : ∃ vs, vs = val seg := ⟨_, rfl⟩
                rw [← hvs]
                have HVS := Asd.mk (show vs = val (body.take 6) by rw [hvs, HSG.out, List.drop_zero])
                have hwj : IntKind.i64.wrap (((0 : Nat) : Int) + 1) = ((1 : Nat) : Int) := rfl
                have hcm : wr.cell? ⟨w5.heap.size, 1, none⟩ = some (.int .i64 0) := by simp [World.cell?, HX.out, numA, numB]
                have hfm : wr.frozen? ⟨w5.heap.size, 1, none⟩ = false := by simp [World.frozen?, HX.out]
                have hb9 := blk_setCell (o := 1) HX.out (.int .i64 (vs : Int))
                have HX9 : Asd ((wr.setCell ⟨w5.heap.size, 1, none⟩ (.int .i64 (vs : Int))).heap[w5.heap.size]? = some (.cells #[.int .i64 k, .int .i64 (numA 1 body : Int), .int .i64 (numB 1 body : Int), .string (S t)] 44 (0, 0))) := ⟨by rw [hb9, HVS.out]; rfl⟩
                have HU9 : Asd (Upd (fun _ => False) w5 (wr.setCell ⟨w5.heap.size, 1, none⟩ (.int .i64 (vs : Int)))) := ⟨HU.out.setCell (p := ⟨w5.heap.size, 1, none⟩) (fun e => by simp only at e; omega) _⟩
                clear hvs hb9 hT
                go_wp2
                go_roundw
                case rel => exact ⟨1, rfl, by omega, HX9, HU9⟩
                case measure => (simp only [intOf]; omega)
          · obtain ⟨seg, hseg⟩ : ∃ seg, seg = (body.take 12).drop 6 := ⟨_, rfl⟩
            have h6l : 12 ≤ body.length := by omega
            obtain ⟨A6, hcut6, _, hrd6, _⟩ := cut_both' (P := Try.prog) 27 5 .i64 .i64 (sz := 1) Try.underlying27 (by kernel_rfl) A body.length c 6 12 6 12 rfl rfl (by omega) h6l hc
            have hr6 := hrd6 rfl _ _ HB.out
            rw [← hseg] at hr6
            have HR6 := Asd.mk hr6
            have HSL := Asd.mk (show seg.length = 6 by rw [hseg, List.length_drop, List.length_take]; omega)
            have HSG := Asd.mk hseg
            have hf1 : wr.cell? ⟨w.heap.size, 1, none⟩ = some (.slice A body.length c) := HU.out.cell f1 (fun h => h)
            clear hr6 hrd6 hseg
            go_wp2
            clear hf1
            go_loopw [9, 87] (fun v9 v87 wr2 => ∃ i : Nat, v87 = .int .i64 (i : Int) ∧ v9 = .int .i64 (val (seg.take i) : Int) ∧ i ≤ 6 ∧ wr2 = wr) (fun _ v87 _ => 6 - (intOf v87).toNat)
            case atStart => exact ⟨0, rfl, rfl, by omega, rfl⟩
            case round =>
              obtain ⟨i, rfl, rfl, hi6, rfl⟩ := hrel
              by_cases hlt6 : i < 6
              · obtain ⟨ad, rfl, hc0⟩ := (HR6.out.up (HW5.out.trans HU.out (fun _ _ h => h))).at i hlt6
                obtain ⟨x, hx⟩ : ∃ x, x = seg[i]'(by rw [HSL.out]; exact hlt6) := ⟨_, rfl⟩
                rw [← hx] at hc0
                have HV := Asd.mk (show val (seg.take (i + 1)) = val (seg.take i) * 256 + x.toNat by rw [List.take_succ_eq_append_getElem (by rw [HSL.out]; exact hlt6), val_snoc, ← hx])
                obtain ⟨v, hv⟩ : ∃ v, v = val (seg.take i) := ⟨_, rfl⟩
                have hvl : v < 1099511627776 := by
                  rw [hv]
                  refine Nat.lt_of_lt_of_le (val_lt _) ?_
                  rw [List.length_take, HSL.out]
                  exact Nat.le_trans (Nat.pow_le_pow_right (by omega) (show min i 6 ≤ 5 by omega)) (by decide)
                rw [← hv] at HV
                rw [← hv]
                have hxl := x.toNat_lt
                obtain ⟨v2, hv2⟩ : ∃ v2, v2 = v * 256 + x.toNat := ⟨_, rfl⟩
                rw [← hv2] at HV
                have HV2 := Asd.mk hv2.symm
                clear hv hx hv2
                go_wp2
                go_roundw
                case rel => exact ⟨i + 1, rfl, by rw [HV.out]; have := HV2.out; exact congrArg (Value.int IntKind.i64) (by omega), by omega, trivial⟩
                case measure => (simp only [intOf]; omega)
              · have hi6b : i = 6 := by omega
                subst hi6b
                have hT := List.take_of_length_le (show seg.length ≤ 6 by rw [HSL.out]; omega)
                rw [hT]
                obtain ⟨vs, hvs⟩ : ∃ vs, vs = val seg := ⟨_, rfl⟩
                rw [← hvs]
                have HVS := Asd.mk (show vs = val ((body.drop 6).take 6) by rw [hvs, HSG.out, List.drop_take])
                have hwj : IntKind.i64.wrap (((1 : Nat) : Int) + 1) = ((2 : Nat) : Int) := rfl
                have hcm : wr.cell? ⟨w5.heap.size, 2, none⟩ = some (.int .i64 0) := by simp [World.cell?, HX.out, numA, numB]
                have hfm : wr.frozen? ⟨w5.heap.size, 2, none⟩ = false := by simp [World.frozen?, HX.out]
                have hb9 := blk_setCell (o := 2) HX.out (.int .i64 (vs : Int))
                have HX9 : Asd ((wr.setCell ⟨w5.heap.size, 2, none⟩ (.int .i64 (vs : Int))).heap[w5.heap.size]? = some (.cells #[.int .i64 k, .int .i64 (numA 2 body : Int), .int .i64 (numB 2 body : Int), .string (S t)] 44 (0, 0))) := ⟨by rw [hb9, HVS.out]; rfl⟩
                have HU9 : Asd (Upd (fun _ => False) w5 (wr.setCell ⟨w5.heap.size, 2, none⟩ (.int .i64 (vs : Int)))) := ⟨HU.out.setCell (p := ⟨w5.heap.size, 2, none⟩) (fun e => by simp only at e; omega) _⟩
                clear hvs hb9 hT
                go_wp2
                go_roundw
                case rel => exact ⟨2, rfl, by omega, HX9, HU9⟩
                case measure => (simp only [intOf]; omega)
        · have hjN : j = N := by omega
          subst hjN
          obtain ⟨a, ha⟩ : ∃ a, a = numA j body := ⟨_, rfl⟩
          obtain ⟨b, hb⟩ : ∃ b, b = numB j body := ⟨_, rfl⟩
          rw [← ha, ← hb] at HX
          have hrt : right k (a : Int) (b : Int) t.length = false := by
            have h9 := HI.out
            unfold isMsg at h9
            rw [← HN.out, HKN.out, decide_eq_true hlen6, ← HT.out, ← ha, ← hb] at h9
            simpa using h9
          have d0 : wr.cell? ⟨w5.heap.size, 0, none⟩ = some (.int .i64 k) := by simp [World.cell?, HX.out]
          have d1 : wr.cell? ⟨w5.heap.size, 1, none⟩ = some (.int .i64 (a : Int)) := by simp [World.cell?, HX.out]
          have d2 : wr.cell? ⟨w5.heap.size, 2, none⟩ = some (.int .i64 (b : Int)) := by simp [World.cell?, HX.out]
          have d3 : wr.cell? ⟨w5.heap.size, 3, none⟩ = some (.string (S t)) := by simp [World.cell?, HX.out]
          have HRT := Asd.mk hrt
          clear ha hb hrt
          go_wp2_with fail
          refine (law_right_calls k (a : Int) (b : Int) (S t) _).mono ?_
          rw [S_size, HRT.out]
          rintro e w9 ⟨rfl, hu9⟩
          have HU9 : Asd (Upd (fun _ => False) w w9) := ⟨(HW5.out.trans HU.out (fun _ _ h => h)).trans hu9 (fun _ _ h => h)⟩
          clear hu9
          go_wp2
          go_ret
          exact ⟨rfl, HU9.out⟩
theorem of_row_walk (w : World) (cs : Array Value) (x : Int × List UInt8) (h : R2 (RInt .u8) RBytes w cs.toList x) :
    Calls Try.prog 10 #[.agg cs] w fun e w' => e = .returned (.bool true) ∧ Upd (fun _ => False) w w' := by
  obtain ⟨j, body⟩ := x
  obtain ⟨c0, c1, hcs, ⟨h0, hw⟩, A, c, h1, hr, hc, _⟩ := h
  simp only [List.cons.injEq, and_true] at h0 h1
  obtain ⟨kind, rfl⟩ := RgLasts.u8_exists j hw
  subst h0; subst h1
  obtain rfl : cs = #[.int .u8 (kind.toNat : Int), .slice A body.length c] := by
    apply Array.ext'
    simpa using hcs
  exact of_walk w kind A c body hr hc
end Go.Proofs.Ytpphejjdgplalaa.MgLawOf
