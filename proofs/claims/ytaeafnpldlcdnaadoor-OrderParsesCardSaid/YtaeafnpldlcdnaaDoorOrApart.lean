/- Layer 9's statement on commands' lines apart. -/
import Derived.Test.YtaeafnpldlcdnaaDoorOrHead
set_option linter.unusedVariables false
set_option linter.unusedSimpArgs false
namespace Go.Proofs.YtaeafnpldlcdnaaDoor.Or
open Go.RowKit K
theorem text_len (k n : Int) : (text k n).length ≤ 40 := by
  cases hr : right k n with
  | false => rw [text_wrong hr]; simp
  | true =>
    obtain ⟨h1, h2, h3, h4, h5⟩ := (right_iff k n).1 hr
    have hw := word_len (k.toNat - 1) (by omega)
    rw [show k.toNat - 1 + 1 = k.toNat by omega] at hw
    by_cases h6 : k < 6
    · rw [text_short hr h6]; omega
    · rw [text_long hr h6]
      have := itoa_len h3 h4
      simp only [List.length_append, List.length_cons]
      omega
theorem stl (x : List UInt8) : (S x).toList = x := by rw [ByteArray.toList_eq]; simp [S]
/-- What the last test of the law comes to. -/
theorem apart_ends {k n : Int} (hr : right k n = true) (m : List UInt8) : (m = [] ∧ parse (text k n ++ m) = (k, n, 0)) ∨ (m ≠ [] ∧ (parse (text k n ++ m) = (0, 0, 8) ∨ ∃ k2 n2, parse (text k n ++ m) = (k2, n2, 0) ∧ (k2 ≠ k ∨ n2 ≠ n))) := by
  by_cases hm : m = []
  · subst hm
    exact .inl ⟨rfl, by rw [List.append_nil]; exact parse_text hr⟩
  · refine .inr ⟨hm, ?_⟩
    rcases parse_cases (text k n ++ m) with ⟨h, _⟩ | ⟨k2, n2, hr2, ht, hp⟩
    · exact .inl h
    · refine .inr ⟨k2, n2, hp, ?_⟩
      by_cases hk : k2 = k
      · refine .inr fun hn => hm ?_
        rw [hk, hn] at ht
        have := congrArg List.length ht
        rw [List.length_append] at this
        exact List.eq_nil_of_length_eq_zero (by omega)
      · exact .inl hk
set_option maxHeartbeats 4000000 in
theorem apart_walk {w : World} (h : Env w) (k n k' n' : Int) (m : List UInt8) : Calls Tryd.prog 5 #[.agg #[.int .i64 k, .int .i64 n], .agg #[.int .i64 k', .int .i64 n'], .string (S m)] w fun e w' => e = .returned (.bool true) ∧ Upd (fun _ => False) w w' := by
  have HE := Asd.mk h
  clear h
  have hn1 := heap_alloc_new w (.cells #[.int .i64 k, .int .i64 n] 24)
  have hk1 := (Upd.refl (fun _ => False) w).alloc (.cells #[.int .i64 k, .int .i64 n] 24)
  have hn2 := heap_alloc_new (w.alloc (.cells #[.int .i64 k, .int .i64 n] 24)) (.cells #[.int .i64 k', .int .i64 n'] 24)
  have hk2 := hk1.alloc (.cells #[.int .i64 k', .int .i64 n'] 24)
  have hb1 := ((Upd.refl (fun _ => False) (w.alloc (.cells #[.int .i64 k, .int .i64 n] 24))).alloc (.cells #[.int .i64 k', .int .i64 n'] 24)).blk hn1 (fun h => h)
  go_enter Tryd.func5, Tryd.ntmps5
  go_wp2_with fail
  refine (head_calls (HE.out.up hk2)).mono ?_
  rintro e w3 ⟨rfl, hu3⟩
  have hk3 := hk2.trans hu3 (fun _ _ h => h)
  have hs3 : Upd (fun _ => False) w3 w3 := Upd.refl _ _
  have ba := hu3.blk hb1 (fun h => h)
  have bb : w3.heap[w.heap.size + 1]? = some (.cells #[.int .i64 k', .int .i64 n'] 24 (0, 0)) := by
    have := hu3.blk hn2 (fun h => h)
    rwa [show (w.alloc (.cells #[.int .i64 k, .int .i64 n] 24)).heap.size = w.heap.size + 1 from Array.size_push _] at this
  have a0 := keepsC (o := 0) ba rfl
  have a1 := keepsC (o := 1) ba rfl
  have b0 := keepsC (o := 0) bb rfl
  have b1 := keepsC (o := 1) bb rfl
  clear hn1 hn2 hb1 hu3 hk1 hk2
  go_wp2_with fail
  refine (right_calls k n w3).mono ?_
  cases hr : right k n with
  | false =>
    rintro e w4 ⟨rfl, hu4⟩
    have hk4 := hk3.trans hu4 (fun _ _ h => h)
    go_wp2
    go_ret
    exact ⟨rfl, hk4⟩
  | true =>
  rintro e w4 ⟨rfl, hu4⟩
  have hk4 := hk3.trans hu4 (fun _ _ h => h)
  go_wp2_with fail
  refine (right_calls k' n' w4).mono ?_
  cases hr' : right k' n' with
  | false =>
    rintro e w5 ⟨rfl, hu5⟩
    have hk5 := hk4.trans hu5 (fun _ _ h => h)
    go_wp2
    go_ret
    exact ⟨rfl, hk5⟩
  | true =>
  rintro e w5 ⟨rfl, hu5⟩
  have hk5 := hk4.trans hu5 (fun _ _ h => h)
  have h35 := hu4.trans hu5 (fun _ _ h => h)
  have hs5 : Upd (fun _ => False) w5 w5 := Upd.refl _ _
  have ba5 := h35.blk ba (fun h => h)
  have bb5 := h35.blk bb (fun h => h)
  clear a0 a1 b0 b1 hu4 hu5 hs3 h35
  have a0 := keepsC (o := 0) ba5 rfl
  have a1 := keepsC (o := 1) ba5 rfl
  have b0 := keepsC (o := 0) bb5 rfl
  have b1 := keepsC (o := 1) bb5 rfl
  by_cases hm : 40 < m.length
  · have hmi : (40 : Int) < (m.length : Int) := by omega
    go_wp2
    go_ret
    exact ⟨rfl, hk5⟩
  obtain ⟨ta, hta⟩ : ∃ ta, ta = text k n := ⟨_, rfl⟩
  obtain ⟨tb, htb⟩ : ∃ tb, tb = text k' n' := ⟨_, rfl⟩
  have HTa := Asd.mk hta
  have HTb := Asd.mk htb
  have HL : Asd (ta.length ≤ 40 ∧ tb.length ≤ 40) := ⟨by rw [hta, htb]; exact ⟨text_len _ _, text_len _ _⟩⟩
  have HR := Asd.mk hr
  have HR' := Asd.mk hr'
  clear hr hr' hta htb
  have hmi : ¬ (40 : Int) < (m.length : Int) := by omega
  have hsl : ∀ x y : List UInt8, ((S x).toList == (S y).toList) = (x == y) := fun x y => by rw [stl, stl]
  have hwa : ∀ (W : World), Upd (fun _ => False) w5 W → Env W := fun W hW => HE.out.up (hk5.trans hW (fun _ _ h => h))
  have HWA := Asd.mk hwa
  clear hwa
  have HEN := Asd.mk (apart_ends HR.out m)
  rw [← HTa.out] at HEN
  rcases (by omega : (k = k' ∧ n = n') ∨ ¬ k = k' ∨ (k = k' ∧ ¬ n = n')) with ⟨rfl, rfl⟩ | hkk | ⟨rfl, hnn⟩
  · have htt : (ta == tb) = true := by rw [HTa.out, HTb.out]; simp
    go_wp2
    refine wp_region_held_drew (S := fun W => Upd (fun _ => False) w5 W) (by kernel_rfl) (by exact (by repeat (first | assumption | with_reducible exact Upd.refl _ _ | with_reducible refine Upd.drewN ?_ _ | with_reducible refine Upd.drew ?_ | with_reducible refine Upd.alloc ?_ _ | with_reducible refine Upd.setAt ?_ ?_ | exact Or.inl rfl | exact Or.inr (by simp) | exact Or.inr (by omega)))) (fun hHeld => ?_)
    refine wpAnyH_take (i := 0) (oi := ?_) (v := ?_) ?_ (by kernel_rfl) (by kernel_rfl) (by kernel_rfl) ?_ (Or.inl ⟨?_, ?_⟩) (by assumption) ?_
    rotate_left 2
    · (simp only [List.getElem?_toArray, List.getElem?_cons_succ, List.getElem?_cons_zero]; exact rfl)
    · exact (fun _ _ _ h => h)
    · rfl
    · (intro w hSw; (try dsimp only at hSw); go_simp; (try with_reducible rfl))
    try simp only [Act.put, List.setIfInBounds_toArray, List.set_cons_zero, List.set_cons_succ]
    refine wpAnyH_take (i := 1) (oi := ?_) (v := ?_) ?_ (by kernel_rfl) (by kernel_rfl) (by kernel_rfl) ?_ (Or.inl ⟨?_, ?_⟩) (by assumption) ?_
    rotate_left 2
    · (simp only [List.getElem?_toArray, List.getElem?_cons_succ, List.getElem?_cons_zero]; exact rfl)
    · exact (fun _ _ _ h => h)
    · rfl
    · (intro w hSw; (try dsimp only at hSw); go_simp; (try with_reducible rfl))
    try simp only [Act.put, List.setIfInBounds_toArray, List.set_cons_zero, List.set_cons_succ]
    refine wpAnyH_take (i := 2) (oi := ?_) (v := ?_) ?_ (by kernel_rfl) (by kernel_rfl) (by kernel_rfl) ?_ (Or.inl ⟨?_, ?_⟩) (by assumption) ?_
    rotate_left 2
    · (simp only [List.getElem?_toArray, List.getElem?_cons_succ, List.getElem?_cons_zero]; exact rfl)
    · exact (fun _ _ _ h => h)
    · rfl
    · (intro w hSw; (try dsimp only at hSw); go_simp; (try with_reducible rfl))
    try simp only [Act.put, List.setIfInBounds_toArray, List.set_cons_zero, List.set_cons_succ]
    refine wpAnyH_take (i := 3) (oi := ?_) (v := ?_) ?_ (by kernel_rfl) (by kernel_rfl) (by kernel_rfl) ?_ (Or.inl ⟨?_, ?_⟩) (by assumption) ?_
    rotate_left 2
    · (simp only [List.getElem?_toArray, List.getElem?_cons_succ, List.getElem?_cons_zero]; exact rfl)
    · exact (fun _ _ _ h => h)
    · rfl
    · (intro w hSw; (try dsimp only at hSw); go_simp; (try with_reducible rfl))
    try simp only [Act.put, List.setIfInBounds_toArray, List.set_cons_zero, List.set_cons_succ]
    refine wpAnyH_take (i := 5) (oi := ?_) (v := ?_) ?_ (by kernel_rfl) (by kernel_rfl) (by kernel_rfl) ?_ (Or.inl ⟨?_, ?_⟩) (by assumption) ?_
    rotate_left 2
    · (simp only [List.getElem?_toArray, List.getElem?_cons_succ, List.getElem?_cons_zero]; exact rfl)
    · exact (fun _ _ _ h => h)
    · rfl
    · (intro w hSw; (try dsimp only at hSw); go_simp; (try with_reducible rfl))
    try simp only [Act.put, List.setIfInBounds_toArray, List.set_cons_zero, List.set_cons_succ]
    refine wpAnyH_ready (rs := [4]) (by kernel_rfl) (by simp) (AllReadyH.cons (o := ?_) ?_ (fun K hK => ?_) AllReadyH.nil)
    rotate_left 1
    · (simp only [List.getElem?_toArray, List.getElem?_cons_succ, List.getElem?_cons_zero]; exact rfl)
    (go_simp; (go_at_call 8; refine (string_calls (HE.out.up (hk5.trans (by repeat (first | assumption | with_reducible exact Upd.refl _ _ | with_reducible refine Upd.drewN ?_ _ | with_reducible refine Upd.drew ?_ | with_reducible refine Upd.alloc ?_ _ | with_reducible refine Upd.setAt ?_ ?_ | exact Or.inl rfl | exact Or.inr (by simp) | exact Or.inr (by omega))) (fun _ _ h => h))) _ _).mono ?_; rw [← HTa.out]; rintro e w6 ⟨rfl, h0⟩; have hu6 := (show Upd (fun _ => False) w5 _ from (by repeat (first | assumption | with_reducible exact Upd.refl _ _ | with_reducible refine Upd.drewN ?_ _ | with_reducible refine Upd.drew ?_ | with_reducible refine Upd.alloc ?_ _ | with_reducible refine Upd.setAt ?_ ?_ | exact Or.inl rfl | exact Or.inr (by simp) | exact Or.inr (by omega)))).trans h0 (fun _ _ h => h); clear h0))
    refine hK.out _ _ (by exact (by repeat (first | assumption | with_reducible exact Upd.refl _ _ | with_reducible refine Upd.drewN ?_ _ | with_reducible refine Upd.drew ?_ | with_reducible refine Upd.alloc ?_ _ | with_reducible refine Upd.setAt ?_ ?_ | exact Or.inl rfl | exact Or.inr (by simp) | exact Or.inr (by omega)))) (fun hHeld => ?_)
    clear hK K
    try simp only [Act.put, List.setIfInBounds_toArray, List.set_cons_zero, List.set_cons_succ]
    refine wpAnyH_ready (rs := [6]) (by kernel_rfl) (by simp) (AllReadyH.cons (o := ?_) ?_ (fun K hK => ?_) AllReadyH.nil)
    rotate_left 1
    · (simp only [List.getElem?_toArray, List.getElem?_cons_succ, List.getElem?_cons_zero]; exact rfl)
    (go_simp; (go_at_call 8; refine (string_calls (HE.out.up (hk5.trans (by repeat (first | assumption | with_reducible exact Upd.refl _ _ | with_reducible refine Upd.drewN ?_ _ | with_reducible refine Upd.drew ?_ | with_reducible refine Upd.alloc ?_ _ | with_reducible refine Upd.setAt ?_ ?_ | exact Or.inl rfl | exact Or.inr (by simp) | exact Or.inr (by omega))) (fun _ _ h => h))) _ _).mono ?_; rw [← HTb.out]; rintro e w7 ⟨rfl, h0⟩; have hu7 := (show Upd (fun _ => False) w5 _ from (by repeat (first | assumption | with_reducible exact Upd.refl _ _ | with_reducible refine Upd.drewN ?_ _ | with_reducible refine Upd.drew ?_ | with_reducible refine Upd.alloc ?_ _ | with_reducible refine Upd.setAt ?_ ?_ | exact Or.inl rfl | exact Or.inr (by simp) | exact Or.inr (by omega)))).trans h0 (fun _ _ h => h); clear h0))
    refine hK.out _ _ (by exact (by repeat (first | assumption | with_reducible exact Upd.refl _ _ | with_reducible refine Upd.drewN ?_ _ | with_reducible refine Upd.drew ?_ | with_reducible refine Upd.alloc ?_ _ | with_reducible refine Upd.setAt ?_ ?_ | exact Or.inl rfl | exact Or.inr (by simp) | exact Or.inr (by omega)))) (fun hHeld => ?_)
    clear hK K
    try simp only [Act.put, List.setIfInBounds_toArray, List.set_cons_zero, List.set_cons_succ]
    refine wpAnyH_take (i := 7) (oi := ?_) (v := ?_) ?_ (by kernel_rfl) (by kernel_rfl) (by kernel_rfl) ?_ (Or.inl ⟨?_, ?_⟩) (by assumption) ?_
    rotate_left 2
    · (simp only [List.getElem?_toArray, List.getElem?_cons_succ, List.getElem?_cons_zero]; exact rfl)
    · exact (fun _ _ _ h => h)
    · rfl
    · (intro w hSw; (try dsimp only at hSw); go_simp; (try with_reducible rfl))
    try simp only [Act.put, List.setIfInBounds_toArray, List.set_cons_zero, List.set_cons_succ]
    refine wpAnyH_take (i := 8) (oi := ?_) (v := ?_) ?_ (by kernel_rfl) (by kernel_rfl) (by kernel_rfl) ?_ (Or.inl ⟨?_, ?_⟩) (by assumption) ?_
    rotate_left 2
    · (simp only [List.getElem?_toArray, List.getElem?_cons_succ, List.getElem?_cons_zero]; exact rfl)
    · exact (fun _ _ _ h => h)
    · rfl
    · (intro w hSw; (try dsimp only at hSw); go_simp; (try with_reducible rfl))
    try simp only [Act.put, List.setIfInBounds_toArray, List.set_cons_zero, List.set_cons_succ]
    refine wpAnyH_done (by kernel_rfl) ?_ _
    have hk7 := hk5.trans hu7 (fun _ _ h => h)
    have ba7 := hu7.blk ba5 (fun h => h)
    clear a0 a1 b0 b1
    have a0 := keepsC (o := 0) ba7 rfl
    have a1 := keepsC (o := 1) ba7 rfl
    have hs7 : Upd (fun _ => False) w7 w7 := Upd.refl _ _
    go_wp2_with fail
    refine (string_calls (HWA.out _ hu7) k n).mono ?_
    rw [← HTa.out]
    rintro e w8 ⟨rfl, hu8⟩
    have h58 := hu7.trans hu8 (fun _ _ h => h)
    have hk8 := hk7.trans hu8 (fun _ _ h => h)
    have ba8 := hu8.blk ba7 (fun h => h)
    clear a0 a1
    have hs8 : Upd (fun _ => False) w8 w8 := Upd.refl _ _
    have hsap : S ta ++ S m = S (ta ++ m) := S_append _ _
    have hlen : ¬ 9223372036854775807 < ta.length + m.length := by have := HL.out; omega
    go_wp2_with fail
    refine (parse_calls (HWA.out _ h58) (ta ++ m) (by have := HL.out; rw [List.length_append]; omega)).mono ?_
    rcases HEN.out with ⟨h1, h2⟩ | ⟨h1, h2 | ⟨k2, n2, h2, h3⟩⟩
    · rw [h2]
      rintro e w9 ⟨rfl, hu9⟩
      have hme : m.isEmpty = true := by rw [h1]; rfl
      have hmb : (m == []) = true := by rw [h1]; rfl
      clear h1 h2
      have hk9 := hk8.trans hu9 (fun _ _ h => h)
      have ba9 := hu9.blk ba8 (fun h => h)
      have hs9 : Upd (fun _ => False) w9 w9 := Upd.refl _ _
      have a0 := keepsC (o := 0) ba9 rfl
      have a1 := keepsC (o := 1) ba9 rfl
      have hn9 := heap_alloc_new w9 (.cells #[.int .i64 k, .int .i64 n] 24)
      have r0 := keepsC (o := 0) hn9 rfl
      have r1 := keepsC (o := 1) hn9 rfl
      clear hsl htt hsap
      have hst := stl
      go_wp2
      go_ret
      exact ⟨rfl, hk9.alloc _⟩
    · rw [h2]
      rintro e w9 ⟨rfl, hu9⟩
      have hme : m.isEmpty = false := by cases m with | nil => exact absurd rfl h1 | cons a b => rfl
      have hmb : (m == []) = false := beq_eq_false_iff_ne.2 h1
      clear h1 h2
      have hk9 := hk8.trans hu9 (fun _ _ h => h)
      have ba9 := hu9.blk ba8 (fun h => h)
      have hs9 : Upd (fun _ => False) w9 w9 := Upd.refl _ _
      have a0 := keepsC (o := 0) ba9 rfl
      have a1 := keepsC (o := 1) ba9 rfl
      have hn9 := heap_alloc_new w9 (.cells #[.int .i64 0, .int .i64 0] 24)
      have r0 := keepsC (o := 0) hn9 rfl
      have r1 := keepsC (o := 1) hn9 rfl
      clear hsl htt hsap
      have hst := stl
      go_wp2
      go_ret
      exact ⟨rfl, hk9.alloc _⟩
    · rw [h2]
      rcases (by omega : (¬ k2 = k) ∨ (k2 = k ∧ ¬ n2 = n)) with h4 | ⟨rfl, h4⟩
      · have hme : m.isEmpty = false := by cases m with | nil => exact absurd rfl h1 | cons a b => rfl
        rintro e w9 ⟨rfl, hu9⟩
        have hmb : (m == []) = false := beq_eq_false_iff_ne.2 h1
        clear h1 h2
        have hk9 := hk8.trans hu9 (fun _ _ h => h)
        have ba9 := hu9.blk ba8 (fun h => h)
        have hs9 : Upd (fun _ => False) w9 w9 := Upd.refl _ _
        have a0 := keepsC (o := 0) ba9 rfl
        have a1 := keepsC (o := 1) ba9 rfl
        have hn9 := heap_alloc_new w9 (.cells #[.int .i64 k2, .int .i64 n2] 24)
        have r0 := keepsC (o := 0) hn9 rfl
        have r1 := keepsC (o := 1) hn9 rfl
        clear hsl htt hsap
        have hst := stl
        go_wp2
        go_ret
        exact ⟨rfl, hk9.alloc _⟩
      · have hme : m.isEmpty = false := by cases m with | nil => exact absurd rfl h1 | cons a b => rfl
        rintro e w9 ⟨rfl, hu9⟩
        have hmb : (m == []) = false := beq_eq_false_iff_ne.2 h1
        clear h1 h2
        have hk9 := hk8.trans hu9 (fun _ _ h => h)
        have ba9 := hu9.blk ba8 (fun h => h)
        have hs9 : Upd (fun _ => False) w9 w9 := Upd.refl _ _
        have a0 := keepsC (o := 0) ba9 rfl
        have a1 := keepsC (o := 1) ba9 rfl
        have hn9 := heap_alloc_new w9 (.cells #[.int .i64 k2, .int .i64 n2] 24)
        have r0 := keepsC (o := 0) hn9 rfl
        have r1 := keepsC (o := 1) hn9 rfl
        clear hsl htt hsap
        have hst := stl
        go_wp2
        go_ret
        exact ⟨rfl, hk9.alloc _⟩
  · have htt : (ta == tb) = false := by
      rw [HTa.out, HTb.out]
      exact beq_eq_false_iff_ne.2 (fun e => hkk (text_inj HR.out HR'.out e).1)
    go_wp2
    refine wp_region_held_drew (S := fun W => Upd (fun _ => False) w5 W) (by kernel_rfl) (by exact (by repeat (first | assumption | with_reducible exact Upd.refl _ _ | with_reducible refine Upd.drewN ?_ _ | with_reducible refine Upd.drew ?_ | with_reducible refine Upd.alloc ?_ _ | with_reducible refine Upd.setAt ?_ ?_ | exact Or.inl rfl | exact Or.inr (by simp) | exact Or.inr (by omega)))) (fun hHeld => ?_)
    refine wpAnyH_take (i := 0) (oi := ?_) (v := ?_) ?_ (by kernel_rfl) (by kernel_rfl) (by kernel_rfl) ?_ (Or.inl ⟨?_, ?_⟩) (by assumption) ?_
    rotate_left 2
    · (simp only [List.getElem?_toArray, List.getElem?_cons_succ, List.getElem?_cons_zero]; exact rfl)
    · exact (fun _ _ _ h => h)
    · rfl
    · (intro w hSw; (try dsimp only at hSw); go_simp; (try with_reducible rfl))
    try simp only [Act.put, List.setIfInBounds_toArray, List.set_cons_zero, List.set_cons_succ]
    refine wpAnyH_take (i := 1) (oi := ?_) (v := ?_) ?_ (by kernel_rfl) (by kernel_rfl) (by kernel_rfl) ?_ (Or.inl ⟨?_, ?_⟩) (by assumption) ?_
    rotate_left 2
    · (simp only [List.getElem?_toArray, List.getElem?_cons_succ, List.getElem?_cons_zero]; exact rfl)
    · exact (fun _ _ _ h => h)
    · rfl
    · (intro w hSw; (try dsimp only at hSw); go_simp; (try with_reducible rfl))
    try simp only [Act.put, List.setIfInBounds_toArray, List.set_cons_zero, List.set_cons_succ]
    refine wpAnyH_take (i := 2) (oi := ?_) (v := ?_) ?_ (by kernel_rfl) (by kernel_rfl) (by kernel_rfl) ?_ (Or.inl ⟨?_, ?_⟩) (by assumption) ?_
    rotate_left 2
    · (simp only [List.getElem?_toArray, List.getElem?_cons_succ, List.getElem?_cons_zero]; exact rfl)
    · exact (fun _ _ _ h => h)
    · rfl
    · (intro w hSw; (try dsimp only at hSw); go_simp; (try with_reducible rfl))
    try simp only [Act.put, List.setIfInBounds_toArray, List.set_cons_zero, List.set_cons_succ]
    refine wpAnyH_take (i := 3) (oi := ?_) (v := ?_) ?_ (by kernel_rfl) (by kernel_rfl) (by kernel_rfl) ?_ (Or.inl ⟨?_, ?_⟩) (by assumption) ?_
    rotate_left 2
    · (simp only [List.getElem?_toArray, List.getElem?_cons_succ, List.getElem?_cons_zero]; exact rfl)
    · exact (fun _ _ _ h => h)
    · rfl
    · (intro w hSw; (try dsimp only at hSw); go_simp; (try with_reducible rfl))
    try simp only [Act.put, List.setIfInBounds_toArray, List.set_cons_zero, List.set_cons_succ]
    refine wpAnyH_take (i := 5) (oi := ?_) (v := ?_) ?_ (by kernel_rfl) (by kernel_rfl) (by kernel_rfl) ?_ (Or.inl ⟨?_, ?_⟩) (by assumption) ?_
    rotate_left 2
    · (simp only [List.getElem?_toArray, List.getElem?_cons_succ, List.getElem?_cons_zero]; exact rfl)
    · exact (fun _ _ _ h => h)
    · rfl
    · (intro w hSw; (try dsimp only at hSw); go_simp; (try with_reducible rfl))
    try simp only [Act.put, List.setIfInBounds_toArray, List.set_cons_zero, List.set_cons_succ]
    refine wpAnyH_ready (rs := [4]) (by kernel_rfl) (by simp) (AllReadyH.cons (o := ?_) ?_ (fun K hK => ?_) AllReadyH.nil)
    rotate_left 1
    · (simp only [List.getElem?_toArray, List.getElem?_cons_succ, List.getElem?_cons_zero]; exact rfl)
    (go_simp; (go_at_call 8; refine (string_calls (HE.out.up (hk5.trans (by repeat (first | assumption | with_reducible exact Upd.refl _ _ | with_reducible refine Upd.drewN ?_ _ | with_reducible refine Upd.drew ?_ | with_reducible refine Upd.alloc ?_ _ | with_reducible refine Upd.setAt ?_ ?_ | exact Or.inl rfl | exact Or.inr (by simp) | exact Or.inr (by omega))) (fun _ _ h => h))) _ _).mono ?_; rw [← HTa.out]; rintro e w6 ⟨rfl, h0⟩; have hu6 := (show Upd (fun _ => False) w5 _ from (by repeat (first | assumption | with_reducible exact Upd.refl _ _ | with_reducible refine Upd.drewN ?_ _ | with_reducible refine Upd.drew ?_ | with_reducible refine Upd.alloc ?_ _ | with_reducible refine Upd.setAt ?_ ?_ | exact Or.inl rfl | exact Or.inr (by simp) | exact Or.inr (by omega)))).trans h0 (fun _ _ h => h); clear h0))
    refine hK.out _ _ (by exact (by repeat (first | assumption | with_reducible exact Upd.refl _ _ | with_reducible refine Upd.drewN ?_ _ | with_reducible refine Upd.drew ?_ | with_reducible refine Upd.alloc ?_ _ | with_reducible refine Upd.setAt ?_ ?_ | exact Or.inl rfl | exact Or.inr (by simp) | exact Or.inr (by omega)))) (fun hHeld => ?_)
    clear hK K
    try simp only [Act.put, List.setIfInBounds_toArray, List.set_cons_zero, List.set_cons_succ]
    refine wpAnyH_ready (rs := [6]) (by kernel_rfl) (by simp) (AllReadyH.cons (o := ?_) ?_ (fun K hK => ?_) AllReadyH.nil)
    rotate_left 1
    · (simp only [List.getElem?_toArray, List.getElem?_cons_succ, List.getElem?_cons_zero]; exact rfl)
    (go_simp; (go_at_call 8; refine (string_calls (HE.out.up (hk5.trans (by repeat (first | assumption | with_reducible exact Upd.refl _ _ | with_reducible refine Upd.drewN ?_ _ | with_reducible refine Upd.drew ?_ | with_reducible refine Upd.alloc ?_ _ | with_reducible refine Upd.setAt ?_ ?_ | exact Or.inl rfl | exact Or.inr (by simp) | exact Or.inr (by omega))) (fun _ _ h => h))) _ _).mono ?_; rw [← HTb.out]; rintro e w7 ⟨rfl, h0⟩; have hu7 := (show Upd (fun _ => False) w5 _ from (by repeat (first | assumption | with_reducible exact Upd.refl _ _ | with_reducible refine Upd.drewN ?_ _ | with_reducible refine Upd.drew ?_ | with_reducible refine Upd.alloc ?_ _ | with_reducible refine Upd.setAt ?_ ?_ | exact Or.inl rfl | exact Or.inr (by simp) | exact Or.inr (by omega)))).trans h0 (fun _ _ h => h); clear h0))
    refine hK.out _ _ (by exact (by repeat (first | assumption | with_reducible exact Upd.refl _ _ | with_reducible refine Upd.drewN ?_ _ | with_reducible refine Upd.drew ?_ | with_reducible refine Upd.alloc ?_ _ | with_reducible refine Upd.setAt ?_ ?_ | exact Or.inl rfl | exact Or.inr (by simp) | exact Or.inr (by omega)))) (fun hHeld => ?_)
    clear hK K
    try simp only [Act.put, List.setIfInBounds_toArray, List.set_cons_zero, List.set_cons_succ]
    refine wpAnyH_take (i := 7) (oi := ?_) (v := ?_) ?_ (by kernel_rfl) (by kernel_rfl) (by kernel_rfl) ?_ (Or.inl ⟨?_, ?_⟩) (by assumption) ?_
    rotate_left 2
    · (simp only [List.getElem?_toArray, List.getElem?_cons_succ, List.getElem?_cons_zero]; exact rfl)
    · exact (fun _ _ _ h => h)
    · rfl
    · (intro w hSw; (try dsimp only at hSw); go_simp; (try with_reducible rfl))
    try simp only [Act.put, List.setIfInBounds_toArray, List.set_cons_zero, List.set_cons_succ]
    refine wpAnyH_take (i := 8) (oi := ?_) (v := ?_) ?_ (by kernel_rfl) (by kernel_rfl) (by kernel_rfl) ?_ (Or.inl ⟨?_, ?_⟩) (by assumption) ?_
    rotate_left 2
    · (simp only [List.getElem?_toArray, List.getElem?_cons_succ, List.getElem?_cons_zero]; exact rfl)
    · exact (fun _ _ _ h => h)
    · rfl
    · (intro w hSw; (try dsimp only at hSw); go_simp; (try with_reducible rfl))
    try simp only [Act.put, List.setIfInBounds_toArray, List.set_cons_zero, List.set_cons_succ]
    refine wpAnyH_done (by kernel_rfl) ?_ _
    have hk7 := hk5.trans hu7 (fun _ _ h => h)
    have ba7 := hu7.blk ba5 (fun h => h)
    clear a0 a1 b0 b1
    have a0 := keepsC (o := 0) ba7 rfl
    have a1 := keepsC (o := 1) ba7 rfl
    have hs7 : Upd (fun _ => False) w7 w7 := Upd.refl _ _
    go_wp2_with fail
    refine (string_calls (HWA.out _ hu7) k n).mono ?_
    rw [← HTa.out]
    rintro e w8 ⟨rfl, hu8⟩
    have h58 := hu7.trans hu8 (fun _ _ h => h)
    have hk8 := hk7.trans hu8 (fun _ _ h => h)
    have ba8 := hu8.blk ba7 (fun h => h)
    clear a0 a1
    have hs8 : Upd (fun _ => False) w8 w8 := Upd.refl _ _
    have hsap : S ta ++ S m = S (ta ++ m) := S_append _ _
    have hlen : ¬ 9223372036854775807 < ta.length + m.length := by have := HL.out; omega
    go_wp2_with fail
    refine (parse_calls (HWA.out _ h58) (ta ++ m) (by have := HL.out; rw [List.length_append]; omega)).mono ?_
    rcases HEN.out with ⟨h1, h2⟩ | ⟨h1, h2 | ⟨k2, n2, h2, h3⟩⟩
    · rw [h2]
      rintro e w9 ⟨rfl, hu9⟩
      have hme : m.isEmpty = true := by rw [h1]; rfl
      have hmb : (m == []) = true := by rw [h1]; rfl
      clear h1 h2
      have hk9 := hk8.trans hu9 (fun _ _ h => h)
      have ba9 := hu9.blk ba8 (fun h => h)
      have hs9 : Upd (fun _ => False) w9 w9 := Upd.refl _ _
      have a0 := keepsC (o := 0) ba9 rfl
      have a1 := keepsC (o := 1) ba9 rfl
      have hn9 := heap_alloc_new w9 (.cells #[.int .i64 k, .int .i64 n] 24)
      have r0 := keepsC (o := 0) hn9 rfl
      have r1 := keepsC (o := 1) hn9 rfl
      clear hsl htt hsap
      have hst := stl
      go_wp2
      go_ret
      exact ⟨rfl, hk9.alloc _⟩
    · rw [h2]
      rintro e w9 ⟨rfl, hu9⟩
      have hme : m.isEmpty = false := by cases m with | nil => exact absurd rfl h1 | cons a b => rfl
      have hmb : (m == []) = false := beq_eq_false_iff_ne.2 h1
      clear h1 h2
      have hk9 := hk8.trans hu9 (fun _ _ h => h)
      have ba9 := hu9.blk ba8 (fun h => h)
      have hs9 : Upd (fun _ => False) w9 w9 := Upd.refl _ _
      have a0 := keepsC (o := 0) ba9 rfl
      have a1 := keepsC (o := 1) ba9 rfl
      have hn9 := heap_alloc_new w9 (.cells #[.int .i64 0, .int .i64 0] 24)
      have r0 := keepsC (o := 0) hn9 rfl
      have r1 := keepsC (o := 1) hn9 rfl
      clear hsl htt hsap
      have hst := stl
      go_wp2
      go_ret
      exact ⟨rfl, hk9.alloc _⟩
    · rw [h2]
      rcases (by omega : (¬ k2 = k) ∨ (k2 = k ∧ ¬ n2 = n)) with h4 | ⟨rfl, h4⟩
      · have hme : m.isEmpty = false := by cases m with | nil => exact absurd rfl h1 | cons a b => rfl
        rintro e w9 ⟨rfl, hu9⟩
        have hmb : (m == []) = false := beq_eq_false_iff_ne.2 h1
        clear h1 h2
        have hk9 := hk8.trans hu9 (fun _ _ h => h)
        have ba9 := hu9.blk ba8 (fun h => h)
        have hs9 : Upd (fun _ => False) w9 w9 := Upd.refl _ _
        have a0 := keepsC (o := 0) ba9 rfl
        have a1 := keepsC (o := 1) ba9 rfl
        have hn9 := heap_alloc_new w9 (.cells #[.int .i64 k2, .int .i64 n2] 24)
        have r0 := keepsC (o := 0) hn9 rfl
        have r1 := keepsC (o := 1) hn9 rfl
        clear hsl htt hsap
        have hst := stl
        go_wp2
        go_ret
        exact ⟨rfl, hk9.alloc _⟩
      · have hme : m.isEmpty = false := by cases m with | nil => exact absurd rfl h1 | cons a b => rfl
        rintro e w9 ⟨rfl, hu9⟩
        have hmb : (m == []) = false := beq_eq_false_iff_ne.2 h1
        clear h1 h2
        have hk9 := hk8.trans hu9 (fun _ _ h => h)
        have ba9 := hu9.blk ba8 (fun h => h)
        have hs9 : Upd (fun _ => False) w9 w9 := Upd.refl _ _
        have a0 := keepsC (o := 0) ba9 rfl
        have a1 := keepsC (o := 1) ba9 rfl
        have hn9 := heap_alloc_new w9 (.cells #[.int .i64 k2, .int .i64 n2] 24)
        have r0 := keepsC (o := 0) hn9 rfl
        have r1 := keepsC (o := 1) hn9 rfl
        clear hsl htt hsap
        have hst := stl
        go_wp2
        go_ret
        exact ⟨rfl, hk9.alloc _⟩
  · have htt : (ta == tb) = false := by
      rw [HTa.out, HTb.out]
      exact beq_eq_false_iff_ne.2 (fun e => hnn (text_inj HR.out HR'.out e).2)
    go_wp2
    refine wp_region_held_drew (S := fun W => Upd (fun _ => False) w5 W) (by kernel_rfl) (by exact (by repeat (first | assumption | with_reducible exact Upd.refl _ _ | with_reducible refine Upd.drewN ?_ _ | with_reducible refine Upd.drew ?_ | with_reducible refine Upd.alloc ?_ _ | with_reducible refine Upd.setAt ?_ ?_ | exact Or.inl rfl | exact Or.inr (by simp) | exact Or.inr (by omega)))) (fun hHeld => ?_)
    refine wpAnyH_take (i := 0) (oi := ?_) (v := ?_) ?_ (by kernel_rfl) (by kernel_rfl) (by kernel_rfl) ?_ (Or.inl ⟨?_, ?_⟩) (by assumption) ?_
    rotate_left 2
    · (simp only [List.getElem?_toArray, List.getElem?_cons_succ, List.getElem?_cons_zero]; exact rfl)
    · exact (fun _ _ _ h => h)
    · rfl
    · (intro w hSw; (try dsimp only at hSw); go_simp; (try with_reducible rfl))
    try simp only [Act.put, List.setIfInBounds_toArray, List.set_cons_zero, List.set_cons_succ]
    refine wpAnyH_take (i := 1) (oi := ?_) (v := ?_) ?_ (by kernel_rfl) (by kernel_rfl) (by kernel_rfl) ?_ (Or.inl ⟨?_, ?_⟩) (by assumption) ?_
    rotate_left 2
    · (simp only [List.getElem?_toArray, List.getElem?_cons_succ, List.getElem?_cons_zero]; exact rfl)
    · exact (fun _ _ _ h => h)
    · rfl
    · (intro w hSw; (try dsimp only at hSw); go_simp; (try with_reducible rfl))
    try simp only [Act.put, List.setIfInBounds_toArray, List.set_cons_zero, List.set_cons_succ]
    refine wpAnyH_take (i := 2) (oi := ?_) (v := ?_) ?_ (by kernel_rfl) (by kernel_rfl) (by kernel_rfl) ?_ (Or.inl ⟨?_, ?_⟩) (by assumption) ?_
    rotate_left 2
    · (simp only [List.getElem?_toArray, List.getElem?_cons_succ, List.getElem?_cons_zero]; exact rfl)
    · exact (fun _ _ _ h => h)
    · rfl
    · (intro w hSw; (try dsimp only at hSw); go_simp; (try with_reducible rfl))
    try simp only [Act.put, List.setIfInBounds_toArray, List.set_cons_zero, List.set_cons_succ]
    refine wpAnyH_take (i := 3) (oi := ?_) (v := ?_) ?_ (by kernel_rfl) (by kernel_rfl) (by kernel_rfl) ?_ (Or.inl ⟨?_, ?_⟩) (by assumption) ?_
    rotate_left 2
    · (simp only [List.getElem?_toArray, List.getElem?_cons_succ, List.getElem?_cons_zero]; exact rfl)
    · exact (fun _ _ _ h => h)
    · rfl
    · (intro w hSw; (try dsimp only at hSw); go_simp; (try with_reducible rfl))
    try simp only [Act.put, List.setIfInBounds_toArray, List.set_cons_zero, List.set_cons_succ]
    refine wpAnyH_take (i := 5) (oi := ?_) (v := ?_) ?_ (by kernel_rfl) (by kernel_rfl) (by kernel_rfl) ?_ (Or.inl ⟨?_, ?_⟩) (by assumption) ?_
    rotate_left 2
    · (simp only [List.getElem?_toArray, List.getElem?_cons_succ, List.getElem?_cons_zero]; exact rfl)
    · exact (fun _ _ _ h => h)
    · rfl
    · (intro w hSw; (try dsimp only at hSw); go_simp; (try with_reducible rfl))
    try simp only [Act.put, List.setIfInBounds_toArray, List.set_cons_zero, List.set_cons_succ]
    refine wpAnyH_ready (rs := [4]) (by kernel_rfl) (by simp) (AllReadyH.cons (o := ?_) ?_ (fun K hK => ?_) AllReadyH.nil)
    rotate_left 1
    · (simp only [List.getElem?_toArray, List.getElem?_cons_succ, List.getElem?_cons_zero]; exact rfl)
    (go_simp; (go_at_call 8; refine (string_calls (HE.out.up (hk5.trans (by repeat (first | assumption | with_reducible exact Upd.refl _ _ | with_reducible refine Upd.drewN ?_ _ | with_reducible refine Upd.drew ?_ | with_reducible refine Upd.alloc ?_ _ | with_reducible refine Upd.setAt ?_ ?_ | exact Or.inl rfl | exact Or.inr (by simp) | exact Or.inr (by omega))) (fun _ _ h => h))) _ _).mono ?_; rw [← HTa.out]; rintro e w6 ⟨rfl, h0⟩; have hu6 := (show Upd (fun _ => False) w5 _ from (by repeat (first | assumption | with_reducible exact Upd.refl _ _ | with_reducible refine Upd.drewN ?_ _ | with_reducible refine Upd.drew ?_ | with_reducible refine Upd.alloc ?_ _ | with_reducible refine Upd.setAt ?_ ?_ | exact Or.inl rfl | exact Or.inr (by simp) | exact Or.inr (by omega)))).trans h0 (fun _ _ h => h); clear h0))
    refine hK.out _ _ (by exact (by repeat (first | assumption | with_reducible exact Upd.refl _ _ | with_reducible refine Upd.drewN ?_ _ | with_reducible refine Upd.drew ?_ | with_reducible refine Upd.alloc ?_ _ | with_reducible refine Upd.setAt ?_ ?_ | exact Or.inl rfl | exact Or.inr (by simp) | exact Or.inr (by omega)))) (fun hHeld => ?_)
    clear hK K
    try simp only [Act.put, List.setIfInBounds_toArray, List.set_cons_zero, List.set_cons_succ]
    refine wpAnyH_ready (rs := [6]) (by kernel_rfl) (by simp) (AllReadyH.cons (o := ?_) ?_ (fun K hK => ?_) AllReadyH.nil)
    rotate_left 1
    · (simp only [List.getElem?_toArray, List.getElem?_cons_succ, List.getElem?_cons_zero]; exact rfl)
    (go_simp; (go_at_call 8; refine (string_calls (HE.out.up (hk5.trans (by repeat (first | assumption | with_reducible exact Upd.refl _ _ | with_reducible refine Upd.drewN ?_ _ | with_reducible refine Upd.drew ?_ | with_reducible refine Upd.alloc ?_ _ | with_reducible refine Upd.setAt ?_ ?_ | exact Or.inl rfl | exact Or.inr (by simp) | exact Or.inr (by omega))) (fun _ _ h => h))) _ _).mono ?_; rw [← HTb.out]; rintro e w7 ⟨rfl, h0⟩; have hu7 := (show Upd (fun _ => False) w5 _ from (by repeat (first | assumption | with_reducible exact Upd.refl _ _ | with_reducible refine Upd.drewN ?_ _ | with_reducible refine Upd.drew ?_ | with_reducible refine Upd.alloc ?_ _ | with_reducible refine Upd.setAt ?_ ?_ | exact Or.inl rfl | exact Or.inr (by simp) | exact Or.inr (by omega)))).trans h0 (fun _ _ h => h); clear h0))
    refine hK.out _ _ (by exact (by repeat (first | assumption | with_reducible exact Upd.refl _ _ | with_reducible refine Upd.drewN ?_ _ | with_reducible refine Upd.drew ?_ | with_reducible refine Upd.alloc ?_ _ | with_reducible refine Upd.setAt ?_ ?_ | exact Or.inl rfl | exact Or.inr (by simp) | exact Or.inr (by omega)))) (fun hHeld => ?_)
    clear hK K
    try simp only [Act.put, List.setIfInBounds_toArray, List.set_cons_zero, List.set_cons_succ]
    refine wpAnyH_take (i := 7) (oi := ?_) (v := ?_) ?_ (by kernel_rfl) (by kernel_rfl) (by kernel_rfl) ?_ (Or.inl ⟨?_, ?_⟩) (by assumption) ?_
    rotate_left 2
    · (simp only [List.getElem?_toArray, List.getElem?_cons_succ, List.getElem?_cons_zero]; exact rfl)
    · exact (fun _ _ _ h => h)
    · rfl
    · (intro w hSw; (try dsimp only at hSw); go_simp; (try with_reducible rfl))
    try simp only [Act.put, List.setIfInBounds_toArray, List.set_cons_zero, List.set_cons_succ]
    refine wpAnyH_take (i := 8) (oi := ?_) (v := ?_) ?_ (by kernel_rfl) (by kernel_rfl) (by kernel_rfl) ?_ (Or.inl ⟨?_, ?_⟩) (by assumption) ?_
    rotate_left 2
    · (simp only [List.getElem?_toArray, List.getElem?_cons_succ, List.getElem?_cons_zero]; exact rfl)
    · exact (fun _ _ _ h => h)
    · rfl
    · (intro w hSw; (try dsimp only at hSw); go_simp; (try with_reducible rfl))
    try simp only [Act.put, List.setIfInBounds_toArray, List.set_cons_zero, List.set_cons_succ]
    refine wpAnyH_done (by kernel_rfl) ?_ _
    have hk7 := hk5.trans hu7 (fun _ _ h => h)
    have ba7 := hu7.blk ba5 (fun h => h)
    clear a0 a1 b0 b1
    have a0 := keepsC (o := 0) ba7 rfl
    have a1 := keepsC (o := 1) ba7 rfl
    have hs7 : Upd (fun _ => False) w7 w7 := Upd.refl _ _
    go_wp2_with fail
    refine (string_calls (HWA.out _ hu7) k n).mono ?_
    rw [← HTa.out]
    rintro e w8 ⟨rfl, hu8⟩
    have h58 := hu7.trans hu8 (fun _ _ h => h)
    have hk8 := hk7.trans hu8 (fun _ _ h => h)
    have ba8 := hu8.blk ba7 (fun h => h)
    clear a0 a1
    have hs8 : Upd (fun _ => False) w8 w8 := Upd.refl _ _
    have hsap : S ta ++ S m = S (ta ++ m) := S_append _ _
    have hlen : ¬ 9223372036854775807 < ta.length + m.length := by have := HL.out; omega
    go_wp2_with fail
    refine (parse_calls (HWA.out _ h58) (ta ++ m) (by have := HL.out; rw [List.length_append]; omega)).mono ?_
    rcases HEN.out with ⟨h1, h2⟩ | ⟨h1, h2 | ⟨k2, n2, h2, h3⟩⟩
    · rw [h2]
      rintro e w9 ⟨rfl, hu9⟩
      have hme : m.isEmpty = true := by rw [h1]; rfl
      have hmb : (m == []) = true := by rw [h1]; rfl
      clear h1 h2
      have hk9 := hk8.trans hu9 (fun _ _ h => h)
      have ba9 := hu9.blk ba8 (fun h => h)
      have hs9 : Upd (fun _ => False) w9 w9 := Upd.refl _ _
      have a0 := keepsC (o := 0) ba9 rfl
      have a1 := keepsC (o := 1) ba9 rfl
      have hn9 := heap_alloc_new w9 (.cells #[.int .i64 k, .int .i64 n] 24)
      have r0 := keepsC (o := 0) hn9 rfl
      have r1 := keepsC (o := 1) hn9 rfl
      clear hsl htt hsap
      have hst := stl
      go_wp2
      go_ret
      exact ⟨rfl, hk9.alloc _⟩
    · rw [h2]
      rintro e w9 ⟨rfl, hu9⟩
      have hme : m.isEmpty = false := by cases m with | nil => exact absurd rfl h1 | cons a b => rfl
      have hmb : (m == []) = false := beq_eq_false_iff_ne.2 h1
      clear h1 h2
      have hk9 := hk8.trans hu9 (fun _ _ h => h)
      have ba9 := hu9.blk ba8 (fun h => h)
      have hs9 : Upd (fun _ => False) w9 w9 := Upd.refl _ _
      have a0 := keepsC (o := 0) ba9 rfl
      have a1 := keepsC (o := 1) ba9 rfl
      have hn9 := heap_alloc_new w9 (.cells #[.int .i64 0, .int .i64 0] 24)
      have r0 := keepsC (o := 0) hn9 rfl
      have r1 := keepsC (o := 1) hn9 rfl
      clear hsl htt hsap
      have hst := stl
      go_wp2
      go_ret
      exact ⟨rfl, hk9.alloc _⟩
    · rw [h2]
      rcases (by omega : (¬ k2 = k) ∨ (k2 = k ∧ ¬ n2 = n)) with h4 | ⟨rfl, h4⟩
      · have hme : m.isEmpty = false := by cases m with | nil => exact absurd rfl h1 | cons a b => rfl
        rintro e w9 ⟨rfl, hu9⟩
        have hmb : (m == []) = false := beq_eq_false_iff_ne.2 h1
        clear h1 h2
        have hk9 := hk8.trans hu9 (fun _ _ h => h)
        have ba9 := hu9.blk ba8 (fun h => h)
        have hs9 : Upd (fun _ => False) w9 w9 := Upd.refl _ _
        have a0 := keepsC (o := 0) ba9 rfl
        have a1 := keepsC (o := 1) ba9 rfl
        have hn9 := heap_alloc_new w9 (.cells #[.int .i64 k2, .int .i64 n2] 24)
        have r0 := keepsC (o := 0) hn9 rfl
        have r1 := keepsC (o := 1) hn9 rfl
        clear hsl htt hsap
        have hst := stl
        go_wp2
        go_ret
        exact ⟨rfl, hk9.alloc _⟩
      · have hme : m.isEmpty = false := by cases m with | nil => exact absurd rfl h1 | cons a b => rfl
        rintro e w9 ⟨rfl, hu9⟩
        have hmb : (m == []) = false := beq_eq_false_iff_ne.2 h1
        clear h1 h2
        have hk9 := hk8.trans hu9 (fun _ _ h => h)
        have ba9 := hu9.blk ba8 (fun h => h)
        have hs9 : Upd (fun _ => False) w9 w9 := Upd.refl _ _
        have a0 := keepsC (o := 0) ba9 rfl
        have a1 := keepsC (o := 1) ba9 rfl
        have hn9 := heap_alloc_new w9 (.cells #[.int .i64 k2, .int .i64 n2] 24)
        have r0 := keepsC (o := 0) hn9 rfl
        have r1 := keepsC (o := 1) hn9 rfl
        clear hsl htt hsap
        have hst := stl
        go_wp2
        go_ret
        exact ⟨rfl, hk9.alloc _⟩
end Go.Proofs.YtaeafnpldlcdnaaDoor.Or
