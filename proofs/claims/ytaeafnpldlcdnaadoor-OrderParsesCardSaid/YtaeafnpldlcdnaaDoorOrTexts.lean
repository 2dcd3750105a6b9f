/- Layer 9's statements on a command's line, and on commands' lines apart. -/
import Derived.Test.YtaeafnpldlcdnaaDoorOrHead
set_option linter.unusedVariables false
set_option linter.unusedSimpArgs false
namespace Go.Proofs.YtaeafnpldlcdnaaDoor.Or
open Go.RowKit K
set_option maxHeartbeats 4000000 in
theorem texts_walk {w : World} (h : Env w) (k n : Int) : Calls Tryd.prog 3 #[.agg #[.int .i64 k, .int .i64 n]] w fun e w' => e = .returned (.bool true) ∧ Upd (fun _ => False) w w' := by
  have HE := Asd.mk h
  have hn1 := heap_alloc_new w (.cells #[.int .i64 k, .int .i64 n] 24)
  have hk1 := (Upd.refl (fun _ => False) w).alloc (.cells #[.int .i64 k, .int .i64 n] 24)
  clear h
  obtain ⟨tx, htx⟩ : ∃ tx, tx = text k n := ⟨_, rfl⟩
  have HX := Asd.mk htx
  clear htx
  have hlen : tx.length ≤ 1000 := by
    rw [HX.out]
    cases hr : right k n with
    | false => rw [text_wrong hr]; simp
    | true =>
      obtain ⟨h1, h2, h3, h4, h5⟩ := (right_iff k n).1 hr
      have hw := word_len (k.toNat - 1) (by omega)
      rw [show k.toNat - 1 + 1 = k.toNat by omega] at hw
      by_cases h6 : k < 6
      · rw [text_short hr h6]; omega
      · rw [text_long hr h6]
        have := itoa_len h3 h4
        simp only [List.length_append, List.length_cons]
        omega
  have stl : ∀ x : List UInt8, (S x).toList = x := fun x => by rw [ByteArray.toList_eq]; simp [S]
  go_enter Tryd.func3, Tryd.ntmps3
  go_wp2_with fail
  refine (head_calls (HE.out.up hk1)).mono ?_
  rintro e w2 ⟨rfl, hu2⟩
  have hk2 := hk1.trans hu2 (fun _ _ h => h)
  have hs2 : Upd (fun _ => False) w2 w2 := Upd.refl _ _
  have q02 := keepsC (o := 0) (hu2.blk hn1 (fun h => h)) rfl
  have q12 := keepsC (o := 1) (hu2.blk hn1 (fun h => h)) rfl
  go_wp2_with fail
  refine (text_calls (HE.out.up hk2) k n).mono ?_
  rw [← HX.out]
  rintro e w3 ⟨rfl, hu3⟩
  have hk3 := hk2.trans hu3 (fun _ _ h => h)
  have hs3 : Upd (fun _ => False) w3 w3 := Upd.refl _ _
  have q03 := keepsC (o := 0) ((hu2.trans hu3 (fun _ _ h => h)).blk hn1 (fun h => h)) rfl
  have q13 := keepsC (o := 1) ((hu2.trans hu3 (fun _ _ h => h)).blk hn1 (fun h => h)) rfl
  clear q02 q12
  go_wp2_with fail
  refine (string_calls (HE.out.up hk3) k n).mono ?_
  rw [← HX.out]
  rintro e w4 ⟨rfl, hu4⟩
  have hk4 := hk3.trans hu4 (fun _ _ h => h)
  have hs4 : Upd (fun _ => False) w4 w4 := Upd.refl _ _
  have q04 := keepsC (o := 0) ((hu2.trans (hu3.trans hu4 (fun _ _ h => h)) (fun _ _ h => h)).blk hn1 (fun h => h)) rfl
  have q14 := keepsC (o := 1) ((hu2.trans (hu3.trans hu4 (fun _ _ h => h)) (fun _ _ h => h)).blk hn1 (fun h => h)) rfl
  clear q03 q13
  have hbt : (tx == tx) = true := by simp
  go_wp2_with fail
  refine (right_calls k n _).mono ?_
  cases hr : right k n with
  | false =>
    have HT : Asd (tx = []) := ⟨by rw [HX.out, text_wrong hr]⟩
    clear hr
    rintro e w5 ⟨rfl, hu5⟩
    have hk5 := hk4.trans hu5 (fun _ _ h => h)
    have hs5 : Upd (fun _ => False) w5 w5 := Upd.refl _ _
    have hb5 := (hu2.trans (hu3.trans (hu4.trans hu5 (fun _ _ h => h)) (fun _ _ h => h)) (fun _ _ h => h)).blk hn1 (fun h => h)
    have q05 := keepsC (o := 0) hb5 rfl
    have q15 := keepsC (o := 1) hb5 rfl
    clear q04 q14
    have hte : tx.isEmpty = true := by rw [HT.out]; rfl
    have htb : (tx == []) = true := by rw [HT.out]; rfl
    go_wp2_with fail
    refine (parse_calls (HE.out.up hk5) tx (by rw [HT.out]; decide)).mono ?_
    rw [show parse tx = (0, 0, 8) by rw [HT.out]; rfl]
    rintro e w6 ⟨rfl, hu6⟩
    have hk6 := hk5.trans hu6 (fun _ _ h => h)
    have hs6 : Upd (fun _ => False) w6 w6 := Upd.refl _ _
    have hn6 := heap_alloc_new w6 (.cells #[.int .i64 0, .int .i64 0] 24)
    have r0 := keepsC (o := 0) hn6 rfl
    have r1 := keepsC (o := 1) hn6 rfl
    go_wp2
    go_ret
    exact ⟨rfl, hk6.alloc _⟩
  | true =>
    have HT : Asd (parse tx = (k, n, 0)) := ⟨by rw [HX.out, parse_text hr]⟩
    have hte : tx.isEmpty = false := by
      have := text_ne hr
      rw [← HX.out] at this
      cases tx with
      | nil => exact absurd rfl this
      | cons a b => rfl
    have htb : (tx == []) = false := by
      have := text_ne hr
      rw [← HX.out] at this
      exact beq_eq_false_iff_ne.2 this
    clear hr
    rintro e w5 ⟨rfl, hu5⟩
    have hk5 := hk4.trans hu5 (fun _ _ h => h)
    have hs5 : Upd (fun _ => False) w5 w5 := Upd.refl _ _
    have hb4 := (hu2.trans (hu3.trans (hu4.trans hu5 (fun _ _ h => h)) (fun _ _ h => h)) (fun _ _ h => h)).blk hn1 (fun h => h)
    have q05 := keepsC (o := 0) hb4 rfl
    have q15 := keepsC (o := 1) hb4 rfl
    clear q04 q14
    go_wp2_with fail
    refine (parse_calls (HE.out.up hk5) tx hlen).mono ?_
    rw [HT.out]
    rintro e w6 ⟨rfl, hu6⟩
    have hk6 := hk5.trans hu6 (fun _ _ h => h)
    have hs6 : Upd (fun _ => False) w6 w6 := Upd.refl _ _
    have hb6 := hu6.blk hb4 (fun h => h)
    have q06 := keepsC (o := 0) hb6 rfl
    have q16 := keepsC (o := 1) hb6 rfl
    clear q05 q15
    have hn6 := heap_alloc_new w6 (.cells #[.int .i64 k, .int .i64 n] 24)
    have r0 := keepsC (o := 0) hn6 rfl
    have r1 := keepsC (o := 1) hn6 rfl
    go_wp2
    go_ret
    exact ⟨rfl, hk6.alloc _⟩
end Go.Proofs.YtaeafnpldlcdnaaDoor.Or
