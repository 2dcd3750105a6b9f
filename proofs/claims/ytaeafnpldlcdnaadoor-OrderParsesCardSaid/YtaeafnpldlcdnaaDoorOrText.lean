/- The statements' own line of a command. -/
import Derived.Test.YtaeafnpldlcdnaaDoorOrder
set_option linter.unusedVariables false
set_option linter.unusedSimpArgs false
namespace Go.Proofs.YtaeafnpldlcdnaaDoor.Or
open Go.RowKit K
set_option maxHeartbeats 2000000 in
theorem text_calls {w : World} (h : Env w) (k n : Int) : Calls Tryd.prog 7 #[.agg #[.int .i64 k, .int .i64 n]] w fun e w' => e = .returned (.string (S (text k n))) ∧ Upd (fun _ => False) w w' := by
  have HE := Asd.mk h
  obtain ⟨tx, htx⟩ : ∃ tx, tx = text k n := ⟨_, rfl⟩
  rw [← htx]
  have HX := Asd.mk htx
  have b0 := keepsC (o := 0) (heap_alloc_new w (.cells #[.int .i64 k, .int .i64 n] 24)) rfl
  have b1 := keepsC (o := 1) (heap_alloc_new w (.cells #[.int .i64 k, .int .i64 n] 24)) rfl
  have hk := (Upd.refl (fun _ => False) w).alloc (.cells #[.int .i64 k, .int .i64 n] 24)
  clear h htx
  cases hr : right k n with
  | false =>
    have HX2 : Asd (tx = []) := ⟨by rw [HX.out]; unfold text; rw [hr]; rfl⟩
    have hrr : k < 1 ∨ (1 ≤ k ∧ 11 < k) ∨ (1 ≤ k ∧ k ≤ 11 ∧ n < 0) ∨ (1 ≤ k ∧ k ≤ 11 ∧ 0 ≤ n ∧ 1099511627776 < n) ∨ (1 ≤ k ∧ k ≤ 11 ∧ k < 6 ∧ 0 < n ∧ n ≤ 1099511627776) := by
      unfold right at hr
      simp at hr
      omega
    clear hr HX
    rcases hrr with h1 | ⟨h1, h2⟩ | ⟨h1, h2, h3⟩ | ⟨h1, h2, h3, h4⟩ | ⟨h1, h2, h3, h4, h5⟩
    all_goals
      go_enter Tryd.func7, Tryd.ntmps7
      go_wp2
      go_ret
      exact ⟨by rw [HX2.out]; rfl, hk⟩
  | true =>
    have hrr := hr
    simp only [right, Bool.and_eq_true, decide_eq_true_eq, Bool.or_eq_true, beq_iff_eq] at hrr
    obtain ⟨r1, r2, r3, r4, r5⟩ := hrr
    obtain ⟨j, hj⟩ : ∃ j : Nat, k = (j : Int) := ⟨k.toNat, by omega⟩
    have g3 : ¬ n < 0 := by omega
    have g4 : ¬ 1099511627776 < n := by omega
    by_cases h6 : k < 6
    · have hn0 : n = 0 := by omega
      have HX2 : Asd (tx = word j) := ⟨by rw [HX.out]; unfold text; rw [hr, if_pos rfl, if_pos h6, hj, List.append_nil]; rfl⟩
      clear hr HX r5
      subst hj
      subst hn0
      rcases (by omega : j = 1 ∨ j = 2 ∨ j = 3 ∨ j = 4 ∨ j = 5) with rfl | rfl | rfl | rfl | rfl
      all_goals
        go_enter Tryd.func7, Tryd.ntmps7
        go_wp2
        go_ret
        exact ⟨by rw [HX2.out]; rfl, hk.alloc _⟩
    · have HX2 : Asd (tx = word j ++ [32] ++ Lib.itoa n) := ⟨by rw [HX.out]; unfold text; rw [hr, if_pos rfl, if_neg h6, hj, List.append_assoc]; rfl⟩
      have hil := Lib.itoa_length_le n (by omega) (by omega)
      clear hr HX r5
      subst hj
      rcases (by omega : j = 6 ∨ j = 7 ∨ j = 8 ∨ j = 9 ∨ j = 10 ∨ j = 11) with rfl | rfl | rfl | rfl | rfl | rfl
      all_goals
        have HT : Asd (S tx = S (word _ ++ [32]) ++ S (Lib.itoa n)) := ⟨by rw [HX2.out, ← S_append]⟩
        go_enter Tryd.func7, Tryd.ntmps7
        go_wp2_with fail
        refine (format_calls (HE.out.up (hk.alloc _)) n r3 r4).mono ?_
        rintro e w5 ⟨rfl, hu5⟩
        go_wp2
        go_ret
        exact ⟨by rw [HT.out]; rfl, (hk.alloc _).trans hu5 (fun _ _ h => h)⟩
end Go.Proofs.YtaeafnpldlcdnaaDoor.Or
