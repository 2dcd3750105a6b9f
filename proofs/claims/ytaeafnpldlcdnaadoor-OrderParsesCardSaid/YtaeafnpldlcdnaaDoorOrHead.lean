/- The document's example (the head of layer 9's statements). -/
import Derived.Test.YtaeafnpldlcdnaaDoorOrPure
import Derived.Test.YtaeafnpldlcdnaaDoorOrText
set_option linter.unusedVariables false
set_option linter.unusedSimpArgs false
namespace Go.Proofs.YtaeafnpldlcdnaaDoor.Or
open Go.RowKit K
theorem text63 : text 6 3 = [103, 105, 118, 101, 32, 51] := by
  rw [text_long (by decide) (by decide), itoa_nat (by decide), show Int.toNat 3 = 3 by rfl, dd_small (by decide)]
  rfl
theorem p3 : parse [103, 105, 118, 101, 32, 51] = (6, 3, 0) := by
  rw [← text63]
  exact parse_text (by decide)
theorem p03 : parse [103, 105, 118, 101, 32, 48, 51] = (0, 0, 8) := by
  have e1 : pval [103, 105, 118, 101, 32, 48, 51] = some 3 := by decide +kernel
  have e2 : pk [103, 105, 118, 101, 32, 48, 51] = 6 := by decide +kernel
  unfold parse
  rw [e1, e2]
  simp only
  rw [text63, if_pos (.inr (by decide))]
set_option maxHeartbeats 2000000 in
theorem head_calls {w : World} (h : Env w) : Calls Tryd.prog 6 #[] w fun e w' => e = .returned (.bool true) ∧ Upd (fun _ => False) w w' := by
  have HE := Asd.mk h
  clear h
  go_enter Tryd.func6, Tryd.ntmps6
  go_wp2_with fail
  refine (parse_calls HE.out [103, 105, 118, 101, 32, 51] (by decide)).mono ?_
  rw [p3]
  rintro e w2 ⟨rfl, hu⟩
  have hn2 := heap_alloc_new w2 (.cells #[.int .i64 6, .int .i64 3] 24)
  have q0 := keepsC (o := 0) hn2 rfl
  have q1 := keepsC (o := 1) hn2 rfl
  have hk := hu.alloc (.cells #[.int .i64 6, .int .i64 3] 24)
  go_wp2_with fail
  refine (parse_calls (HE.out.up hk) [103, 105, 118, 101, 32, 48, 51] (by decide)).mono ?_
  rw [p03]
  rintro e w3 ⟨rfl, hu3⟩
  have hk3 : Upd (fun _ => False) w3 w3 := Upd.refl _ _
  have q03 := keepsC (o := 0) (hu3.blk hn2 (fun h => h)) rfl
  have q13 := keepsC (o := 1) (hu3.blk hn2 (fun h => h)) rfl
  go_wp2
  go_ret
  exact ⟨rfl, (hk.trans hu3 (fun _ _ h => h)).alloc _⟩
end Go.Proofs.YtaeafnpldlcdnaaDoor.Or
