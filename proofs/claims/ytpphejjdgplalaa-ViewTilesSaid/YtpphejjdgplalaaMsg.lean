/- Messages (package msg): which can be written, and what the law's own table says of that. -/
import Derived.Test.YtpphejjdgplalaaK3
set_option linter.unusedVariables false
set_option linter.unusedSimpArgs false
namespace Go.Proofs.Ytpphejjdgplalaa.Mg
open Go.RowKit K

/-- How many numbers a kind has, how long its text may be; is it one? -/
def nums (k : Int) : Nat := if 1 ≤ k ∧ k ≤ 15 then [0, 2, 1, 0, 0, 2, 1, 2, 2, 1, 0, 0, 0, 1, 0, 1].getD k.toNat 0 else 0
def most (k : Int) : Nat := if 1 ≤ k ∧ k ≤ 15 then [0, 20, 2042, 0, 0, 20, 2042, 0, 0, 0, 80, 80, 0, 0, 0, 0].getD k.toNat 0 else 0
def known (k : Int) : Bool := decide (1 ≤ k ∧ k ≤ 15)
theorem kinds (k : Int) (h : 1 ≤ k ∧ k ≤ 15) : k = 1 ∨ k = 2 ∨ k = 3 ∨ k = 4 ∨ k = 5 ∨ k = 6 ∨ k = 7 ∨ k = 8 ∨ k = 9 ∨ k = 10 ∨ k = 11 ∨ k = 12 ∨ k = 13 ∨ k = 14 ∨ k = 15 := by omega
theorem nums_le (k : Int) : nums k ≤ 2 := by
  by_cases h : 1 ≤ k ∧ k ≤ 15
  · rcases kinds k h with rfl | rfl | rfl | rfl | rfl | rfl | rfl | rfl | rfl | rfl | rfl | rfl | rfl | rfl | rfl <;> decide
  · simp [nums, h]
theorem most_le (k : Int) : most k ≤ 2042 := by
  by_cases h : 1 ≤ k ∧ k ≤ 15
  · rcases kinds k h with rfl | rfl | rfl | rfl | rfl | rfl | rfl | rfl | rfl | rfl | rfl | rfl | rfl | rfl | rfl <;> decide
  · simp [most, h]
set_option maxHeartbeats 1000000 in
theorem shape_calls (k : Int) (w : World) : Calls Try.prog 44 #[.int .i64 k] w fun e w' => e = .returned (.tuple #[.int .i64 (nums k : Int), .int .i64 (most k : Int), .bool (known k)]) ∧ w = w' := by
  by_cases h : 1 ≤ k ∧ k ≤ 15
  · have hk := kinds k h
    have HP := Asd.mk (show known k = true from decide_eq_true h)
    clear h
    rcases hk with rfl | rfl | rfl | rfl | rfl | rfl | rfl | rfl | rfl | rfl | rfl | rfl | rfl | rfl | rfl
    all_goals
      rw [HP.out]
      go_enter Try.func44, Try.ntmps44
      go_wp2
      refine bodyPost_ret (by simp [results, Try.results44, go_sem]; rfl) rfl ?_
      exact ⟨by simp [nums, most], rfl⟩
  · have hn : nums k = 0 := if_neg h
    have hm : most k = 0 := if_neg h
    have hf : known k = false := decide_eq_false h
    rw [hn, hm, hf]
    have hne : ∀ j : Int, 1 ≤ j → j ≤ 15 → (k == j) = false := fun j h1 h2 => beq_eq_false_iff_ne.2 (by omega)
    obtain ⟨h1, h2, h3, h4, h5⟩ : (k == 1) = false ∧ (k == 2) = false ∧ (k == 3) = false ∧ (k == 4) = false ∧ (k == 5) = false := ⟨hne 1 (by omega) (by omega), hne 2 (by omega) (by omega), hne 3 (by omega) (by omega), hne 4 (by omega) (by omega), hne 5 (by omega) (by omega)⟩
    obtain ⟨h6, h7, h8, h9, h10⟩ : (k == 6) = false ∧ (k == 7) = false ∧ (k == 8) = false ∧ (k == 9) = false ∧ (k == 10) = false := ⟨hne 6 (by omega) (by omega), hne 7 (by omega) (by omega), hne 8 (by omega) (by omega), hne 9 (by omega) (by omega), hne 10 (by omega) (by omega)⟩
    obtain ⟨h11, h12, h13, h14, h15⟩ : (k == 11) = false ∧ (k == 12) = false ∧ (k == 13) = false ∧ (k == 14) = false ∧ (k == 15) = false := ⟨hne 11 (by omega) (by omega), hne 12 (by omega) (by omega), hne 13 (by omega) (by omega), hne 14 (by omega) (by omega), hne 15 (by omega) (by omega)⟩
    clear hn hm hf hne h
    go_enter Try.func44, Try.ntmps44
    go_wp2
    refine bodyPost_ret (v := .tuple #[.int .i64 0, .int .i64 0, .bool false]) (by simp [results, Try.results44, go_sem]) rfl ?_
    exact ⟨rfl, rfl⟩
/-- Can a message be written? -/
def right (k a b : Int) (n : Nat) : Bool := known k && (decide (n ≤ most k) && (decide (0 ≤ a) && (decide (0 ≤ b) && (decide (a ≤ 1099511627776) && (decide (b ≤ 1099511627776) && ((decide (0 < nums k) || a == 0) && (decide (1 < nums k) || b == 0)))))))
set_option maxHeartbeats 2000000 in
theorem right_calls (k a b : Int) (s : ByteArray) (w : World) : Calls Try.prog 37 #[.agg #[.int .i64 k, .int .i64 a, .int .i64 b, .string s]] w fun e w' => e = .returned (.bool (right k a b s.size)) ∧ Upd (fun _ => False) w w' := by
  obtain ⟨r, hr⟩ : ∃ r : Bool, r = right k a b s.size := ⟨_, rfl⟩
  rw [← hr]
  obtain ⟨N, hN⟩ : ∃ N, N = nums k := ⟨_, rfl⟩
  obtain ⟨M, hM⟩ : ∃ M, M = most k := ⟨_, rfl⟩
  have HR : Asd (r = (known k && (decide (s.size ≤ M) && (decide (0 ≤ a) && (decide (0 ≤ b) && (decide (a ≤ 1099511627776) && (decide (b ≤ 1099511627776) && ((decide (0 < N) || a == 0) && (decide (1 < N) || b == 0))))))))) := ⟨by rw [hr, hN, hM]; rfl⟩
  have HS := Asd.mk (And.intro hN hM)
  clear hr hN hM
  go_enter Try.func37, Try.ntmps37
  go_wp2_with fail
  refine (shape_calls k _).mono ?_
  rw [← HS.out.1, ← HS.out.2]
  rintro e w2 ⟨rfl, rfl⟩
  cases hk : known k with
  | false =>
    have HF : Asd (r = false) := ⟨by rw [HR.out, hk]; rfl⟩
    clear hk
    go_wp2
    go_ret
    exact ⟨by rw [HF.out]; rfl, (Upd.refl _ _).alloc _⟩
  | true =>
    rw [hk, Bool.true_and] at HR
    clear hk
    go_wp2
    all_goals go_ret
    all_goals refine ⟨?_, (Upd.refl _ _).alloc _⟩
    all_goals rw [HR.out]
    all_goals clear HR HS
    all_goals refine congrArg (fun x => Ending.returned (Value.bool x)) (Bool.eq_iff_iff.2 ?_)
    all_goals simp only [Bool.and_eq_true, Bool.or_eq_true, decide_eq_true_eq, beq_iff_eq, Bool.false_eq_true, false_iff, true_iff]
    all_goals omega
def numV : List Value := [.int .i64 0, .int .i64 2, .int .i64 1, .int .i64 0, .int .i64 0, .int .i64 2, .int .i64 1, .int .i64 2, .int .i64 2, .int .i64 1, .int .i64 0, .int .i64 0, .int .i64 0, .int .i64 1, .int .i64 0, .int .i64 1]
def mostV : List Value := [.int .i64 0, .int .i64 20, .int .i64 2042, .int .i64 0, .int .i64 0, .int .i64 20, .int .i64 2042, .int .i64 0, .int .i64 0, .int .i64 0, .int .i64 80, .int .i64 80, .int .i64 0, .int .i64 0, .int .i64 0, .int .i64 0]
theorem tables : ∀ i : Nat, (h : i < 16) → 1 ≤ i → (numV[i]'h = .int .i64 (nums (i : Int) : Int) ∧ mostV[i]'h = .int .i64 (most (i : Int) : Int)) := by
  intro i h h1
  rcases (by omega : i = 1 ∨ i = 2 ∨ i = 3 ∨ i = 4 ∨ i = 5 ∨ i = 6 ∨ i = 7 ∨ i = 8 ∨ i = 9 ∨ i = 10 ∨ i = 11 ∨ i = 12 ∨ i = 13 ∨ i = 14 ∨ i = 15) with rfl | rfl | rfl | rfl | rfl | rfl | rfl | rfl | rfl | rfl | rfl | rfl | rfl | rfl | rfl <;> exact ⟨rfl, rfl⟩
set_option maxHeartbeats 1000000 in
theorem has_calls (k : Int) (w : World) : Calls Try.prog 34 #[.int .i64 k] w fun e w' => e = .returned (.tuple #[.int .i64 (if known k then (nums k : Int) else -1), .int .i64 (if known k then (most k : Int) else -1)]) ∧ Upd (fun _ => False) w w' := by
  by_cases h : 1 ≤ k ∧ k ≤ 15
  · have hP : known k = true := decide_eq_true h
    rw [if_pos hP, if_pos hP]
    obtain ⟨i, rfl⟩ : ∃ i : Nat, k = (i : Int) := ⟨k.toNat, by omega⟩
    obtain ⟨hA, hB⟩ := tables i (by omega) (by omega)
    obtain ⟨N, hN⟩ : ∃ N, N = nums (i : Int) := ⟨_, rfl⟩
    obtain ⟨M, hM⟩ : ∃ M, M = most (i : Int) := ⟨_, rfl⟩
    rw [← hN] at hA
    rw [← hM] at hB
    rw [← hN, ← hM]
    have h1 : 1 ≤ i := by omega
    have h2 : i ≤ 15 := by omega
    have hi16 : i < 16 := by omega
    simp only [numV, mostV] at hA hB
    clear hP hN hM
    go_enter Try.func34, Try.ntmps34
    go_wp2
    refine bodyPost_ret (v := .tuple #[.int .i64 (N : Int), .int .i64 (M : Int)]) (by simp [results, Try.results34, go_sem, hA, hB]) rfl ?_
    exact ⟨rfl, by repeat (first | exact Upd.refl _ _ | refine Upd.alloc ?_ _)⟩
  · have hf : known k = false := decide_eq_false h
    rw [hf]
    clear hf
    by_cases h1 : k < 1
    · go_enter Try.func34, Try.ntmps34
      clear h
      go_wp2
      refine bodyPost_ret (v := .tuple #[.int .i64 (-1), .int .i64 (-1)]) (by simp [results, Try.results34, go_sem]) rfl ?_
      exact ⟨rfl, Upd.refl _ _⟩
    · have h2 : 15 < k := by omega
      go_enter Try.func34, Try.ntmps34
      clear h
      go_wp2
      refine bodyPost_ret (v := .tuple #[.int .i64 (-1), .int .i64 (-1)]) (by simp [results, Try.results34, go_sem]) rfl ?_
      exact ⟨rfl, Upd.refl _ _⟩
set_option maxHeartbeats 2000000 in
theorem law_right_calls (k a b : Int) (s : ByteArray) (w : World) : Calls Try.prog 32 #[.agg #[.int .i64 k, .int .i64 a, .int .i64 b, .string s]] w fun e w' => e = .returned (.bool (right k a b s.size)) ∧ Upd (fun _ => False) w w' := by
  obtain ⟨r, hr⟩ : ∃ r : Bool, r = right k a b s.size := ⟨_, rfl⟩
  rw [← hr]
  obtain ⟨N, hN⟩ : ∃ N, N = nums k := ⟨_, rfl⟩
  obtain ⟨M, hM⟩ : ∃ M, M = most k := ⟨_, rfl⟩
  have HR : Asd (r = (known k && (decide (s.size ≤ M) && (decide (0 ≤ a) && (decide (0 ≤ b) && (decide (a ≤ 1099511627776) && (decide (b ≤ 1099511627776) && ((decide (0 < N) || a == 0) && (decide (1 < N) || b == 0))))))))) := ⟨by rw [hr, hN, hM]; rfl⟩
  have HS := Asd.mk (And.intro hN hM)
  clear hr hN hM
  go_enter Try.func32, Try.ntmps32
  go_wp2_with fail
  refine (has_calls k _).mono ?_
  rw [← HS.out.1, ← HS.out.2]
  cases hk : known k with
  | false =>
    have HF : Asd (r = false) := ⟨by rw [HR.out, hk]; rfl⟩
    clear hk
    rintro e w2 ⟨rfl, hu⟩
    have hV := ((Upd.refl (fun _ => False) w).alloc (.cells #[.int .i64 k, .int .i64 a, .int .i64 b, .string s] 44)).trans hu (fun _ _ h => h)
    have HV := Asd.mk hV
    clear hu hV
    go_wp2
    go_ret
    exact ⟨by rw [HF.out]; rfl, HV.out⟩
  | true =>
    rw [hk, Bool.true_and] at HR
    clear hk
    rintro e w2 ⟨rfl, hu⟩
    have hb := hu.blk (heap_alloc_new w (.cells #[.int .i64 k, .int .i64 a, .int .i64 b, .string s] 44)) (fun h => h)
    have hx1 : w2.cell? ⟨w.heap.size, 1, none⟩ = some (.int .i64 a) := by simp [World.cell?, hb]
    have hx2 : w2.cell? ⟨w.heap.size, 2, none⟩ = some (.int .i64 b) := by simp [World.cell?, hb]
    have hx3 : w2.cell? ⟨w.heap.size, 3, none⟩ = some (.string s) := by simp [World.cell?, hb]
    have hV := ((Upd.refl (fun _ => False) w).alloc (.cells #[.int .i64 k, .int .i64 a, .int .i64 b, .string s] 44)).trans hu (fun _ _ h => h)
    have HV := Asd.mk hV
    have hn0 : ¬ ((N : Int) < 0) := by omega
    clear hu hV hb
    go_wp2
    all_goals go_ret
    all_goals refine ⟨?_, HV.out⟩
    all_goals rw [HR.out]
    all_goals clear HR HS
    all_goals refine congrArg (fun x => Ending.returned (Value.bool x)) (Bool.eq_iff_iff.2 ?_)
    all_goals simp only [Bool.and_eq_true, Bool.or_eq_true, decide_eq_true_eq, beq_iff_eq, Bool.false_eq_true, false_iff, true_iff]
    all_goals omega
end Go.Proofs.Ytpphejjdgplalaa.Mg
