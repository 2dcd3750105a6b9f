/- What these laws lean on, part Vf: contracts of the given program's functions and plain lists. No condition. -/
import Derived.Test.YteepkanbiefpjaaGreatDoorVe
import Derived.Test.YteepkanbiefpjaaGreatDoorVa
import Derived.Test.YteepkanbiefpjaaGreatDoorVb
import Derived.Deep.RegionHeld3
import Derived.Lib.ItoaLen
import Derived.Handy
import Derived.Laws.FloatArith
import Derived.Laws.ComplexArith
import Derived.Test.YteepkanbiefpjaaGreatDoorVc
import Derived.Test.YteepkanbiefpjaaGreatDoorVd
import Derived.RangeFuncCalls
import Derived.RangeFuncLeaves
import Derived.RangeFuncRecord
import Derived.RangeFuncOwn
set_option linter.unusedVariables false
set_option linter.unusedSimpArgs false
namespace Go.Proofs.YteepkanbiefpjaaGreatDoor.FdMath
open Go.RowKit K Crc Sm Fr FrMath LGet
theorem num2_app (l m : List UInt8) (i : Nat) (h : i + 1 < l.length) : num2 (l ++ m) i = num2 l i := by
  unfold num2
  rw [getD_app l m i (by omega), getD_app l m (i + 1) h]
theorem fget_more (b c : List UInt8) (h : (fget b).2.2.2 ≠ 5) : fget (b ++ c) = fget b := by
  unfold fget at h ⊢
  by_cases h1 : b.length < 2
  · rw [if_pos h1] at h; exact absurd rfl h
  rw [if_neg h1] at h ⊢
  have hn := num2_app b c 0 (by omega)
  rw [if_neg (by rw [List.length_append]; omega), hn]
  by_cases h2 : num2 b 0 = 0 ∨ 2049 < num2 b 0
  · rw [if_pos h2, if_pos h2]
  rw [if_neg h2] at h ⊢
  rw [if_neg h2]
  by_cases h3 : b.length < num2 b 0 + 4
  · rw [if_pos h3] at h; exact absurd rfl h
  rw [if_neg h3] at h ⊢
  rw [if_neg (by rw [List.length_append]; omega), List.take_append_of_le_length (by omega), num2_app b c _ (by omega), getD_app b c 2 (by omega)]
theorem fget_cases (b : List UInt8) : ((fget b).2.2.2 = 0 ∧ (fget b).2.2.1 = (fget b).2.1.length + 5 ∧ (fget b).2.2.1 ≤ b.length ∧ (fget b).2.1.length ≤ 2048 ∧ b = fbytes (fget b).1 (fget b).2.1 ++ b.drop (fget b).2.2.1) ∨ fget b = (0, [], 0, 5) ∨ fget b = (0, [], 0, 6) ∨ fget b = (0, [], 0, 7) := by
  by_cases h1 : b.length < 2
  · exact .inr (.inl (by unfold fget; rw [if_pos h1]))
  by_cases h2 : num2 b 0 = 0 ∨ 2049 < num2 b 0
  · exact .inr (.inr (.inl (by unfold fget; rw [if_neg h1, if_pos h2])))
  by_cases h3 : b.length < num2 b 0 + 4
  · exact .inr (.inl (by unfold fget; rw [if_neg h1, if_neg h2, if_pos h3]))
  by_cases h4 : (crc 0xffff#16 ((b.take (num2 b 0 + 2)).drop 2)).toNat ≠ num2 b (num2 b 0 + 2)
  · exact .inr (.inr (.inr (by unfold fget; rw [if_neg h1, if_neg h2, if_neg h3, if_pos h4])))
  have hg : fget b = (b.getD 2 0, (b.take (num2 b 0 + 2)).drop 3, num2 b 0 + 4, 0) := by unfold fget; rw [if_neg h1, if_neg h2, if_neg h3, if_neg h4]
  refine .inl ?_
  rw [hg]
  have hl : ((b.take (num2 b 0 + 2)).drop 3).length = num2 b 0 - 1 := by simp; omega
  refine ⟨rfl, by show num2 b 0 + 4 = _; rw [hl]; omega, by show num2 b 0 + 4 ≤ _; omega, by show ((b.take (num2 b 0 + 2)).drop 3).length ≤ _; rw [hl]; omega, ?_⟩
  have := (fb_whole (b.getD 2 0) ((b.take (num2 b 0 + 2)).drop 3) b (num2 b 0) rfl (by omega) (by omega) (by omega) rfl rfl).2 (by omega)
  show b = fbytes (b.getD 2 0) ((b.take (num2 b 0 + 2)).drop 3) ++ b.drop (num2 b 0 + 4)
  rw [this, List.take_append_drop]
def fall : Nat → List UInt8 → List (UInt8 × List UInt8) × List UInt8 × Int
  | 0, b => ([], b, 0)
  | k + 1, b =>
    if (fget b).2.2.2 = 0 then (((fget b).1, (fget b).2.1) :: (fall k (b.drop (fget b).2.2.1)).1, (fall k (b.drop (fget b).2.2.1)).2)
    else if (fget b).2.2.2 = 5 then ([], b, 0) else ([], [], (fget b).2.2.2)
theorem fall_fuel : ∀ (n m : Nat) (b : List UInt8), b.length < n → b.length < m → fall n b = fall m b
  | 0, _, _, h, _ => absurd h (Nat.not_lt_zero _)
  | _, 0, _, _, h => absurd h (Nat.not_lt_zero _)
  | n + 1, m + 1, b, hn, hm => by
    unfold fall
    by_cases h : (fget b).2.2.2 = 0
    · have hl : (b.drop (fget b).2.2.1).length < b.length := by
        rcases fget_cases b with ⟨_, h1, h2, _⟩ | e | e | e
        · rw [List.length_drop]; omega
        · rw [e] at h; simp at h
        · rw [e] at h; simp at h
        · rw [e] at h; simp at h
      rw [fall_fuel n m _ (by omega) (by omega)]
    · rw [if_neg h, if_neg h]
def all (b : List UInt8) : List (UInt8 × List UInt8) × List UInt8 × Int := fall (b.length + 1) b
theorem all_ok (b : List UInt8) (h : (fget b).2.2.2 = 0) : all b = (((fget b).1, (fget b).2.1) :: (all (b.drop (fget b).2.2.1)).1, (all (b.drop (fget b).2.2.1)).2) := by
  unfold all
  rw [fall, if_pos h, fall_fuel b.length ((b.drop (fget b).2.2.1).length + 1)]
  · rcases fget_cases b with ⟨_, h1, h2, _⟩ | e | e | e
    · rw [List.length_drop]; omega
    all_goals rw [e] at h; simp at h
  · omega
theorem all_short (b : List UInt8) (h : (fget b).2.2.2 = 5) : all b = ([], b, 0) := by
  unfold all
  rw [fall, if_neg (by omega), if_pos h]
theorem all_bad (b : List UInt8) (h0 : (fget b).2.2.2 ≠ 0) (h : (fget b).2.2.2 ≠ 5) : all b = ([], [], (fget b).2.2.2) := by
  unfold all
  rw [fall, if_neg h0, if_neg h]
theorem fget_err (b : List UInt8) : (fget b).2.2.2 = 0 ∨ (fget b).2.2.2 = 5 ∨ (fget b).2.2.2 = 6 ∨ (fget b).2.2.2 = 7 := by
  rcases fget_cases b with ⟨h, _⟩ | e | e | e
  · exact .inl h
  · rw [e]; simp
  · rw [e]; simp
  · rw [e]; simp
theorem drop_lt (b : List UInt8) (h : (fget b).2.2.2 = 0) : (b.drop (fget b).2.2.1).length < b.length := by
  rcases fget_cases b with ⟨_, h1, h2, _⟩ | e | e | e
  · rw [List.length_drop]; omega
  all_goals rw [e] at h; simp at h
theorem all_dead : ∀ (b c : List UInt8), (all b).2.2 ≠ 0 → all (b ++ c) = all b := by
  intro b
  induction hn : b.length using Nat.strongRecOn generalizing b with
  | _ n ih =>
    intro c h
    by_cases h0 : (fget b).2.2.2 = 0
    · have hm := fget_more b c (by rw [h0]; decide)
      have hl := drop_lt b h0
      have hle : (fget b).2.2.1 ≤ b.length := by
        rcases fget_cases b with ⟨_, h1, h2, _⟩ | e | e | e
        · exact h2
        all_goals rw [e] at h0; simp at h0
      rw [all_ok b h0] at h ⊢
      rw [all_ok (b ++ c) (by rw [hm]; exact h0), hm, List.drop_append_of_le_length hle, ih _ (by omega) _ rfl c h]
    · by_cases h5 : (fget b).2.2.2 = 5
      · rw [all_short b h5] at h; exact absurd rfl h
      · have hm := fget_more b c h5
        rw [all_bad b h0 h5, all_bad (b ++ c) (by rw [hm]; exact h0) (by rw [hm]; exact h5), hm]
theorem all_len (b : List UInt8) : (all b).1.length + (all b).2.1.length ≤ b.length := by
  induction hn : b.length using Nat.strongRecOn generalizing b with
  | _ n ih =>
    by_cases h0 : (fget b).2.2.2 = 0
    · rw [all_ok b h0]
      have hl := drop_lt b h0
      have := ih (b.drop (fget b).2.2.1).length (by omega) _ rfl
      simp only [List.length_cons]
      omega
    · by_cases h5 : (fget b).2.2.2 = 5
      · rw [all_short b h5]; simp; omega
      · rw [all_bad b h0 h5]; simp
def joined (L : List (UInt8 × List UInt8)) : List UInt8 := L.flatMap fun x => fbytes x.1 x.2
theorem all_joined (L : List (UInt8 × List UInt8)) (h : ∀ x ∈ L, x.2.length ≤ 2048) (c : List UInt8) : all (joined L ++ c) = (L ++ (all c).1, (all c).2) := by
  induction L with
  | nil => rfl
  | cons x L ih =>
    have hx := h x (List.mem_cons_self ..)
    have e : joined (x :: L) ++ c = fbytes x.1 x.2 ++ (joined L ++ c) := by simp [joined]
    have hg := get_put x.1 x.2 (joined L ++ c) hx
    rw [e, all_ok _ (by rw [hg]), hg]
    have hd : (fbytes x.1 x.2 ++ (joined L ++ c)).drop (x.2.length + 5) = joined L ++ c := by
      rw [← fbytes_length x.1 x.2, List.drop_left]
    show ((x.1, x.2) :: (all ((fbytes x.1 x.2 ++ (joined L ++ c)).drop (x.2.length + 5))).1, (all ((fbytes x.1 x.2 ++ (joined L ++ c)).drop (x.2.length + 5))).2) = _
    rw [hd, ih (fun y hy => h y (List.mem_cons_of_mem _ hy))]
    rfl
theorem all_nil : all [] = ([], [], 0) := by decide +kernel
end Go.Proofs.YteepkanbiefpjaaGreatDoor.FdMath
set_option linter.unusedVariables false
set_option linter.unusedSimpArgs false
namespace Go.Proofs.YteepkanbiefpjaaGreatDoor.Or
open Go.RowKit K
def word : Nat → List UInt8
  | 1 => [102, 108, 111, 111, 114]
  | 2 => [100, 114, 111, 112]
  | 3 => [108, 105, 115, 116]
  | 4 => [100, 101, 116, 97, 99, 104]
  | 5 => [114, 101, 118, 111, 107, 101]
  | 6 => [103, 105, 118, 101]
  | 7 => [107, 105, 99, 107]
  | 8 => [119, 114, 105, 116, 101]
  | 9 => [119, 97, 116, 99, 104]
  | 10 => [114, 101, 112, 108, 97, 121]
  | 11 => [108, 105, 109, 105, 116]
  | _ => []
def wcells : Array Value := #[.string (S (word 1)), .string (S (word 2)), .string (S (word 3)), .string (S (word 4)), .string (S (word 5)), .string (S (word 6)), .string (S (word 7)), .string (S (word 8)), .string (S (word 9)), .string (S (word 10)), .string (S (word 11))]
theorem wcells_at (i : Nat) (h : i < 11) : wcells[i]? = some (.string (S (word (i + 1)))) := by
  rcases (by omega : i = 0 ∨ i = 1 ∨ i = 2 ∨ i = 3 ∨ i = 4 ∨ i = 5 ∨ i = 6 ∨ i = 7 ∨ i = 8 ∨ i = 9 ∨ i = 10) with rfl | rfl | rfl | rfl | rfl | rfl | rfl | rfl | rfl | rfl | rfl <;> rfl
def WPost (w : World) (e : Ending) (w' : World) : Prop := ∃ g, e = .returned (.tuple #[.slice (some ⟨g, 0, none⟩) 11 11, .int .i64 6]) ∧ w'.heap[g]? = some (.cells wcells 9 (0, 0)) ∧ w.heap.size ≤ g ∧ Upd (fun _ => False) w w'
set_option maxHeartbeats 1000000 in
theorem words_calls (w : World) : Calls Tryz.prog 59 #[] w (WPost w) := by
  go_enter Tryz.func59, Tryz.ntmps59
  go_wp2
  go_ret2
  exact ⟨w.heap.size, rfl, heap_alloc_new w _, Nat.le_refl _, (Upd.refl _ _).alloc _⟩
def right (k n : Int) : Bool := decide (1 ≤ k) && (decide (k ≤ 11) && (decide (0 ≤ n) && (decide (n ≤ 1099511627776) && (decide (6 ≤ k) || n == 0))))
set_option maxHeartbeats 2000000 in
theorem right_calls (k n : Int) (w : World) : Calls Tryz.prog 60 #[.agg #[.int .i64 k, .int .i64 n]] w fun e w' => e = .returned (.bool (right k n)) ∧ Upd (fun _ => False) w w' := by
  obtain ⟨y, hy⟩ : ∃ y, y = right k n := ⟨_, rfl⟩
  rw [← hy]
  rcases (by omega : k < 1 ∨ (1 ≤ k ∧ 11 < k) ∨ (1 ≤ k ∧ k ≤ 11 ∧ n < 0) ∨ (1 ≤ k ∧ k ≤ 11 ∧ 0 ≤ n ∧ 1099511627776 < n) ∨ (1 ≤ k ∧ k < 6 ∧ 0 < n ∧ n ≤ 1099511627776) ∨ (1 ≤ k ∧ k < 6 ∧ n = 0) ∨ (6 ≤ k ∧ k ≤ 11 ∧ 0 ≤ n ∧ n ≤ 1099511627776)) with h1 | ⟨h1, h2⟩ | ⟨h1, h2, h3⟩ | ⟨h1, h2, h3, h4⟩ | ⟨h1, h2, h3, h4⟩ | ⟨h1, h2, rfl⟩ | ⟨h1, h2, h3, h4⟩
  · have e : y = false := by rw [hy]; unfold right; simp; omega
    subst e
    clear hy
    have n1 : ¬ 1 ≤ k := by omega
    go_enter Tryz.func60, Tryz.ntmps60
    have b0 := keepsC (o := 0) (heap_alloc_new w (.cells #[.int .i64 k, .int .i64 n] 44)) rfl
    have b1 := keepsC (o := 1) (heap_alloc_new w (.cells #[.int .i64 k, .int .i64 n] 44)) rfl
    have hk := (Upd.refl (fun _ => False) w).alloc (.cells #[.int .i64 k, .int .i64 n] 44)
    go_wp2_with fail
    refine (words_calls _).mono ?_
    rintro e w2 ⟨g, rfl, hg, hgs, hu⟩
    go_wp2
    go_ret
    exact ⟨rfl, hk.trans hu (fun _ _ h => h)⟩
  · have e : y = false := by rw [hy]; unfold right; simp; omega
    subst e
    clear hy
    have n2 : ¬ k ≤ 11 := by omega
    go_enter Tryz.func60, Tryz.ntmps60
    have b0 := keepsC (o := 0) (heap_alloc_new w (.cells #[.int .i64 k, .int .i64 n] 44)) rfl
    have b1 := keepsC (o := 1) (heap_alloc_new w (.cells #[.int .i64 k, .int .i64 n] 44)) rfl
    have hk := (Upd.refl (fun _ => False) w).alloc (.cells #[.int .i64 k, .int .i64 n] 44)
    go_wp2_with fail
    refine (words_calls _).mono ?_
    rintro e w2 ⟨g, rfl, hg, hgs, hu⟩
    go_wp2
    go_ret
    exact ⟨rfl, hk.trans hu (fun _ _ h => h)⟩
  · have e : y = false := by rw [hy]; unfold right; simp; omega
    subst e
    clear hy
    have n3 : ¬ 0 ≤ n := by omega
    go_enter Tryz.func60, Tryz.ntmps60
    have b0 := keepsC (o := 0) (heap_alloc_new w (.cells #[.int .i64 k, .int .i64 n] 44)) rfl
    have b1 := keepsC (o := 1) (heap_alloc_new w (.cells #[.int .i64 k, .int .i64 n] 44)) rfl
    have hk := (Upd.refl (fun _ => False) w).alloc (.cells #[.int .i64 k, .int .i64 n] 44)
    go_wp2_with fail
    refine (words_calls _).mono ?_
    rintro e w2 ⟨g, rfl, hg, hgs, hu⟩
    go_wp2
    go_ret
    exact ⟨rfl, hk.trans hu (fun _ _ h => h)⟩
  · have e : y = false := by rw [hy]; unfold right; simp; omega
    subst e
    clear hy
    have n4 : ¬ n ≤ 1099511627776 := by omega
    go_enter Tryz.func60, Tryz.ntmps60
    have b0 := keepsC (o := 0) (heap_alloc_new w (.cells #[.int .i64 k, .int .i64 n] 44)) rfl
    have b1 := keepsC (o := 1) (heap_alloc_new w (.cells #[.int .i64 k, .int .i64 n] 44)) rfl
    have hk := (Upd.refl (fun _ => False) w).alloc (.cells #[.int .i64 k, .int .i64 n] 44)
    go_wp2_with fail
    refine (words_calls _).mono ?_
    rintro e w2 ⟨g, rfl, hg, hgs, hu⟩
    go_wp2
    go_ret
    exact ⟨rfl, hk.trans hu (fun _ _ h => h)⟩
  · have e : y = false := by rw [hy]; unfold right; simp; omega
    subst e
    clear hy
    have m3 : 0 ≤ n := by omega
    have m2 : k ≤ 11 := by omega
    have n5 : ¬ 6 ≤ k := by omega
    have n6 : (n == 0) = false := beq_eq_false_iff_ne.2 (by omega)
    go_enter Tryz.func60, Tryz.ntmps60
    have b0 := keepsC (o := 0) (heap_alloc_new w (.cells #[.int .i64 k, .int .i64 n] 44)) rfl
    have b1 := keepsC (o := 1) (heap_alloc_new w (.cells #[.int .i64 k, .int .i64 n] 44)) rfl
    have hk := (Upd.refl (fun _ => False) w).alloc (.cells #[.int .i64 k, .int .i64 n] 44)
    go_wp2_with fail
    refine (words_calls _).mono ?_
    rintro e w2 ⟨g, rfl, hg, hgs, hu⟩
    go_wp2
    go_ret
    exact ⟨by show Ending.returned (.bool (decide (6 ≤ k))) = _; rw [decide_eq_false (show ¬ 6 ≤ k by omega)], hk.trans hu (fun _ _ h => h)⟩
  · have e : y = true := by rw [hy]; unfold right; simp; omega
    subst e
    clear hy
    have m2 : k ≤ 11 := by omega
    have n5 : ¬ 6 ≤ k := by omega
    go_enter Tryz.func60, Tryz.ntmps60
    have b0 := keepsC (o := 0) (heap_alloc_new w (.cells #[.int .i64 k, .int .i64 0] 44)) rfl
    have b1 := keepsC (o := 1) (heap_alloc_new w (.cells #[.int .i64 k, .int .i64 0] 44)) rfl
    have hk := (Upd.refl (fun _ => False) w).alloc (.cells #[.int .i64 k, .int .i64 0] 44)
    go_wp2_with fail
    refine (words_calls _).mono ?_
    rintro e w2 ⟨g, rfl, hg, hgs, hu⟩
    go_wp2
    go_ret
    exact ⟨rfl, hk.trans hu (fun _ _ h => h)⟩
  · have e : y = true := by rw [hy]; unfold right; simp; omega
    subst e
    clear hy
    have m1 : 1 ≤ k := by omega
    have m6 : decide (6 ≤ k) = true := decide_eq_true h1
    go_enter Tryz.func60, Tryz.ntmps60
    have b0 := keepsC (o := 0) (heap_alloc_new w (.cells #[.int .i64 k, .int .i64 n] 44)) rfl
    have b1 := keepsC (o := 1) (heap_alloc_new w (.cells #[.int .i64 k, .int .i64 n] 44)) rfl
    have hk := (Upd.refl (fun _ => False) w).alloc (.cells #[.int .i64 k, .int .i64 n] 44)
    go_wp2_with fail
    refine (words_calls _).mono ?_
    rintro e w2 ⟨g, rfl, hg, hgs, hu⟩
    go_wp2
    go_ret
    exact ⟨rfl, hk.trans hu (fun _ _ h => h)⟩
theorem word_len (i : Nat) (h : i < 11) : (word (i + 1)).length ≤ 6 := by
  rcases (by omega : i = 0 ∨ i = 1 ∨ i = 2 ∨ i = 3 ∨ i = 4 ∨ i = 5 ∨ i = 6 ∨ i = 7 ∨ i = 8 ∨ i = 9 ∨ i = 10) with rfl | rfl | rfl | rfl | rfl | rfl | rfl | rfl | rfl | rfl | rfl <;> decide
structure Env (w : World) : Prop where
  tab : Lib.TabIs Tryz.prog w "internal/strconv.uint64pow10" .u64 Lib.pow10Tab
  cut : ∃ m, w.cell? ⟨3, 0, none⟩ = some (.int .i64 m)
  syn : ∃ tp p, w.var? Tryz.prog "strconv.ErrSyntax" = some #[.iface tp p]
  rng : ∃ tp p, w.var? Tryz.prog "strconv.ErrRange" = some #[.iface tp p]
theorem var_upd {P : Program} {w w1 : World} {name : String} {cs : Array Value} (h : w.var? P name = some cs) (k : Upd (fun _ => False) w w1) : w1.var? P name = some cs := by
  unfold World.var? at h ⊢
  cases hg : P.globalNamed name with
  | none => rw [hg] at h; simp at h
  | some g =>
    rw [hg] at h
    simp only [Option.bind_some] at h ⊢
    split at h
    · rename_i c t f hb
      rw [k.blk hb (fun h => h)]
      exact h
    · cases h
theorem Env.up {w w1 : World} (h : Env w) (k : Upd (fun _ => False) w w1) : Env w1 := by
  obtain ⟨m, hm⟩ := h.cut
  obtain ⟨t1, p1, h1⟩ := h.syn
  obtain ⟨t2, p2, h2⟩ := h.rng
  exact ⟨var_upd h.tab k, ⟨m, k.cell hm (fun h => h)⟩, ⟨t1, p1, var_upd h1 k⟩, ⟨t2, p2, var_upd h2 k⟩⟩
theorem grow_upd {S : Nat → Prop} {w w1 : World} (h : Upd S w w1) (os : Array Obj) : Upd S w (Go.Sort.grow w1 os) := by
  refine h.trans (T := fun _ => False) ⟨rfl, rfl, rfl, ?_, fun i hi _ => ?_⟩ (fun _ _ h => h.elim)
  · simp [Go.Sort.grow]
  · simp only [Go.Sort.grow]
    rw [Array.getElem?_append_left hi]
theorem format_calls {w : World} (h : Env w) (n : Int) (h0 : 0 ≤ n) (h1 : n ≤ 1099511627776) : Calls Tryz.prog 61 #[.int .i64 n, .int .i64 10] w fun e w' => e = .returned (.string (S (Lib.itoa n))) ∧ Upd (fun _ => False) w w' := by
  refine (Tryz.strconv_FormatInt_10 n (by omega) (by omega) w h.tab).mono fun e w' ⟨he, k, os, hw⟩ => ⟨he, ?_⟩
  rw [hw]
  exact grow_upd ((Upd.refl (fun _ => False) w).drewN k) os
def text (k n : Int) : List UInt8 := if right k n then word k.toNat ++ (if k < 6 then [] else 32 :: Lib.itoa n) else []
set_option maxHeartbeats 2000000 in
theorem string_calls {w : World} (h : Env w) (k n : Int) : Calls Tryz.prog 24 #[.agg #[.int .i64 k, .int .i64 n]] w fun e w' => e = .returned (.string (S (text k n))) ∧ Upd (fun _ => False) w w' := by
  have HE := Asd.mk h
  obtain ⟨tx, htx⟩ : ∃ tx, tx = text k n := ⟨_, rfl⟩
  rw [← htx]
  have HX := Asd.mk htx
  have b0 := keepsC (o := 0) (heap_alloc_new w (.cells #[.int .i64 k, .int .i64 n] 44)) rfl
  have b1 := keepsC (o := 1) (heap_alloc_new w (.cells #[.int .i64 k, .int .i64 n] 44)) rfl
  have hk := (Upd.refl (fun _ => False) w).alloc (.cells #[.int .i64 k, .int .i64 n] 44)
  clear h htx
  cases hr : right k n with
  | false =>
    have HX2 : Asd (tx = []) := ⟨by rw [HX.out]; unfold text; rw [hr]; rfl⟩
    have HR := Asd.mk hr
    clear hr HX
    go_enter Tryz.func24, Tryz.ntmps24
    go_wp2_with fail
    refine (words_calls _).mono ?_
    rintro e w2 ⟨g, rfl, hg, hgs, hu⟩
    have hk2 : Upd (fun _ => False) _ w2 := hk.trans hu (fun _ _ h => h)
    go_wp2_with fail
    refine (right_calls k n _).mono ?_
    rw [HR.out]
    rintro e w3 ⟨rfl, hu3⟩
    go_wp2
    go_ret
    exact ⟨by rw [HX2.out]; rfl, hk2.trans hu3 (fun _ _ h => h)⟩
  | true =>
    have hrr := hr
    simp only [right, Bool.and_eq_true, decide_eq_true_eq, Bool.or_eq_true] at hrr
    obtain ⟨r1, r2, r3, r4, r5⟩ := hrr
    obtain ⟨j, hj⟩ : ∃ j : Nat, k = ((j + 1 : Nat) : Int) := ⟨(k - 1).toNat, by omega⟩
    have hj11 : j < 11 := by omega
    have hkj : k - 1 = (j : Int) := by omega
    have hji : (j : Int) < 11 := by omega
    have HR := Asd.mk hr
    by_cases h6 : k < 6
    · have HX2 : Asd (tx = word (j + 1)) := ⟨by rw [HX.out]; unfold text; rw [hr, if_pos rfl, if_pos h6, hj, List.append_nil]; rfl⟩
      clear hr HX r5 hj
      go_enter Tryz.func24, Tryz.ntmps24
      go_wp2_with fail
      refine (words_calls _).mono ?_
      rintro e w2 ⟨g, rfl, hg, hgs, hu⟩
      have hk2 : Upd (fun _ => False) _ w2 := hk.trans hu (fun _ _ h => h)
      go_wp2_with fail
      refine (right_calls k n _).mono ?_
      rw [HR.out]
      rintro e w3 ⟨rfl, hu3⟩
      have cg := keepsC (o := j) (hu3.blk hg (fun h => h)) (wcells_at j hj11)
      have hu4 := hu.trans hu3 (fun _ _ h => h)
      have hk3 : Upd (fun _ => False) w3 w3 := Upd.refl _ _
      go_wp2
      go_ret
      exact ⟨by rw [HX2.out]; rfl, hk2.trans hu3 (fun _ _ h => h)⟩
    · have HX2 : Asd (tx = word (j + 1) ++ 32 :: Lib.itoa n) := ⟨by rw [HX.out]; unfold text; rw [hr, if_pos rfl, if_neg h6, hj]; rfl⟩
      clear hr HX r5 hj
      go_enter Tryz.func24, Tryz.ntmps24
      go_wp2_with fail
      refine (words_calls _).mono ?_
      rintro e w2 ⟨g, rfl, hg, hgs, hu⟩
      have hk2 : Upd (fun _ => False) _ w2 := hk.trans hu (fun _ _ h => h)
      go_wp2_with fail
      refine (right_calls k n _).mono ?_
      rw [HR.out]
      rintro e w3 ⟨rfl, hu3⟩
      have cg := keepsC (o := j) (hu3.blk hg (fun h => h)) (wcells_at j hj11)
      have hu4 := hu.trans hu3 (fun _ _ h => h)
      have b0' := keepsC (o := 0) (hu4.blk (heap_alloc_new w (.cells #[.int .i64 k, .int .i64 n] 44)) (fun h => h)) rfl
      have b1' := keepsC (o := 1) (hu4.blk (heap_alloc_new w (.cells #[.int .i64 k, .int .i64 n] 44)) (fun h => h)) rfl
      clear b0 b1
      have hk3 : Upd (fun _ => False) w3 w3 := Upd.refl _ _
      have HE3 := Asd.mk (HE.out.up (hk2.trans hu3 (fun _ _ h => h)))
      have hwl := word_len j hj11
      have hil := Lib.itoa_length_le n (by omega) (by omega)
      have hn1 : ¬ 9223372036854775807 < (word (j + 1)).length + 1 := by omega
      have hn2 : ¬ 9223372036854775807 < (word (j + 1)).length + 1 + (Lib.itoa n).length := by omega
      have hwr : IntKind.i64.wrap (j : Int) = (j : Int) := w64i _ (by omega) (by omega)
      go_wp2
      refine wp_region_held_drew (S := fun W => Upd (fun _ => False) w3 W) (by kernel_rfl) (by exact (by repeat (first | assumption | with_reducible exact Upd.refl _ _ | with_reducible refine Upd.drewN ?_ _ | with_reducible refine Upd.drew ?_ | with_reducible refine Upd.alloc ?_ _ | with_reducible refine Upd.setAt ?_ ?_ | exact Or.inl rfl | exact Or.inr (by simp) | exact Or.inr (by omega)))) (fun hHeld => ?_)
      refine tk_ 0 ?_
      try simp only [Act.put, sl1_, sl2_, sl3_]
      refine tk_ 1 ?_
      try simp only [Act.put, sl1_, sl2_, sl3_]
      refine tk_ 2 ?_
      try simp only [Act.put, sl1_, sl2_, sl3_]
      refine tk_ 3 ?_
      try simp only [Act.put, sl1_, sl2_, sl3_]
      refine tk_ 4 ?_
      try simp only [Act.put, sl1_, sl2_, sl3_]
      refine tk_ 5 ?_
      try simp only [Act.put, sl1_, sl2_, sl3_]
      refine tk_ 6 ?_
      try simp only [Act.put, sl1_, sl2_, sl3_]
      refine tk_ 7 ?_
      try simp only [Act.put, sl1_, sl2_, sl3_]
      refine tk_ 8 ?_
      try simp only [Act.put, sl1_, sl2_, sl3_]
      refine wpAnyH_ready (rs := [9]) (by kernel_rfl) (by simp) (AllReadyH.cons (o := ?_) ?_ (fun K hK => ?_) AllReadyH.nil)
      rotate_left 1
      · (simp only [List.getElem?_toArray, List.getElem?_cons_succ, List.getElem?_cons_zero]; exact rfl)
      (go_simp; (go_at_call 61; refine (format_calls (HE3.out.up (by repeat (first | assumption | with_reducible exact Upd.refl _ _ | with_reducible refine Upd.drewN ?_ _ | with_reducible refine Upd.drew ?_ | with_reducible refine Upd.alloc ?_ _ | with_reducible refine Upd.setAt ?_ ?_ | exact Or.inl rfl | exact Or.inr (by simp) | exact Or.inr (by omega)))) n r3 r4).mono ?_; rintro e w5 ⟨rfl, hu5⟩; have hu6 := (show Upd (fun _ => False) w3 w3.drew from (by repeat (first | assumption | with_reducible exact Upd.refl _ _ | with_reducible refine Upd.drewN ?_ _ | with_reducible refine Upd.drew ?_ | with_reducible refine Upd.alloc ?_ _ | with_reducible refine Upd.setAt ?_ ?_ | exact Or.inl rfl | exact Or.inr (by simp) | exact Or.inr (by omega)))).trans hu5 (fun _ _ h => h); clear hu5))
      refine hK.out _ _ (by exact (by repeat (first | assumption | with_reducible exact Upd.refl _ _ | with_reducible refine Upd.drewN ?_ _ | with_reducible refine Upd.drew ?_ | with_reducible refine Upd.alloc ?_ _ | with_reducible refine Upd.setAt ?_ ?_ | exact Or.inl rfl | exact Or.inr (by simp) | exact Or.inr (by omega)))) (fun hHeld => ?_)
      clear hK K
      try simp only [Act.put, List.setIfInBounds_toArray, List.set_cons_zero, List.set_cons_succ]
      refine tk_ 10 ?_
      try simp only [Act.put, sl1_, sl2_, sl3_]
      refine tk_ 11 ?_
      try simp only [Act.put, sl1_, sl2_, sl3_]
      refine wpAnyH_done (by kernel_rfl) ?_ _
      go_wp2
      go_ret
      exact ⟨by
        rw [HX2.out]
        show Ending.returned (.string (S (word (j + 1)) ++ S [32] ++ S (Lib.itoa n))) = _
        rw [S_append, S_append, List.append_assoc]
        rfl, hk2.trans (hu3.trans hu6 (fun _ _ h => h)) (fun _ _ h => h)⟩
end Go.Proofs.YteepkanbiefpjaaGreatDoor.Or
set_option linter.unusedVariables false
set_option linter.unusedSimpArgs false
namespace Go.Proofs.YteepkanbiefpjaaGreatDoor.Or
open Go.RowKit K
def wl : List ByteArray := [S (word 1), S (word 2), S (word 3), S (word 4), S (word 5), S (word 6), S (word 7), S (word 8), S (word 9), S (word 10), S (word 11)]
theorem wl_at (i : Nat) (h : i < 11) : wl.getD i ByteArray.empty = S (word (i + 1)) := by
  rcases (by omega : i = 0 ∨ i = 1 ∨ i = 2 ∨ i = 3 ∨ i = 4 ∨ i = 5 ∨ i = 6 ∨ i = 7 ∨ i = 8 ∨ i = 9 ∨ i = 10) with rfl | rfl | rfl | rfl | rfl | rfl | rfl | rfl | rfl | rfl | rfl <;> rfl
def pw (l : List UInt8) : List UInt8 := (Lib.cut l [32]).1
def pnum (l : List UInt8) : List UInt8 := (Lib.cut l [32]).2.1
def pk (l : List UInt8) : Int := Lib.idxOfS wl (S (pw l)) + 1
theorem cut_calls {w : World} (h : Env w) (l : List UInt8) (hl : l.length < 4294967281) : Calls Tryz.prog 126 #[.string (S l), .string { data := #[32] }] w fun e w' => e = .returned (.tuple #[.string (S (pw l)), .string (S (pnum l)), .bool (Lib.cut l [32]).2.2]) ∧ Upd (fun _ => False) w w' := by
  obtain ⟨m, hm⟩ := h.cut
  refine (Tryz.strings_Cut (S l) { data := #[32] } m w (by rw [S_size]; exact hl) hm).mono fun e w' ⟨he, n, hw⟩ => ⟨?_, ?_⟩
  · rw [he]
    have e1 : (S l).data.toList = l := by simp [S]
    rw [e1]
    rfl
  · rw [hw]
    exact (Upd.refl (fun _ => False) w).drewN n
theorem index_calls {w : World} {g : Nat} (hg : w.heap[g]? = some (.cells wcells 9 (0, 0))) (x : List UInt8) : Calls Tryz.prog 127 #[.slice (some ⟨g, 0, none⟩) 11 11, .string (S x)] w fun e w' => e = .returned (.int .i64 (Lib.idxOfS wl (S x))) ∧ w = w' := by
  refine (Tryz.slices_Index_string g 0 11 11 wl (S x) w (by decide) (by omega) (fun j hj => ?_)).mono fun e w' ⟨he, hw⟩ => ⟨by rw [he]; rfl, hw.symm⟩
  have hj11 : j < 11 := hj
  rw [wl_at j hj11, Nat.zero_add]
  exact keepsC (o := j) hg (wcells_at j hj11) w (Upd.refl _ _)
theorem bytes_upd (w : World) (e : TypeId) (t : ByteArray) : Upd (fun _ => False) w (Lib.bytesWorld w e t) := Upd.ofBelow (Lib.bytesWorld_below _ _ _) _
def PPost (l : List UInt8) (w : World) (e : Ending) (w' : World) : Prop := Upd (fun _ => False) w w' ∧ ((∃ v, Lib.parseIntB 64 l = .ok v ∧ e = .returned (.tuple #[.int .i64 v, .nilIface])) ∨ ((∀ v, Lib.parseIntB 64 l ≠ .ok v) ∧ ∃ v t p, e = .returned (.tuple #[.int .i64 v, .iface t p])))
theorem int_calls {w : World} (h : Env w) (l : List UInt8) (hl : l.length ≤ 281474976710656) : Calls Tryz.prog 128 #[.string (S l), .int .i64 10, .int .i64 64] w (PPost l w) := by
  have e1 : (S l).data.toList = l := by simp [S]
  have hs : (S l).size ≤ 281474976710656 := by rw [S_size]; exact hl
  cases hp : Lib.parseIntB 64 l with
  | ok v =>
    refine (Tryz.strconv_ParseInt_10_at64_ok (S l) (by omega) v (by rw [e1]; exact hp) w).mono fun e w' ⟨he, hw⟩ => ⟨?_, .inl ⟨v, hp, he⟩⟩
    rcases hw with rfl | ⟨t, rfl⟩
    · exact Upd.refl _ _
    · exact bytes_upd _ _ _
  | range =>
    obtain ⟨tp, p, hv⟩ := h.rng
    refine (Tryz.strconv_ParseInt_10_at64_range_var (S l) hs (by rw [e1]; exact hp) tp p w hv).mono fun e w' ⟨N, he, _, _, hb⟩ => ⟨Upd.ofBelow hb _, .inr ⟨(fun v hv => by rw [hp] at hv; cases hv), _, _, _, he⟩⟩
  | _ =>
    obtain ⟨tp, p, hv⟩ := h.syn
    refine (Tryz.strconv_ParseInt_10_at64_syntax_var (S l) hs (by rw [e1]; exact hp) tp p w hv).mono fun e w' ⟨N, he, _, _, hb⟩ => ⟨Upd.ofBelow hb _, .inr ⟨(fun v hv => by rw [hp] at hv; cases hv), _, _, _, he⟩⟩
theorem idx_range (x : ByteArray) : ∀ (zs : List ByteArray) (i : Nat), -1 ≤ Lib.idxFromS zs x i ∧ Lib.idxFromS zs x i < ((i + zs.length : Nat) : Int) + (if zs = [] then 1 else 0)
  | [], i => by simp [Lib.idxFromS]; omega
  | z :: zs, i => by
    have h := idx_range x zs (i + 1)
    rw [Lib.idxFromS]
    simp only [List.length_cons]
    split
    · constructor
      · omega
      · simp; omega
    · refine ⟨h.1, ?_⟩
      have h2 := h.2
      cases zs with
      | nil => simp [Lib.idxFromS] at h2 ⊢; omega
      | cons y r => simp at h2 ⊢; omega
theorem pk_range (l : List UInt8) : 0 ≤ pk l ∧ pk l ≤ 11 := by
  have h := idx_range (S (pw l)) wl 0
  have h2 : (0 + wl.length : Nat) = 11 := rfl
  rw [h2] at h
  unfold pk Lib.idxOfS
  have h3 := h.2
  rw [if_neg (by simp [wl])] at h3
  omega
def pval (l : List UInt8) : Option Int := if pnum l = [] then some 0 else match Lib.parseIntB 64 (pnum l) with
  | .ok v => some v
  | _ => none
def parse (l : List UInt8) : Int × Int × Int := match pval l with
  | none => (0, 0, 8)
  | some v => if l = [] ∨ text (pk l) v ≠ l then (0, 0, 8) else (pk l, v, 0)
theorem store2 {w : World} {r : Nat} {x0 x1 : Value} {e : TypeId} (h : w.heap[r]? = some (.cells #[x0, x1] e (0, 0))) :
    (∀ u, (w.setCell ⟨r, 0, none⟩ u).cell? ⟨r, 0, none⟩ = some u) ∧ (∀ u v, ((w.setCell ⟨r, 0, none⟩ u).setCell ⟨r, 1, none⟩ v).cell? ⟨r, 1, none⟩ = some v) := by
  have b0 := fun v0 => blk_setCell (o := 0) h v0
  have b1 := fun v0 v1 => blk_setCell (o := 1) (b0 v0) v1
  exact ⟨fun u => by simp [World.cell?, b0], fun u v => by simp [World.cell?, b1]⟩
set_option maxHeartbeats 4000000 in
theorem parse_calls {w : World} (h : Env w) (l : List UInt8) (hl : l.length ≤ 1000) : Calls Tryz.prog 104 #[.string (S l)] w fun e w' => e = .returned (.tuple #[.agg #[.int .i64 (parse l).1, .int .i64 (parse l).2.1], .int .i64 (parse l).2.2]) ∧ Upd (fun _ => False) w w' := by
  have HE := Asd.mk h
  obtain ⟨y, hy⟩ : ∃ y, y = parse l := ⟨_, rfl⟩
  rw [← hy]
  have HY := Asd.mk hy
  obtain ⟨kk, hkk⟩ : ∃ kk, kk = pk l := ⟨_, rfl⟩
  have HK := Asd.mk hkk
  have hkr := pk_range l
  rw [← hkk] at hkr
  have hka := (Upd.refl (fun _ => False) w).alloc (.cells #[.int .i64 0, .int .i64 0] 44)
  clear h hy hkk
  go_enter Tryz.func104, Tryz.ntmps104
  go_wp2_with fail
  refine (words_calls _).mono ?_
  rintro e w2 ⟨g, rfl, hg, hgs, hu⟩
  have hk2 := hka.trans hu (fun _ _ h => h)
  go_wp2_with fail
  refine (cut_calls (HE.out.up hk2) l (by omega)).mono ?_
  rintro e w3 ⟨rfl, hu3⟩
  have hk3 := hk2.trans hu3 (fun _ _ h => h)
  go_wp2_with fail
  refine (index_calls (hu3.blk hg (fun h => h)) (pw l)).mono ?_
  rintro e w4 ⟨rfl, rfl⟩
  rw [show Lib.idxOfS wl (S (pw l)) = kk - 1 by rw [HK.out]; unfold pk; omega]
  have stl : ∀ x : List UInt8, (S x).toList = x := fun x => by rw [ByteArray.toList_eq]; simp [S]
  have hb3 := (hu.trans hu3 (fun _ _ h => h)).blk (heap_alloc_new w (.cells #[.int .i64 0, .int .i64 0] 44)) (fun h => h)
  have r0 := keepsC (o := 0) hb3 rfl
  have r1 := keepsC (o := 1) hb3 rfl
  have rf := fun o => keepsF (o := o) hb3
  have hn3 := heap_alloc_new w3 (.cells #[.int .i64 kk, .int .i64 0] 44)
  have q0 := keepsC (o := 0) hn3 rfl
  have q1 := keepsC (o := 1) hn3 rfl
  have qf := fun o => keepsF (o := o) hn3
  have hkk3 := (Upd.refl (fun _ => False) w3).alloc (.cells #[.int .i64 kk, .int .i64 0] 44)
  have hkw : Upd (fun _ => False) w3 w3 := Upd.refl _ _
  by_cases hp : pnum l = []
  · have hpe : (pnum l).isEmpty = true := by rw [hp]; rfl
    have HV : Asd (pval l = some 0) := ⟨by unfold pval; rw [if_pos hp]⟩
    by_cases hl0 : l = []
    · have HY2 : Asd (y = (0, 0, 8)) := ⟨by rw [HY.out]; unfold parse; rw [HV.out]; simp [hl0]⟩
      obtain ⟨s1, s2⟩ := store2 (hkk3.blk hb3 (fun h => h))
      go_wp2
      refine bodyPost_ret (v := .tuple #[.agg #[.int .i64 0, .int .i64 0], .int .i64 8]) (by simp [results, Tryz.results104, go_sem, s1, s2]) rfl ?_
      refine ⟨by rw [HY2.out], ?_⟩
      exact ((hk3.alloc _).setAt (.inr (Nat.le_refl _))).setAt (.inr (Nat.le_refl _))
    · have hle : l.isEmpty = false := by cases l with
        | nil => exact absurd rfl hl0
        | cons a b => rfl
      have hbl : (l == []) = false := beq_eq_false_iff_ne.2 hl0
      go_wp2_with fail
      refine (string_calls (HE.out.up (hk3.trans hkk3 (fun _ _ h => h))) kk 0).mono ?_
      rintro e w5 ⟨rfl, hu5⟩
      have hk5 := hkk3.trans hu5 (fun _ _ h => h)
      have hb5 := hk5.blk hb3 (fun h => h)
      obtain ⟨s1, s2⟩ := store2 hb5
      have hkw5 : Upd (fun _ => False) w5 w5 := Upd.refl _ _
      have q05 := keepsC (o := 0) (hu5.blk hn3 (fun h => h)) rfl
      have q15 := keepsC (o := 1) (hu5.blk hn3 (fun h => h)) rfl
      by_cases ht : text kk 0 = l
      · have HY2 : Asd (y = (kk, 0, 0)) := ⟨by rw [HY.out]; unfold parse; rw [HV.out]; simp only; rw [← HK.out, if_neg (by rw [ht]; simp [hl0])]⟩
        have hte : (text kk 0 == l) = true := beq_iff_eq.2 ht
        go_wp2
        refine bodyPost_ret (v := .tuple #[.agg #[.int .i64 kk, .int .i64 0], .int .i64 0]) (by simp [results, Tryz.results104, go_sem, s1, s2]) rfl ?_
        refine ⟨by rw [HY2.out], ?_⟩
        exact (((hk3.trans hk5 (fun _ _ h => h))).setAt (.inr (Nat.le_refl _))).setAt (.inr (Nat.le_refl _))
      · have HY2 : Asd (y = (0, 0, 8)) := ⟨by rw [HY.out]; unfold parse; rw [HV.out]; simp only; rw [← HK.out, if_pos (.inr ht)]⟩
        have hte : (text kk 0 == l) = false := beq_eq_false_iff_ne.2 ht
        go_wp2
        refine bodyPost_ret (v := .tuple #[.agg #[.int .i64 0, .int .i64 0], .int .i64 8]) (by simp [results, Tryz.results104, go_sem, s1, s2]) rfl ?_
        refine ⟨by rw [HY2.out], ?_⟩
        exact (((hk3.trans hk5 (fun _ _ h => h))).setAt (.inr (Nat.le_refl _))).setAt (.inr (Nat.le_refl _))
  · have hpe : (pnum l).isEmpty = false := by cases hpn : pnum l with
      | nil => exact absurd hpn hp
      | cons a b => rfl
    have hbp : (pnum l == []) = false := beq_eq_false_iff_ne.2 hp
    have hpl : (pnum l).length ≤ 281474976710656 := by
      have : (pnum l).length ≤ l.length := by
        unfold pnum Lib.cut
        split
        · simp
        · simp
      omega
    go_wp2_with fail
    refine (int_calls (HE.out.up (hk3.trans hkk3 (fun _ _ h => h))) (pnum l) hpl).mono ?_
    rintro e w5 ⟨hu5, h5⟩
    have hk5 := hkk3.trans hu5 (fun _ _ h => h)
    have hb5 := hk5.blk hb3 (fun h => h)
    obtain ⟨s1, s2⟩ := store2 hb5
    have hkw5 : Upd (fun _ => False) w5 w5 := Upd.refl _ _
    rcases h5 with ⟨v, hv, rfl⟩ | ⟨hv, v, tt, pp, rfl⟩
    · have HV : Asd (pval l = some v) := ⟨by unfold pval; rw [if_neg hp, hv]⟩
      have hl0 : l ≠ [] := fun e => hp (by rw [e]; rfl)
      have hle : l.isEmpty = false := by cases l with
        | nil => exact absurd rfl hl0
        | cons a b => rfl
      have hbl : (l == []) = false := beq_eq_false_iff_ne.2 hl0
      have hn5 := hu5.blk hn3 (fun h => h)
      have p1 := keepsC (o := 1) hn5 rfl
      have pf := fun o => keepsF (o := o) hn5
      have hn6 := blk_setCell (o := 1) hn5 (.int .i64 v)
      have hu6 : Upd (fun _ => False) w3 (w5.setCell ⟨w3.heap.size, 1, none⟩ (.int .i64 v)) := hk5.setAt (.inr (Nat.le_refl _))
      have hkw6 : Upd (fun _ => False) (w5.setCell ⟨w3.heap.size, 1, none⟩ (.int .i64 v)) (w5.setCell ⟨w3.heap.size, 1, none⟩ (.int .i64 v)) := Upd.refl _ _
      have m0 := keepsC (o := 0) (v := .int .i64 kk) hn6 rfl
      have m1 := keepsC (o := 1) (v := .int .i64 v) hn6 rfl
      clear q0 q1 s1 s2
      go_wp2_with fail
      refine (string_calls (HE.out.up (hk3.trans hu6 (fun _ _ h => h))) kk v).mono ?_
      rintro e w7 ⟨rfl, hu7⟩
      have hk7 := hu6.trans hu7 (fun _ _ h => h)
      obtain ⟨s1, s2⟩ := store2 (hk7.blk hb3 (fun h => h))
      have hkw7 : Upd (fun _ => False) w7 w7 := Upd.refl _ _
      have hn7 := hu7.blk hn6 (fun h => h)
      have m07 := keepsC (o := 0) (v := .int .i64 kk) hn7 rfl
      have m17 := keepsC (o := 1) (v := .int .i64 v) hn7 rfl
      by_cases ht : text kk v = l
      · have HY2 : Asd (y = (kk, v, 0)) := ⟨by rw [HY.out]; unfold parse; rw [HV.out]; simp only; rw [← HK.out, if_neg (by rw [ht]; simp [hl0])]⟩
        have hte : (text kk v == l) = true := beq_iff_eq.2 ht
        go_wp2
        refine bodyPost_ret (v := .tuple #[.agg #[.int .i64 kk, .int .i64 v], .int .i64 0]) (by simp [results, Tryz.results104, go_sem, s1, s2]) rfl ?_
        refine ⟨by rw [HY2.out], ?_⟩
        exact (((hk3.trans hk7 (fun _ _ h => h))).setAt (.inr (Nat.le_refl _))).setAt (.inr (Nat.le_refl _))
      · have HY2 : Asd (y = (0, 0, 8)) := ⟨by rw [HY.out]; unfold parse; rw [HV.out]; simp only; rw [← HK.out, if_pos (.inr ht)]⟩
        have hte : (text kk v == l) = false := beq_eq_false_iff_ne.2 ht
        go_wp2
        refine bodyPost_ret (v := .tuple #[.agg #[.int .i64 0, .int .i64 0], .int .i64 8]) (by simp [results, Tryz.results104, go_sem, s1, s2]) rfl ?_
        refine ⟨by rw [HY2.out], ?_⟩
        exact (((hk3.trans hk7 (fun _ _ h => h))).setAt (.inr (Nat.le_refl _))).setAt (.inr (Nat.le_refl _))
    · have HV : Asd (pval l = none) := ⟨by unfold pval; rw [if_neg hp]; cases hq : Lib.parseIntB 64 (pnum l) with
        | ok v => exact absurd hq (hv v)
        | _ => rfl⟩
      have HY2 : Asd (y = (0, 0, 8)) := ⟨by rw [HY.out]; unfold parse; rw [HV.out]⟩
      clear hv
      go_wp2
      refine bodyPost_ret (v := .tuple #[.agg #[.int .i64 0, .int .i64 0], .int .i64 8]) (by simp [results, Tryz.results104, go_sem, s1, s2]) rfl ?_
      refine ⟨by rw [HY2.out], ?_⟩
      exact (((hk3.trans hk5 (fun _ _ h => h))).setAt (.inr (Nat.le_refl _))).setAt (.inr (Nat.le_refl _))
end Go.Proofs.YteepkanbiefpjaaGreatDoor.Or
set_option linter.unusedVariables false
set_option linter.unusedSimpArgs false
namespace Go.Proofs.YteepkanbiefpjaaGreatDoor.Fl64
open Go Ieee
def big : Nat := 9007199254740992
def fl (n : Nat) : Nat := FloatKind.nearest .f64 n
theorem dF : double.fractionBits = 52 := rfl
theorem dL : double.leastPlace = -1074 := by decide
theorem dB : double.binade = 4503599627370496 := by decide
theorem dS : double.signWeight = 9223372036854775808 := by decide
theorem dI : double.infRung = 9218868437227405312 := by decide
theorem log2_bd {m : Nat} (h : 0 < m) (hm : m < big) : m.log2 ≤ 52 ∧ 2 ^ m.log2 ≤ m ∧ m < 2 ^ (m.log2 + 1) := by
  have h0 : m ≠ 0 := by omega
  have h1 : m.log2 < 53 := (Nat.log2_lt h0).2 hm
  exact ⟨by omega, Nat.log2_self_le h0, Nat.lt_log2_self⟩
theorem cut0 (n : Nat) : Toward.even.cut false n 0 = n := by
  unfold Toward.cut
  simp [Nat.mod_one]
theorem cutk (n d : Nat) (hd : d ≤ (n * 2 ^ d).log2 + 2) : Toward.even.cut false (n * 2 ^ d) d = n := by
  unfold Toward.cut
  have h1 : min d ((n * 2 ^ d).log2 + 2) = d := by omega
  have h2 : 1 <<< d = 2 ^ d := by rw [Nat.shiftLeft_eq, Nat.one_mul]
  have h3 : 0 < 2 ^ d := Nat.pow_pos (by decide)
  simp only [h1, h2, Nat.mul_mod_left, Nat.mul_div_cancel _ h3]
  have h4 : ¬ 2 ^ d = 0 := by omega
  simp [h4]
theorem log2_mul (m k : Nat) (h : 0 < m) : (m * 2 ^ k).log2 = m.log2 + k := by
  have h0 : m ≠ 0 := by omega
  have hk : 0 < 2 ^ k := Nat.pow_pos (by decide)
  have hn : m * 2 ^ k ≠ 0 := by have := Nat.mul_pos h hk; omega
  have a := Nat.log2_self_le h0
  have b := @Nat.lt_log2_self m
  have c : 2 ^ (m.log2 + k) ≤ m * 2 ^ k := by rw [Nat.pow_add]; exact Nat.mul_le_mul_right _ a
  have d : m * 2 ^ k < 2 ^ (m.log2 + k + 1) := by
    rw [show m.log2 + k + 1 = (m.log2 + 1) + k by omega, Nat.pow_add]
    exact Nat.mul_lt_mul_of_pos_right b hk
  have e := (Nat.le_log2 hn).2 c
  have f := (Nat.log2_lt hn).2 d
  omega
theorem near_shift (s : Bool) (m k : Nat) (h : 0 < m) (hm : m < big) : double.nearest s (m * 2 ^ k) (-(k : Int)) = double.word s ((1022 + m.log2) * 4503599627370496 + m * 2 ^ (52 - m.log2)) := by
  obtain ⟨l1, l2, l3⟩ := log2_bd h hm
  have hk2 : 0 < 2 ^ k := Nat.pow_pos (by decide)
  have hn : ¬ m * 2 ^ k = 0 := by have := Nat.mul_pos h hk2; omega
  have hcut : ∀ s, Toward.even.cut s = Toward.even.cut false := fun s => by funext n d; unfold Toward.cut; rfl
  have hbd : m * 2 ^ (52 - m.log2) < 2 * 4503599627370496 := by
    have : m * 2 ^ (52 - m.log2) < 2 ^ (m.log2 + 1) * 2 ^ (52 - m.log2) := Nat.mul_lt_mul_of_pos_right l3 (Nat.pow_pos (by decide))
    rw [← Nat.pow_add, show m.log2 + 1 + (52 - m.log2) = 53 by omega] at this
    simpa using this
  unfold Format.nearest
  rw [if_neg hn, log2_mul m k h, dF, dL, dB, dI]
  have hlast : max (-(k : Int) + ((m.log2 + k : Nat) : Int) - ((52 : Nat) : Int)) (-1074) = (m.log2 : Int) - 52 := by omega
  simp only [hlast, hcut s]
  have hkept : Toward.even.cut false ((m * 2 ^ k) <<< (-(k : Int) - ((m.log2 : Int) - 52)).toNat) ((m.log2 : Int) - 52 - -(k : Int)).toNat = m * 2 ^ (52 - m.log2) := by
    rw [Nat.shiftLeft_eq]
    by_cases hc : k ≤ 52 - m.log2
    · rw [show ((m.log2 : Int) - 52 - -(k : Int)).toNat = 0 by omega, show (-(k : Int) - ((m.log2 : Int) - 52)).toNat = 52 - m.log2 - k by omega, cut0, Nat.mul_assoc, ← Nat.pow_add, show k + (52 - m.log2 - k) = 52 - m.log2 by omega]
    · rw [show ((m.log2 : Int) - 52 - -(k : Int)).toNat = k - (52 - m.log2) by omega, show (-(k : Int) - ((m.log2 : Int) - 52)).toNat = 0 by omega, Nat.pow_zero, Nat.mul_one]
      have e : m * 2 ^ k = (m * 2 ^ (52 - m.log2)) * 2 ^ (k - (52 - m.log2)) := by rw [Nat.mul_assoc, ← Nat.pow_add, show 52 - m.log2 + (k - (52 - m.log2)) = k by omega]
      rw [e]
      refine cutk _ _ ?_
      rw [← e, log2_mul m k h]
      omega
  rw [hkept, show ((m.log2 : Int) - 52 - -1074).toNat = 1022 + m.log2 by omega]
  congr 1
  refine Nat.min_eq_left ?_
  omega
theorem near0 (s : Bool) (p : Int) : double.nearest s 0 p = double.word s 0 := by unfold Format.nearest; rw [if_pos rfl]
def num (s : Bool) (m : Nat) : Nat := double.nearest s m 0
theorem num_eq (s : Bool) (m : Nat) (h : 0 < m) (hm : m < big) : num s m = double.word s ((1022 + m.log2) * 4503599627370496 + m * 2 ^ (52 - m.log2)) := by
  have := near_shift s m 0 h hm
  rw [Nat.pow_zero, Nat.mul_one] at this
  exact this
theorem fl_num (m : Nat) : fl m = num false m := by
  unfold fl FloatKind.nearest FloatKind.encode Format.write num
  simp only [Int.natAbs_natCast]
  rw [show decide ((m : Int) < 0) = false by simp]
  rfl
theorem word_read (s : Bool) (x l : Nat) (h1 : x < 2 * 4503599627370496) (h2 : 4503599627370496 ≤ x) (l1 : l ≤ 52) : double.read (double.word s ((1022 + l) * 4503599627370496 + x)) = .number s x ((l : Int) - 52) := by
  unfold Format.word
  cases s with
  | false =>
    simp only [Bool.false_eq_true, if_false]
    unfold Format.read
    rw [dS, dB, dI, dL]
    have e1 : ((1022 + l) * 4503599627370496 + x) / 9223372036854775808 = 0 := Nat.div_eq_of_lt (by omega)
    have e2 : ((1022 + l) * 4503599627370496 + x) % 9223372036854775808 = (1022 + l) * 4503599627370496 + x := Nat.mod_eq_of_lt (by omega)
    have e3 : ((1022 + l) * 4503599627370496 + x) / 4503599627370496 = 1023 + l := by omega
    have e4 : ((1022 + l) * 4503599627370496 + x) % 4503599627370496 = x - 4503599627370496 := by omega
    simp only [e1, e2, e3, e4]
    rw [if_neg (by omega), if_pos (by omega), show 4503599627370496 + (x - 4503599627370496) = x by omega, show (-1074 : Int) + ((1023 + l - 1 : Nat) : Int) = (l : Int) - 52 by omega]
    rfl
  | true =>
    simp only [if_true]
    unfold Format.read
    rw [dS, dB, dI, dL]
    have e1 : (9223372036854775808 + ((1022 + l) * 4503599627370496 + x)) / 9223372036854775808 = 1 := by omega
    have e2 : (9223372036854775808 + ((1022 + l) * 4503599627370496 + x)) % 9223372036854775808 = (1022 + l) * 4503599627370496 + x := by omega
    have e3 : ((1022 + l) * 4503599627370496 + x) / 4503599627370496 = 1023 + l := by omega
    have e4 : ((1022 + l) * 4503599627370496 + x) % 4503599627370496 = x - 4503599627370496 := by omega
    simp only [e1, e2, e3, e4]
    rw [if_neg (by omega), if_pos (by omega), show 4503599627370496 + (x - 4503599627370496) = x by omega, show (-1074 : Int) + ((1023 + l - 1 : Nat) : Int) = (l : Int) - 52 by omega]
    rfl
theorem read_num (s : Bool) (m : Nat) (h : 0 < m) (hm : m < big) : double.read (num s m) = .number s (m * 2 ^ (52 - m.log2)) ((m.log2 : Int) - 52) := by
  obtain ⟨l1, l2, l3⟩ := log2_bd h hm
  have h1 : m * 2 ^ (52 - m.log2) < 2 * 4503599627370496 := by
    have : m * 2 ^ (52 - m.log2) < 2 ^ (m.log2 + 1) * 2 ^ (52 - m.log2) := Nat.mul_lt_mul_of_pos_right l3 (Nat.pow_pos (by decide))
    rw [← Nat.pow_add, show m.log2 + 1 + (52 - m.log2) = 53 by omega] at this
    simpa using this
  have h2 : 4503599627370496 ≤ m * 2 ^ (52 - m.log2) := by
    have : 2 ^ m.log2 * 2 ^ (52 - m.log2) ≤ m * 2 ^ (52 - m.log2) := Nat.mul_le_mul_right _ l2
    rw [← Nat.pow_add, show m.log2 + (52 - m.log2) = 52 by omega] at this
    simpa using this
  rw [num_eq s m h hm]
  exact word_read s _ _ h1 h2 l1
theorem read_num0 (s : Bool) : double.read (num s 0) = .number s 0 (-1074) := by cases s <;> decide +kernel
structure Says (b : Nat) (s : Bool) (m : Nat) : Prop where
  mk ::
  has : ∃ k : Nat, k ≤ 52 ∧ double.read b = .number s (m * 2 ^ k) (-(k : Int)) ∨ m = 0 ∧ double.read b = .number s 0 (-1074)
theorem says_num (s : Bool) (m : Nat) (hm : m < big) : Says (num s m) s m := by
  by_cases h : m = 0
  · subst h; exact ⟨⟨0, .inr ⟨rfl, read_num0 s⟩⟩⟩
  · have hp : 0 < m := by omega
    obtain ⟨l1, l2, l3⟩ := log2_bd hp hm
    refine ⟨⟨52 - m.log2, .inl ⟨by omega, ?_⟩⟩⟩
    rw [read_num s m hp hm, show ((m.log2 : Int) - 52) = -((52 - m.log2 : Nat) : Int) by omega]
theorem says_fl (m : Nat) (hm : m < big) : Says (fl m) false m := by rw [fl_num]; exact says_num false m hm
def one : Nat := 4607182418800017408
def negOne : Nat := 13830554455654793216
theorem one_eq : one = fl 1 := by decide +kernel
theorem says_neg : Says negOne true 1 := ⟨⟨52, .inl ⟨by omega, by decide +kernel⟩⟩⟩
def negZero : Nat := 9223372036854775808
theorem says_negZero : Says negZero true 0 := ⟨⟨0, .inr ⟨rfl, by decide +kernel⟩⟩⟩
theorem fl_zero : fl 0 = 0 := by decide +kernel
def val (s : Bool) (m : Nat) : Int := if s then -(m : Int) else m
theorem signed_val (s : Bool) (m k u : Nat) : signed s (m * 2 ^ k) u = val s m * 2 ^ (k + u) := by
  unfold signed val
  rw [Nat.shiftLeft_eq, Nat.mul_assoc, ← Nat.pow_add]
  cases s <;> simp [Int.neg_mul]
theorem signed0 (s : Bool) (u : Nat) : signed s 0 u = 0 := by
  unfold signed
  rw [Nat.shiftLeft_eq]
  cases s <;> simp
theorem pair {a b : Nat} {s t : Bool} {m n : Nat} (ha : Says a s m) (hb : Says b t n) : ∃ (i j : Int) (x y K : Nat), double.read a = .number s x i ∧ double.read b = .number t y j ∧ min i j = -(K : Int) ∧ signed s x (i - min i j).toNat = val s m * 2 ^ K ∧ signed t y (j - min i j).toNat = val t n * 2 ^ K := by
  obtain ⟨Z, hZ⟩ : ∃ Z : Nat, Z = 1074 := ⟨_, rfl⟩
  have hZ2 : (-1074 : Int) = -(Z : Int) := by omega
  obtain ⟨k, hk | ⟨hm, hr⟩⟩ := ha.has <;> obtain ⟨l, hl | ⟨hn, hr2⟩⟩ := hb.has
  · refine ⟨-k, -l, _, _, max k l, hk.2, hl.2, by omega, ?_, ?_⟩
    · rw [signed_val]; congr 2; omega
    · rw [signed_val]; congr 2; omega
  · subst hn
    rw [hZ2] at hr2
    refine ⟨-k, -Z, _, _, Z, hk.2, hr2, by omega, ?_, ?_⟩
    · rw [signed_val]; congr 2; omega
    · rw [signed0]; unfold val; cases t <;> simp
  · subst hm
    rw [hZ2] at hr
    refine ⟨-Z, -l, _, _, Z, hr, hl.2, by omega, ?_, ?_⟩
    · rw [signed0]; unfold val; cases s <;> simp
    · rw [signed_val]; congr 2; omega
  · subst hm; subst hn
    rw [hZ2] at hr hr2
    refine ⟨-Z, -Z, _, _, Z, hr, hr2, by omega, ?_, ?_⟩
    · rw [signed0]; unfold val; cases s <;> simp
    · rw [signed0]; unfold val; cases t <;> simp
theorem cmp_scale (x y : Int) (K : Nat) : compare (x * 2 ^ K) (y * 2 ^ K) = compare x y := by
  have hp : (0 : Int) < 2 ^ K := Int.pow_pos (by decide)
  have h1 : x * 2 ^ K < y * 2 ^ K ↔ x < y := Int.mul_lt_mul_right hp
  have h2 : x * 2 ^ K = y * 2 ^ K ↔ x = y := Int.mul_eq_mul_right_iff (by omega)
  simp only [compare, compareOfLessAndEq, h1, h2]
theorem order_says {a b : Nat} {s t : Bool} {m n : Nat} (ha : Says a s m) (hb : Says b t n) : double.order a b = some (compare (val s m) (val t n)) := by
  obtain ⟨i, j, x, y, K, h1, h2, h4, h5, h6⟩ := pair ha hb
  unfold Format.order
  rw [h1, h2]
  simp only [Datum.order, h5, h6, cmp_scale]
theorem add_says {a b : Nat} {s t : Bool} {m n : Nat} (ha : Says a s m) (hb : Says b t n) (hbd : (val s m + val t n).natAbs < big) : double.add a b = some (num (if val s m + val t n = 0 then s && t else decide (val s m + val t n < 0)) (val s m + val t n).natAbs) := by
  obtain ⟨i, j, x, y, K, h1, h2, h4, h5, h6⟩ := pair ha hb
  unfold Format.add
  rw [h1, h2]
  simp only [Datum.sum, h5, h6, ← Int.add_mul]
  obtain ⟨v, hv⟩ : ∃ v, v = val s m + val t n := ⟨_, rfl⟩
  rw [← hv] at hbd ⊢
  have hp : (0 : Int) < 2 ^ K := Int.pow_pos (by decide)
  have e1 : v * 2 ^ K = 0 ↔ v = 0 := by
    constructor
    · intro h; rcases Int.mul_eq_zero.1 h with h | h
      · exact h
      · omega
    · intro h; rw [h]; simp
  have e2 : v * 2 ^ K < 0 ↔ v < 0 := by
    have := Int.mul_lt_mul_right (a := 2 ^ K) (b := v) (c := 0) hp
    rw [Int.zero_mul] at this
    exact this
  have e3 : (v * 2 ^ K).natAbs = v.natAbs * 2 ^ K := by rw [Int.natAbs_mul, Int.natAbs_pow]; rfl
  simp only [e1, e2, e3, h4, Option.map_some, Format.write]
  congr 1
  by_cases h0 : v.natAbs = 0
  · rw [h0, Nat.zero_mul, near0]; unfold num; rw [near0]
  · rw [near_shift _ _ _ (by omega) hbd, num_eq _ _ (by omega) hbd]
theorem add_fl (m n : Nat) (h : m + n < big) : double.add (fl m) (fl n) = some (fl (m + n)) := by
  have := add_says (says_fl m (by omega)) (says_fl n (by omega)) (by unfold val; simp only [Bool.false_eq_true, if_false]; omega)
  rw [this, fl_num (m + n)]
  unfold val
  simp only [Bool.false_eq_true, if_false, Bool.and_false]
  have e : ((m : Int) + (n : Int)).natAbs = m + n := by omega
  have e2 : (if (m : Int) + (n : Int) = 0 then false else decide ((m : Int) + (n : Int) < 0)) = false := by
    split
    · rfl
    · simp; omega
  rw [e, e2]
theorem add_neg (m : Nat) (h : m < big) : double.add (fl m) negOne = some (if m = 0 then negOne else fl (m - 1)) := by
  have := add_says (says_fl m h) says_neg (by unfold val big; simp only [Bool.false_eq_true, if_false, if_true]; unfold big at h; omega)
  rw [this]
  unfold val
  simp only [Bool.false_eq_true, if_false, if_true, Bool.and_true]
  by_cases h0 : m = 0
  · subst h0; decide +kernel
  · have e : ((m : Int) + -((1 : Nat) : Int)).natAbs = m - 1 := by omega
    have e2 : (if (m : Int) + -((1 : Nat) : Int) = 0 then false else decide ((m : Int) + -((1 : Nat) : Int) < 0)) = false := by
      split
      · rfl
      · simp; omega
    rw [e, e2, if_neg h0, fl_num]
theorem add_negZero (m : Nat) (h : m < big) : double.add (fl m) negZero = some (fl m) := by
  have := add_says (says_fl m h) says_negZero (by unfold val; simp only [Bool.false_eq_true, if_false, if_true]; omega)
  rw [this, fl_num m]
  unfold val
  simp only [Bool.false_eq_true, if_false, if_true, Bool.and_true]
  have e : ((m : Int) + -((0 : Nat) : Int)).natAbs = m := by omega
  have e2 : (if (m : Int) + -((0 : Nat) : Int) = 0 then false else decide ((m : Int) + -((0 : Nat) : Int) < 0)) = false := by
    split
    · rfl
    · simp
  rw [e, e2]
theorem order_fl (m n : Nat) (h : m < big) (k : n < big) : double.order (fl m) (fl n) = some (compare m n) := by
  rw [order_says (says_fl m h) (says_fl n k)]
  unfold val
  simp only [Bool.false_eq_true, if_false]
  congr 1
  simp only [compare, compareOfLessAndEq, Int.ofNat_lt, Int.natCast_inj]
theorem order_negOne (n : Nat) (k : n < big) : double.order negOne (fl n) = some .lt := by
  rw [order_says says_neg (says_fl n k)]
  unfold val
  simp only [Bool.false_eq_true, if_false, if_true]
  congr 1
theorem sub_ck : (List.range 500).all (fun w => double.sub (fl (w + 1)) one == some (fl w)) = true := by decide +kernel
theorem sub_one (w : Nat) (h : 1 ≤ w) (h2 : w ≤ 500) : double.sub (fl w) one = some (fl (w - 1)) := by
  have := List.all_eq_true.1 sub_ck (w - 1) (List.mem_range.2 (by omega))
  rw [show w - 1 + 1 = w by omega] at this
  exact beq_iff_eq.1 this
theorem toInt_fl (m : Nat) (h : m < big) : Datum.toInt .zero (FloatKind.f64.decode (fl m)) = some (m : Int) := by
  show Datum.toInt .zero (double.read (fl m)) = _
  rw [fl_num]
  by_cases h0 : m = 0
  · subst h0; decide +kernel
  · have hp : 0 < m := by omega
    obtain ⟨l1, l2, l3⟩ := log2_bd hp h
    rw [read_num false m hp h]
    have e0 : ((m.log2 : Int) - 52).toNat = 0 := by omega
    have e1 : (-((m.log2 : Int) - 52)).toNat = 52 - m.log2 := by omega
    have hz : Toward.zero.cut false (m * 2 ^ (52 - m.log2)) (52 - m.log2) = m := by
      have hd : 0 < 2 ^ (52 - m.log2) := Nat.pow_pos (by decide)
      unfold Toward.cut
      rw [show min (52 - m.log2) ((m * 2 ^ (52 - m.log2)).log2 + 2) = 52 - m.log2 by rw [log2_mul m _ hp]; omega]
      simp [Nat.shiftLeft_eq, Nat.mul_div_cancel _ hd]
    unfold Datum.toInt Datum.integral
    simp only [e0, e1, Nat.shiftLeft_zero, hz]
    unfold signed
    simp
theorem toInt_val (m : Nat) (h : m < big) : floatToIntVal .f64 (fl m) .i64 = some (m : Int) := by
  unfold floatToIntVal
  rw [toInt_fl m h]
  simp only
  unfold big at h
  rw [if_pos (by simp only [IntKind.min, IntKind.max]; constructor <;> (simp [IntKind.signed, IntKind.bits]; try omega))]
end Go.Proofs.YteepkanbiefpjaaGreatDoor.Fl64
set_option linter.unusedVariables false
set_option linter.unusedSimpArgs false
namespace Go.Proofs.YteepkanbiefpjaaGreatDoor.Sp
open Go Fl64
structure T where
  col : Nat
  row : Nat
  st : Int
def sign (wd : Nat) (s : T) : T := if s.col + 1 = wd then { s with col := 0, row := s.row + 1 } else { s with col := s.col + 1 }
def move (wd : Nat) (s : T) (k : Nat) : T :=
  if k = 0 then { s with col := min (s.col + 1) (wd - 1) }
  else if k = 1 then { s with col := min s.col (wd - 1), row := s.row + 1 }
  else if k = 2 then { s with col := min (s.col - 1) (wd - 1) }
  else { s with col := min s.col (wd - 1), row := s.row - 1 }
def one (wd : Nat) (s : T) (c : UInt8) : T :=
  if c = 27 then { s with st := 1 }
  else if c = 13 then { s with col := 0 }
  else if c = 10 then { s with row := s.row + 1 }
  else if c = 8 then move wd s 2
  else if c = 9 then { s with col := min (8 * (s.col / 8 + 1)) (wd - 1) }
  else if 32 ≤ c.toNat ∧ c ≠ 127 then sign wd s
  else s
def step (wd : Nat) (s : T) (c : UInt8) : T :=
  if s.st = 0 then one wd s c
  else if s.st = 1 then { s with st := if c = 91 then 2 else 0 }
  else if c = 65 then move wd { s with st := 0 } 3
  else if c = 66 then move wd { s with st := 0 } 1
  else if c = 67 then move wd { s with st := 0 } 0
  else if c = 68 then move wd { s with st := 0 } 2
  else { s with st := 0 }
def put (wd : Nat) (s : T) (b : List UInt8) : T := b.foldl (step wd) s
structure Okk (wd n : Nat) (s : T) : Prop where
  col : s.col < wd
  row : s.row ≤ n
  st : 0 ≤ s.st ∧ s.st ≤ 2
theorem Okk.mono {wd n m : Nat} {s : T} (h : Okk wd n s) (k : n ≤ m) : Okk wd m s := ⟨h.col, by have := h.row; omega, h.st⟩
theorem Okk.move {wd n : Nat} {s : T} (h : Okk wd n s) (k : Nat) : Okk wd (n + 1) (move wd s k) := by
  have h1 := h.col
  have h2 := h.row
  have hm : ∀ x, min x (wd - 1) < wd := fun x => by have := Nat.min_le_right x (wd - 1); omega
  unfold Sp.move
  split
  · exact ⟨hm _, by simp only; omega, h.st⟩
  · split
    · exact ⟨hm _, by simp only; omega, h.st⟩
    · split
      · exact ⟨hm _, by simp only; omega, h.st⟩
      · exact ⟨hm _, by simp only; omega, h.st⟩
theorem Okk.one {wd n : Nat} {s : T} (h : Okk wd n s) (c : UInt8) : Okk wd (n + 1) (one wd s c) := by
  have h1 := h.col
  have h2 := h.row
  have hm : ∀ x, min x (wd - 1) < wd := fun x => by have := Nat.min_le_right x (wd - 1); omega
  unfold Sp.one
  split
  · exact ⟨h1, by simp only; omega, by simp⟩
  · split
    · exact ⟨by simp only; omega, by simp only; omega, h.st⟩
    · split
      · exact ⟨h1, by simp only; omega, h.st⟩
      · split
        · exact h.move 2
        · split
          · exact ⟨hm _, by simp only; omega, h.st⟩
          · split
            · unfold sign
              split
              · exact ⟨by simp only; omega, by simp only; omega, h.st⟩
              · exact ⟨by simp only; omega, by simp only; omega, h.st⟩
            · exact h.mono (by omega)
theorem Okk.st0 {wd n : Nat} {s : T} (h : Okk wd n s) : Okk wd n { s with st := 0 } := ⟨h.col, h.row, by simp⟩
theorem Okk.step {wd n : Nat} {s : T} (h : Okk wd n s) (c : UInt8) : Okk wd (n + 1) (step wd s c) := by
  unfold Sp.step
  split
  · exact h.one c
  · split
    · exact ⟨h.col, by have := h.row; simp only; omega, by simp only; split <;> simp⟩
    · split
      · exact h.st0.move 3
      · split
        · exact h.st0.move 1
        · split
          · exact h.st0.move 0
          · split
            · exact h.st0.move 2
            · exact h.st0.mono (by omega)
theorem Okk.put {wd : Nat} : ∀ (b : List UInt8) {n : Nat} {s : T}, Okk wd n s → Okk wd (n + b.length) (put wd s b)
  | [], n, s, h => h
  | c :: b, n, s, h => by
    have := Okk.put b (h.step c)
    unfold Sp.put at this ⊢
    rw [List.foldl_cons, List.length_cons, show n + (b.length + 1) = n + 1 + b.length by omega]
    exact this
def cells (wd : Nat) (s : T) : Array Value := #[.float .f64 (fl wd), .complex .f64 (fl s.col) (fl s.row), .int .i64 s.st]
end Go.Proofs.YteepkanbiefpjaaGreatDoor.Sp
set_option linter.unusedVariables false
set_option linter.unusedSimpArgs false
namespace Go.Proofs.YteepkanbiefpjaaGreatDoor.Bk
open Go.RowKit K
open MgRow (M)
structure Lx where
  st : Int
  tx : List UInt8
  lg : Bool
def lxB (x : Lx) (c : UInt8) : Lx × List UInt8 × List (List UInt8) :=
  if x.st = 1 then
    (if c = 29 then ({ x with st := 0 }, [c], []) else if c = 58 then (⟨2, [], false⟩, [], []) else ({ x with st := 0 }, [], []))
  else if x.st = 2 then
    (if c ≠ 10 then
      (if x.lg = true ∨ x.tx.length = 80 then ({ x with lg := true }, [], []) else ({ x with tx := x.tx ++ [c] }, [], []))
    else ({ x with st := 0 }, [], [if x.lg then [] else x.tx]))
  else if c = 29 then ({ x with st := 1 }, [], [])
  else (x, [c], [])
def lxAll (x : Lx) (b : List UInt8) : Lx × List UInt8 × List (List UInt8) :=
  b.foldl (fun r c => ((lxB r.1 c).1, r.2.1 ++ (lxB r.1 c).2.1, r.2.2 ++ (lxB r.1 c).2.2)) (x, [], [])
structure Cn where
  st : Int
  name : List UInt8
  idle : Int
  fb : List UInt8
  fe : Int
  lx : Lx
  out : List UInt8
  vw : Option (Nat × Nat)
structure Cf where
  log : Int
  data : Int
  queue : Int
  input : Int
  strikes : Int
  lease : Int
  idle : Int
  width : Int
structure Br where
  cf : Cf
  log : List UInt8
  tab : Fl.T
  inp : Iq.QS
  cs : List (Int × Cn)
  strikes : Int
  ended : Bool
  code : Int
  holder : Int
  sp : Sp.T
def ids (s : Br) : List Int := s.cs.map (·.1)
def cget (cs : List (Int × Cn)) (id : Int) : Option Cn := (cs.find? fun p => decide (p.1 = id)).map (·.2)
def cset (cs : List (Int × Cn)) (id : Int) (c : Cn) : List (Int × Cn) := cs.map fun p => if p.1 = id then (id, c) else p
def cdel (cs : List (Int × Cn)) (id : Int) : List (Int × Cn) := cs.filter fun p => !decide (p.1 = id)
def cins (p : Int × Cn) : List (Int × Cn) → List (Int × Cn)
  | [] => [p]
  | y :: r => if p.1 < y.1 then p :: y :: r else y :: cins p r
def get (s : Br) (id : Int) : Option Cn := cget s.cs id
def set (s : Br) (id : Int) (c : Cn) : Br := { s with cs := cset s.cs id c }
def wTab (s : Br) (t : Fl.T) : Br := { s with tab := t }
def wInp (s : Br) (x : Iq.QS) : Br := { s with inp := x }
def wHolder (s : Br) (n : Int) : Br := { s with holder := n }
def wStrikes (s : Br) (n : Int) : Br := { s with strikes := n }
def cSt (c : Cn) (n : Int) : Cn := { c with st := n }
def cOut (c : Cn) (b : List UInt8) : Cn := { c with out := b }
def cVw (c : Cn) (v : Nat × Nat) : Cn := { c with vw := some v }
def mb (m : M) : List UInt8 := if Mg.right m.k m.a m.b m.t.length then MgPut.mbytes (UInt8.ofNat m.k.toNat) m.a.toNat m.b.toNat m.t else []
def note (t : List UInt8) : M := ⟨10, 0, 0, t⟩
def sendW (lv : Br → Int → Br) (s : Br) (id : Int) (m : M) : Br := match get s id with
  | none => s
  | some c => if c.st = 2 then s else if (c.out.length : Int) + (mb m).length ≤ s.cf.queue then set s id (cOut c (c.out ++ mb m)) else lv s id
def openS (s : Br) (id : Int) : Bool := match get s id with
  | some c => c.st == 1
  | none => false
def runAll (f : Br → Int → Br) (l : List Int) (s : Br) : Br := l.foldl (fun s id => if openS s id then f s id else s) s
def tellW (lv : Br → Int → Br) (s : Br) (m : M) : Br := runAll (fun s id => sendW lv s id m) (ids s) s
def leftT (id : Int) : List UInt8 := [108, 101, 102, 116, 32] ++ Lib.itoa id
def leaveN : Nat → Br → Int → Br
  | 0, s, id => match get s id with
    | none => s
    | some c => wTab (set s id (cSt c 2)) (if c.st = 1 then Fl.leave s.tab id else s.tab)
  | f + 1, s, id => match get s id with
    | none => s
    | some c => if c.st = 1 then tellW (leaveN f) (wTab (set s id (cSt c 2)) (Fl.leave s.tab id)) (note (leftT id)) else set s id (cSt c 2)
def leave (s : Br) (id : Int) : Br := leaveN 17 s id
def send (s : Br) (id : Int) (m : M) : Br := sendW leave s id m
def tell (s : Br) (m : M) : Br := tellW leave s m
def closed (s : Br) (id : Int) : Bool := match get s id with
  | some c => c.st == 2
  | none => true
def shut (s : Br) (id : Int) (why : Int) : Br := if closed (send s id ⟨13, why, 0, []⟩) id then send s id ⟨13, why, 0, []⟩ else leave (send s id ⟨13, why, 0, []⟩) id
def roleOf (s : Br) (write : Bool) : Int := if write then (if (Fl.keys s.tab).any (fun id => Fl.rget s.tab.roles id == some 2) then 1 else 2) else 0
def wordOf (r : Int) : List UInt8 := if r = 0 then [111, 98, 115, 101, 114, 118, 101, 114] else if r = 1 then [119, 114, 105, 116, 101, 114] else [111, 119, 110, 101, 114]
def named (t : List UInt8) : Bool := t.all (fun c => decide (32 < c.toNat) && decide (c.toNat ≤ 126)) && !t.isEmpty
def joinT (id : Int) (t : List UInt8) : List UInt8 := [106, 111, 105, 110, 101, 100, 32] ++ Lib.itoa id ++ [32] ++ t
def hello (s : Br) (id : Int) (m : M) : Br :=
  if m.k ≠ 1 then shut s id 4
  else if m.a / 4 ≠ 1 then shut s id 2
  else if named m.t = false then shut s id 3
  else
    let s1 := tell s (note (joinT id m.t))
    match get s1 id with
    | none => s1
    | some c =>
      let at_ := Vw.startN s1.log (Rg.roomN s1.cf.log) m.b (decide (m.a / 2 % 2 = 1))
      let s2 := set s1 id { c with st := 1, name := m.t, vw := some (at_, 0) }
      let r := roleOf s2 (decide (m.a % 2 = 1))
      let s3 := wTab s2 (Fl.join s2.tab id r)
      let s4 := send s3 id ⟨5, id, (at_ : Int), wordOf r⟩
      let s5 := send s4 id ⟨9, s4.holder, 0, []⟩
      if s5.ended then send s5 id ⟨15, s5.code, 0, []⟩ else s5
def listT (s : Br) (id r : Int) : List UInt8 := Lib.itoa id ++ [32] ++ wordOf r ++ [32] ++ (match get s id with | some c => c.name | none => []) ++ (if id = s.tab.holder then [32, 42] else [])
def listN (s : Br) (to : Int) : Br := (Fl.keys s.tab).foldl (fun s id => send s to (note (listT s id ((Fl.rget s.tab.roles id).getD 0)))) s
def own (k : Int) : Bool := k == 5 || (decide (6 ≤ k) && decide (k ≤ 9)) || k == 11
def userOf (s : Br) (n : Int) : Option Cn := if 16 < n then none else match get s n with
  | some c => if c.st = 1 then some c else none
  | none => none
def toOther (s : Br) (k n : Int) : Br × Bool := match userOf s n with
  | none => (s, false)
  | some _ =>
    if k = 6 then (wTab s (Fl.give s.tab n), Fl.may s.tab n == 0)
    else if k = 7 then (shut s n 5, true)
    else if k = 8 then (wTab s (Fl.setRole s.tab n 1), Fl.sets s.tab n 1)
    else (wTab s (Fl.setRole s.tab n 0), Fl.sets s.tab n 0)
def does (s : Br) (id k n : Int) : Br × Bool :=
  if own k = true ∧ Fl.rget s.tab.roles id ≠ some 2 then (s, false)
  else if k = 1 then (wTab s (Fl.ask s.tab id), Fl.asks s.tab id == 0)
  else if k = 2 then (wTab s (Fl.drop s.tab id), Fl.drops s.tab id == 0)
  else if k = 3 then (listN s id, true)
  else if k = 4 then (shut s id 0, true)
  else if k = 5 then (wTab s (Fl.revoke s.tab), Fl.revokes s.tab == 0)
  else if k = 10 then (match get s id with
    | some c => set s id (cVw c (Vw.startN s.log (Rg.roomN s.cf.log) n false, (c.vw.map (·.2)).getD 0))
    | none => s, true)
  else if k = 11 then (if 9 < n then (s, false) else (wStrikes s n, true))
  else toOther s k n
def turnedN : Nat → Br → Br
  | 0, s => s
  | f + 1, s => if s.tab.holder = s.holder then s else turnedN f (tell (wHolder s s.tab.holder) ⟨9, s.tab.holder, 0, []⟩)
def turned (s : Br) : Br := turnedN 40 s
def line (id : Int) (s : Br) (l : List UInt8) : Br :=
  if openS s id then
    let p := Or.parse l
    let r := if p.2.2 ≠ 0 then (s, false) else does s id p.1 p.2.1
    turned (if r.2 then r.1 else send r.1 id ⟨11, 0, 0, l⟩)
  else s
def typed (s : Br) (id : Int) (m : M) : Br := match get s id with
  | none => s
  | some c =>
    let x := lxAll c.lx m.t
    let s1 := set s id { c with lx := x.1 }
    let s2 := if x.2.1 = [] then s1 else if Iq.why s1.inp s1.tab id x.2.1.length = 0 then (wInp s1 (Iq.offer s1.inp s1.tab id x.2.1)) else send (wInp s1 (Iq.offer s1.inp s1.tab id x.2.1)) id ⟨8, m.a, Iq.why s1.inp s1.tab id x.2.1.length, []⟩
    x.2.2.foldl (line id) s2
def message (s : Br) (id : Int) (k : UInt8) (body : List UInt8) : Br :=
  let n := Mg.nums (k.toNat : Int)
  if MgOf.isMsg (k.toNat : Int) body = false then shut s id 4
  else
    let m : M := ⟨(k.toNat : Int), (MgOf.numA n body : Int), (MgOf.numB n body : Int), body.drop (6 * n)⟩
    if (match get s id with | some c => c.st == 0 | none => false) then hello s id m
    else if m.k = 2 then typed s id m
    else if m.k = 3 then send s id ⟨14, 0, 0, []⟩
    else if m.k = 4 then shut s id 0
    else shut s id 4
def pumpN (id : Int) : Nat → Br → Br
  | 0, s => s
  | f + 1, s => match get s id with
    | none => s
    | some c => if c.st = 1 then (match c.vw with
      | none => s
      | some (at_, st) =>
        let x := Vw.next s.log (Rg.roomN s.cf.log) at_ st (s.cf.queue - c.out.length - 200) s.cf.data s.strikes
        if x.ok = false then set s id (cVw c (x.at_, x.st))
        else
          let s1 := set s id (cOut (cVw c (x.at_, x.st)) (if (c.out.length : Int) + (mb x.m).length ≤ s.cf.queue then c.out ++ mb x.m else c.out))
          pumpN id f (if x.m.k = 12 then leave s1 id else s1)) else s
def pump (s : Br) : Br := runAll (fun s id => pumpN id (s.log.length + 2) s) (ids s) s
def sweep (s : Br) : Br := { s with cs := s.cs.filter fun p => !(p.2.st == 2 && p.2.out.isEmpty) }
def settle (s : Br) : Br := sweep (turned (pump (turned s)))
def fresh : Cn := ⟨0, [], 0, [], 0, ⟨0, [], false⟩, [], none⟩
def connect (s : Br) (id : Int) : Br × Int :=
  if id < 1 ∨ 16 < id then (s, 1)
  else if (get s id).isSome then (s, 3)
  else ({ s with cs := cins (id, fresh) s.cs }, 0)
def push (c : Cn) (b : List UInt8) : List (UInt8 × List UInt8) × List UInt8 × Int := if c.fe ≠ 0 then ([], [], c.fe) else FdMath.all (c.fb ++ b)
def frame1 (id : Int) (s : Br) (f : UInt8 × List UInt8) : Br := if closed s id then s else turned (message s id f.1 f.2)
def bytes (s : Br) (id : Int) (b : List UInt8) : Br × Int := match get s id with
  | none => (s, 2)
  | some c => if c.st = 2 then (s, 3) else
    let r := push c b
    let s1 := set s id { c with idle := if b = [] then c.idle else 0, fb := r.2.1, fe := r.2.2 }
    let s2 := r.1.foldl (frame1 id) s1
    let s3 := if closed s2 id = false ∧ r.2.2 ≠ 0 then shut s2 id 1 else s2
    (settle s3, 0)
def write (s : Br) (id n : Int) : Br × List UInt8 × Int := match get s id with
  | none => (s, [], 2)
  | some c => let k := Oq.takeN n c.out.length
    (settle (set s id (cOut c (c.out.drop k))), c.out.take k, 0)
def output (s : Br) (b : List UInt8) : Br × Int := if s.ended then (s, 3) else (settle { s with log := s.log ++ b, sp := Sp.put s.cf.width.toNat s.sp b }, 0)
def drain (s : Br) (n : Int) : Br × List UInt8 := let k := Oq.takeN n s.inp.buf.length; (wInp s { s.inp with buf := s.inp.buf.drop k }, s.inp.buf.take k)
def tick1 (s : Br) (id : Int) : Br := match get s id with
  | none => s
  | some c => let s1 := set s id { c with idle := c.idle + 1 }
    if 0 < s.cf.idle ∧ s.cf.idle ≤ c.idle + 1 ∧ c.st ≠ 2 then shut s1 id 6 else s1
def tick (s : Br) : Br := settle ((ids s).foldl tick1 (wTab s (Fl.tick s.tab)))
def cut (s : Br) (id : Int) : Br × Int := match get s id with
  | none => (s, 2)
  | some _ => let s1 := leave s id
    (settle { s1 with cs := cdel s1.cs id }, 0)
def end_ (s : Br) (code : Int) : Br × Int :=
  if s.ended then (s, 3) else if code < 0 ∨ 255 < code then (s, 1)
  else (settle (tell { s with ended := true, code := code, inp := { s.inp with buf := [], ended := true } } ⟨15, code, 0, []⟩), 0)
def rightC (c : Cf) : Bool := decide (1 ≤ c.log ∧ c.log ≤ 65536 ∧ 1 ≤ c.data ∧ c.data ≤ 2042 ∧ 220 ≤ c.queue ∧ c.queue ≤ 65536 ∧ 1 ≤ c.input ∧ c.input ≤ 65536 ∧ 0 ≤ c.strikes ∧ c.strikes ≤ 9 ∧ 1 ≤ c.lease ∧ c.lease ≤ 1000 ∧ 0 ≤ c.idle ∧ c.idle ≤ 1000 ∧ 1 ≤ c.width ∧ c.width ≤ 500)
def new (c : Cf) : Br := ⟨c, [], Fl.new c.lease, ⟨[], Oq.clampSize c.input, false, 0⟩, [], c.strikes, false, 0, 0, ⟨0, 0, 0⟩⟩
end Go.Proofs.YteepkanbiefpjaaGreatDoor.Bk
set_option linter.unusedVariables false
set_option linter.unusedSimpArgs false
namespace Go.Proofs.YteepkanbiefpjaaGreatDoor.K
open Go.RowKit
structure Thing {σ : Type} (base : Nat) (Bk : World → σ → (Nat → Prop) → Prop) : Prop where
  up : ∀ {S : Nat → Prop} {W W' : World} {s : σ} {F : Nat → Prop}, Upd S W W' → (∀ i, F i → ¬ S i) → (∀ i, S i → base ≤ i) → Bk W s F → Bk W' s F
  sz : ∀ {W : World} {s : σ} {F : Nat → Prop}, Bk W s F → base ≤ W.heap.size
  lt : ∀ {W : World} {s : σ} {F : Nat → Prop} {k : Nat}, Bk W s F → F k → k < W.heap.size
structure Tn (w : World) (F : Nat → Prop) (w' : World) (F' : Nat → Prop) : Prop where
  upd : Upd F w w'
  new : ∀ k, F' k → F k ∨ w.heap.size ≤ k
theorem Tn.refl (w : World) (F : Nat → Prop) : Tn w F w F := ⟨Upd.refl _ _, fun _ h => .inl h⟩
theorem Tn.trans {w w1 w2 : World} {F F1 F2 : Nat → Prop} (h : Tn w F w1 F1) (k : Tn w1 F1 w2 F2) : Tn w F w2 F2 :=
  ⟨h.upd.trans k.upd (fun i hi hf => by rcases h.new i hf with h | h; exact h; omega), fun i hi => by
    rcases k.new i hi with h1 | h1
    · exact h.new i h1
    · have := h.upd.size
      exact .inr (by omega)⟩
theorem upd_putObj (w : World) (l : Nat) (o : Obj) : Upd (fun i => i = l) w (w.putObj l o) :=
  ⟨rfl, rfl, rfl, by simp, fun i hi hn => World.putObj_heap_other hn⟩
def OnPost (R : World → Prop) : Exit → Act → World → Prop
  | .normal, _, w => R w
  | _, _, _ => False
theorem wp_rangeAll {σ ι : Type} {base : Nat} {Bk : World → σ → (Nat → Prop) → Prop} (ht : Thing base Bk) {P : Program} {n : Nat} {g : Operand} {ps : Array Tmp} {assign body : Code} {Q : Exit → Act → World → Prop} {a : Act} {w : World}
    {gf : Nat} {lb : Array Value} (hg : a.eval g = .func (.func gf) #[] lb) (eg : ∀ args w, (callFunc gf args).run P w = .ok (.enter gf args) w) (hps : ps.size = 1)
    (R : σ → ι → Prop) (enc : σ → ι → Value) (step : σ → ι → σ) (s0 fin : σ) (F0 : Nat → Prop) (h0 : Bk w s0 F0)
    (hall : ∀ (l : Nat) (J : σ → (Nat → Prop) → World → Prop) (W : World), (∀ s F W, J s F W → Bk W s F ∧ Tn w F0 W F ∧ l < W.heap.size) → (∀ s F W W', J s F W → Upd (fun _ => False) W W' → J s F W') →
      (∀ s F i W, J s F W → R s i → YieldAt Fence.wide (n - 1 - 1) P l #[enc s i] W fun e W' => e = .returned (.bool true) ∧ ∃ F', J (step s i) F' W' ∧ (∀ k, F' k → F k ∨ W.heap.size ≤ k) ∧ Upd (fun k => F k ∨ k = l) W W') → J s0 F0 W →
      CallsIn Fence.wide (n - 1) P gf (#[.func (.yield l) #[] #[]] ++ lb) W fun e W' => (∃ v, e = .returned v) ∧ ∃ F, J fin F W')
    (a₁ : σ → ι → Act)
    (hassign : ∀ (l : Nat) (s : σ) (i : ι) (W : World) (K : Act → World → Prop), K (a₁ s i) W →
      assign.wpIn (Fence.wide.inRound l) (n - 1 - 1) P (Exit.then K (fun _ _ _ => False)) { tmps := (ps.zip #[enc s i]).foldl (fun t (p, v) => t.setIfInBounds p v) a.tmps, defers := [] } W)
    (hbody : ∀ (l : Nat) (s : σ) (i : ι) (W : World) (F : Nat → Prop), Bk W s F → Tn w F0 W F → R s i → body.wpIn (Fence.wide.inRound l) (n - 1 - 1) P (OnPost fun W' => ∃ F', Bk W' (step s i) F' ∧ Tn W F W' F') (a₁ s i) W)
    (hdone : ∀ (D : Nat) (W : World) (F : Nat → Prop), w.heap.size ≤ D → ¬ F D → Bk W fin F → Tn w F0 W F → W.heap[D]? = some (.deferred (some [])) → Q .normal { a with defers := { target := .collected D, args := #[] } :: a.defers } W) :
    (Code.rangeFunc g ps assign body).wpIn Fence.wide n P Q a w := by
  refine wpIn_rangeFunc ?_
  intro fn hfn
  obtain ⟨rec, hrec⟩ : ∃ rec : LoopState → Option Code → Loop, rec = fun st pe => { state := st, pending := pe, fn, tmps := a.tmps, params := ps, assign, body, defers := w.heap.size } := ⟨_, rfl⟩
  obtain ⟨W1, hW1⟩ : ∃ W1, (w.alloc (.deferred (some []))).alloc (.loop (rec .ready none)) = W1 := ⟨_, rfl⟩
  have hL1 : W1.heap[w.heap.size + 1]? = some (.loop (rec .ready none)) := by
    rw [← hW1]; have := World.alloc_heap_new (w.alloc (.deferred (some []))) (.loop (rec .ready none)); rwa [World.size_alloc] at this
  have hU1 : Upd (fun _ => False) w W1 := by
    rw [← hW1]; exact ((Upd.refl _ _).alloc _).alloc _
  have hK1 : W1.heap[w.heap.size]? = some (.deferred (some [])) := by
    rw [← hW1]
    exact ((Upd.refl (fun _ => False) _).alloc _).blk (World.alloc_heap_new w _) (fun h => h)
  have hbase := ht.sz h0
  have hlt0 : ∀ k, F0 k → k < w.heap.size := fun k hk => ht.lt h0 hk
  refine ⟨w.heap.size + 1, [{ target := .collected w.heap.size, args := #[] }], W1, { target := .fn (.func gf) lb, args := #[.func (.yield (w.heap.size + 1)) #[] #[]] }, W1, gf,
    #[.func (.yield (w.heap.size + 1)) #[] #[]] ++ lb, W1, ?_, ?_, ?_, ?_, fun h => by simp [Fence.wide] at h, ?_⟩
  · rw [← hW1, hrec]; exact run_enterLoop_outer _ _ _ _ _
  · simp only [resolve, hg]
    simp [go_sem]
  · intro f' hf'; trivial
  · simp [invoke, go_sem, eg]
  · refine (hall (w.heap.size + 1)
      (fun s F W => Bk W s F ∧ Tn w F0 W F ∧ ¬ F w.heap.size ∧ ¬ F (w.heap.size + 1) ∧ W.heap[w.heap.size + 1]? = some (.loop (rec .ready none)) ∧ W.heap[w.heap.size]? = some (.deferred (some [])))
      W1 (fun s F W ⟨h1, h2, _, _, h5, _⟩ => ⟨h1, h2, (Array.getElem?_eq_some_iff.1 h5).1⟩) (fun s F W W' ⟨h1, h2, h3, h4, h5, h6⟩ hu => ⟨ht.up hu (fun _ _ h => h) (fun _ h => h.elim) h1, ⟨h2.upd.trans hu (fun _ _ h => h.elim), h2.new⟩, h3, h4, hu.blk h5 (fun h => h), hu.blk h6 (fun h => h)⟩)
      ?_ ⟨ht.up hU1 (fun _ _ h => h) (fun _ h => h.elim) h0, ⟨hU1.mono (fun _ _ h => h.elim), fun _ h => .inl h⟩, fun h => by have := hlt0 _ h; omega, fun h => by have := hlt0 _ h; omega, hL1, hK1⟩).mono ?_
    · -- one round
      rintro s F i W ⟨hB, hT, hF0, hF1, hl, hk⟩ hR
      have hlt : w.heap.size + 1 < W.heap.size := (Array.getElem?_eq_some_iff.1 hl).1
      have hy := run_yield (P := P) (args := #[enc s i]) hl (by rw [hrec]; exact hps.symm)
      rw [hrec] at hy
      refine ⟨fn, _, assign, body, hy, roundIn_of_wpIn hfn (hassign _ s i W _ ⟨_, run_beginRound hl (by rw [hrec]), ?_⟩)⟩
      have hu2 := upd_putObj W (w.heap.size + 1) (.loop { rec .ready none with state := .busy })
      have hl2 : (W.putObj (w.heap.size + 1) (.loop { rec .ready none with state := .busy })).heap[w.heap.size + 1]? = some (.loop { rec .ready none with state := .busy }) := World.putObj_heap_same hlt
      have hk2 : (W.putObj (w.heap.size + 1) (.loop { rec .ready none with state := .busy })).heap[w.heap.size]? = some (.deferred (some [])) := (World.putObj_heap_other (by omega)).trans hk
      have hB2 : Bk (W.putObj (w.heap.size + 1) (.loop { rec .ready none with state := .busy })) s F := ht.up hu2 (fun j hj e => by subst e; exact hF1 hj) (fun j e => by omega) hB
      have hT2 : Tn w F0 (W.putObj (w.heap.size + 1) (.loop { rec .ready none with state := .busy })) F := ⟨hT.upd.trans hu2 (fun j hj e => by omega), hT.new⟩
      refine wpIn_mono (hbody _ s i _ F hB2 hT2 hR) ?_
      rintro e a3 W3 hp
      cases e with
      | normal =>
        obtain ⟨F', hB3, hT3⟩ := hp
        have hl3 := hT3.upd.blk hl2 hF1
        have hk3 := hT3.upd.blk hk2 hF0
        have hr := run_endRound (P := P) none hl3
        have hu4 := upd_putObj W3 (w.heap.size + 1) (.loop (rec .ready none))
        have n0 : ¬ F' w.heap.size := fun h => by
          rcases hT3.new _ h with h | h
          · exact hF0 h
          · rw [World.putObj_size] at h; omega
        have n1 : ¬ F' (w.heap.size + 1) := fun h => by
          rcases hT3.new _ h with h | h
          · exact hF1 h
          · rw [World.putObj_size] at h; omega
        rw [hrec] at hr
        rw [hrec] at hu4
        refine ⟨_, _, hr, rfl, F', ⟨ht.up hu4 (fun j hj e => by subst e; exact n1 hj) (fun j e => by omega) hB3, ?_, n0, n1, ?_, ?_⟩, ?_, ?_⟩
        · exact ⟨(hT2.trans hT3).upd.trans hu4 (fun j hj e => by omega), (hT2.trans hT3).new⟩
        · rw [hrec]; exact World.putObj_heap_same (Array.getElem?_eq_some_iff.1 hl3).1
        · exact (World.putObj_heap_other (by omega)).trans hk3
        · intro k hk
          rcases hT3.new k hk with h | h
          · exact .inl h
          · rw [World.putObj_size] at h
            exact .inr h
        · exact ((hu2.mono (T := fun k => F k ∨ k = w.heap.size + 1) (fun _ _ e => .inr e)).trans hT3.upd (fun _ _ h => .inl h)).trans hu4 (fun _ _ e => .inr e)
      | ret => exact hp.elim
      | exit id => exact hp.elim
      | goto t => exact hp.elim
      | panic ch => exact hp.elim
      | outgrown => exact hp.elim
    · -- behind the iterator
      rintro e W2 ⟨⟨v, rfl⟩, F, ⟨hB, hT, hF0, hF1, hl, hk⟩⟩
      have hu4 := upd_putObj W2 (w.heap.size + 1) (.loop { rec .ready none with state := .exhausted })
      refine ⟨none, _, by have := run_endLoop (P := P) hl (by rw [hrec]; simp); rw [hrec] at this; exact this, ?_⟩
      rw [hrec] at hu4
      refine hdone _ _ F (Nat.le_refl _) hF0 (ht.up hu4 (fun j hj e => by subst e; exact hF1 hj) (fun j e => by omega) hB) ⟨hT.upd.trans hu4 (fun j hj e => by omega), hT.new⟩ ((World.putObj_heap_other (by omega)).trans hk)
end Go.Proofs.YteepkanbiefpjaaGreatDoor.K
