/- Frames that come by and by: what is told of bytes, and of more of them behind. Plain lists, no program. -/
import Derived.Test.YtahbcjgbhfkhbaaLawGet
set_option linter.unusedVariables false
set_option linter.unusedSimpArgs false
namespace Go.Proofs.Ytahbcjgbhfkhbaa.FdMath
open Go.RowKit K Crc Sm Fr FrMath LGet

theorem num2_app (l m : List UInt8) (i : Nat) (h : i + 1 < l.length) : num2 (l ++ m) i = num2 l i := by
  unfold num2
  rw [getD_app l m i (by omega), getD_app l m (i + 1) h]
/-- What is told of bytes, unless they are too short, is told with more bytes behind them too. -/
theorem fget_more (b c : List UInt8) (h : (fget b).2.2.2 ≠ 5) : fget (b ++ c) = fget b := by
  unfold fget at h ⊢
  by_cases h1 : b.length < 2
  · rw [if_pos h1] at h; exact absurd rfl h
  rw [if_neg h1] at h ⊢
  have hn := num2_app b c 0 (by omega)
  rw [if_neg (by rw [List.length_append]; omega), hn]
  by_cases h2 : num2 b 0 = 0 ∨ 2049 < num2 b 0
  · rw [if_pos h2, if_pos h2]
  rw [if_neg h2] at h ⊢
  rw [if_neg h2]
  by_cases h3 : b.length < num2 b 0 + 4
  · rw [if_pos h3] at h; exact absurd rfl h
  rw [if_neg h3] at h ⊢
  rw [if_neg (by rw [List.length_append]; omega), List.take_append_of_le_length (by omega), num2_app b c _ (by omega), getD_app b c 2 (by omega)]
/-- The four answers. -/
theorem fget_cases (b : List UInt8) : ((fget b).2.2.2 = 0 ∧ (fget b).2.2.1 = (fget b).2.1.length + 5 ∧ (fget b).2.2.1 ≤ b.length ∧ (fget b).2.1.length ≤ 2048 ∧ b = fbytes (fget b).1 (fget b).2.1 ++ b.drop (fget b).2.2.1) ∨ fget b = (0, [], 0, 5) ∨ fget b = (0, [], 0, 6) ∨ fget b = (0, [], 0, 7) := by
  by_cases h1 : b.length < 2
  · exact .inr (.inl (by unfold fget; rw [if_pos h1]))
  by_cases h2 : num2 b 0 = 0 ∨ 2049 < num2 b 0
  · exact .inr (.inr (.inl (by unfold fget; rw [if_neg h1, if_pos h2])))
  by_cases h3 : b.length < num2 b 0 + 4
  · exact .inr (.inl (by unfold fget; rw [if_neg h1, if_neg h2, if_pos h3]))
  by_cases h4 : (crc 0xffff#16 ((b.take (num2 b 0 + 2)).drop 2)).toNat ≠ num2 b (num2 b 0 + 2)
  · exact .inr (.inr (.inr (by unfold fget; rw [if_neg h1, if_neg h2, if_neg h3, if_pos h4])))
  have hg : fget b = (b.getD 2 0, (b.take (num2 b 0 + 2)).drop 3, num2 b 0 + 4, 0) := by unfold fget; rw [if_neg h1, if_neg h2, if_neg h3, if_neg h4]
  refine .inl ?_
  rw [hg]
  have hl : ((b.take (num2 b 0 + 2)).drop 3).length = num2 b 0 - 1 := by simp; omega
  refine ⟨rfl, by show num2 b 0 + 4 = _; rw [hl]; omega, by show num2 b 0 + 4 ≤ _; omega, by show ((b.take (num2 b 0 + 2)).drop 3).length ≤ _; rw [hl]; omega, ?_⟩
  have := (fb_whole (b.getD 2 0) ((b.take (num2 b 0 + 2)).drop 3) b (num2 b 0) rfl (by omega) (by omega) (by omega) rfl rfl).2 (by omega)
  show b = fbytes (b.getD 2 0) ((b.take (num2 b 0 + 2)).drop 3) ++ b.drop (num2 b 0 + 4)
  rw [this, List.take_append_drop]

/-- The frames of bytes, what is left, and by what they are broken. -/
def fall : Nat → List UInt8 → List (UInt8 × List UInt8) × List UInt8 × Int
  | 0, b => ([], b, 0)
  | k + 1, b =>
    if (fget b).2.2.2 = 0 then (((fget b).1, (fget b).2.1) :: (fall k (b.drop (fget b).2.2.1)).1, (fall k (b.drop (fget b).2.2.1)).2)
    else if (fget b).2.2.2 = 5 then ([], b, 0) else ([], [], (fget b).2.2.2)
theorem fall_fuel : ∀ (n m : Nat) (b : List UInt8), b.length < n → b.length < m → fall n b = fall m b
  | 0, _, _, h, _ => absurd h (Nat.not_lt_zero _)
  | _, 0, _, _, h => absurd h (Nat.not_lt_zero _)
  | n + 1, m + 1, b, hn, hm => by
    unfold fall
    by_cases h : (fget b).2.2.2 = 0
    · have hl : (b.drop (fget b).2.2.1).length < b.length := by
        rcases fget_cases b with ⟨_, h1, h2, _⟩ | e | e | e
        · rw [List.length_drop]; omega
        · rw [e] at h; simp at h
        · rw [e] at h; simp at h
        · rw [e] at h; simp at h
      rw [fall_fuel n m _ (by omega) (by omega)]
    · rw [if_neg h, if_neg h]
def all (b : List UInt8) : List (UInt8 × List UInt8) × List UInt8 × Int := fall (b.length + 1) b
theorem all_ok (b : List UInt8) (h : (fget b).2.2.2 = 0) : all b = (((fget b).1, (fget b).2.1) :: (all (b.drop (fget b).2.2.1)).1, (all (b.drop (fget b).2.2.1)).2) := by
  unfold all
  rw [fall, if_pos h, fall_fuel b.length ((b.drop (fget b).2.2.1).length + 1)]
  · rcases fget_cases b with ⟨_, h1, h2, _⟩ | e | e | e
    · rw [List.length_drop]; omega
    all_goals rw [e] at h; simp at h
  · omega
theorem all_short (b : List UInt8) (h : (fget b).2.2.2 = 5) : all b = ([], b, 0) := by
  unfold all
  rw [fall, if_neg (by omega), if_pos h]
theorem all_bad (b : List UInt8) (h0 : (fget b).2.2.2 ≠ 0) (h : (fget b).2.2.2 ≠ 5) : all b = ([], [], (fget b).2.2.2) := by
  unfold all
  rw [fall, if_neg h0, if_neg h]
theorem fget_err (b : List UInt8) : (fget b).2.2.2 = 0 ∨ (fget b).2.2.2 = 5 ∨ (fget b).2.2.2 = 6 ∨ (fget b).2.2.2 = 7 := by
  rcases fget_cases b with ⟨h, _⟩ | e | e | e
  · exact .inl h
  · rw [e]; simp
  · rw [e]; simp
  · rw [e]; simp
theorem drop_lt (b : List UInt8) (h : (fget b).2.2.2 = 0) : (b.drop (fget b).2.2.1).length < b.length := by
  rcases fget_cases b with ⟨_, h1, h2, _⟩ | e | e | e
  · rw [List.length_drop]; omega
  all_goals rw [e] at h; simp at h
/-- Bytes that are broken are so with more behind them. -/
theorem all_dead : ∀ (b c : List UInt8), (all b).2.2 ≠ 0 → all (b ++ c) = all b := by
  intro b
  induction hn : b.length using Nat.strongRecOn generalizing b with
  | _ n ih =>
    intro c h
    by_cases h0 : (fget b).2.2.2 = 0
    · have hm := fget_more b c (by rw [h0]; decide)
      have hl := drop_lt b h0
      have hle : (fget b).2.2.1 ≤ b.length := by
        rcases fget_cases b with ⟨_, h1, h2, _⟩ | e | e | e
        · exact h2
        all_goals rw [e] at h0; simp at h0
      rw [all_ok b h0] at h ⊢
      rw [all_ok (b ++ c) (by rw [hm]; exact h0), hm, List.drop_append_of_le_length hle, ih _ (by omega) _ rfl c h]
    · by_cases h5 : (fget b).2.2.2 = 5
      · rw [all_short b h5] at h; exact absurd rfl h
      · have hm := fget_more b c h5
        rw [all_bad b h0 h5, all_bad (b ++ c) (by rw [hm]; exact h0) (by rw [hm]; exact h5), hm]
/-- More bytes behind such as are not broken. -/
theorem all_more : ∀ (b c : List UInt8), (all b).2.2 = 0 → all (b ++ c) = ((all b).1 ++ (all ((all b).2.1 ++ c)).1, (all ((all b).2.1 ++ c)).2) := by
  intro b
  induction hn : b.length using Nat.strongRecOn generalizing b with
  | _ n ih =>
    intro c h
    by_cases h0 : (fget b).2.2.2 = 0
    · have hm := fget_more b c (by rw [h0]; decide)
      have hl := drop_lt b h0
      have hle : (fget b).2.2.1 ≤ b.length := by
        rcases fget_cases b with ⟨_, h1, h2, _⟩ | e | e | e
        · exact h2
        all_goals rw [e] at h0; simp at h0
      rw [all_ok b h0] at h ⊢
      rw [all_ok (b ++ c) (by rw [hm]; exact h0), hm, List.drop_append_of_le_length hle, ih _ (by omega) _ rfl c h]
      rfl
    · by_cases h5 : (fget b).2.2.2 = 5
      · rw [all_short b h5]
        simp
      · rw [all_bad b h0 h5] at h
        exact absurd h h0
theorem all_err (b : List UInt8) : (all b).2.2 = 0 ∨ (all b).2.2 = 6 ∨ (all b).2.2 = 7 := by
  induction hn : b.length using Nat.strongRecOn generalizing b with
  | _ n ih =>
    by_cases h0 : (fget b).2.2.2 = 0
    · rw [all_ok b h0]; exact ih _ (by have := drop_lt b h0; omega) _ rfl
    · by_cases h5 : (fget b).2.2.2 = 5
      · rw [all_short b h5]; exact .inl rfl
      · rw [all_bad b h0 h5]; show (fget b).2.2.2 = 0 ∨ (fget b).2.2.2 = 6 ∨ (fget b).2.2.2 = 7; have := fget_err b; omega
/-- What is left is too short to tell of. -/
theorem all_len (b : List UInt8) : (all b).1.length + (all b).2.1.length ≤ b.length := by
  induction hn : b.length using Nat.strongRecOn generalizing b with
  | _ n ih =>
    by_cases h0 : (fget b).2.2.2 = 0
    · rw [all_ok b h0]
      have hl := drop_lt b h0
      have := ih (b.drop (fget b).2.2.1).length (by omega) _ rfl
      simp only [List.length_cons]
      omega
    · by_cases h5 : (fget b).2.2.2 = 5
      · rw [all_short b h5]; simp; omega
      · rw [all_bad b h0 h5]; simp
theorem all_left : ∀ b : List UInt8, (all b).2.2 ≠ 0 → (all b).2.1 = [] := by
  intro b
  induction hn : b.length using Nat.strongRecOn generalizing b with
  | _ n ih =>
    intro h
    by_cases h0 : (fget b).2.2.2 = 0
    · have hl := drop_lt b h0
      rw [all_ok b h0] at h ⊢
      exact ih _ (by omega) _ rfl h
    · by_cases h5 : (fget b).2.2.2 = 5
      · rw [all_short b h5] at h; exact absurd rfl h
      · rw [all_bad b h0 h5]
/-- The bytes of frames side by side. -/
def joined (L : List (UInt8 × List UInt8)) : List UInt8 := L.flatMap fun x => fbytes x.1 x.2
theorem all_joined (L : List (UInt8 × List UInt8)) (h : ∀ x ∈ L, x.2.length ≤ 2048) (c : List UInt8) : all (joined L ++ c) = (L ++ (all c).1, (all c).2) := by
  induction L with
  | nil => rfl
  | cons x L ih =>
    have hx := h x (List.mem_cons_self ..)
    have e : joined (x :: L) ++ c = fbytes x.1 x.2 ++ (joined L ++ c) := by simp [joined]
    have hg := get_put x.1 x.2 (joined L ++ c) hx
    rw [e, all_ok _ (by rw [hg]), hg]
    have hd : (fbytes x.1 x.2 ++ (joined L ++ c)).drop (x.2.length + 5) = joined L ++ c := by
      rw [← fbytes_length x.1 x.2, List.drop_left]
    show ((x.1, x.2) :: (all ((fbytes x.1 x.2 ++ (joined L ++ c)).drop (x.2.length + 5))).1, (all ((fbytes x.1 x.2 ++ (joined L ++ c)).drop (x.2.length + 5))).2) = _
    rw [hd, ih (fun y hy => h y (List.mem_cons_of_mem _ hy))]
    rfl
theorem all_nil : all [] = ([], [], 0) := by decide +kernel
theorem all_zero : all [0, 0] = ([], [], 6) := by decide +kernel
end Go.Proofs.Ytahbcjgbhfkhbaa.FdMath
