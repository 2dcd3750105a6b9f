/- The commands (package order): words, which are right, their lines. -/
import Derived.Test.YtaeafnpldlcdnaaDoorK8
import Derived.Test.YtaeafnpldlcdnaaDoorShelf
import Derived.Deep.RegionHeld3
import Derived.Lib.ItoaLen
set_option linter.unusedVariables false
set_option linter.unusedSimpArgs false
namespace Go.Proofs.YtaeafnpldlcdnaaDoor.Or
open Go.RowKit K
/-- The words, by their numbers from 1 on. -/
def word : Nat → List UInt8
  | 1 => [102, 108, 111, 111, 114]
  | 2 => [100, 114, 111, 112]
  | 3 => [108, 105, 115, 116]
  | 4 => [100, 101, 116, 97, 99, 104]
  | 5 => [114, 101, 118, 111, 107, 101]
  | 6 => [103, 105, 118, 101]
  | 7 => [107, 105, 99, 107]
  | 8 => [119, 114, 105, 116, 101]
  | 9 => [119, 97, 116, 99, 104]
  | 10 => [114, 101, 112, 108, 97, 121]
  | 11 => [108, 105, 109, 105, 116]
  | _ => []
def wcells : Array Value := #[.string (S (word 1)), .string (S (word 2)), .string (S (word 3)), .string (S (word 4)), .string (S (word 5)), .string (S (word 6)), .string (S (word 7)), .string (S (word 8)), .string (S (word 9)), .string (S (word 10)), .string (S (word 11))]
theorem wcells_at (i : Nat) (h : i < 11) : wcells[i]? = some (.string (S (word (i + 1)))) := by
  rcases (by omega : i = 0 ∨ i = 1 ∨ i = 2 ∨ i = 3 ∨ i = 4 ∨ i = 5 ∨ i = 6 ∨ i = 7 ∨ i = 8 ∨ i = 9 ∨ i = 10) with rfl | rfl | rfl | rfl | rfl | rfl | rfl | rfl | rfl | rfl | rfl <;> rfl
def WPost (w : World) (e : Ending) (w' : World) : Prop := ∃ g, e = .returned (.tuple #[.slice (some ⟨g, 0, none⟩) 11 11, .int .i64 6]) ∧ w'.heap[g]? = some (.cells wcells 9 (0, 0)) ∧ w.heap.size ≤ g ∧ Upd (fun _ => False) w w'
set_option maxHeartbeats 1000000 in
theorem words_calls (w : World) : Calls Tryd.prog 13 #[] w (WPost w) := by
  go_enter Tryd.func13, Tryd.ntmps13
  go_wp2
  go_ret2
  exact ⟨w.heap.size, rfl, heap_alloc_new w _, Nat.le_refl _, (Upd.refl _ _).alloc _⟩
/-- Is it a command? -/
def right (k n : Int) : Bool := decide (1 ≤ k) && (decide (k ≤ 11) && (decide (0 ≤ n) && (decide (n ≤ 1099511627776) && (decide (6 ≤ k) || n == 0))))
set_option maxHeartbeats 2000000 in
theorem right_calls (k n : Int) (w : World) : Calls Tryd.prog 9 #[.agg #[.int .i64 k, .int .i64 n]] w fun e w' => e = .returned (.bool (right k n)) ∧ Upd (fun _ => False) w w' := by
  obtain ⟨y, hy⟩ : ∃ y, y = right k n := ⟨_, rfl⟩
  rw [← hy]
  rcases (by omega : k < 1 ∨ (1 ≤ k ∧ 11 < k) ∨ (1 ≤ k ∧ k ≤ 11 ∧ n < 0) ∨ (1 ≤ k ∧ k ≤ 11 ∧ 0 ≤ n ∧ 1099511627776 < n) ∨ (1 ≤ k ∧ k < 6 ∧ 0 < n ∧ n ≤ 1099511627776) ∨ (1 ≤ k ∧ k < 6 ∧ n = 0) ∨ (6 ≤ k ∧ k ≤ 11 ∧ 0 ≤ n ∧ n ≤ 1099511627776)) with h1 | ⟨h1, h2⟩ | ⟨h1, h2, h3⟩ | ⟨h1, h2, h3, h4⟩ | ⟨h1, h2, h3, h4⟩ | ⟨h1, h2, rfl⟩ | ⟨h1, h2, h3, h4⟩
  · have e : y = false := by rw [hy]; unfold right; simp; omega
    subst e
    clear hy
    have n1 : ¬ 1 ≤ k := by omega
    go_enter Tryd.func9, Tryd.ntmps9
    have b0 := keepsC (o := 0) (heap_alloc_new w (.cells #[.int .i64 k, .int .i64 n] 24)) rfl
    have b1 := keepsC (o := 1) (heap_alloc_new w (.cells #[.int .i64 k, .int .i64 n] 24)) rfl
    have hk := (Upd.refl (fun _ => False) w).alloc (.cells #[.int .i64 k, .int .i64 n] 24)
    go_wp2_with fail
    refine (words_calls _).mono ?_
    rintro e w2 ⟨g, rfl, hg, hgs, hu⟩
    go_wp2
    go_ret
    exact ⟨rfl, hk.trans hu (fun _ _ h => h)⟩
  · have e : y = false := by rw [hy]; unfold right; simp; omega
    subst e
    clear hy
    have n2 : ¬ k ≤ 11 := by omega
    go_enter Tryd.func9, Tryd.ntmps9
    have b0 := keepsC (o := 0) (heap_alloc_new w (.cells #[.int .i64 k, .int .i64 n] 24)) rfl
    have b1 := keepsC (o := 1) (heap_alloc_new w (.cells #[.int .i64 k, .int .i64 n] 24)) rfl
    have hk := (Upd.refl (fun _ => False) w).alloc (.cells #[.int .i64 k, .int .i64 n] 24)
    go_wp2_with fail
    refine (words_calls _).mono ?_
    rintro e w2 ⟨g, rfl, hg, hgs, hu⟩
    go_wp2
    go_ret
    exact ⟨rfl, hk.trans hu (fun _ _ h => h)⟩
  · have e : y = false := by rw [hy]; unfold right; simp; omega
    subst e
    clear hy
    have n3 : ¬ 0 ≤ n := by omega
    go_enter Tryd.func9, Tryd.ntmps9
    have b0 := keepsC (o := 0) (heap_alloc_new w (.cells #[.int .i64 k, .int .i64 n] 24)) rfl
    have b1 := keepsC (o := 1) (heap_alloc_new w (.cells #[.int .i64 k, .int .i64 n] 24)) rfl
    have hk := (Upd.refl (fun _ => False) w).alloc (.cells #[.int .i64 k, .int .i64 n] 24)
    go_wp2_with fail
    refine (words_calls _).mono ?_
    rintro e w2 ⟨g, rfl, hg, hgs, hu⟩
    go_wp2
    go_ret
    exact ⟨rfl, hk.trans hu (fun _ _ h => h)⟩
  · have e : y = false := by rw [hy]; unfold right; simp; omega
    subst e
    clear hy
    have n4 : ¬ n ≤ 1099511627776 := by omega
    go_enter Tryd.func9, Tryd.ntmps9
    have b0 := keepsC (o := 0) (heap_alloc_new w (.cells #[.int .i64 k, .int .i64 n] 24)) rfl
    have b1 := keepsC (o := 1) (heap_alloc_new w (.cells #[.int .i64 k, .int .i64 n] 24)) rfl
    have hk := (Upd.refl (fun _ => False) w).alloc (.cells #[.int .i64 k, .int .i64 n] 24)
    go_wp2_with fail
    refine (words_calls _).mono ?_
    rintro e w2 ⟨g, rfl, hg, hgs, hu⟩
    go_wp2
    go_ret
    exact ⟨rfl, hk.trans hu (fun _ _ h => h)⟩
  · have e : y = false := by rw [hy]; unfold right; simp; omega
    subst e
    clear hy
    have m3 : 0 ≤ n := by omega
    have m2 : k ≤ 11 := by omega
    have n5 : ¬ 6 ≤ k := by omega
    have n6 : (n == 0) = false := beq_eq_false_iff_ne.2 (by omega)
    go_enter Tryd.func9, Tryd.ntmps9
    have b0 := keepsC (o := 0) (heap_alloc_new w (.cells #[.int .i64 k, .int .i64 n] 24)) rfl
    have b1 := keepsC (o := 1) (heap_alloc_new w (.cells #[.int .i64 k, .int .i64 n] 24)) rfl
    have hk := (Upd.refl (fun _ => False) w).alloc (.cells #[.int .i64 k, .int .i64 n] 24)
    go_wp2_with fail
    refine (words_calls _).mono ?_
    rintro e w2 ⟨g, rfl, hg, hgs, hu⟩
    go_wp2
    go_ret
    exact ⟨by show Ending.returned (.bool (decide (6 ≤ k))) = _; rw [decide_eq_false (show ¬ 6 ≤ k by omega)], hk.trans hu (fun _ _ h => h)⟩
  · have e : y = true := by rw [hy]; unfold right; simp; omega
    subst e
    clear hy
    have m2 : k ≤ 11 := by omega
    have n5 : ¬ 6 ≤ k := by omega
    go_enter Tryd.func9, Tryd.ntmps9
    have b0 := keepsC (o := 0) (heap_alloc_new w (.cells #[.int .i64 k, .int .i64 0] 24)) rfl
    have b1 := keepsC (o := 1) (heap_alloc_new w (.cells #[.int .i64 k, .int .i64 0] 24)) rfl
    have hk := (Upd.refl (fun _ => False) w).alloc (.cells #[.int .i64 k, .int .i64 0] 24)
    go_wp2_with fail
    refine (words_calls _).mono ?_
    rintro e w2 ⟨g, rfl, hg, hgs, hu⟩
    go_wp2
    go_ret
    exact ⟨rfl, hk.trans hu (fun _ _ h => h)⟩
  · have e : y = true := by rw [hy]; unfold right; simp; omega
    subst e
    clear hy
    have m1 : 1 ≤ k := by omega
    have m6 : decide (6 ≤ k) = true := decide_eq_true h1
    go_enter Tryd.func9, Tryd.ntmps9
    have b0 := keepsC (o := 0) (heap_alloc_new w (.cells #[.int .i64 k, .int .i64 n] 24)) rfl
    have b1 := keepsC (o := 1) (heap_alloc_new w (.cells #[.int .i64 k, .int .i64 n] 24)) rfl
    have hk := (Upd.refl (fun _ => False) w).alloc (.cells #[.int .i64 k, .int .i64 n] 24)
    go_wp2_with fail
    refine (words_calls _).mono ?_
    rintro e w2 ⟨g, rfl, hg, hgs, hu⟩
    go_wp2
    go_ret
    exact ⟨rfl, hk.trans hu (fun _ _ h => h)⟩
theorem word_len (i : Nat) (h : i < 11) : (word (i + 1)).length ≤ 6 := by
  rcases (by omega : i = 0 ∨ i = 1 ∨ i = 2 ∨ i = 3 ∨ i = 4 ∨ i = 5 ∨ i = 6 ∨ i = 7 ∨ i = 8 ∨ i = 9 ∨ i = 10) with rfl | rfl | rfl | rfl | rfl | rfl | rfl | rfl | rfl | rfl | rfl <;> decide
/-- What the library reads of the variables laid at the start. -/
structure Env (w : World) : Prop where
  tab : Lib.TabIs Tryd.prog w "internal/strconv.uint64pow10" .u64 Lib.pow10Tab
  cut : ∃ m, w.cell? ⟨1, 0, none⟩ = some (.int .i64 m)
  syn : ∃ tp p, w.var? Tryd.prog "strconv.ErrSyntax" = some #[.iface tp p]
  rng : ∃ tp p, w.var? Tryd.prog "strconv.ErrRange" = some #[.iface tp p]
theorem var_upd {P : Program} {w w1 : World} {name : String} {cs : Array Value} (h : w.var? P name = some cs) (k : Upd (fun _ => False) w w1) : w1.var? P name = some cs := by
  unfold World.var? at h ⊢
  cases hg : P.globalNamed name with
  | none => rw [hg] at h; simp at h
  | some g =>
    rw [hg] at h
    simp only [Option.bind_some] at h ⊢
    split at h
    · rename_i c t f hb
      rw [k.blk hb (fun h => h)]
      exact h
    · cases h
theorem Env.up {w w1 : World} (h : Env w) (k : Upd (fun _ => False) w w1) : Env w1 := by
  obtain ⟨m, hm⟩ := h.cut
  obtain ⟨t1, p1, h1⟩ := h.syn
  obtain ⟨t2, p2, h2⟩ := h.rng
  exact ⟨var_upd h.tab k, ⟨m, k.cell hm (fun h => h)⟩, ⟨t1, p1, var_upd h1 k⟩, ⟨t2, p2, var_upd h2 k⟩⟩
theorem grow_upd {S : Nat → Prop} {w w1 : World} (h : Upd S w w1) (os : Array Obj) : Upd S w (Go.Sort.grow w1 os) := by
  refine h.trans (T := fun _ => False) ⟨rfl, rfl, rfl, ?_, fun i hi _ => ?_⟩ (fun _ _ h => h.elim)
  · simp [Go.Sort.grow]
  · simp only [Go.Sort.grow]
    rw [Array.getElem?_append_left hi]
theorem format_calls {w : World} (h : Env w) (n : Int) (h0 : 0 ≤ n) (h1 : n ≤ 1099511627776) : Calls Tryd.prog 12 #[.int .i64 n, .int .i64 10] w fun e w' => e = .returned (.string (S (Lib.itoa n))) ∧ Upd (fun _ => False) w w' := by
  refine (Tryd.strconv_FormatInt_10 n (by omega) (by omega) w h.tab).mono fun e w' ⟨he, k, os, hw⟩ => ⟨he, ?_⟩
  rw [hw]
  exact grow_upd ((Upd.refl (fun _ => False) w).drewN k) os
/-- A command as a line. -/
def text (k n : Int) : List UInt8 := if right k n then word k.toNat ++ (if k < 6 then [] else 32 :: Lib.itoa n) else []
set_option maxHeartbeats 2000000 in
theorem string_calls {w : World} (h : Env w) (k n : Int) : Calls Tryd.prog 8 #[.agg #[.int .i64 k, .int .i64 n]] w fun e w' => e = .returned (.string (S (text k n))) ∧ Upd (fun _ => False) w w' := by
  have HE := Asd.mk h
  obtain ⟨tx, htx⟩ : ∃ tx, tx = text k n := ⟨_, rfl⟩
  rw [← htx]
  have HX := Asd.mk htx
  have b0 := keepsC (o := 0) (heap_alloc_new w (.cells #[.int .i64 k, .int .i64 n] 24)) rfl
  have b1 := keepsC (o := 1) (heap_alloc_new w (.cells #[.int .i64 k, .int .i64 n] 24)) rfl
  have hk := (Upd.refl (fun _ => False) w).alloc (.cells #[.int .i64 k, .int .i64 n] 24)
  clear h htx
  cases hr : right k n with
  | false =>
    have HX2 : Asd (tx = []) := ⟨by rw [HX.out]; unfold text; rw [hr]; rfl⟩
    have HR := Asd.mk hr
    clear hr HX
    go_enter Tryd.func8, Tryd.ntmps8
    go_wp2_with fail
    refine (words_calls _).mono ?_
    rintro e w2 ⟨g, rfl, hg, hgs, hu⟩
    have hk2 : Upd (fun _ => False) _ w2 := hk.trans hu (fun _ _ h => h)
    go_wp2_with fail
    refine (right_calls k n _).mono ?_
    rw [HR.out]
    rintro e w3 ⟨rfl, hu3⟩
    go_wp2
    go_ret
    exact ⟨by rw [HX2.out]; rfl, hk2.trans hu3 (fun _ _ h => h)⟩
  | true =>
    have hrr := hr
    simp only [right, Bool.and_eq_true, decide_eq_true_eq, Bool.or_eq_true] at hrr
    obtain ⟨r1, r2, r3, r4, r5⟩ := hrr
    obtain ⟨j, hj⟩ : ∃ j : Nat, k = ((j + 1 : Nat) : Int) := ⟨(k - 1).toNat, by omega⟩
    have hj11 : j < 11 := by omega
    have hkj : k - 1 = (j : Int) := by omega
    have hji : (j : Int) < 11 := by omega
    have HR := Asd.mk hr
    by_cases h6 : k < 6
    · have HX2 : Asd (tx = word (j + 1)) := ⟨by rw [HX.out]; unfold text; rw [hr, if_pos rfl, if_pos h6, hj, List.append_nil]; rfl⟩
      clear hr HX r5 hj
      go_enter Tryd.func8, Tryd.ntmps8
      go_wp2_with fail
      refine (words_calls _).mono ?_
      rintro e w2 ⟨g, rfl, hg, hgs, hu⟩
      have hk2 : Upd (fun _ => False) _ w2 := hk.trans hu (fun _ _ h => h)
      go_wp2_with fail
      refine (right_calls k n _).mono ?_
      rw [HR.out]
      rintro e w3 ⟨rfl, hu3⟩
      have cg := keepsC (o := j) (hu3.blk hg (fun h => h)) (wcells_at j hj11)
      have hu4 := hu.trans hu3 (fun _ _ h => h)
      have hk3 : Upd (fun _ => False) w3 w3 := Upd.refl _ _
      go_wp2
      go_ret
      exact ⟨by rw [HX2.out]; rfl, hk2.trans hu3 (fun _ _ h => h)⟩
    · have HX2 : Asd (tx = word (j + 1) ++ 32 :: Lib.itoa n) := ⟨by rw [HX.out]; unfold text; rw [hr, if_pos rfl, if_neg h6, hj]; rfl⟩
      clear hr HX r5 hj
      go_enter Tryd.func8, Tryd.ntmps8
      go_wp2_with fail
      refine (words_calls _).mono ?_
      rintro e w2 ⟨g, rfl, hg, hgs, hu⟩
      have hk2 : Upd (fun _ => False) _ w2 := hk.trans hu (fun _ _ h => h)
      go_wp2_with fail
      refine (right_calls k n _).mono ?_
      rw [HR.out]
      rintro e w3 ⟨rfl, hu3⟩
      have cg := keepsC (o := j) (hu3.blk hg (fun h => h)) (wcells_at j hj11)
      have hu4 := hu.trans hu3 (fun _ _ h => h)
      have b0' := keepsC (o := 0) (hu4.blk (heap_alloc_new w (.cells #[.int .i64 k, .int .i64 n] 24)) (fun h => h)) rfl
      have b1' := keepsC (o := 1) (hu4.blk (heap_alloc_new w (.cells #[.int .i64 k, .int .i64 n] 24)) (fun h => h)) rfl
      clear b0 b1
      have hk3 : Upd (fun _ => False) w3 w3 := Upd.refl _ _
      have HE3 := Asd.mk (HE.out.up (hk2.trans hu3 (fun _ _ h => h)))
      have hwl := word_len j hj11
      have hil := Lib.itoa_length_le n (by omega) (by omega)
      have hn1 : ¬ 9223372036854775807 < (word (j + 1)).length + 1 := by omega
      have hn2 : ¬ 9223372036854775807 < (word (j + 1)).length + 1 + (Lib.itoa n).length := by omega
      have hwr : IntKind.i64.wrap (j : Int) = (j : Int) := w64i _ (by omega) (by omega)
      go_wp2
      refine wp_region_held_drew (S := fun W => Upd (fun _ => False) w3 W) (by kernel_rfl) (by exact (by repeat (first | assumption | with_reducible exact Upd.refl _ _ | with_reducible refine Upd.drewN ?_ _ | with_reducible refine Upd.drew ?_ | with_reducible refine Upd.alloc ?_ _ | with_reducible refine Upd.setAt ?_ ?_ | exact Or.inl rfl | exact Or.inr (by simp) | exact Or.inr (by omega)))) (fun hHeld => ?_)
      refine wpAnyH_take (i := 0) (oi := ?_) (v := ?_) ?_ (by kernel_rfl) (by kernel_rfl) (by kernel_rfl) ?_ (Or.inl ⟨?_, ?_⟩) (by assumption) ?_
      rotate_left 2
      · (simp only [List.getElem?_toArray, List.getElem?_cons_succ, List.getElem?_cons_zero]; exact rfl)
      · exact (fun _ _ _ h => h)
      · rfl
      · (intro w hSw; (try dsimp only at hSw); go_simp; (try with_reducible rfl))
      try simp only [Act.put, List.setIfInBounds_toArray, List.set_cons_zero, List.set_cons_succ]
      refine wpAnyH_take (i := 1) (oi := ?_) (v := ?_) ?_ (by kernel_rfl) (by kernel_rfl) (by kernel_rfl) ?_ (Or.inl ⟨?_, ?_⟩) (by assumption) ?_
      rotate_left 2
      · (simp only [List.getElem?_toArray, List.getElem?_cons_succ, List.getElem?_cons_zero]; exact rfl)
      · exact (fun _ _ _ h => h)
      · rfl
      · (intro w hSw; (try dsimp only at hSw); go_simp; (try with_reducible rfl))
      try simp only [Act.put, List.setIfInBounds_toArray, List.set_cons_zero, List.set_cons_succ]
      refine wpAnyH_take (i := 2) (oi := ?_) (v := ?_) ?_ (by kernel_rfl) (by kernel_rfl) (by kernel_rfl) ?_ (Or.inl ⟨?_, ?_⟩) (by assumption) ?_
      rotate_left 2
      · (simp only [List.getElem?_toArray, List.getElem?_cons_succ, List.getElem?_cons_zero]; exact rfl)
      · exact (fun _ _ _ h => h)
      · rfl
      · (intro w hSw; (try dsimp only at hSw); go_simp; (try with_reducible rfl))
      try simp only [Act.put, List.setIfInBounds_toArray, List.set_cons_zero, List.set_cons_succ]
      refine wpAnyH_take (i := 3) (oi := ?_) (v := ?_) ?_ (by kernel_rfl) (by kernel_rfl) (by kernel_rfl) ?_ (Or.inl ⟨?_, ?_⟩) (by assumption) ?_
      rotate_left 2
      · (simp only [List.getElem?_toArray, List.getElem?_cons_succ, List.getElem?_cons_zero]; exact rfl)
      · exact (fun _ _ _ h => h)
      · rfl
      · (intro w hSw; (try dsimp only at hSw); go_simp; (try with_reducible rfl))
      try simp only [Act.put, List.setIfInBounds_toArray, List.set_cons_zero, List.set_cons_succ]
      refine wpAnyH_take (i := 4) (oi := ?_) (v := ?_) ?_ (by kernel_rfl) (by kernel_rfl) (by kernel_rfl) ?_ (Or.inl ⟨?_, ?_⟩) (by assumption) ?_
      rotate_left 2
      · (simp only [List.getElem?_toArray, List.getElem?_cons_succ, List.getElem?_cons_zero]; exact rfl)
      · exact (fun _ _ _ h => h)
      · rfl
      · (intro w hSw; (try dsimp only at hSw); go_simp; (try with_reducible rfl))
      try simp only [Act.put, List.setIfInBounds_toArray, List.set_cons_zero, List.set_cons_succ]
      refine wpAnyH_take (i := 5) (oi := ?_) (v := ?_) ?_ (by kernel_rfl) (by kernel_rfl) (by kernel_rfl) ?_ (Or.inl ⟨?_, ?_⟩) (by assumption) ?_
      rotate_left 2
      · (simp only [List.getElem?_toArray, List.getElem?_cons_succ, List.getElem?_cons_zero]; exact rfl)
      · exact (fun _ _ _ h => h)
      · rfl
      · (intro w hSw; (try dsimp only at hSw); go_simp; (try with_reducible rfl))
      try simp only [Act.put, List.setIfInBounds_toArray, List.set_cons_zero, List.set_cons_succ]
      refine wpAnyH_take (i := 6) (oi := ?_) (v := ?_) ?_ (by kernel_rfl) (by kernel_rfl) (by kernel_rfl) ?_ (Or.inl ⟨?_, ?_⟩) (by assumption) ?_
      rotate_left 2
      · (simp only [List.getElem?_toArray, List.getElem?_cons_succ, List.getElem?_cons_zero]; exact rfl)
      · exact (fun _ _ _ h => h)
      · rfl
      · (intro w hSw; (try dsimp only at hSw); go_simp; (try with_reducible rfl))
      try simp only [Act.put, List.setIfInBounds_toArray, List.set_cons_zero, List.set_cons_succ]
      refine wpAnyH_take (i := 7) (oi := ?_) (v := ?_) ?_ (by kernel_rfl) (by kernel_rfl) (by kernel_rfl) ?_ (Or.inl ⟨?_, ?_⟩) (by assumption) ?_
      rotate_left 2
      · (simp only [List.getElem?_toArray, List.getElem?_cons_succ, List.getElem?_cons_zero]; exact rfl)
      · exact (fun _ _ _ h => h)
      · rfl
      · (intro w hSw; (try dsimp only at hSw); go_simp; (try with_reducible rfl))
      try simp only [Act.put, List.setIfInBounds_toArray, List.set_cons_zero, List.set_cons_succ]
      refine wpAnyH_take (i := 8) (oi := ?_) (v := ?_) ?_ (by kernel_rfl) (by kernel_rfl) (by kernel_rfl) ?_ (Or.inl ⟨?_, ?_⟩) (by assumption) ?_
      rotate_left 2
      · (simp only [List.getElem?_toArray, List.getElem?_cons_succ, List.getElem?_cons_zero]; exact rfl)
      · exact (fun _ _ _ h => h)
      · rfl
      · (intro w hSw; (try dsimp only at hSw); go_simp; (try with_reducible rfl))
      try simp only [Act.put, List.setIfInBounds_toArray, List.set_cons_zero, List.set_cons_succ]
      refine wpAnyH_ready (rs := [9]) (by kernel_rfl) (by simp) (AllReadyH.cons (o := ?_) ?_ (fun K hK => ?_) AllReadyH.nil)
      rotate_left 1
      · (simp only [List.getElem?_toArray, List.getElem?_cons_succ, List.getElem?_cons_zero]; exact rfl)
      (go_simp; (go_at_call 12; refine (format_calls (HE3.out.up (by repeat (first | assumption | with_reducible exact Upd.refl _ _ | with_reducible refine Upd.drewN ?_ _ | with_reducible refine Upd.drew ?_ | with_reducible refine Upd.alloc ?_ _ | with_reducible refine Upd.setAt ?_ ?_ | exact Or.inl rfl | exact Or.inr (by simp) | exact Or.inr (by omega)))) n r3 r4).mono ?_; rintro e w5 ⟨rfl, hu5⟩; have hu6 := (show Upd (fun _ => False) w3 w3.drew from (by repeat (first | assumption | with_reducible exact Upd.refl _ _ | with_reducible refine Upd.drewN ?_ _ | with_reducible refine Upd.drew ?_ | with_reducible refine Upd.alloc ?_ _ | with_reducible refine Upd.setAt ?_ ?_ | exact Or.inl rfl | exact Or.inr (by simp) | exact Or.inr (by omega)))).trans hu5 (fun _ _ h => h); clear hu5))
      refine hK.out _ _ (by exact (by repeat (first | assumption | with_reducible exact Upd.refl _ _ | with_reducible refine Upd.drewN ?_ _ | with_reducible refine Upd.drew ?_ | with_reducible refine Upd.alloc ?_ _ | with_reducible refine Upd.setAt ?_ ?_ | exact Or.inl rfl | exact Or.inr (by simp) | exact Or.inr (by omega)))) (fun hHeld => ?_)
      clear hK K
      try simp only [Act.put, List.setIfInBounds_toArray, List.set_cons_zero, List.set_cons_succ]
      refine wpAnyH_take (i := 10) (oi := ?_) (v := ?_) ?_ (by kernel_rfl) (by kernel_rfl) (by kernel_rfl) ?_ (Or.inl ⟨?_, ?_⟩) (by assumption) ?_
      rotate_left 2
      · (simp only [List.getElem?_toArray, List.getElem?_cons_succ, List.getElem?_cons_zero]; exact rfl)
      · exact (fun _ _ _ h => h)
      · rfl
      · (intro w hSw; (try dsimp only at hSw); go_simp; (try with_reducible rfl))
      try simp only [Act.put, List.setIfInBounds_toArray, List.set_cons_zero, List.set_cons_succ]
      refine wpAnyH_take (i := 11) (oi := ?_) (v := ?_) ?_ (by kernel_rfl) (by kernel_rfl) (by kernel_rfl) ?_ (Or.inl ⟨?_, ?_⟩) (by assumption) ?_
      rotate_left 2
      · (simp only [List.getElem?_toArray, List.getElem?_cons_succ, List.getElem?_cons_zero]; exact rfl)
      · exact (fun _ _ _ h => h)
      · rfl
      · (intro w hSw; (try dsimp only at hSw); go_simp; (try with_reducible rfl))
      try simp only [Act.put, List.setIfInBounds_toArray, List.set_cons_zero, List.set_cons_succ]
      refine wpAnyH_done (by kernel_rfl) ?_ _
      go_wp2
      go_ret
      exact ⟨by
        rw [HX2.out]
        show Ending.returned (.string (S (word (j + 1)) ++ S [32] ++ S (Lib.itoa n))) = _
        rw [S_append, S_append, List.append_assoc]
        rfl, hk2.trans (hu3.trans hu6 (fun _ _ h => h)) (fun _ _ h => h)⟩
end Go.Proofs.YtaeafnpldlcdnaaDoor.Or
