/- Commands and their lines: laws in plain Lean. -/
import Derived.Test.YtaeafnpldlcdnaaDoorOrParse
import Derived.Lib.ParseIntBTie
import Derived.Lib.IndexLaws
set_option linter.unusedVariables false
set_option linter.unusedSimpArgs false
namespace Go.Proofs.YtaeafnpldlcdnaaDoor.Or
open Go.RowKit K
open Go.Lib (decDigits)
/-! ### Numerals -/
theorem dd_small {u : Nat} (h : u < 10) : decDigits u = [UInt8.ofNat (48 + u)] := by rw [decDigits, dif_pos h]
theorem dd_big {u : Nat} (h : ¬ u < 10) : decDigits u = decDigits (u / 10) ++ [UInt8.ofNat (48 + u % 10)] := by rw [decDigits, dif_neg h]
theorem dd_ne (u : Nat) : decDigits u ≠ [] := by
  by_cases h : u < 10
  · rw [dd_small h]; simp
  · rw [dd_big h]; simp
theorem dig_toNat (d : Nat) (h : d < 10) : (UInt8.ofNat (48 + d)).toNat = 48 + d := by
  simp only [UInt8.toNat_ofNat']
  omega
theorem dd_digits : ∀ (u : Nat) (c : UInt8), c ∈ decDigits u → 48 ≤ c.toNat ∧ c.toNat ≤ 57 := by
  intro u
  induction u using Nat.strongRecOn with
  | ind u ih =>
    intro c hc
    by_cases h : u < 10
    · rw [dd_small h] at hc
      simp only [List.mem_singleton] at hc
      subst hc
      rw [dig_toNat _ h]
      omega
    · rw [dd_big h] at hc
      rcases List.mem_append.1 hc with hc | hc
      · exact ih (u / 10) (by omega) c hc
      · simp only [List.mem_singleton] at hc
        subst hc
        rw [dig_toNat _ (by omega)]
        omega
theorem pu_append (M : Nat) (c : UInt8) (a : Nat) : ∀ (l : List UInt8) (acc : Nat), Lib.parseUintM M acc l = .ok a → Lib.parseUintM M acc (l ++ [c]) = Lib.parseUintM M a [c]
  | [], acc, h => by cases h; rfl
  | x :: l, acc, h => by
    simp only [List.cons_append, Lib.parseUintM] at h ⊢
    split at h
    · rename_i h1
      rw [if_pos h1]
      split at h
      · cases h
      · rename_i h2
        rw [if_neg h2]
        split at h
        · cases h
        · rename_i h3
          rw [if_neg h3]
          exact pu_append M c a l _ h
    · cases h
theorem dd_parse : ∀ u : Nat, u ≤ 1152921504606846976 → Lib.parseUintM (2 ^ 64 - 1) 0 (decDigits u) = .ok u := by
  intro u
  induction u using Nat.strongRecOn with
  | ind u ih =>
    intro hu
    by_cases h : u < 10
    · rw [dd_small h]
      simp only [Lib.parseUintM]
      rw [dig_toNat _ h, if_pos (by omega), if_neg (by omega), if_neg (by omega)]
      congr 1
      omega
    · rw [dd_big h, pu_append _ _ _ _ _ (ih (u / 10) (by omega) (by omega))]
      simp only [Lib.parseUintM]
      rw [dig_toNat _ (by omega), if_pos (by omega), if_neg (by omega), if_neg (by omega)]
      congr 1
      omega
theorem dd_inj {u v : Nat} (hu : u ≤ 1152921504606846976) (hv : v ≤ 1152921504606846976) (h : decDigits u = decDigits v) : u = v := by
  have h1 := dd_parse u hu
  rw [h, dd_parse v hv] at h1
  cases h1
  rfl
theorem dd_snoc {u d : Nat} (hu : 0 < u) (hd : d < 10) : decDigits (10 * u + d) = decDigits u ++ [UInt8.ofNat (48 + d)] := by
  rw [dd_big (by omega), show (10 * u + d) / 10 = u by omega, show (10 * u + d) % 10 = d by omega]
theorem dd_head : ∀ (u : Nat), 0 < u → ∀ c, (decDigits u).head? = some c → c.toNat ≠ 48 := by
  intro u
  induction u using Nat.strongRecOn with
  | ind u ih =>
    intro hu c hc
    by_cases h : u < 10
    · rw [dd_small h] at hc
      simp only [List.head?_cons, Option.some.injEq] at hc
      subst hc
      rw [dig_toNat _ h]
      omega
    · rw [dd_big h] at hc
      cases hd : decDigits (u / 10) with
      | nil => exact absurd hd (dd_ne _)
      | cons x r =>
        rw [hd] at hc
        exact ih (u / 10) (by omega) (by omega) c (by rw [hd]; exact hc)
theorem itoa_nat {n : Int} (h : 0 ≤ n) : Lib.itoa n = decDigits n.toNat := by
  unfold Lib.itoa
  rw [if_neg (by omega)]
theorem itoa_parse {n : Int} (h0 : 0 ≤ n) (h1 : n ≤ 1099511627776) : Lib.parseIntB 64 (Lib.itoa n) = .ok n := by
  rw [itoa_nat h0]
  cases hd : decDigits n.toNat with
  | nil => exact absurd hd (dd_ne _)
  | cons c r =>
    have hc := dd_digits n.toNat c (by rw [hd]; exact List.mem_cons_self)
    rw [Lib.parseIntB_plain 64 c r (by omega) (by omega), ← hd]
    unfold Lib.parseUintB
    rw [if_neg (dd_ne _), dd_parse _ (by omega)]
    simp only [Lib.signlessC]
    rw [if_neg (by omega)]
    congr 1
    omega
theorem itoa_ne {n : Int} (h : 0 ≤ n) : Lib.itoa n ≠ [] := by rw [itoa_nat h]; exact dd_ne _
theorem itoa_inj {m n : Int} (m0 : 0 ≤ m) (m1 : m ≤ 1099511627776) (n0 : 0 ≤ n) (n1 : n ≤ 1152921504606846976) (h : Lib.itoa m = Lib.itoa n) : m = n := by
  rw [itoa_nat m0, itoa_nat n0] at h
  have := dd_inj (by omega) (by omega) h
  omega
theorem dd_len : ∀ (k u : Nat), u < 10 ^ (k + 1) → (decDigits u).length ≤ k + 1
  | 0, u, h => by rw [dd_small (by simpa using h)]; simp
  | k + 1, u, h => by
    by_cases h10 : u < 10
    · rw [dd_small h10]; simp
    · rw [dd_big h10]
      have := dd_len k (u / 10) (by rw [Nat.pow_succ] at h; omega)
      simp only [List.length_append, List.length_cons, List.length_nil]
      omega
theorem itoa_len {n : Int} (h0 : 0 ≤ n) (h1 : n ≤ 1099511627776) : (Lib.itoa n).length ≤ 13 := by
  rw [itoa_nat h0]
  exact dd_len 12 _ (by omega)
/-! ### A line cut at its first blank -/
theorem occ32 (s : List UInt8) (i : Nat) : Lib.occAt s [32] i = (s[i]? == some 32) := by
  unfold Lib.occAt
  cases h : s.drop i with
  | nil =>
    have : s.length ≤ i := by simpa using h
    rw [List.getElem?_eq_none this]
    simp
  | cons c r =>
    have hi : s[i]? = some c := by
      have := congrArg (fun l => l[0]?) h
      simpa using this
    rw [hi]
    by_cases hc : c = 32
    · subst hc; rfl
    · have e1 : (some c == some (32 : UInt8)) = false := beq_eq_false_iff_ne.2 (fun e => hc (Option.some.inj e))
      rw [e1]
      have e2 : ((32 : UInt8) == c) = false := beq_eq_false_iff_ne.2 (fun e => hc e.symm)
      simp [List.isPrefixOf, e2]
theorem cut_at (w r : List UInt8) (hw : 32 ∉ w) : Lib.cut (w ++ 32 :: r) [32] = (w, r, true) := by
  have hi : Lib.index (w ++ 32 :: r) [32] = (w.length : Int) := by
    refine Lib.index_hit (fun j hj => ?_) (by simp) ?_
    · rw [occ32, List.getElem?_append_left hj]
      rw [beq_eq_false_iff_ne]
      intro h
      exact hw (List.mem_of_getElem? h)
    · rw [occ32, List.getElem?_append_right (Nat.le_refl _)]
      simp
  unfold Lib.cut
  rw [hi, if_pos (by omega)]
  simp
theorem cut_none (w : List UInt8) (hw : 32 ∉ w) : Lib.cut w [32] = (w, [], false) := by
  have hi : Lib.index w [32] = -1 := by
    refine Lib.index_past (i := w.length) (by simp) (fun j hj => ?_) (by simp)
    rw [occ32, beq_eq_false_iff_ne]
    intro h
    exact hw (List.mem_of_getElem? h)
  unfold Lib.cut
  rw [hi, if_neg (by omega)]
/-! ### The words -/
theorem word_ok (j : Nat) (h : j < 11) : 32 ∉ word (j + 1) ∧ word (j + 1) ≠ [] ∧ Lib.idxOfS wl (S (word (j + 1))) = (j : Int) := by
  rcases (by omega : j = 0 ∨ j = 1 ∨ j = 2 ∨ j = 3 ∨ j = 4 ∨ j = 5 ∨ j = 6 ∨ j = 7 ∨ j = 8 ∨ j = 9 ∨ j = 10) with rfl | rfl | rfl | rfl | rfl | rfl | rfl | rfl | rfl | rfl | rfl
  all_goals exact ⟨by decide, by decide, by decide +kernel⟩
theorem right_iff (k n : Int) : right k n = true ↔ 1 ≤ k ∧ k ≤ 11 ∧ 0 ≤ n ∧ n ≤ 1099511627776 ∧ (6 ≤ k ∨ n = 0) := by
  unfold right
  simp [Bool.and_eq_true]
theorem text_wrong {k n : Int} (h : right k n = false) : text k n = [] := by unfold text; rw [h]; rfl
theorem text_short {k n : Int} (h : right k n = true) (h6 : k < 6) : text k n = word k.toNat := by unfold text; rw [if_pos h, if_pos h6, List.append_nil]
theorem text_long {k n : Int} (h : right k n = true) (h6 : ¬ k < 6) : text k n = word k.toNat ++ 32 :: Lib.itoa n := by unfold text; rw [if_pos h, if_neg h6]
theorem word_int {k n : Int} (h : right k n = true) : 32 ∉ word k.toNat ∧ word k.toNat ≠ [] ∧ Lib.idxOfS wl (S (word k.toNat)) + 1 = k := by
  obtain ⟨h1, h2, h3, h4, h5⟩ := (right_iff k n).1 h
  obtain ⟨a, b, c⟩ := word_ok (k.toNat - 1) (by omega)
  rw [show k.toNat - 1 + 1 = k.toNat by omega] at a b c
  exact ⟨a, b, by rw [c]; omega⟩
theorem text_ne {k n : Int} (h : right k n = true) : text k n ≠ [] := by
  obtain ⟨a, b, c⟩ := word_int h
  unfold text
  rw [if_pos h]
  intro e
  exact b (List.append_eq_nil_iff.1 e).1
/-- A command's line, and back. -/
theorem parse_text {k n : Int} (h : right k n = true) : parse (text k n) = (k, n, 0) := by
  obtain ⟨a, b, c⟩ := word_int h
  obtain ⟨h1, h2, h3, h4, h5⟩ := (right_iff k n).1 h
  have hne := text_ne h
  by_cases h6 : k < 6
  · have hn : n = 0 := by omega
    have ht := text_short h h6
    have e1 : pw (text k n) = word k.toNat := by unfold pw; rw [ht, cut_none _ a]
    have e2 : pnum (text k n) = [] := by unfold pnum; rw [ht, cut_none _ a]
    have e3 : pk (text k n) = k := by unfold pk; rw [e1, c]
    have e4 : pval (text k n) = some 0 := by unfold pval; rw [if_pos e2]
    unfold parse
    rw [e4]
    simp only
    rw [e3, ← hn, if_neg (by simp [hne])]
  · have ht := text_long h h6
    have e1 : pw (text k n) = word k.toNat := by unfold pw; rw [ht, cut_at _ _ a]
    have e2 : pnum (text k n) = Lib.itoa n := by unfold pnum; rw [ht, cut_at _ _ a]
    have e3 : pk (text k n) = k := by unfold pk; rw [e1, c]
    have e4 : pval (text k n) = some n := by unfold pval; rw [if_neg (by rw [e2]; exact itoa_ne h3), e2, itoa_parse h3 h4]
    unfold parse
    rw [e4]
    simp only
    rw [e3, if_neg (by simp [hne])]
theorem parse_cases (l : List UInt8) : (parse l = (0, 0, 8) ∧ ∀ k n, right k n = true → text k n ≠ l) ∨ (∃ k n, right k n = true ∧ text k n = l ∧ parse l = (k, n, 0)) := by
  by_cases hx : ∃ k n, right k n = true ∧ text k n = l
  · obtain ⟨k, n, hr, ht⟩ := hx
    exact .inr ⟨k, n, hr, ht, by rw [← ht]; exact parse_text hr⟩
  · refine .inl ⟨?_, fun k n hr ht => hx ⟨k, n, hr, ht⟩⟩
    unfold parse
    split
    · rfl
    · rename_i v _
      by_cases hc : l = [] ∨ text (pk l) v ≠ l
      · rw [if_pos hc]
      · exfalso
        have h1 : l ≠ [] := fun e => hc (.inl e)
        have h2 : text (pk l) v = l := by
          by_cases h2 : text (pk l) v = l
          · exact h2
          · exact absurd (.inr h2) hc
        cases hr : right (pk l) v with
        | true => exact hx ⟨_, _, hr, h2⟩
        | false => exact h1 (by rw [← h2]; exact text_wrong hr)
theorem text_inj {k n k' n' : Int} (h : right k n = true) (h' : right k' n' = true) (e : text k n = text k' n') : k = k' ∧ n = n' := by
  have h1 := parse_text h
  rw [e, parse_text h'] at h1
  cases h1
  exact ⟨rfl, rfl⟩
end Go.Proofs.YtaeafnpldlcdnaaDoor.Or
