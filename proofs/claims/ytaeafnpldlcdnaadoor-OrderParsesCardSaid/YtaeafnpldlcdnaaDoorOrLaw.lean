/- Layer 9's own reading of a line (kibitzerlaw09.Parse), against order.Parse's. -/
import Derived.Test.YtaeafnpldlcdnaaDoorOrHead
set_option linter.unusedVariables false
set_option linter.unusedSimpArgs false
namespace Go.Proofs.YtaeafnpldlcdnaaDoor.Or
open Go.RowKit K
open Go.Lib (decDigits)
/-! ### In plain Lean -/
/-- What no kind below k is a word of. -/
def Past (l : List UInt8) (k : Int) : Prop := ∀ j n, j < k → right j n = true → text j n ≠ l
theorem past_one (l : List UInt8) : Past l 1 := fun j n h hr => by
  have := (right_iff j n).1 hr
  omega
theorem right0 {k : Int} (h1 : 1 ≤ k) (h2 : k ≤ 11) : right k 0 = true := (right_iff k 0).2 ⟨h1, h2, by omega, by omega, .inr rfl⟩
theorem past_short {l : List UInt8} {k : Int} (h : Past l k) (h6 : k < 6) (ht : text k 0 ≠ l) : Past l (k + 1) := fun j n hj hr => by
  by_cases he : j < k
  · exact h j n he hr
  · have hjk : j = k := by omega
    subst hjk
    have := (right_iff j n).1 hr
    have hn : n = 0 := by omega
    subst hn
    exact ht
theorem past_end {l : List UInt8} (h : Past l 12) : parse l = (0, 0, 8) := by
  rcases parse_cases l with ⟨h1, _⟩ | ⟨k, n, hr, ht, _⟩
  · exact h1
  · have := (right_iff k n).1 hr
    exact absurd ht (h k n (by omega) hr)
/-- A kind's word and the blank behind it. -/
def lead (k : Int) : List UInt8 := word k.toNat ++ [32]
theorem text_lead {k n : Int} (h : right k n = true) (h6 : ¬ k < 6) : text k n = lead k ++ Lib.itoa n := by
  rw [text_long h h6]
  unfold lead
  rw [List.append_assoc]
  rfl
theorem text0 {k : Int} (h6 : ¬ k < 6) (h11 : k ≤ 11) : text k 0 = lead k ++ [48] := by
  rw [text_lead (right0 (by omega) h11) h6, itoa_nat (by omega), show Int.toNat 0 = 0 from rfl, dd_small (by omega)]
  rfl
theorem past_long {l : List UInt8} {k : Int} (h : Past l k) (h6 : ¬ k < 6) (hn : ∀ n, right k n = true → text k n ≠ l) : Past l (k + 1) := fun j n hj hr => by
  by_cases he : j < k
  · exact h j n he hr
  · have hjk : j = k := by omega
    subst hjk
    exact hn n hr
theorem lead_inj {k k' n' : Int} {r : List UInt8} (h6 : ¬ k < 6) (h11 : k ≤ 11) (hr : right k' n' = true) (h : text k' n' = lead k ++ r) : k' = k := by
  have hk := right0 (k := k) (by omega) h11
  obtain ⟨a, b, c⟩ := word_int hk
  obtain ⟨a', b', c'⟩ := word_int hr
  have e1 : pw (lead k ++ r) = word k.toNat := by
    unfold pw lead
    rw [List.append_assoc, List.singleton_append, cut_at _ _ a]
  have e2 : pw (text k' n') = word k'.toNat := by
    unfold pw
    by_cases h7 : k' < 6
    · rw [text_short hr h7, cut_none _ a']
    · rw [text_long hr h7, cut_at _ _ a']
  rw [h, e1] at e2
  rw [e2] at c
  omega
/-- A line that begins with a kind's word: its number decides. -/
theorem lead_bad {k : Int} {r : List UInt8} (h6 : ¬ k < 6) (h11 : k ≤ 11) (h : ∀ n, right k n = true → Lib.itoa n ≠ r) : parse (lead k ++ r) = (0, 0, 8) := by
  rcases parse_cases (lead k ++ r) with ⟨h1, _⟩ | ⟨k', n', hr, ht, _⟩
  · exact h1
  · have hk := lead_inj h6 h11 hr ht
    subst hk
    rw [text_lead hr h6] at ht
    exact absurd (List.append_cancel_left ht) (h n' hr)
theorem lead_good {k n : Int} (h6 : ¬ k < 6) (hr : right k n = true) : parse (lead k ++ Lib.itoa n) = (k, n, 0) := by
  rw [← text_lead hr h6]
  exact parse_text hr
/-- What the digits so far come to. -/
def Num (r : List UInt8) (m : Nat) (n : Int) : Prop := (m = 0 ∧ n = 0) ∨ (0 < m ∧ 0 < n ∧ Lib.itoa n = r.take m)
theorem num_step {r : List UInt8} {m : Nat} {n : Int} {c : UInt8} (h : Num r m n) (hm : r[m]? = some c) (h1 : 48 ≤ c.toNat) (h2 : c.toNat ≤ 57) (h3 : m = 0 → c.toNat ≠ 48) : Num r (m + 1) (10 * n + ((c.toNat : Int) - 48)) := by
  have ht : r.take (m + 1) = r.take m ++ [c] := by rw [List.take_add_one, hm]; rfl
  have hc : UInt8.ofNat (48 + (c.toNat - 48)) = c := by
    rw [show 48 + (c.toNat - 48) = c.toNat by omega]
    simp
  rcases h with ⟨rfl, rfl⟩ | ⟨hp, hn, hi⟩
  · have h4 := h3 rfl
    refine .inr ⟨by omega, by omega, ?_⟩
    rw [itoa_nat (by omega), show (10 * (0 : Int) + ((c.toNat : Int) - 48)).toNat = c.toNat - 48 by omega, dd_small (by omega), hc, ht]
    rfl
  · refine .inr ⟨by omega, by omega, ?_⟩
    rw [itoa_nat (by omega), show (10 * n + ((c.toNat : Int) - 48)).toNat = 10 * n.toNat + (c.toNat - 48) by omega, dd_snoc (by omega) (by omega), hc, ht, ← hi, itoa_nat (by omega)]
theorem num_bad {k : Int} {r : List UInt8} {m : Nat} {c : UInt8} (hm : r[m]? = some c) (h : c.toNat < 48 ∨ 57 < c.toNat ∨ (m = 0 ∧ c.toNat = 48 ∧ r ≠ [48])) : ∀ n, right k n = true → Lib.itoa n ≠ r := fun n hr he => by
  obtain ⟨_, _, h0, _, _⟩ := (right_iff k n).1 hr
  rw [itoa_nat h0] at he
  have hmem : c ∈ decDigits n.toNat := by rw [he]; exact List.mem_of_getElem? hm
  have hd := dd_digits _ c hmem
  rcases h with h | h | ⟨rfl, h48, hne⟩
  · omega
  · omega
  · by_cases hz : n.toNat = 0
    · rw [hz, dd_small (by omega)] at he
      exact hne he.symm
    · refine dd_head n.toNat (by omega) c ?_ h48
      rw [he, List.head?_eq_getElem?]
      exact hm
/-! ### The walk -/
@[go_sem] theorem S_get (l : List UInt8) (i : Nat) (h : i < (S l).size) : (S l)[i]'h = l[i]'(by rw [S_size] at h; exact h) := rfl
theorem refl_of {w : World} {g : Nat} {o : Obj} (h : w.heap[g]? = some o) : Upd (fun _ => False) w w := Upd.refl _ _
def LPost (l : List UInt8) (w : World) (e : Ending) (w' : World) : Prop := ∃ (k n : Int) (ok : Bool), e = .returned (.tuple #[.agg #[.int .i64 k, .int .i64 n], .bool ok]) ∧ (ok = true → parse l = (k, n, 0)) ∧ (ok = false → parse l = (0, 0, 8)) ∧ Upd (fun _ => False) w w'
set_option maxRecDepth 10000 in
set_option maxHeartbeats 4000000 in
theorem law_calls {w : World} (h : Env w) (l : List UInt8) (hl : l.length ≤ 100) : Calls Tryd.prog 11 #[.string (S l)] w (LPost l w) := by
  have HE := Asd.mk h
  have hn1 := heap_alloc_new w (.cells #[.int .i64 0, .int .i64 0] 24)
  have hk1 := (Upd.refl (fun _ => False) w).alloc (.cells #[.int .i64 0, .int .i64 0] 24)
  clear h
  go_enter Tryd.func11, Tryd.ntmps11
  go_wp2
  go_loopw [4, 5, 6, 7] (fun v4 v5 v6 v7 wr => ∃ k : Int, v4 = .int .i64 k ∧ 1 ≤ k ∧ k ≤ 12 ∧ Asd (Past l k) ∧ Asd (wr.heap[w.heap.size]? = some (.cells #[.int .i64 0, .int .i64 0] 24 (0, 0))) ∧ Asd (Upd (fun _ => False) w wr)) (fun v4 _ _ _ _ => (12 - intOf v4).toNat)
  case atStart => exact ⟨1, rfl, by omega, by omega, ⟨past_one l⟩, ⟨hn1⟩, ⟨hk1⟩⟩
  case round =>
    clear hn1 hk1
    obtain ⟨k, rfl, hk1, hk12, HP, HB, HU⟩ := hrel
    by_cases h12 : k = 12
    · subst h12
      have hz := past_end HP.out
      have HZ := Asd.mk hz
      obtain ⟨s1, s2⟩ := store2 HB.out
      have rf := fun o => keepsF (o := o) HB.out
      have r0 := keepsC (o := 0) HB.out rfl
      have r1 := keepsC (o := 1) HB.out rfl
      have hkw : Upd (fun _ => False) wr wr := Upd.refl _ _
      clear hz
      go_wp2
      refine bodyPost_ret (v := .tuple #[.agg #[.int .i64 0, .int .i64 0], .bool false]) (by simp [results, Tryd.results11, go_sem, s1, s2]) rfl ?_
      exact ⟨_, _, _, rfl, (fun h => by cases h), fun _ => HZ.out, (HU.out.setAt (.inr (Nat.le_refl _))).setAt (.inr (Nat.le_refl _))⟩
    have hk11 : k ≤ 11 := by omega
    have hsl : ∀ x y : List UInt8, ((S x).toList == (S y).toList) = (x == y) := fun x y => by rw [ByteArray.toList_eq, ByteArray.toList_eq]; simp [S]
    have HR0 := Asd.mk (right0 hk1 hk11)
    obtain ⟨tx, htx⟩ : ∃ tx, tx = text k 0 := ⟨_, rfl⟩
    have HT := Asd.mk htx
    clear htx
    go_wp2_with fail
    refine (text_calls (HE.out.up HU.out) k 0).mono ?_
    rw [← HT.out]
    rintro e w2 ⟨rfl, hu2⟩
    have HB2 := Asd.mk (hu2.blk HB.out (fun h => h))
    have HU2 := Asd.mk (HU.out.trans hu2 (fun _ _ h => h))
    clear hu2
    by_cases ht : tx = l
    · have hte : (tx == l) = true := beq_iff_eq.2 ht
      have HZ : Asd (parse l = (k, 0, 0)) := ⟨by rw [← ht, HT.out]; exact parse_text HR0.out⟩
      obtain ⟨s1, s2⟩ := store2 HB2.out
      have rf := fun o => keepsF (o := o) HB2.out
      have r0 := keepsC (o := 0) HB2.out rfl
      have r1 := keepsC (o := 1) HB2.out rfl
      have hkw : Upd (fun _ => False) w2 w2 := Upd.refl _ _
      clear ht
      go_wp2
      refine bodyPost_ret (v := .tuple #[.agg #[.int .i64 k, .int .i64 0], .bool true]) (by simp [results, Tryd.results11, go_sem, s1, s2]) rfl ?_
      exact ⟨_, _, _, rfl, fun _ => HZ.out, (fun h => by cases h), (HU2.out.setAt (.inr (Nat.le_refl _))).setAt (.inr (Nat.le_refl _))⟩
    have hte : ((S tx).toList == (S l).toList) = false := by rw [hsl]; exact beq_eq_false_iff_ne.2 ht
    clear hsl
    have HNT := Asd.mk ht
    clear ht
    by_cases h6 : k < 6
    · have HP2 := Asd.mk (past_short HP.out h6 (fun e => HNT.out (HT.out.trans e)))
      go_wp2
      go_roundw
      case rel => exact ⟨k + 1, by go_num, by omega, by omega, HP2, HB2, HU2⟩
      case measure => simp only [intOf]; omega
    obtain ⟨ld, hld⟩ : ∃ ld, ld = lead k := ⟨_, rfl⟩
    have HLD := Asd.mk hld
    have hll : 1 ≤ ld.length ∧ ld.length ≤ 7 := by
      have := word_len (k.toNat - 1) (by omega)
      rw [show k.toNat - 1 + 1 = k.toNat by omega] at this
      rw [hld]
      unfold lead
      rw [List.length_append]
      simp only [List.length_cons, List.length_nil]
      omega
    have HT2 : Asd (text k 0 = ld ++ [48]) := ⟨by rw [hld]; exact text0 h6 hk11⟩
    have HCUT : Asd ((ld ++ [48]).take ld.length = ld) := ⟨by simp⟩
    clear hld
    go_wp2_with fail
    refine (text_calls (HE.out.up HU2.out) k 0).mono ?_
    rw [HT2.out]
    rintro e w3 ⟨rfl, hu3⟩
    have HB3 := Asd.mk (hu3.blk HB2.out (fun h => h))
    have HU3 := Asd.mk (HU2.out.trans hu3 (fun _ _ h => h))
    clear hu3
    have hcut := HCUT.out
    have HIL : Asd (∀ n, right k n = true → text k n = ld ++ Lib.itoa n ∧ 1 ≤ (Lib.itoa n).length ∧ (Lib.itoa n).length ≤ 13) := ⟨fun n hr => by
      obtain ⟨_, _, h0, h1, _⟩ := (right_iff k n).1 hr
      refine ⟨by rw [HLD.out]; exact text_lead hr (by omega), ?_, itoa_len h0 h1⟩
      cases hi : Lib.itoa n with
      | nil => exact absurd hi (itoa_ne h0)
      | cons a b => simp⟩
    by_cases c1 : l.length ≤ ld.length
    · have HP2 : Asd (Past l (k + 1)) := ⟨past_long HP.out (by omega) (fun n hr e => by
        obtain ⟨i1, i2, i3⟩ := HIL.out n hr
        rw [i1] at e
        have := congrArg List.length e
        rw [List.length_append] at this
        omega)⟩
      go_wp2
      go_roundw
      case rel => exact ⟨k + 1, by go_num, by omega, by omega, HP2, HB3, HU3⟩
      case measure => simp only [intOf]; omega
    by_cases c2 : l.take ld.length = ld
    case neg =>
      have HP2 : Asd (Past l (k + 1)) := ⟨past_long HP.out (by omega) (fun n hr e => by
        obtain ⟨i1, i2, i3⟩ := HIL.out n hr
        rw [i1] at e
        rw [← e] at c2
        exact c2 (by simp))⟩
      have c2' : ¬ (S (l.take ld.length)).toList = (S ld).toList := fun e => c2 (by rw [ByteArray.toList_eq, ByteArray.toList_eq] at e; simpa [S] using e)
      clear c2
      go_wp2
      go_roundw
      case rel => exact ⟨k + 1, by go_num, by omega, by omega, HP2, HB3, HU3⟩
      case measure => simp only [intOf]; omega
    have c2' : (S (l.take ld.length)).toList = (S ld).toList := by rw [c2]
    by_cases c3 : 13 < l.length - ld.length
    · have HP2 : Asd (Past l (k + 1)) := ⟨past_long HP.out (by omega) (fun n hr e => by
        obtain ⟨i1, i2, i3⟩ := HIL.out n hr
        rw [i1] at e
        have := congrArg List.length e
        rw [List.length_append] at this
        omega)⟩
      have c3' : 13 < (l.length : Int) - (ld.length : Int) := by omega
      clear c2
      go_wp2
      go_roundw
      case rel => exact ⟨k + 1, by go_num, by omega, by omega, HP2, HB3, HU3⟩
      case measure => simp only [intOf]; omega
    have c3' : ¬ 13 < (l.length : Int) - (ld.length : Int) := by omega
    obtain ⟨ds, hds⟩ : ∃ ds, ds = l.drop ld.length := ⟨_, rfl⟩
    have HDS : Asd (l = lead k ++ ds) := ⟨by rw [hds, ← HLD.out]; conv => lhs; rw [← List.take_append_drop ld.length l, c2]⟩
    have HDL : Asd (ds.length = l.length - ld.length) := ⟨by rw [hds, List.length_drop]⟩
    have HDI : Asd (∀ m (hm : ld.length + m < l.length), ds[m]? = some (l[ld.length + m]'hm)) := ⟨fun m hm => by rw [hds, List.getElem?_drop, List.getElem?_eq_getElem hm]⟩
    have HD48 : Asd (ds ≠ [48]) := ⟨fun e => HNT.out (by rw [HT.out, HT2.out, HDS.out, e, HLD.out])⟩
    clear c2 hds
    go_wp2
    go_loopw [6, 7] (fun v6 v7 wr2 => ∃ (p m : Nat) (n : Int), v6 = .int .i64 n ∧ v7 = .int .i64 (p : Int) ∧ Asd (p = ld.length + m) ∧ p ≤ l.length ∧ 0 ≤ n ∧ n < 10000000000000 ∧ Asd (n < 10 ^ m) ∧ Asd (Num ds m n) ∧ wr2 = w3) (fun _ v7 _ => l.length - (intOf v7).toNat)
    case atStart => exact ⟨ld.length, 0, 0, rfl, rfl, ⟨rfl⟩, by omega, by omega, by omega, ⟨by decide⟩, ⟨.inl ⟨rfl, rfl⟩⟩, rfl⟩
    case round =>
      obtain ⟨p, m, n, rfl, rfl, HM, hpl, hn0, hn13, HNM, HN, rfl⟩ := hrel
      by_cases hlt : p < l.length
      · obtain ⟨x, hx⟩ : ∃ x, x = l[p]'hlt := ⟨_, rfl⟩
        have HX : Asd (ds[m]? = some x) := ⟨by
          have hm := HM.out
          subst hm
          rw [hx]
          exact HDI.out m hlt⟩
        have hx' := hx.symm
        have hxl := x.toNat_lt
        have hpc : ((p : Int) == (ld.length : Int)) = decide (m = 0) := by
          have := HM.out
          by_cases h0 : m = 0
          · rw [decide_eq_true h0]; exact beq_iff_eq.2 (by omega)
          · rw [decide_eq_false h0]; exact beq_eq_false_iff_ne.2 (by omega)
        by_cases hbad : x.toNat < 48 ∨ 57 < x.toNat ∨ (m = 0 ∧ x.toNat = 48)
        · have HZ : Asd (parse l = (0, 0, 8)) := ⟨by
            rw [HDS.out]
            refine lead_bad (by omega) hk11 (num_bad HX.out ?_)
            rcases hbad with h | h | ⟨h, h2⟩
            · exact .inl h
            · exact .inr (.inl h)
            · exact .inr (.inr ⟨h, h2, HD48.out⟩)⟩
          obtain ⟨s1, s2⟩ := store2 HB3.out
          have rf := fun o => keepsF (o := o) HB3.out
          have r0 := keepsC (o := 0) HB3.out rfl
          have r1 := keepsC (o := 1) HB3.out rfl
          have hkw := refl_of HB3.out
          clear hx
          rcases hbad with h | h | ⟨rfl, h⟩
          · have h1 : (x.toNat : Int) < 48 := by omega
            go_wp2
            refine bodyPost_ret (v := .tuple #[.agg #[.int .i64 0, .int .i64 0], .bool false]) (by simp [results, Tryd.results11, go_sem, s1, s2]) rfl ?_
            exact ⟨_, _, _, rfl, (fun h => by cases h), fun _ => HZ.out, (HU3.out.setAt (.inr (Nat.le_refl _))).setAt (.inr (Nat.le_refl _))⟩
          · have h1 : ¬ (x.toNat : Int) < 48 := by omega
            have h2 : 57 < (x.toNat : Int) := by omega
            go_wp2
            refine bodyPost_ret (v := .tuple #[.agg #[.int .i64 0, .int .i64 0], .bool false]) (by simp [results, Tryd.results11, go_sem, s1, s2]) rfl ?_
            exact ⟨_, _, _, rfl, (fun h => by cases h), fun _ => HZ.out, (HU3.out.setAt (.inr (Nat.le_refl _))).setAt (.inr (Nat.le_refl _))⟩
          · have h3 : (x.toNat : Int) = 48 := by omega
            go_wp2
            refine bodyPost_ret (v := .tuple #[.agg #[.int .i64 0, .int .i64 0], .bool false]) (by simp [results, Tryd.results11, go_sem, s1, s2]) rfl ?_
            exact ⟨_, _, _, rfl, (fun h => by cases h), fun _ => HZ.out, (HU3.out.setAt (.inr (Nat.le_refl _))).setAt (.inr (Nat.le_refl _))⟩
        · have h1 : ¬ (x.toNat : Int) < 48 := by omega
          have h2 : ¬ 57 < (x.toNat : Int) := by omega
          have h3 : ¬ (m = 0 ∧ x.toNat = 48) := by omega
          have HN2 : Asd (Num ds (m + 1) (10 * n + ((x.toNat : Int) - 48))) := ⟨num_step HN.out HX.out (by omega) (by omega) (by omega)⟩
          have HM2 : Asd (p + 1 = ld.length + (m + 1)) := ⟨by have := HM.out; omega⟩
          have hm13 : m + 1 ≤ 13 := by have := HM.out; omega
          have hq : n < 10 ^ m := HNM.out
          have HNM2 : Asd (10 * n + ((x.toNat : Int) - 48) < 10 ^ (m + 1)) := ⟨by rw [Int.pow_succ]; omega⟩
          have hlim : (10 : Int) ^ (m + 1) ≤ 10 ^ 13 := by
            have : (10 : Nat) ^ (m + 1) ≤ 10 ^ 13 := Nat.pow_le_pow_right (by omega) hm13
            exact_mod_cast this
          have h13 : 10 * n + ((x.toNat : Int) - 48) < 10000000000000 := Int.lt_of_lt_of_le HNM2.out (Int.le_trans hlim (by decide))
          clear hq hlim hx hbad
          by_cases h0 : m = 0
          · subst h0
            have h4 : ¬ (x.toNat : Int) = 48 := by omega
            go_wp2
            go_roundw
            case rel => exact ⟨p + 1, 0 + 1, 10 * n + ((x.toNat : Int) - 48), by go_num, by go_num, HM2, by omega, by omega, h13, HNM2, HN2, trivial⟩
            case measure => simp only [intOf]; omega
          · go_wp2
            go_roundw
            case rel => exact ⟨p + 1, m + 1, 10 * n + ((x.toNat : Int) - 48), by go_num, by go_num, HM2, by omega, by omega, h13, HNM2, HN2, trivial⟩
            case measure => simp only [intOf]; omega
      · have hpe : p = l.length := by omega
        subst hpe
        have HI : Asd (0 < n ∧ Lib.itoa n = ds) := ⟨by
          have h1 := HM.out
          rcases HN.out with ⟨h2, _⟩ | ⟨_, h3, h4⟩
          · omega
          · exact ⟨h3, by rw [h4, List.take_of_length_le (by rw [HDL.out]; omega)]⟩⟩
        obtain ⟨s1, s2⟩ := store2 HB3.out
        have rf := fun o => keepsF (o := o) HB3.out
        have r0 := keepsC (o := 0) HB3.out rfl
        have r1 := keepsC (o := 1) HB3.out rfl
        have hkw := refl_of HB3.out
        by_cases hb : n ≤ 1099511627776
        · have hr := (right_iff k n).2 ⟨hk1, hk11, hn0, hb, .inl (by omega)⟩
          have HZ : Asd (parse l = (k, n, 0)) := ⟨by rw [HDS.out, ← HI.out.2]; exact lead_good (by omega) hr⟩
          clear hr
          go_wp2
          refine bodyPost_ret (v := .tuple #[.agg #[.int .i64 k, .int .i64 n], .bool true]) (by simp [results, Tryd.results11, go_sem, s1, s2]) rfl ?_
          exact ⟨_, _, _, rfl, fun _ => HZ.out, (fun h => by cases h), (HU3.out.setAt (.inr (Nat.le_refl _))).setAt (.inr (Nat.le_refl _))⟩
        · have HZ : Asd (parse l = (0, 0, 8)) := ⟨by
            rw [HDS.out]
            refine lead_bad (by omega) hk11 (fun n' hr e => ?_)
            obtain ⟨_, _, h0, h1, _⟩ := (right_iff k n').1 hr
            rw [← HI.out.2] at e
            have := itoa_inj h0 h1 hn0 (by omega) e
            omega⟩
          go_wp2
          refine bodyPost_ret (v := .tuple #[.agg #[.int .i64 k, .int .i64 n], .bool false]) (by simp [results, Tryd.results11, go_sem, s1, s2]) rfl ?_
          exact ⟨_, _, _, rfl, (fun h => by cases h), fun _ => HZ.out, (HU3.out.setAt (.inr (Nat.le_refl _))).setAt (.inr (Nat.le_refl _))⟩
/-! ### The law -/
set_option maxHeartbeats 4000000 in
theorem parses_walk {w : World} (h : Env w) (l : List UInt8) : Calls Tryd.prog 4 #[.string (S l)] w fun e w' => e = .returned (.bool true) ∧ Upd (fun _ => False) w w' := by
  have HE := Asd.mk h
  clear h
  go_enter Tryd.func4, Tryd.ntmps4
  go_wp2_with fail
  refine (head_calls HE.out).mono ?_
  rintro e w2 ⟨rfl, hu2⟩
  by_cases hl : 100 < l.length
  · have hli : (100 : Int) < (l.length : Int) := by omega
    go_wp2
    go_ret
    exact ⟨rfl, hu2⟩
  have hli : ¬ (100 : Int) < (l.length : Int) := by omega
  go_wp2_with fail
  refine (parse_calls (HE.out.up hu2) l (by omega)).mono ?_
  obtain ⟨a, b, c, hp⟩ : ∃ a b c, parse l = (a, b, c) := ⟨_, _, _, rfl⟩
  have HPA := Asd.mk hp
  rw [hp]
  clear hp
  rintro e w3 ⟨rfl, hu3⟩
  have hk3 := hu2.trans hu3 (fun _ _ h => h)
  have hk4 := hk3.alloc (.cells #[.int .i64 a, .int .i64 b] 24)
  have hn3 := heap_alloc_new w3 (.cells #[.int .i64 a, .int .i64 b] 24)
  go_wp2_with fail
  refine (law_calls (HE.out.up hk4) l (by omega)).mono ?_
  rintro e w4 ⟨k, n, ok, rfl, h1, h2, hu4⟩
  have hk5 := hk4.trans hu4 (fun _ _ h => h)
  have hb4 := hu4.blk hn3 (fun h => h)
  have a0 := keepsC (o := 0) hb4 rfl
  have a1 := keepsC (o := 1) hb4 rfl
  have hs4 : Upd (fun _ => False) w4 w4 := Upd.refl _ _
  have hn4 := heap_alloc_new w4 (.cells #[.int .i64 k, .int .i64 n] 24)
  have b0 := keepsC (o := 0) hn4 rfl
  have b1 := keepsC (o := 1) hn4 rfl
  rw [HPA.out] at h1 h2
  cases ok with
  | true =>
    cases h1 rfl
    clear h1 h2 hn3 hb4 hn4
    go_wp2
    go_ret
    exact ⟨rfl, hk5.alloc _⟩
  | false =>
    cases h2 rfl
    clear h1 h2 hn3 hb4 hn4
    go_wp2
    go_ret
    exact ⟨rfl, hk5.alloc _⟩
theorem parses_law (w : World) (h : Env w) (s : ByteArray) (hs : s.size ≤ 9223372036854775807) : Calls Tryd.prog 4 #[.string s] w fun e w' => e = .returned (.bool true) ∧ Upd (fun _ => False) w w' := by
  rw [show s = S s.data.toList by cases s; rfl]
  exact parses_walk h s.data.toList
end Go.Proofs.YtaeafnpldlcdnaaDoor.Or
