/- The laws ViewCatches and ViewLines: what each call comes to, for every input. -/
import Derived.Test.YtpphejjdgplalaaViewHead
import Derived.Test.YtpphejjdgplalaaK8
set_option linter.unusedVariables false
set_option linter.unusedSimpArgs false
namespace Go.Proofs.Ytpphejjdgplalaa.Vw
open Go.RowKit K Rg MgRow Mg MgTwo
theorem piece_of (k : Nat) (h : k ≤ 64) : roomOf (11 + (k : Int)) (k : Int) = (k : Int) := by
  unfold roomOf mn mx
  split <;> split <;> split <;> omega
theorem ceil_is (c k n : Nat) (hk : 1 ≤ k) (h1 : n ≤ c * k) (h2 : c = 0 ∨ (c - 1) * k < n) : (c : Int) = ((n : Int) + (k : Int) - 1) / (k : Int) := by
  have e : ((n : Int) + (k : Int) - 1) = ((n + k - 1 : Nat) : Int) := by omega
  rw [e, ← Int.natCast_ediv]
  congr 1
  rcases h2 with rfl | h2
  · have : n = 0 := by omega
    subst this
    exact (Nat.div_eq_of_lt (by omega)).symm
  · obtain ⟨d, rfl⟩ : ∃ d, c = d + 1 := by
      cases c with
      | zero => simp at h1; subst h1; simp at h2
      | succ d => exact ⟨d, rfl⟩
    simp only [Nat.add_sub_cancel] at h2
    rw [Nat.add_mul, Nat.one_mul] at h1
    refine (Nat.div_eq_of_lt_le ?_ ?_).symm
    · rw [Nat.add_mul, Nat.one_mul]; omega
    · rw [Nat.add_mul, Nat.add_mul]; omega
set_option maxHeartbeats 2000000 in
set_option maxRecDepth 100000 in
theorem catches_walk (w : World) (A : Option Addr) (n c : Nat) (l : List UInt8) (hl : Rd w A n l) (hc : n ≤ c) (hm : c ≤ maxLen) (most : Int) (wm : (Lit.int .i64 most).wf = true) :
    Calls Try.prog 7 #[.slice A n c, .int .i64 most] w fun e w' => e = .returned (.bool true) ∧ Upd (fun _ => False) w w' := by
  obtain rfl := hl.len
  have hlim := hl.lim
  have HL := Asd.mk hl
  obtain ⟨k0, hk0, hand0⟩ := and_le most 63 (by omega)
  have hand : Go.bits .and .i64 most 63 = (k0 : Int) := hand0
  clear hand0
  obtain ⟨k, hk⟩ : ∃ k, k = 1 + k0 := ⟨_, rfl⟩
  have hk1 : 1 ≤ k := by omega
  have hk2 : k ≤ 64 := by omega
  have hsum : (1 : Int) + (k0 : Int) = (k : Int) := by omega
  have hnb : ((k : Int) == 0) = false := beq_eq_false_iff_ne.2 (by omega)
  clear hl wm hm hk
  go_enter Try.func7, Try.ntmps7
  go_wp2_with fail
  refine (head_calls _).mono ?_
  rintro e w1 ⟨rfl, hu⟩
  by_cases hbig : 1000 < l.length
  · go_wp2
    go_ret
    exact ⟨rfl, hu⟩
  have HU := Asd.mk hu
  clear hu
  go_wp2_with fail
  refine (Rg.new_calls 2000 w1).mono ?_
  rw [show roomN 2000 = 2000 by decide]
  rintro e w2 ⟨q, g, rfl, hq, hu, h1, h2⟩
  have HQ := Asd.mk hq
  have HU2 := Asd.mk (HU.out.trans hu (fun _ _ h => h))
  have h1 : w.heap.size ≤ q := Nat.le_trans HU.out.size h1
  have h2 : w.heap.size ≤ g := Nat.le_trans HU.out.size h2
  have HLT : Asd (∀ ad, A = some ad → 0 < l.length → ad.block < w.heap.size) := ⟨fun ad e hp => by
    obtain ⟨ad', e', hcc⟩ := HL.out.at 0 hp
    obtain rfl := Option.some.inj (e.symm.trans e')
    have := World.block_lt_of_cell? w _ hcc
    rwa [add_block] at this⟩
  clear hq hu HU
  go_wp2_with fail
  have hst : ∀ W, Upd (Its q g) w2 W → Rd W A l.length l := fun W k => by
    rcases Nat.eq_zero_or_pos l.length with h0 | h0
    · have : l = [] := List.eq_nil_of_length_eq_zero h0
      subst this
      exact ⟨rfl, by simp, Row.nil _ _⟩
    · refine (HL.out.up HU2.out).upd k (fun ad e h => ?_)
      have := HLT.out ad e h0
      rcases h with rfl | rfl <;> omega
  refine (append_still HQ.out A l.length c l hst (by simp; omega)).mono ?_
  rw [List.nil_append]
  rintro e w3 ⟨rfl, hr3, hu3⟩
  have HR3 := Asd.mk hr3
  have HU3 : Asd (Upd (fun _ => False) w w3) := ⟨HU2.out.trans hu3 (fun i hi h => by rcases h with rfl | rfl <;> omega)⟩
  clear hr3 hu3 hst HQ HU2
  go_wp2_with fail
  refine (new_calls HR3.out 5000 (by omega) false).mono ?_
  have hst0 : startN l 2000 5000 false = 0 := by
    simp only [startN, startA, mx, Bool.false_eq_true, if_false]
    omega
  rw [hst0]
  rintro e w4 ⟨v, rfl, hv, hu, hv1⟩
  have hl3 := Bare.lt HR3.out q (.inl rfl)
  have hl4 := Bare.lt HR3.out g (.inr rfl)
  have hne : ¬ Its q g v := fun h => by rcases h with rfl | rfl <;> omega
  have hvw : w.heap.size ≤ v := Nat.le_trans HU3.out.size hv1
  have HNE := Asd.mk hne
  have HV := Asd.mk hv
  have HR := Asd.mk (HR3.out.up hu)
  have HU := Asd.mk (HU3.out.trans hu (fun _ _ h => h))
  clear hv hu hl3 hl4 hne HR3 HU3 hv1 h1 h2 hst0
  go_wp2
  go_loopw [7, 8] (fun v7 v8 wr => ∃ (p j : Nat), v7 = .string (S (l.take p)) ∧ v8 = .int .i64 (j : Int) ∧ p ≤ l.length ∧ j ≤ p ∧ Asd (p = min (j * k) l.length) ∧ Asd (j = 0 ∨ (j - 1) * k < l.length) ∧ Asd (V wr v p 0) ∧ Asd (Ring wr q g 2000 l) ∧ Asd (Upd (fun _ => False) w wr)) (fun v7 v8 _ => l.length + 1 - (intOf v8).toNat)
  case atStart => exact ⟨0, 0, rfl, rfl, by omega, by omega, ⟨by simp⟩, ⟨.inl rfl⟩, HV, HR, HU⟩
  case round =>
    clear HV HR HU
    obtain ⟨p, j, rfl, rfl, hp, hj, HP, HJ, HV, HR, HU⟩ := hrel
    go_wp2_with fail
    refine (next_calls HR.out HV.out HNE.out hp (by omega) (11 + (k : Int)) (k : Int) 0 (by omega) (by omega)).mono ?_
    obtain ⟨y, hy⟩ : ∃ y, y = next l 2000 p 0 (11 + (k : Int)) (k : Int) 0 := ⟨_, rfl⟩
    rw [← hy]
    have hno : ¬ p < l.length - 2000 := by omega
    unfold next at hy
    rw [if_neg hno, piece_of k hk2, Int.toNat_natCast] at hy
    by_cases hend : p = l.length
    · subst hend
      rw [List.drop_length, List.take_nil, if_pos rfl] at hy
      subst hy
      rintro e w5 ⟨rfl, hv, hu⟩
      have hv5 : v < w5.heap.size := blk_lt hv
      have HU5 : Asd (Upd (fun _ => False) w w5) := ⟨HU.out.trans hu (fun i hi e => by omega)⟩
      have HV5 := Asd.mk hv
      have HR5 := Asd.mk (HR.out.upd hu (fun i h e => HNE.out (e ▸ h)))
      have hce : ((j : Int) == ((l.length : Int) + (k : Int) - 1) / (k : Int)) = true := beq_iff_eq.2 (ceil_is j k l.length hk1 (by have := HP.out; omega) HJ.out)
      have hcv : ∀ W, Upd (fun _ => False) w W → (convert 27 9 (.slice A l.length c)).run Try.prog W = .ok (.string (S l)) W := fun W k => run_str Try.underlying27 Try.underlying5 Try.underlying9 (HL.out.up k)
      have hu5 := HU5.out
      have htl : l.take l.length = l := List.take_length
      have d0 := keepsC (o := 0) (v := .int .i64 (l.length : Int)) hv rfl
      have b2 := (Bare.cells HR5.out).2.2
      clear hv hu HV HR HU
      simp only [msgV]
      rw [htl]
      go_wp2_with fail
      refine (at_calls (HV5.out.up ((Upd.refl (fun _ => False) _).alloc _) (fun h => h))).mono ?_
      rintro e w6 ⟨rfl, rfl⟩
      go_wp2_with fail
      refine (end_calls (HR5.out.up ((Upd.refl (fun _ => False) _).alloc _))).mono ?_
      rintro e w6 ⟨rfl, rfl⟩
      go_wp2
      go_ret
      exact ⟨by simp, HU5.out.alloc _⟩
    · have hpl : p < l.length := by omega
      obtain ⟨bs, hbs⟩ : ∃ bs, bs = (l.drop p).take k := ⟨_, rfl⟩
      rw [← hbs] at hy
      have hbl : bs.length = min k (l.length - p) := by rw [hbs, List.length_take, List.length_drop]
      have hb0 : bs ≠ [] := by intro e; rw [e] at hbl; simp at hbl; omega
      rw [if_neg hb0] at hy
      subst hy
      have happ : l.take p ++ bs = l.take (p + bs.length) := by
        rw [hbs, List.take_add, List.length_take, List.length_drop]
        congr 1
        rcases Nat.le_total k (l.length - p) with h | h
        · rw [Nat.min_eq_left h]
        · rw [Nat.min_eq_right h, List.take_of_length_le (by rw [List.length_drop]; exact h), List.take_of_length_le (by rw [List.length_drop]; exact Nat.le_refl _)]
      have hstr := str_add (l.take p) bs (by rw [List.length_take]; omega)
      rw [happ] at hstr
      have hp2 : p + bs.length ≤ l.length := by omega
      have hj2 : j + 1 ≤ p + bs.length := by omega
      have HP2 : Asd (p + bs.length = min ((j + 1) * k) l.length) := ⟨by have := HP.out; rw [Nat.add_mul, Nat.one_mul]; omega⟩
      have HJ2 : Asd (j + 1 = 0 ∨ (j + 1 - 1) * k < l.length) := ⟨.inr (by rw [Nat.add_sub_cancel]; have := HP.out; omega)⟩
      rintro e w5 ⟨rfl, hv, hu⟩
      have hv5 : v < w5.heap.size := blk_lt hv
      have HU5 : Asd (Upd (fun _ => False) w w5) := ⟨HU.out.trans hu (fun i hi e => by omega)⟩
      have HV5 := Asd.mk hv
      have HR5 := Asd.mk (HR.out.upd hu (fun i h e => HNE.out (e ▸ h)))
      have hjk : (j : Int) + 1 ≤ 1000 := by omega
      clear hv hu HV HR HU hbs hbl hb0 happ
      simp only [msgV]
      go_wp2
      go_roundw
      case rel => exact ⟨p + bs.length, j + 1, rfl, by go_num, hp2, hj2, HP2, HJ2, ⟨HV5.out.up ((Upd.refl (fun _ => False) _).alloc _) (fun h => h)⟩, ⟨HR5.out.up ((Upd.refl (fun _ => False) _).alloc _)⟩, ⟨HU5.out.alloc _⟩⟩
      case measure => simp only [intOf]; omega
theorem size_exists (size : Int) (m : Nat) (h1 : 1 ≤ m) (h2 : m ≤ 1000) : ∃ s : Nat, wrap64 (1 + wrap64 ((IntKind.u64.wrap size).tmod (m : Int))) = (s : Int) ∧ 1 ≤ s ∧ s ≤ m := by
  have h0 : 0 ≤ IntKind.u64.wrap size := by simp only [IntKind.wrap, IntKind.signed, IntKind.bits]; simp; omega
  obtain ⟨x, hx⟩ : ∃ x : Nat, IntKind.u64.wrap size = (x : Int) := ⟨(IntKind.u64.wrap size).toNat, by omega⟩
  have h3 : (x : Int).tmod (m : Int) = ((x % m : Nat) : Int) := rfl
  rw [hx, h3]
  have : x % m < m := Nat.mod_lt _ (by omega)
  refine ⟨1 + x % m, ?_, by omega, by omega⟩
  unfold wrap64
  omega
theorem lineFrom_spec (l : List UInt8) (base : Nat) : ∀ k i, i + k = l.length → i ≤ lineFrom l base k i ∧ lineFrom l base k i ≤ l.length ∧ (lineFrom l base k i = 0 ∨ lineFrom l base k i = l.length ∨ l.getD (lineFrom l base k i - 1) 0 = 10)
  | 0, i, h => by simp only [lineFrom]; omega
  | k + 1, i, h => by
    simp only [lineFrom]
    split
    · rename_i hc
      exact ⟨Nat.le_refl _, by omega, hc.elim .inl (fun h => .inr (.inr h.2))⟩
    · have := lineFrom_spec l base k (i + 1) (by omega)
      exact ⟨by omega, this.2⟩
theorem lineOf_spec (l : List UInt8) (base a : Nat) (h1 : base ≤ a) (h2 : a ≤ l.length) : a ≤ lineOf l base (a : Int) ∧ lineOf l base (a : Int) ≤ l.length ∧ (lineOf l base (a : Int) = 0 ∨ lineOf l base (a : Int) = l.length ∨ l.getD (lineOf l base (a : Int) - 1) 0 = 10) := by
  have e : mx (a : Int) (base : Int) = (a : Int) := by unfold mx; split <;> omega
  unfold lineOf
  rw [e]
  split
  · exact ⟨by omega, Nat.le_refl _, .inr (.inl rfl)⟩
  · rw [Int.toNat_natCast]
    exact lineFrom_spec l base _ _ (by omega)
set_option maxHeartbeats 2000000 in
set_option maxRecDepth 100000 in
theorem lines_walk (w : World) (size : Int) (ws : (Lit.int .i64 size).wf = true) (A : Option Addr) (n c : Nat) (l : List UInt8) (hl : Rd w A n l) (hc : n ≤ c) (hm : c ≤ maxLen) (back : Int) (wb : (Lit.int .i64 back).wf = true) :
    Calls Try.prog 8 #[.int .i64 size, .slice A n c, .int .i64 back] w fun e w' => e = .returned (.bool true) ∧ Upd (fun _ => False) w w' := by
  obtain rfl := hl.len
  have hlim := hl.lim
  have HL := Asd.mk hl
  obtain ⟨s, hs, hs1, hs2⟩ := size_exists size 200 (by omega) (by omega)
  have hs := (show wrap64 (1 + wrap64 ((IntKind.u64.wrap size).tmod 200)) = (s : Int) from hs)
  have hbk : -9223372036854775808 ≤ back ∧ back ≤ 9223372036854775807 := by
    simp only [Lit.wf, Bool.and_eq_true, decide_eq_true_eq] at wb
    exact wb
  clear hl wb ws hm
  go_enter Try.func8, Try.ntmps8
  go_wp2_with fail
  refine (head_calls _).mono ?_
  rintro e w1 ⟨rfl, hu⟩
  by_cases hbig : 1000 < l.length
  · go_wp2
    all_goals go_ret
    all_goals exact ⟨rfl, hu⟩
  have HU := Asd.mk hu
  clear hu
  go_wp2_with fail
  refine (Rg.new_calls (s : Int) w1).mono ?_
  rw [RgLasts.roomN_eq s hs1 (by omega)]
  rintro e w2 ⟨q, g, rfl, hq, hu, h1, h2⟩
  have HQ := Asd.mk hq
  have HU2 := Asd.mk (HU.out.trans hu (fun _ _ h => h))
  have h1 : w.heap.size ≤ q := Nat.le_trans HU.out.size h1
  have h2 : w.heap.size ≤ g := Nat.le_trans HU.out.size h2
  have HLT : Asd (∀ ad, A = some ad → 0 < l.length → ad.block < w.heap.size) := ⟨fun ad e hp => by
    obtain ⟨ad', e', hcc⟩ := HL.out.at 0 hp
    obtain rfl := Option.some.inj (e.symm.trans e')
    have := World.block_lt_of_cell? w _ hcc
    rwa [add_block] at this⟩
  clear hq hu HU hs
  go_wp2_with fail
  have hst : ∀ W, Upd (Its q g) w2 W → Rd W A l.length l := fun W k => by
    rcases Nat.eq_zero_or_pos l.length with h0 | h0
    · have : l = [] := List.eq_nil_of_length_eq_zero h0
      subst this
      exact ⟨rfl, by simp, Row.nil _ _⟩
    · refine (HL.out.up HU2.out).upd k (fun ad e h => ?_)
      have := HLT.out ad e h0
      rcases h with rfl | rfl <;> omega
  refine (append_still HQ.out A l.length c l hst (by simp; omega)).mono ?_
  rw [List.nil_append]
  rintro e w3 ⟨rfl, hr3, hu3⟩
  have HR3 := Asd.mk hr3
  have HU3 : Asd (Upd (fun _ => False) w w3) := ⟨HU2.out.trans hu3 (fun i hi h => by rcases h with rfl | rfl <;> omega)⟩
  clear hr3 hu3 hst HQ HU2
  go_wp2_with fail
  refine (new_calls HR3.out back hbk false).mono ?_
  rintro e w4 ⟨va, rfl, hv, hu, _⟩
  have HVA := Asd.mk hv
  have HR4 := Asd.mk (HR3.out.up hu)
  have HU4 := Asd.mk (HU3.out.trans hu (fun _ _ h => h))
  clear hv hu HR3 HU3
  go_wp2_with fail
  refine (new_calls HR4.out back hbk true).mono ?_
  rintro e w5 ⟨vb, rfl, hv, hu, _⟩
  have HVB := Asd.mk hv
  have HVA := Asd.mk (HVA.out.up hu (fun h => h))
  have HR := Asd.mk (HR4.out.up hu)
  have HU := Asd.mk (HU4.out.trans hu (fun _ _ h => h))
  clear hv hu HR4 HU4
  obtain ⟨ha1, ha2, ha3⟩ := startA_le l s back
  obtain ⟨a, ha⟩ : ∃ a, a = startA l s back := ⟨_, rfl⟩
  have hla : startN l s back false = a := by rw [ha]; rfl
  have hlb : startN l s back true = lineOf l (l.length - s) (a : Int) := by rw [ha]; rfl
  rw [← ha] at ha1 ha2 ha3
  obtain ⟨b1, b2, b3⟩ := lineOf_spec l (l.length - s) a ha1 ha2
  rw [← hlb] at b1 b2 b3
  rw [hla] at HVA
  obtain ⟨b, hb⟩ : ∃ b, b = startN l s back true := ⟨_, rfl⟩
  rw [← hb] at b1 b2 b3 HVB
  obtain ⟨base, hbase⟩ : ∃ base, base = l.length - s := ⟨_, rfl⟩
  have HBS := Asd.mk hbase
  have hble : base ≤ l.length := by omega
  rw [← hbase] at ha1 ha3
  have hwant : (if back < 0 then (l.length : Int) else if back < (l.length : Int) - (base : Int) then (l.length : Int) - back else (base : Int)) = (a : Int) := by
    rw [← ha3]
    unfold mx
    split <;> split <;> (try split) <;> omega
  have HB3 := Asd.mk b3
  clear ha hla hlb hb ha3 hbase b3
  go_wp2_with fail
  refine (base_calls HR.out).mono ?_
  rw [← HBS.out]
  rintro e w6 ⟨rfl, rfl⟩
  by_cases hneg : back < 0
  · rw [if_pos hneg] at hwant
    obtain rfl : a = l.length := by omega
    clear hwant
    go_wp2_with fail
    refine (end_calls HR.out).mono ?_
    rintro e w6 ⟨rfl, rfl⟩
    go_wp2_with fail
    refine (at_calls HVB.out).mono ?_
    rintro e w6 ⟨rfl, rfl⟩
    go_wp2_with fail
    refine (at_calls HVA.out).mono ?_
    rintro e w6 ⟨rfl, rfl⟩
    have hn1 : ¬ (b < l.length) := by omega
    have hn2 : ¬ (l.length < b) := by omega
    have hself : ((l.length : Int) != (l.length : Int)) = false := bne_self_eq_false _
    go_wp2_with fail
    refine (end_calls HR.out).mono ?_
    rintro e w6 ⟨rfl, rfl⟩
    by_cases hb0 : b = 0
    · subst hb0
      go_wp2
      all_goals go_ret
      all_goals exact ⟨rfl, HU.out⟩
    have hbz : ((b : Int) == 0) = false := beq_eq_false_iff_ne.2 (by omega)
    go_wp2_with fail
    refine (end_calls HR.out).mono ?_
    rintro e w6 ⟨rfl, rfl⟩
    by_cases hbl : b = l.length
    · subst hbl
      go_wp2
      all_goals go_ret
      all_goals exact ⟨by simp, HU.out⟩
    have hbz2 : ((b : Int) == (l.length : Int)) = false := beq_eq_false_iff_ne.2 (by omega)
    obtain ⟨j, rfl⟩ : ∃ j, b = j + 1 := ⟨b - 1, by omega⟩
    have hj : j < l.length := by omega
    obtain ⟨ad, rfl, hcc⟩ := (HL.out.up HU.out).at j hj
    have hx : l[j] = 10 := by
      have := HB3.out
      rcases this with h | h | h
      · omega
      · omega
      · simpa [List.getD_eq_getElem?_getD, List.getElem?_eq_getElem hj] using h
    rw [hx] at hcc
    have hj1 : IntKind.i64.wrap (((j + 1 : Nat) : Int) - 1) = (j : Int) := by rw [w64i _ (by omega) (by omega)]; omega
    clear hx hb0 hbl
    go_wp2
    all_goals go_ret
    all_goals exact ⟨rfl, HU.out⟩
  rw [if_neg hneg] at hwant
  have hnn : ¬ (back < 0) := hneg
  go_wp2_with fail
  refine (end_calls HR.out).mono ?_
  rintro e w6 ⟨rfl, rfl⟩
  go_wp2_with fail
  refine (base_calls HR.out).mono ?_
  rw [← HBS.out]
  rintro e w6 ⟨rfl, rfl⟩
  by_cases hfew : back < (l.length : Int) - (base : Int)
  · rw [if_pos hfew] at hwant
    go_wp2_with fail
    refine (end_calls HR.out).mono ?_
    rintro e w6 ⟨rfl, rfl⟩
    go_wp2_with fail
    refine (at_calls HVB.out).mono ?_
    rintro e w6 ⟨rfl, rfl⟩
    go_wp2_with fail
    refine (at_calls HVA.out).mono ?_
    rintro e w6 ⟨rfl, rfl⟩
    have hn1 : ¬ (b < a) := by omega
    have hn2 : ¬ (l.length < b) := by omega
    have hself : ((a : Int) != (a : Int)) = false := bne_self_eq_false _
    go_wp2_with fail
    refine (end_calls HR.out).mono ?_
    rintro e w6 ⟨rfl, rfl⟩
    by_cases hb0 : b = 0
    · subst hb0
      go_wp2
      all_goals go_ret
      all_goals exact ⟨rfl, HU.out⟩
    have hbz : ((b : Int) == 0) = false := beq_eq_false_iff_ne.2 (by omega)
    go_wp2_with fail
    refine (end_calls HR.out).mono ?_
    rintro e w6 ⟨rfl, rfl⟩
    by_cases hbl : b = l.length
    · subst hbl
      go_wp2
      all_goals go_ret
      all_goals exact ⟨by simp, HU.out⟩
    have hbz2 : ((b : Int) == (l.length : Int)) = false := beq_eq_false_iff_ne.2 (by omega)
    obtain ⟨j, rfl⟩ : ∃ j, b = j + 1 := ⟨b - 1, by omega⟩
    have hj : j < l.length := by omega
    obtain ⟨ad, rfl, hcc⟩ := (HL.out.up HU.out).at j hj
    have hx : l[j] = 10 := by
      have := HB3.out
      rcases this with h | h | h
      · omega
      · omega
      · simpa [List.getD_eq_getElem?_getD, List.getElem?_eq_getElem hj] using h
    rw [hx] at hcc
    have hj1 : IntKind.i64.wrap (((j + 1 : Nat) : Int) - 1) = (j : Int) := by rw [w64i _ (by omega) (by omega)]; omega
    clear hx hb0 hbl
    go_wp2
    all_goals go_ret
    all_goals exact ⟨rfl, HU.out⟩
  · rw [if_neg hfew] at hwant
    obtain rfl : a = base := by omega
    clear hwant
    go_wp2_with fail
    refine (at_calls HVB.out).mono ?_
    rintro e w6 ⟨rfl, rfl⟩
    go_wp2_with fail
    refine (at_calls HVA.out).mono ?_
    rintro e w6 ⟨rfl, rfl⟩
    have hn1 : ¬ (b < a) := by omega
    have hn2 : ¬ (l.length < b) := by omega
    have hself : ((a : Int) != (a : Int)) = false := bne_self_eq_false _
    go_wp2_with fail
    refine (end_calls HR.out).mono ?_
    rintro e w6 ⟨rfl, rfl⟩
    by_cases hb0 : b = 0
    · subst hb0
      go_wp2
      all_goals go_ret
      all_goals exact ⟨rfl, HU.out⟩
    have hbz : ((b : Int) == 0) = false := beq_eq_false_iff_ne.2 (by omega)
    go_wp2_with fail
    refine (end_calls HR.out).mono ?_
    rintro e w6 ⟨rfl, rfl⟩
    by_cases hbl : b = l.length
    · subst hbl
      go_wp2
      all_goals go_ret
      all_goals exact ⟨by simp, HU.out⟩
    have hbz2 : ((b : Int) == (l.length : Int)) = false := beq_eq_false_iff_ne.2 (by omega)
    obtain ⟨j, rfl⟩ : ∃ j, b = j + 1 := ⟨b - 1, by omega⟩
    have hj : j < l.length := by omega
    obtain ⟨ad, rfl, hcc⟩ := (HL.out.up HU.out).at j hj
    have hx : l[j] = 10 := by
      have := HB3.out
      rcases this with h | h | h
      · omega
      · omega
      · simpa [List.getD_eq_getElem?_getD, List.getElem?_eq_getElem hj] using h
    rw [hx] at hcc
    have hj1 : IntKind.i64.wrap (((j + 1 : Nat) : Int) - 1) = (j : Int) := by rw [w64i _ (by omega) (by omega)]; omega
    clear hx hb0 hbl
    go_wp2
    all_goals go_ret
    all_goals exact ⟨rfl, HU.out⟩
end Go.Proofs.Ytpphejjdgplalaa.Vw
