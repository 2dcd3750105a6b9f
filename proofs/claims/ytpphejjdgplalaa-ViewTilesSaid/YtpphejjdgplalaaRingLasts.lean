/- The law RingLasts, and the document's example: what each call comes to, for every input. -/
import Derived.Test.YtpphejjdgplalaaRing
set_option linter.unusedVariables false
set_option linter.unusedSimpArgs false
namespace Go.Proofs.Ytpphejjdgplalaa.RgLasts
open Go.RowKit K Rg

theorem Its.far {w w1 : World} {q g : Nat} (h1 : w.heap.size ≤ q) (h2 : w.heap.size ≤ g) (k : Upd (Its q g) w w1) : Upd (fun _ => False) w w1 :=
  k.mono (fun i hi h => by rcases h with rfl | rfl <;> omega)
set_option maxHeartbeats 1000000 in
set_option maxRecDepth 100000 in
theorem head_calls (w : World) : Calls Try.prog 14 #[] w fun e w' => e = .returned (.bool true) ∧ Upd (fun _ => False) w w' := by
  have kc := fun (w : World) (C : Array Value) (n c : Nat) => Lib.run_convert_bytes_const (P := Try.prog) w 27 5 C n c Try.underlying27 Try.underlying5
  go_enter Try.func14, Try.ntmps14
  go_wp2_with fail
  refine (new_calls 4 w).mono ?_
  rw [show roomN 4 = 4 by decide]
  rintro e w1 ⟨q, g, rfl, hq, hu, h1, h2⟩
  have HQ := Asd.mk hq
  have HU := Asd.mk hu
  have hl := Bare.lt hq
  have hlq := hl q (.inl rfl)
  have hlg := hl g (.inr rfl)
  have HZ : Asd (#[Value.int .u8 97, .int .u8 98, .int .u8 10, .int .u8 99, .int .u8 100] = (B [97, 98, 10, 99, 100]).toArray) := ⟨rfl⟩
  clear hq hu hl
  go_wp2_with fail
  refine (append_calls (HQ.out.up ((Upd.refl (fun _ => False) _).alloc _)) (some ⟨w1.heap.size, 0, none⟩) 5 5 [97, 98, 10, 99, 100] (Rd.lit w1 _ _ _ 5 _ HZ.out rfl (by omega)) (fun ad e h => by obtain rfl := Option.some.inj e; rcases h with h | h <;> (simp only at h; omega)) (by simp)).mono ?_
  rw [List.nil_append]
  rintro e w2 ⟨rfl, hr2, hu2⟩
  have HR2 := Asd.mk hr2
  have HU2 : Asd (Upd (fun _ => False) w w2) := ⟨(HU.out.alloc _).trans hu2 (fun i hi h => by rcases h with rfl | rfl <;> omega)⟩
  clear hr2 hu2 HU HQ kc
  go_wp2_with fail
  refine (read_calls HR2.out 2 9 (by omega)).mono ?_
  rintro e w3 ⟨hu3, _, hrd⟩
  obtain ⟨A3, c3, G3, rfl, ho3, _⟩ := hrd (by decide) (by decide)
  have hl3 : (([97, 98, 10, 99, 100] : List UInt8).drop (2 : Int).toNat).take (9 : Int).toNat = [10, 99, 100] := by decide
  rw [hl3] at ho3
  rw [hl3]
  have HO3 := Asd.mk ho3.rd
  have HR3 := Asd.mk (HR2.out.up hu3)
  have HU3 : Asd (Upd (fun _ => False) w w3) := ⟨HU2.out.trans hu3 (fun _ _ h => h)⟩
  clear hu3 hrd ho3 hl3 HR2 HU2
  go_wp2_with fail
  refine (base_calls HR3.out).mono ?_
  rintro e w4 ⟨rfl, rfl⟩
  go_wp2_with fail
  refine (end_calls HR3.out).mono ?_
  rintro e w4 ⟨rfl, rfl⟩
  go_wp2_with fail
  refine (line_calls HR3.out 0).mono ?_
  have hln : lineOf [97, 98, 10, 99, 100] (([97, 98, 10, 99, 100] : List UInt8).length - 4) 0 = 3 := by decide
  rw [hln]
  rintro e w4 ⟨rfl, hu4⟩
  have HU4 : Asd (Upd (fun _ => False) w w4) := ⟨HU3.out.trans hu4 (fun _ _ h => h)⟩
  have HO4 := Asd.mk (HO3.out.up hu4)
  clear hu4 hln HU3 HO3 HR3
  have hs := run_str (P := Try.prog) (c := c3) Try.underlying27 Try.underlying5 Try.underlying9 HO4.out
  have hS : S [10, 99, 100] = { data := #[10, 99, 100] } := rfl
  rw [hS] at hs
  clear hS
  simp only [List.length_cons, List.length_nil, Nat.reduceAdd] at hs
  go_wp2
  go_ret
  exact ⟨rfl, HU4.out⟩
theorem and_mask (i : Nat) (k : Nat) (hi : i < 2 ^ 62) (hk : k < 62) : Go.bits .and .i64 (i : Int) ((2 ^ k - 1 : Nat) : Int) = ((i % 2 ^ k : Nat) : Int) := by
  show IntKind.i64.wrap (((BitVec.ofInt 64 (i : Int) &&& BitVec.ofInt 64 ((2 ^ k - 1 : Nat) : Int)).toNat : Nat) : Int) = _
  have h2 : 2 ^ k < 2 ^ 62 := Nat.pow_lt_pow_right (by omega) hk
  have e1 : (BitVec.ofInt 64 (i : Int)).toNat = i := by simp; omega
  have e2 : (BitVec.ofInt 64 ((2 ^ k - 1 : Nat) : Int)).toNat = 2 ^ k - 1 := by
    rw [BitVec.ofInt_natCast, BitVec.toNat_ofNat]; omega
  rw [BitVec.toNat_and, e1, e2, Nat.and_two_pow_sub_one_eq_mod]
  have : i % 2 ^ k < 2 ^ k := Nat.mod_lt _ (Nat.two_pow_pos k)
  exact w64i _ (by omega) (by omega)
theorem and127 (i : Nat) (hi : i < 2 ^ 62) : Go.bits .and .i64 (i : Int) 127 = ((i % 128 : Nat) : Int) := and_mask i 7 hi (by omega)
theorem and1023 (x : Int) : ∃ k : Nat, k ≤ 1023 ∧ Go.bits .and .i64 x 1023 = (k : Int) := by
  have h : (BitVec.ofInt 64 x &&& BitVec.ofInt 64 1023).toNat ≤ 1023 := by
    rw [BitVec.toNat_and]
    exact Nat.le_trans Nat.and_le_right (by decide)
  refine ⟨(BitVec.ofInt 64 x &&& BitVec.ofInt 64 1023).toNat, h, ?_⟩
  show IntKind.i64.wrap (((BitVec.ofInt 64 x &&& BitVec.ofInt 64 1023).toNat : Nat) : Int) = _
  exact w64i _ (by omega) (by omega)
/-- The i-th byte, and the first i. -/
def fb (c i : Nat) : UInt8 := UInt8.ofNat (c + i % 128)
def fbs (c i : Nat) : List UInt8 := (List.range i).map (fb c)
theorem fbs_length (c i : Nat) : (fbs c i).length = i := by simp [fbs]
theorem fbs_next (c i : Nat) : fbs c (i + 1) = fbs c i ++ [fb c i] := by simp [fbs, List.range_succ]
theorem fbs_at (c n i : Nat) (h : i < (fbs c n).length) : (fbs c n)[i] = fb c i := by simp [fbs]
theorem u8_exists (n : Int) (h : (Lit.int .u8 n).wf = true) : ∃ x : UInt8, n = (x.toNat : Int) := by
  simp only [Lit.wf, Bool.and_eq_true, decide_eq_true_eq] at h
  have h1 : 0 ≤ n := h.1
  have h2 : n ≤ 255 := h.2
  exact ⟨UInt8.ofNat n.toNat, by simp; omega⟩
theorem size_exists (size : Int) : ∃ s : Nat, wrap64 (1 + wrap64 ((IntKind.u64.wrap size).tmod 300)) = (s : Int) ∧ 1 ≤ s ∧ s ≤ 300 := by
  have h0 : 0 ≤ IntKind.u64.wrap size := by simp only [IntKind.wrap, IntKind.signed, IntKind.bits]; simp; omega
  obtain ⟨m, hm⟩ : ∃ m : Nat, IntKind.u64.wrap size = (m : Int) := ⟨(IntKind.u64.wrap size).toNat, by omega⟩
  have h1 : (m : Int).tmod 300 = ((m % 300 : Nat) : Int) := rfl
  rw [hm, h1]
  have : m % 300 < 300 := Nat.mod_lt _ (by omega)
  refine ⟨1 + m % 300, ?_, by omega, by omega⟩
  unfold wrap64
  omega
theorem roomN_eq (s : Nat) (h1 : 1 ≤ s) (h2 : s ≤ 65536) : roomN (s : Int) = s := by
  unfold roomN mx mn
  split <;> split <;> omega
set_option maxHeartbeats 4000000 in
set_option maxRecDepth 100000 in
theorem lasts_walk (w : World) (size : Int) (ws : (Lit.int .i64 size).wf = true) (n : Int) (wn : (Lit.int .i64 n).wf = true) (c : Int) (wc : (Lit.int .u8 c).wf = true) :
    Calls Try.prog 6 #[.int .i64 size, .int .i64 n, .int .u8 c] w fun e w' => e = .returned (.bool true) ∧ Upd (fun _ => False) w w' := by
  obtain ⟨c0, rfl⟩ := u8_exists c wc
  obtain ⟨c8, hc8⟩ : ∃ c8 : Nat, c8 = c0.toNat := ⟨_, rfl⟩
  rw [← hc8]
  clear hc8
  obtain ⟨s, hs, hs1, hs2⟩ := size_exists size
  obtain ⟨m, hm, hand⟩ := and1023 n
  clear ws wn wc
  go_enter Try.func6, Try.ntmps6
  go_wp2_with fail
  refine (head_calls _).mono ?_
  rintro e w1 ⟨rfl, hu⟩
  have HU := Asd.mk hu
  clear hu
  go_wp2_with fail
  refine (new_calls (s : Int) w1).mono ?_
  rw [roomN_eq s hs1 (by omega)]
  rintro e w2 ⟨q, g, rfl, hq, hu, h1, h2⟩
  have HQ2 := Asd.mk hq
  have HU2 : Asd (Upd (fun _ => False) w w2) := ⟨HU.out.trans hu (fun _ _ h => h)⟩
  have HF : Asd (w.heap.size ≤ q ∧ w.heap.size ≤ g) := ⟨by have := HU.out.size; omega⟩
  clear hq hu h1 h2 HU
  go_wp2
  go_loopw [8] (fun v8 wr => ∃ i : Nat, v8 = .int .i64 (i : Int) ∧ i ≤ m ∧ Asd (Ring wr q g s (fbs c8 i)) ∧ Asd (Upd (fun _ => False) w wr)) (fun v8 _ => m - (intOf v8).toNat)
  case atStart => exact ⟨0, rfl, by omega, HQ2, HU2⟩
  case round =>
    obtain ⟨i, rfl, hi, HQ, HW⟩ := hrel
    by_cases hlt : i < m
    · have ha : Go.bits .and .i64 (i : Int) 127 = ((i % 128 : Nat) : Int) := and127 i (by omega)
      have HZ : Asd (#[Value.int .u8 (((c8 : Int) + (i : Int) % 128) % 256)] = (B [fb c8 i]).toArray) := ⟨by
        have : ((c8 : Int) + (i : Int) % 128) % 256 = ((fb c8 i).toNat : Int) := by unfold fb; simp
        rw [this]; rfl⟩
      have hwi : IntKind.i64.wrap ((i : Int) + 1) = ((i + 1 : Nat) : Int) := by rw [w64i _ (by omega) (by omega)]; rfl
      have hlt9 := Bare.lt HQ.out
      have hlq := hlt9 q (.inl rfl)
      have hlg := hlt9 g (.inr rfl)
      have hl9 := Asd.mk (fbs_length c8 i)
      clear hlt9
      go_wp2_with fail
      refine (append_calls (HQ.out.up ((Upd.refl (fun _ => False) _).alloc _)) (some ⟨wr.heap.size, 0, none⟩) 1 1 [fb c8 i] (Rd.lit wr _ _ _ 1 _ HZ.out rfl (by omega)) (fun ad e h => by obtain rfl := Option.some.inj e; rcases h with h | h <;> (simp only at h; omega)) (by rw [hl9.out]; omega)).mono ?_
      rw [← fbs_next]
      rintro e w3 ⟨rfl, hr, hu⟩
      have HR3 := Asd.mk hr
      have HW3 : Asd (Upd (fun _ => False) w w3) := ⟨(HW.out.alloc _).trans hu (fun i hi h => by have := HF.out; rcases h with rfl | rfl <;> omega)⟩
      clear hr hu HZ HQ HW hlq hlg
      go_wp2
      go_roundw
      case rel => exact ⟨i + 1, rfl, by omega, HR3, HW3⟩
      case measure => simp only [intOf]; omega
    · have hi2 : i = m := by omega
      subst hi2
      clear HQ2 HU2
      obtain ⟨l, hl⟩ : ∃ l, l = fbs c8 i := ⟨_, rfl⟩
      rw [← hl] at HQ
      have hll : l.length = i := by rw [hl, fbs_length]
      have HLL := Asd.mk hll
      have HL := Asd.mk hl
      obtain ⟨base, hb⟩ : ∃ base, base = l.length - s := ⟨_, rfl⟩
      have HQB := Asd.mk (show Bare wr q g s l base by rw [hb]; exact HQ.out)
      have HBE := Asd.mk hb
      have hbi : base ≤ i := by omega
      have hbs : i ≤ base + s := by omega
      have hbm : base = i - s := by omega
      have HBM := Asd.mk hbm
      clear hl hll hb hbm
      have hwn : IntKind.i64.wrap ((i : Int) + 1) = ((i + 1 : Nat) : Int) := by rw [w64i _ (by omega) (by omega)]; rfl
      go_wp2_with fail
      refine (base_calls HQB.out).mono ?_
      rintro e w3 ⟨rfl, rfl⟩
      go_wp2_with fail
      refine (read_calls HQ.out (base : Int) ((i + 1 : Nat) : Int) (by omega)).mono ?_
      rintro e w3 ⟨hu3, _, hrd⟩
      obtain ⟨A3, c3, G3, rfl, ho3, _⟩ := hrd (by have := HBE.out; omega) (by have := HLL.out; omega)
      have hx : (l.drop (base : Int).toNat).take ((i + 1 : Nat) : Int).toNat = l.drop base := by
        rw [Int.toNat_natCast, Int.toNat_natCast, List.take_of_length_le (by rw [List.length_drop, HLL.out]; omega)]
      have hxl : (l.drop base).length = i - base := by rw [List.length_drop, HLL.out]
      rw [hx, hxl] at ho3
      rw [hx, hxl]
      obtain ⟨k, hk⟩ : ∃ k, k = i - base := ⟨_, rfl⟩
      rw [← hk] at ho3
      rw [← hk]
      have HK := Asd.mk hk
      have hki : k ≤ i := by omega
      have HO3 := Asd.mk ho3.rd
      have HQ3 := Asd.mk (HQ.out.up hu3)
      have HQB3 := Asd.mk (HQB.out.up hu3)
      have HW3 : Asd (Upd (fun _ => False) w w3) := ⟨HW.out.trans hu3 (fun _ _ h => h)⟩
      have hmn : mn (i : Int) (s : Int) = (k : Int) := by have := HBM.out; unfold mn; split <;> omega
      clear hu3 hrd ho3 hx hxl hk HQ HQB HW
      go_wp2_with fail
      refine (end_calls HQB3.out).mono ?_
      rw [HLL.out]
      rintro e w4 ⟨rfl, rfl⟩
      go_wp2
      go_loopw [69] (fun v69 wr => ∃ j : Nat, v69 = .int .i64 (j : Int) ∧ j ≤ k ∧ wr = w3) (fun v69 _ => k - (intOf v69).toNat)
      case atStart => exact ⟨0, rfl, by omega, rfl⟩
      case round =>
        obtain ⟨j, rfl, hj, rfl⟩ := hrel
        by_cases hjk : j < k
        · obtain ⟨ad, rfl, hc0⟩ := HO3.out.at j hjk
          have hjv : (l.drop base)[j]'(by rw [HO3.out.len]; exact hjk) = fb c8 (base + j) := by
            rw [List.getElem_drop]
            have := HL.out
            subst this
            rw [fbs_at]
          rw [hjv] at hc0
          clear hjv
          have hw1 : IntKind.i64.wrap ((i : Int) - (k : Int)) = (base : Int) := by have := HK.out; rw [w64i _ (by omega) (by omega)]; omega
          have hw2 : IntKind.i64.wrap ((base : Int) + (j : Int)) = (base : Int) + (j : Int) := w64i _ (by omega) (by omega)
          have ha : Go.bits .and .i64 ((base : Int) + (j : Int)) 127 = ((base : Int) + (j : Int)) % 128 := by rw [← Int.natCast_add, and127 _ (by omega)]; rfl
          have hwj : IntKind.i64.wrap ((j : Int) + 1) = ((j + 1 : Nat) : Int) := by rw [w64i _ (by omega) (by omega)]; rfl
          have hval : ((fb c8 (base + j)).toNat : Int) = ((c8 : Int) + ((base + j : Nat) : Int) % 128) % 256 := by unfold fb; simp
          rw [hval] at hc0
          go_wp2
          go_roundw
          case rel => exact ⟨j + 1, rfl, by omega, trivial⟩
          case measure => simp only [intOf]; omega
        · have hwm : IntKind.i64.wrap ((base : Int) - 1) = (base : Int) - 1 := w64i _ (by omega) (by omega)
          have hwp : IntKind.i64.wrap ((i : Int) + 1) = (i : Int) + 1 := w64i _ (by omega) (by omega)
          clear hwn
          go_wp2_with fail
          refine (base_calls HQB3.out).mono ?_
          rintro e w5 ⟨rfl, rfl⟩
          go_wp2_with fail
          refine (read_calls HQ3.out ((base : Int) - 1) 1 (by omega)).mono ?_
          rintro e w5 ⟨hu5, hno, _⟩
          obtain rfl := hno (by have := HBE.out; omega)
          have HQ5 := Asd.mk (HQ3.out.up hu5)
          have HQB5 := Asd.mk (HQB3.out.up hu5)
          have HW5 : Asd (Upd (fun _ => False) w w5) := ⟨HW3.out.trans hu5 (fun _ _ h => h)⟩
          clear hu5 hno HQ3 HQB3 HW3
          go_wp2_with fail
          refine (end_calls HQB5.out).mono ?_
          rw [HLL.out]
          rintro e w6 ⟨rfl, rfl⟩
          go_wp2_with fail
          refine (read_calls HQ5.out ((i : Int) + 1) 1 (by omega)).mono ?_
          rintro e w6 ⟨hu6, hno, _⟩
          obtain rfl := hno (by have := HLL.out; omega)
          have HW6 : Asd (Upd (fun _ => False) w w6) := ⟨HW5.out.trans hu6 (fun _ _ h => h)⟩
          clear hu6 hno
          go_wp2
          go_ret
          exact ⟨rfl, HW6.out⟩
end Go.Proofs.Ytpphejjdgplalaa.RgLasts
