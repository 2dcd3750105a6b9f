/- sum.More, sum.Of, the law's own Of and head: what each call comes to, for every slice that can be read. -/
import Derived.Test.YtpphejjdgplalaaK
import Derived.Test.YtpphejjdgplalaaCrc
import Derived.Laws.Bits64
set_option linter.unusedVariables false
set_option linter.unusedSimpArgs false
namespace Go.Proofs.Ytpphejjdgplalaa.Sm
open Go.RowKit K Crc

/-! ### the machine's words as bit vectors -/
def n16 (x : BitVec 16) : Int := (x.toNat : Int)
theorem n16_bound (x : BitVec 16) : 0 ≤ n16 x ∧ n16 x < 65536 := by unfold n16; have := x.isLt; omega
theorem n16_inj {x y : BitVec 16} : n16 x = n16 y ↔ x = y := by
  unfold n16
  constructor
  · intro h; exact BitVec.eq_of_toNat_eq (by omega)
  · rintro rfl; rfl
theorem n16_exists (n : Int) (h0 : 0 ≤ n) (h1 : n < 65536) : ∃ x : BitVec 16, n = n16 x := ⟨BitVec.ofInt 16 n, by unfold n16; simp; omega⟩
theorem wrap16 (n : Int) : IntKind.u16.wrap n = n % 65536 := by simp [IntKind.wrap, IntKind.bits, IntKind.signed]
theorem ofInt_n16 (x : BitVec 16) : BitVec.ofInt 16 (n16 x) = x := by
  apply BitVec.eq_of_toNat_eq
  have := x.isLt
  unfold n16
  simp
theorem wrap_n16 (x : BitVec 16) : IntKind.u16.wrap ((x.toNat : Nat) : Int) = n16 x := by
  rw [wrap16]
  have := n16_bound x
  unfold n16 at this ⊢
  omega
theorem xor16 (x y : BitVec 16) : Go.bits .xor .u16 (n16 x) (n16 y) = n16 (x ^^^ y) := by
  unfold Go.bits
  simp only [IntKind.bits, ofInt_n16]
  exact wrap_n16 _
theorem and16 (x y : BitVec 16) : Go.bits .and .u16 (n16 x) (n16 y) = n16 (x &&& y) := by
  unfold Go.bits
  simp only [IntKind.bits, ofInt_n16]
  exact wrap_n16 _
theorem shl1 (x : BitVec 16) : IntKind.u16.wrap (n16 x * 2) = n16 (x <<< 1) := by
  rw [wrap16]
  unfold n16
  simp [Nat.shiftLeft_eq]
theorem wide16 (c : UInt8) : IntKind.u16.wrap (IntKind.u16.wrap (c.toNat : Int) * 256) = n16 (wide c) := by
  rw [wrap16, wrap16]
  have := c.toNat_lt
  unfold n16 wide
  simp [Nat.shiftLeft_eq]
  omega
theorem bit15 : ∀ i, i < 16 → (0x8000#16).getLsbD i = decide (i = 15) := by decide
theorem top_and (x : BitVec 16) : (x &&& 0x8000#16) = if x.msb then 0x8000#16 else 0#16 := by
  apply BitVec.eq_of_getLsbD_eq
  intro i hi
  rw [BitVec.getLsbD_and, bit15 i hi, BitVec.msb_eq_getLsbD_last]
  by_cases e : i = 15
  · subst e
    cases h : x.getLsbD 15 <;> simp [h]
  · cases h : x.getLsbD 15 <;> simp [h, e, bit15 i hi]
theorem top16 (x : BitVec 16) : (Go.bits .and .u16 (n16 x) 32768 != 0) = x.msb := by
  have h : (32768 : Int) = n16 0x8000#16 := rfl
  rw [h, and16, top_and]
  have h0 : (0 : Int) = n16 0#16 := rfl
  rw [h0]
  cases x.msb with
  | true =>
    simp only [if_true]
    rw [bne_iff_ne, ne_eq, n16_inj]
    exact fun e => absurd (congrArg (fun z : BitVec 16 => z.getLsbD 15) e) (by simp)
  | false => simp
theorem ge16 (x : BitVec 16) : decide (n16 x ≥ 32768) = x.msb := by
  unfold n16
  rw [BitVec.msb_eq_decide]
  simp only [Nat.reduceSub, Nat.reducePow, ge_iff_le, decide_eq_decide]
  omega
theorem poly16 : (4129 : Int) = n16 P := rfl
theorem step16 (x : BitVec 16) (h : x.msb = true) : Go.bits .xor .u16 (IntKind.u16.wrap (n16 x * 2)) 4129 = n16 (T x) := by
  rw [shl1, poly16, xor16]
  unfold T
  rw [if_pos h]
theorem step16' (x : BitVec 16) (h : x.msb = false) : IntKind.u16.wrap (n16 x * 2) = n16 (T x) := by
  rw [shl1]
  unfold T
  rw [h]
  rfl

theorem _root_.Go.Proofs.Ytpphejjdgplalaa.K.Dr.rd {w w' : World} {A : Option Addr} {n : Nat} {l : List UInt8} (h : Dr w w') (hr : Rd w A n l) : Rd w' A n l := hr.upd (h.upd (fun _ => False)) (fun _ _ h => h)
theorem crc_snoc (s : BitVec 16) (l : List UInt8) (k : Nat) (h : k < l.length) : crc s (l.take (k + 1)) = byte (crc s (l.take k)) l[k] := by
  rw [List.take_succ_eq_append_getElem h, crc_append]; rfl

set_option maxHeartbeats 1000000 in
set_option maxRecDepth 100000 in
theorem more_calls (s : BitVec 16) (A : Option Addr) (n c : Nat) (l : List UInt8) (w : World) (hr : Rd w A n l) :
    Calls Try.prog 52 #[.int .u16 (n16 s), .slice A n c] w fun e w' => e = .returned (.int .u16 (n16 (crc s l))) ∧ Dr w w' := by
  have HR := Asd.mk hr
  have hlim := hr.lim
  have HL := Asd.mk hr.len
  clear hr
  go_enter Try.func52, Try.ntmps52
  go_wp2
  go_loopw [0, 9] (fun v0 v9 w' => ∃ k : Nat, k ≤ n ∧ v9 = .int .i64 k ∧ v0 = .int .u16 (n16 (crc s (l.take k))) ∧ Dr w w') (fun _ v9 _ => n - (intOf v9).toNat)
  case atStart => exact ⟨0, Nat.zero_le _, rfl, rfl, 0, rfl⟩
  case round =>
    obtain ⟨k, hk, rfl, rfl, m, rfl⟩ := hrel
    by_cases hlt : k < n
    · obtain ⟨ad, e, hc⟩ := HR.out.at k hlt
      subst e
      have hkl : k < l.length := by rw [HL.out]; exact hlt
      obtain ⟨b, hb⟩ : ∃ b : UInt8, b = l[k] := ⟨_, rfl⟩
      have hc' : w.cell? (ad.add k) = some (.int .u8 (b.toNat : Int)) := by rw [hb]; exact hc
      clear hc
      obtain ⟨x, hx⟩ : ∃ x, x = crc s (l.take k) := ⟨_, rfl⟩
      have HX : Asd (byte x b = crc s (l.take (k + 1))) := ⟨by rw [hx, hb, crc_snoc s l k hkl]⟩
      rw [← hx]
      clear hx hb
      go_wp2
      go_loop [0, 18] (fun v0 v18 => ∃ j : Nat, j ≤ 8 ∧ v18 = .int .i64 j ∧ v0 = .int .u16 (n16 (pow j (x ^^^ wide b)))) (fun _ v18 => 8 - (intOf v18).toNat)
      case atStart => exact ⟨0, by omega, rfl, by simp only [pow]; rw [← xor16, ← wide16]⟩
      case round =>
        obtain ⟨j, hj, rfl, rfl⟩ := hrel
        obtain ⟨y, hy⟩ : ∃ y, y = pow j (x ^^^ wide b) := ⟨_, rfl⟩
        rw [← hy]
        have HY := Asd.mk hy
        clear hy
        by_cases hj8 : j < 8
        · have ht := top16 y
          cases hm : y.msb with
          | true =>
            rw [hm] at ht
            have HM := Asd.mk hm
            clear hm
            go_wp2
            go_round
            case rel => exact ⟨j + 1, by omega, by go_num, by rw [step16 y HM.out, pow, HY.out]⟩
            case measure => simp [intOf]; omega
          | false =>
            rw [hm] at ht
            have HM := Asd.mk hm
            clear hm
            go_wp2
            go_round
            case rel => exact ⟨j + 1, by omega, by go_num, by rw [step16' y HM.out, pow, HY.out]⟩
            case measure => simp [intOf]; omega
        · obtain rfl : j = 8 := by omega
          have HZ : Asd (y = crc s (l.take (k + 1))) := ⟨by rw [HY.out, byte_pow, HX.out]⟩
          clear HY
          go_wp2
          go_roundw
          case rel => exact ⟨k + 1, by omega, by go_num, by rw [HZ.out], m, rfl⟩
          case measure => simp [intOf]; omega
    · have HT : Asd (l.take k = l) := ⟨List.take_of_length_le (by rw [HL.out]; omega)⟩
      go_wp2
      go_ret
      exact ⟨by rw [HT.out]; rfl, m, rfl⟩

set_option maxHeartbeats 400000 in
theorem of_calls (A : Option Addr) (n c : Nat) (l : List UInt8) (w : World) (hr : Rd w A n l) :
    Calls Try.prog 51 #[.slice A n c] w fun e w' => e = .returned (.int .u16 (n16 (crc 0xffff#16 l))) ∧ Dr w w' := by
  have HR := Asd.mk hr
  clear hr
  go_enter Try.func51, Try.ntmps51
  go_wp2_with fail
  refine (more_calls 0xffff#16 A n c l _ HR.out).mono ?_
  rintro e w' ⟨rfl, m, rfl⟩
  go_wp2
  go_ret
  exact ⟨rfl, m, rfl⟩

theorem and8 (a : Nat) (ha : a < 256) : Go.bits .and .u8 (a : Int) 1 = ((a % 2 : Nat) : Int) := by
  show IntKind.u8.wrap (((BitVec.ofInt 8 (a : Int) &&& BitVec.ofInt 8 1).toNat : Nat) : Int) = _
  have e2 : (BitVec.ofInt 8 (a : Int) &&& BitVec.ofInt 8 1).toNat = a % 2 := by
    rw [BitVec.toNat_and]
    have : (BitVec.ofInt 8 1).toNat = 1 := by decide
    rw [this, Nat.and_one_is_mod]
    simp
  rw [e2]
  simp only [IntKind.wrap, IntKind.bits, IntKind.signed]
  simp
  omega
theorem bit8 (c : UInt8) (j : Nat) : (Go.bits .and .u8 ((c.toNat : Int) / 2 ^ (7 - j)) 1 == 1) = bitOf c j := by
  have h := c.toNat_lt
  obtain ⟨d, hd⟩ : ∃ d, 7 - j = d := ⟨_, rfl⟩
  unfold bitOf
  rw [hd, show ((c.toNat : Int) / 2 ^ d) = ((c.toNat / 2 ^ d : Nat) : Int) by norm_cast, and8 _ (Nat.lt_of_le_of_lt (Nat.div_le_self _ _) h)]
  rw [BitVec.getLsbD, ← Nat.shiftRight_eq_div_pow]
  rw [show c.toBitVec.toNat = c.toNat from rfl, Nat.testBit, Nat.and_comm 1]
  rw [Nat.and_one_is_mod]
  have : (c.toNat >>> d) % 2 = 0 ∨ (c.toNat >>> d) % 2 = 1 := by omega
  rcases this with h | h <;> rw [h] <;> decide
theorem testF (b : UInt8) (y : BitVec 16) (j d : Nat) (hd : 7 - j = d) : ((Go.bits .and .u8 ((b.toNat : Int) / 2 ^ d) 1 == 1) == decide (32768 ≤ n16 y)) = (bitOf b j == y.msb) := by
  rw [← hd, bit8, ← ge16]
theorem stepF (x : BitVec 16) (b : Bool) (h : (b != x.msb) = true) : Go.bits .xor .u16 (IntKind.u16.wrap (n16 x * 2)) 4129 = n16 (F x b) := by
  rw [shl1, poly16, xor16]
  unfold F
  rw [if_pos h]
theorem stepF' (x : BitVec 16) (b : Bool) (h : (b != x.msb) = false) : IntKind.u16.wrap (n16 x * 2) = n16 (F x b) := by
  rw [shl1]
  unfold F
  rw [h]
  rfl

set_option maxHeartbeats 1000000 in
set_option maxRecDepth 100000 in
theorem law_of_calls (s : BitVec 16) (A : Option Addr) (n c : Nat) (l : List UInt8) (w : World) (hr : Rd w A n l) :
    Calls Try.prog 47 #[.int .u16 (n16 s), .slice A n c] w fun e w' => e = .returned (.int .u16 (n16 (crc s l))) ∧ Dr w w' := by
  have HR := Asd.mk hr
  have hlim := hr.lim
  have HL := Asd.mk hr.len
  clear hr
  go_enter Try.func47, Try.ntmps47
  go_wp2
  go_loopw [0, 12] (fun v0 v12 w' => ∃ k : Nat, k ≤ n ∧ v12 = .int .i64 k ∧ v0 = .int .u16 (n16 (crc s (l.take k))) ∧ Dr w w') (fun _ v12 _ => n - (intOf v12).toNat)
  case atStart => exact ⟨0, Nat.zero_le _, rfl, rfl, 0, rfl⟩
  case round =>
    obtain ⟨k, hk, rfl, rfl, m, rfl⟩ := hrel
    by_cases hlt : k < n
    · obtain ⟨ad, e, hc⟩ := HR.out.at k hlt
      subst e
      have hkl : k < l.length := by rw [HL.out]; exact hlt
      obtain ⟨b, hb⟩ : ∃ b : UInt8, b = l[k] := ⟨_, rfl⟩
      have hc' : w.cell? (ad.add k) = some (.int .u8 (b.toNat : Int)) := by rw [hb]; exact hc
      clear hc
      obtain ⟨x, hx⟩ : ∃ x, x = crc s (l.take k) := ⟨_, rfl⟩
      have HX : Asd (byte x b = crc s (l.take (k + 1))) := ⟨by rw [hx, hb, crc_snoc s l k hkl]⟩
      rw [← hx]
      clear hx hb
      go_wp2
      go_loop [0, 7] (fun v0 v7 => ∃ j : Nat, j ≤ 8 ∧ v7 = .int .i64 (7 - (j : Int)) ∧ v0 = .int .u16 (n16 (run x (bitOf b) j))) (fun _ v7 => (intOf v7 + 1).toNat)
      case atStart => exact ⟨0, by omega, rfl, rfl⟩
      case round =>
        obtain ⟨j, hj, rfl, rfl⟩ := hrel
        obtain ⟨y, hy⟩ : ∃ y, y = run x (bitOf b) j := ⟨_, rfl⟩
        rw [← hy]
        have HY := Asd.mk hy
        clear hy
        by_cases hj8 : j < 8
        · obtain ⟨d, hd⟩ : ∃ d : Nat, 7 - (j : Int) = (d : Int) := ⟨7 - j, by omega⟩
          have hd7 : d ≤ 7 := by omega
          rw [hd]
          have HD := Asd.mk hd
          clear hd
          go_wp2
          · go_round
            case rel =>
              have h : (!((Go.bits .and .u8 ((b.toNat : Int) / 2 ^ d) 1 == 1) == decide (32768 ≤ n16 y))) = true := by assumption
              rw [testF b y j d (by have := HD.out; omega)] at h
              exact ⟨j + 1, by omega, by have := HD.out; congr 1; omega, by rw [stepF y _ h, run, HY.out]⟩
            case measure => simp [intOf]
          · go_round
            case rel =>
              have h : (!((Go.bits .and .u8 ((b.toNat : Int) / 2 ^ d) 1 == 1) == decide (32768 ≤ n16 y))) = false := by assumption
              rw [testF b y j d (by have := HD.out; omega)] at h
              exact ⟨j + 1, by omega, by have := HD.out; congr 1; omega, by rw [stepF' y _ h, run, HY.out]⟩
            case measure => simp [intOf]
        · obtain rfl : j = 8 := by omega
          have HZ : Asd (y = crc s (l.take (k + 1))) := ⟨by rw [HY.out, ← HX.out]; rfl⟩
          clear HY
          go_wp2
          go_roundw
          case rel => exact ⟨k + 1, by omega, by go_num, by rw [HZ.out], m, rfl⟩
          case measure => simp [intOf]; omega
    · have HT : Asd (l.take k = l) := ⟨List.take_of_length_le (by rw [HL.out]; omega)⟩
      go_wp2
      go_ret
      exact ⟨by rw [HT.out]; rfl, m, rfl⟩
end Go.Proofs.Ytpphejjdgplalaa.Sm
