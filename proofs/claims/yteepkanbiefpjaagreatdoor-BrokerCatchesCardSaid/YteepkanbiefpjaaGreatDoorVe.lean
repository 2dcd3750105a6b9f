/- What these laws lean on, part Ve: contracts of the given program's functions and plain lists. No condition. -/
import Derived.Test.YteepkanbiefpjaaGreatDoorVa
import Derived.Laws.Bits64
import Derived.Test.YteepkanbiefpjaaGreatDoorVd
import Derived.Lib.SmallJoins
import Derived.Deep.RegionHeld3
namespace Go.Proofs.YteepkanbiefpjaaGreatDoor.Crc
def P : BitVec 16 := 0x1021#16
def T (x : BitVec 16) : BitVec 16 := if x.msb then (x <<< 1) ^^^ P else x <<< 1
def F (x : BitVec 16) (b : Bool) : BitVec 16 := if b != x.msb then (x <<< 1) ^^^ P else x <<< 1
def run (s : BitVec 16) (g : Nat → Bool) : Nat → BitVec 16
  | 0 => s
  | n + 1 => F (run s g n) (g n)
def pow : Nat → BitVec 16 → BitVec 16
  | 0, x => x
  | n + 1, x => T (pow n x)
theorem shl_xor (y d : BitVec 16) : (y ^^^ d) <<< 1 = (y <<< 1) ^^^ (d <<< 1) := by
  ext i hi; simp [BitVec.getElem_shiftLeft]; by_cases h : i = 0 <;> simp [h]
theorem xor3 (x y p : BitVec 16) : (x ^^^ p) ^^^ (y ^^^ p) = x ^^^ y := by
  ext i hi; simp; cases x[i] <;> cases y[i] <;> cases p[i] <;> rfl
theorem xor_swap (x y p : BitVec 16) : (x ^^^ y) ^^^ p = (x ^^^ p) ^^^ y := by
  ext i hi; simp; cases x[i] <;> cases y[i] <;> cases p[i] <;> rfl
theorem xor_cancel (x y : BitVec 16) : x ^^^ y ^^^ y = x := by
  ext i hi; simp
theorem xor_zero_iff (x y : BitVec 16) : x ^^^ y = 0#16 ↔ x = y := by
  constructor
  · intro h
    have := xor_cancel x y
    rw [h] at this
    rw [← this]; simp
  · rintro rfl; simp
theorem T_F (y d : BitVec 16) : T (y ^^^ d) = F y d.msb ^^^ (d <<< 1) := by
  unfold T F
  rw [BitVec.msb_xor, shl_xor]
  cases y.msb <;> cases d.msb <;> simp <;> exact xor_swap _ _ _
theorem F_lin (x y : BitVec 16) (a b : Bool) : F (x ^^^ y) (a ^^ b) = F x a ^^^ F y b := by
  unfold F
  rw [BitVec.msb_xor, shl_xor]
  cases x.msb <;> cases y.msb <;> cases a <;> cases b <;> simp <;> first | exact xor_swap _ _ _ | exact (xor3 _ _ _).symm | exact BitVec.xor_assoc _ _ _
theorem F_false (x : BitVec 16) : F x false = T x := by unfold F T; cases x.msb <;> rfl
theorem F_true (x : BitVec 16) : F x true = T x ^^^ P := by unfold F T; cases x.msb <;> simp [xor_cancel]
theorem T_lin (x y : BitVec 16) : T (x ^^^ y) = T x ^^^ T y := by
  have := F_lin x y false false
  simpa [F_false] using this
theorem T_zero : T 0#16 = 0#16 := by decide
theorem T_eq_zero (x : BitVec 16) (h : T x = 0#16) : x = 0#16 := by
  unfold T at h
  split at h
  · have h1 : ((x <<< 1) ^^^ P).getLsbD 0 = false := by rw [h]; rfl
    simp [P] at h1
  · rename_i hm
    have hm : x.msb = false := by simpa using hm
    ext i hi
    by_cases h15 : i = 15
    · subst h15
      simp [BitVec.msb_eq_getLsbD_last] at hm
      simpa using hm
    · have h2 : (x <<< 1).getLsbD (i + 1) = false := by rw [h]; simp
      simp [show i + 1 < 16 by omega] at h2
      simpa [BitVec.getLsbD_eq_getElem hi] using h2
theorem T_inj (x y : BitVec 16) (h : T x = T y) : x = y := by
  have h1 : T (x ^^^ y) = 0#16 := by rw [T_lin, h]; simp
  exact (xor_zero_iff x y).1 (T_eq_zero _ h1)
theorem pow_inj (n : Nat) (x y : BitVec 16) (h : pow n x = pow n y) : x = y := by
  induction n with
  | zero => exact h
  | succ n ih => exact ih (T_inj _ _ h)
theorem pow_zero (n : Nat) : pow n 0#16 = 0#16 := by
  induction n with
  | zero => rfl
  | succ n ih => rw [pow, ih, T_zero]
theorem pow_ne (n : Nat) (x : BitVec 16) (h : x ≠ 0#16) : pow n x ≠ 0#16 := fun e => h (pow_inj n x 0#16 (e.trans (pow_zero n).symm))
theorem pow_add (m n : Nat) (x : BitVec 16) : pow (m + n) x = pow n (pow m x) := by
  induction n with
  | zero => rfl
  | succ n ih => rw [← Nat.add_assoc, pow, ih, pow]
theorem run_add (s : BitVec 16) (g : Nat → Bool) (m n : Nat) : run s g (m + n) = run (run s g m) (fun i => g (m + i)) n := by
  induction n with
  | zero => rfl
  | succ n ih => rw [← Nat.add_assoc, run, ih, run]
theorem run_congr (s : BitVec 16) (g h : Nat → Bool) (n : Nat) (e : ∀ i, i < n → g i = h i) : run s g n = run s h n := by
  induction n with
  | zero => rfl
  | succ n ih => rw [run, run, ih (fun i hi => e i (by omega)), e n (by omega)]
theorem run_false (s : BitVec 16) (g : Nat → Bool) (n : Nat) (e : ∀ i, i < n → g i = false) : run s g n = pow n s := by
  induction n with
  | zero => rfl
  | succ n ih => rw [run, pow, ih (fun i hi => e i (by omega)), e n (by omega), F_false]
theorem pow_run (x d : BitVec 16) (n : Nat) (hn : n ≤ 16) : pow n (x ^^^ d) = run x (fun i => d.getMsbD i) n ^^^ (d <<< n) := by
  induction n with
  | zero => simp [pow, run]
  | succ n ih =>
    rw [pow, ih (by omega), T_F, run]
    have h1 : (d <<< n).msb = d.getMsbD n := by
      rw [BitVec.msb_eq_getLsbD_last, BitVec.getMsbD]
      simp [show n < 16 by omega, show ¬ 15 < n by omega]
      rw [BitVec.getLsbD_eq_getElem (by omega)]
    rw [h1, ← BitVec.shiftLeft_add]
def bitOf (c : UInt8) (i : Nat) : Bool := c.toBitVec.getLsbD (7 - i)
def byte (s : BitVec 16) (c : UInt8) : BitVec 16 := run s (bitOf c) 8
def crc (s : BitVec 16) (l : List UInt8) : BitVec 16 := l.foldl byte s
def wide (c : UInt8) : BitVec 16 := c.toBitVec.setWidth 16 <<< 8
theorem byte_pow (x : BitVec 16) (c : UInt8) : pow 8 (x ^^^ wide c) = byte x c := by
  rw [pow_run x (wide c) 8 (by omega)]
  have h0 : wide c <<< 8 = 0#16 := by
    ext i hi
    simp [wide]
  rw [h0]
  simp only [BitVec.xor_zero]
  refine run_congr _ _ _ _ fun i hi => ?_
  unfold wide bitOf
  rw [BitVec.getMsbD]
  simp [show i < 16 by omega, show 15 - i < 16 by omega, show ¬ (15 - i < 8) by omega]
  congr 1
  omega
theorem crc_append (s : BitVec 16) (l m : List UInt8) : crc s (l ++ m) = crc (crc s l) m := by simp [crc, List.foldl_append]
theorem burst (g : Nat → Bool) (n p q : Nat) (h : ∀ i, g i = true → p ≤ i ∧ i < p + 16) (hq : q < n) (hg : g q = true) : run 0#16 g n ≠ 0#16 := by
  have hp := h q hg
  obtain ⟨m, hm1, hm2, hm3⟩ : ∃ m, m ≤ 16 ∧ p + m ≤ n ∧ q < p + m ∧ (m = 16 ∨ p + m = n) := by
    rcases Nat.le_total (p + 16) n with h1 | h1
    · exact ⟨16, by omega, h1, by omega, .inl rfl⟩
    · exact ⟨n - p, by omega, by omega, by omega, .inr (by omega)⟩
  obtain ⟨hm3, hm4⟩ := hm3
  let bs := (List.range 16).map fun i => decide (i < m) && g (p + i)
  have hbs : bs.length = 16 := by simp [bs]
  let D : BitVec 16 := (BitVec.ofBoolListBE bs).cast hbs
  have hD : ∀ i, i < 16 → D.getMsbD i = (decide (i < m) && g (p + i)) := by
    intro i hi
    simp [D, bs, hi]
  have hne : D ≠ 0#16 := by
    intro e
    have := hD (q - p) (by omega)
    rw [e] at this
    simp [show q - p < m by omega, show p + (q - p) = q by omega, hg] at this
  have e1 : run 0#16 g p = 0#16 := by
    rw [run_false _ _ _ (fun i hi => by
      cases hgi : g i with
      | false => rfl
      | true => have := h i hgi; omega), pow_zero]
  have e2 : run 0#16 g (p + m) = pow m D := by
    rw [run_add, e1]
    have := pow_run 0#16 D m hm1
    have hz : D <<< m = 0#16 := by
      apply BitVec.eq_of_getMsbD_eq
      intro i hi
      rw [BitVec.getMsbD_shiftLeft]
      rcases Nat.lt_or_ge (i + m) 16 with h1 | h1
      · rw [hD _ h1]
        simp [show ¬ i + m < m by omega]
      · rw [BitVec.getMsbD_of_ge _ _ h1]
        simp
    rw [hz] at this
    simp only [BitVec.zero_xor, BitVec.xor_zero] at this
    rw [this]
    refine run_congr _ _ _ _ fun i hi => ?_
    rw [hD i (by omega)]
    simp [hi]
  have e3 : run 0#16 g n = pow (n - (p + m)) (pow m D) := by
    have : n = (p + m) + (n - (p + m)) := by omega
    rw [this, run_add, e2, run_false]
    · congr 1
      omega
    · intro i hi
      cases hgi : g (p + m + i) with
      | false => rfl
      | true =>
        have := h _ hgi
        omega
  rw [e3]
  exact pow_ne _ _ (pow_ne _ _ hne)
def chk : Nat → BitVec 16 → Bool
  | 0, _ => true
  | n + 1, x => (T x != P) && chk n (T x)
theorem chk_ok : chk 2400 P = true := by decide +kernel
theorem chk_pow (n : Nat) : ∀ x, chk n x = true → ∀ k, 0 < k → k ≤ n → pow k x ≠ P := by
  induction n with
  | zero => intro x _ k h0 h1; omega
  | succ n ih =>
    intro x hx k h0 h1
    simp only [chk, Bool.and_eq_true, bne_iff_ne, ne_eq] at hx
    obtain ⟨k, rfl⟩ : ∃ m, k = 1 + m := ⟨k - 1, by omega⟩
    rw [pow_add]
    rcases Nat.eq_zero_or_pos k with h2 | h2
    · subst h2
      exact hx.1
    · exact ih (T x) hx.2 k h2 (by omega)
theorem two (g : Nat → Bool) (n i j : Nat) (hij : i < j) (hj : j < n) (hn : j - i ≤ 2400) (h : ∀ k, g k = true ↔ k = i ∨ k = j) : run 0#16 g n ≠ 0#16 := by
  have hf : ∀ k, k ≠ i → k ≠ j → g k = false := fun k h1 h2 => by
    cases hg : g k with
    | false => rfl
    | true => rcases (h k).1 hg with h3 | h3 <;> contradiction
  have e1 : run 0#16 g i = 0#16 := by rw [run_false _ _ _ (fun k hk => hf k (by omega) (by omega)), pow_zero]
  have e2 : run 0#16 g (i + 1) = P := by rw [run, e1, (h i).2 (.inl rfl)]; decide
  have e3 : run 0#16 g j = pow (j - i - 1) P := by
    have : j = (i + 1) + (j - i - 1) := by omega
    rw [this, run_add, e2, run_false _ _ _ (fun k hk => hf _ (by omega) (by omega))]
    congr 1
    omega
  have e4 : run 0#16 g (j + 1) = pow (j - i) P ^^^ P := by
    rw [run, e3, (h j).2 (.inr rfl), F_true]
    have : j - i = (j - i - 1) + 1 := by omega
    rw [this, pow]
    congr 3
  have e5 : run 0#16 g n = pow (n - (j + 1)) (pow (j - i) P ^^^ P) := by
    have : n = (j + 1) + (n - (j + 1)) := by omega
    rw [this, run_add, e4, run_false _ _ _ (fun k hk => hf _ (by omega) (by omega))]
    congr 1
    omega
  rw [e5]
  refine pow_ne _ _ fun e => ?_
  exact chk_pow 2400 P chk_ok (j - i) (by omega) hn ((xor_zero_iff _ _).1 e)
end Go.Proofs.YteepkanbiefpjaaGreatDoor.Crc
set_option linter.unusedVariables false
set_option linter.unusedSimpArgs false
namespace Go.Proofs.YteepkanbiefpjaaGreatDoor.Sm
open Go.RowKit K Crc
def n16 (x : BitVec 16) : Int := (x.toNat : Int)
theorem n16_bound (x : BitVec 16) : 0 ≤ n16 x ∧ n16 x < 65536 := by unfold n16; have := x.isLt; omega
theorem n16_inj {x y : BitVec 16} : n16 x = n16 y ↔ x = y := by
  unfold n16
  constructor
  · intro h; exact BitVec.eq_of_toNat_eq (by omega)
  · rintro rfl; rfl
theorem wrap16 (n : Int) : IntKind.u16.wrap n = n % 65536 := by simp [IntKind.wrap, IntKind.bits, IntKind.signed]
theorem ofInt_n16 (x : BitVec 16) : BitVec.ofInt 16 (n16 x) = x := by
  apply BitVec.eq_of_toNat_eq
  have := x.isLt
  unfold n16
  simp
theorem wrap_n16 (x : BitVec 16) : IntKind.u16.wrap ((x.toNat : Nat) : Int) = n16 x := by
  rw [wrap16]
  have := n16_bound x
  unfold n16 at this ⊢
  omega
theorem xor16 (x y : BitVec 16) : Go.bits .xor .u16 (n16 x) (n16 y) = n16 (x ^^^ y) := by
  unfold Go.bits
  simp only [IntKind.bits, ofInt_n16]
  exact wrap_n16 _
theorem and16 (x y : BitVec 16) : Go.bits .and .u16 (n16 x) (n16 y) = n16 (x &&& y) := by
  unfold Go.bits
  simp only [IntKind.bits, ofInt_n16]
  exact wrap_n16 _
theorem shl1 (x : BitVec 16) : IntKind.u16.wrap (n16 x * 2) = n16 (x <<< 1) := by
  rw [wrap16]
  unfold n16
  simp [Nat.shiftLeft_eq]
theorem wide16 (c : UInt8) : IntKind.u16.wrap (IntKind.u16.wrap (c.toNat : Int) * 256) = n16 (wide c) := by
  rw [wrap16, wrap16]
  have := c.toNat_lt
  unfold n16 wide
  simp [Nat.shiftLeft_eq]
  omega
theorem bit15 : ∀ i, i < 16 → (0x8000#16).getLsbD i = decide (i = 15) := by decide
theorem top_and (x : BitVec 16) : (x &&& 0x8000#16) = if x.msb then 0x8000#16 else 0#16 := by
  apply BitVec.eq_of_getLsbD_eq
  intro i hi
  rw [BitVec.getLsbD_and, bit15 i hi, BitVec.msb_eq_getLsbD_last]
  by_cases e : i = 15
  · subst e
    cases h : x.getLsbD 15 <;> simp [h]
  · cases h : x.getLsbD 15 <;> simp [h, e, bit15 i hi]
theorem top16 (x : BitVec 16) : (Go.bits .and .u16 (n16 x) 32768 != 0) = x.msb := by
  have h : (32768 : Int) = n16 0x8000#16 := rfl
  rw [h, and16, top_and]
  have h0 : (0 : Int) = n16 0#16 := rfl
  rw [h0]
  cases x.msb with
  | true =>
    simp only [if_true]
    rw [bne_iff_ne, ne_eq, n16_inj]
    exact fun e => absurd (congrArg (fun z : BitVec 16 => z.getLsbD 15) e) (by simp)
  | false => simp
theorem poly16 : (4129 : Int) = n16 P := rfl
theorem step16 (x : BitVec 16) (h : x.msb = true) : Go.bits .xor .u16 (IntKind.u16.wrap (n16 x * 2)) 4129 = n16 (T x) := by
  rw [shl1, poly16, xor16]
  unfold T
  rw [if_pos h]
theorem step16' (x : BitVec 16) (h : x.msb = false) : IntKind.u16.wrap (n16 x * 2) = n16 (T x) := by
  rw [shl1]
  unfold T
  rw [h]
  rfl
theorem _root_.Go.Proofs.YteepkanbiefpjaaGreatDoor.K.Dr.rd {w w' : World} {A : Option Addr} {n : Nat} {l : List UInt8} (h : Dr w w') (hr : Rd w A n l) : Rd w' A n l := hr.upd (h.upd (fun _ => False)) (fun _ _ h => h)
theorem crc_snoc (s : BitVec 16) (l : List UInt8) (k : Nat) (h : k < l.length) : crc s (l.take (k + 1)) = byte (crc s (l.take k)) l[k] := by
  rw [List.take_succ_eq_append_getElem h, crc_append]; rfl
set_option maxHeartbeats 1000000 in
set_option maxRecDepth 100000 in
theorem more_calls (s : BitVec 16) (A : Option Addr) (n c : Nat) (l : List UInt8) (w : World) (hr : Rd w A n l) :
    Calls Tryz.prog 109 #[.int .u16 (n16 s), .slice A n c] w fun e w' => e = .returned (.int .u16 (n16 (crc s l))) ∧ Dr w w' := by
  have HR := Asd.mk hr
  have hlim := hr.lim
  have HL := Asd.mk hr.len
  clear hr
  go_enter Tryz.func109, Tryz.ntmps109
  go_wp2
  go_loopw [0, 9] (fun v0 v9 w' => ∃ k : Nat, k ≤ n ∧ v9 = .int .i64 k ∧ v0 = .int .u16 (n16 (crc s (l.take k))) ∧ Dr w w') (fun _ v9 _ => n - (intOf v9).toNat)
  case atStart => exact ⟨0, Nat.zero_le _, rfl, rfl, 0, rfl⟩
  case round =>
    obtain ⟨k, hk, rfl, rfl, m, rfl⟩ := hrel
    by_cases hlt : k < n
    · obtain ⟨ad, e, hc⟩ := HR.out.at k hlt
      subst e
      have hkl : k < l.length := by rw [HL.out]; exact hlt
      obtain ⟨b, hb⟩ : ∃ b : UInt8, b = l[k] := ⟨_, rfl⟩
      have hc' : w.cell? (ad.add k) = some (.int .u8 (b.toNat : Int)) := by rw [hb]; exact hc
      clear hc
      obtain ⟨x, hx⟩ : ∃ x, x = crc s (l.take k) := ⟨_, rfl⟩
      have HX : Asd (byte x b = crc s (l.take (k + 1))) := ⟨by rw [hx, hb, crc_snoc s l k hkl]⟩
      rw [← hx]
      clear hx hb
      go_wp2
      go_loop [0, 18] (fun v0 v18 => ∃ j : Nat, j ≤ 8 ∧ v18 = .int .i64 j ∧ v0 = .int .u16 (n16 (pow j (x ^^^ wide b)))) (fun _ v18 => 8 - (intOf v18).toNat)
      case atStart => exact ⟨0, by omega, rfl, by simp only [pow]; rw [← xor16, ← wide16]⟩
      case round =>
        obtain ⟨j, hj, rfl, rfl⟩ := hrel
        obtain ⟨y, hy⟩ : ∃ y, y = pow j (x ^^^ wide b) := ⟨_, rfl⟩
        rw [← hy]
        have HY := Asd.mk hy
        clear hy
        by_cases hj8 : j < 8
        · have ht := top16 y
          cases hm : y.msb with
          | true =>
            rw [hm] at ht
            have HM := Asd.mk hm
            clear hm
            go_wp2
            go_round
            case rel => exact ⟨j + 1, by omega, by go_num, by rw [step16 y HM.out, pow, HY.out]⟩
            case measure => simp [intOf]; omega
          | false =>
            rw [hm] at ht
            have HM := Asd.mk hm
            clear hm
            go_wp2
            go_round
            case rel => exact ⟨j + 1, by omega, by go_num, by rw [step16' y HM.out, pow, HY.out]⟩
            case measure => simp [intOf]; omega
        · obtain rfl : j = 8 := by omega
          have HZ : Asd (y = crc s (l.take (k + 1))) := ⟨by rw [HY.out, byte_pow, HX.out]⟩
          clear HY
          go_wp2
          go_roundw
          case rel => exact ⟨k + 1, by omega, by go_num, by rw [HZ.out], m, rfl⟩
          case measure => simp [intOf]; omega
    · have HT : Asd (l.take k = l) := ⟨List.take_of_length_le (by rw [HL.out]; omega)⟩
      go_wp2
      go_ret
      exact ⟨by rw [HT.out]; rfl, m, rfl⟩
set_option maxHeartbeats 400000 in
theorem of_calls (A : Option Addr) (n c : Nat) (l : List UInt8) (w : World) (hr : Rd w A n l) :
    Calls Tryz.prog 86 #[.slice A n c] w fun e w' => e = .returned (.int .u16 (n16 (crc 0xffff#16 l))) ∧ Dr w w' := by
  have HR := Asd.mk hr
  clear hr
  go_enter Tryz.func86, Tryz.ntmps86
  go_wp2_with fail
  refine (more_calls 0xffff#16 A n c l _ HR.out).mono ?_
  rintro e w' ⟨rfl, m, rfl⟩
  go_wp2
  go_ret
  exact ⟨rfl, m, rfl⟩
end Go.Proofs.YteepkanbiefpjaaGreatDoor.Sm
set_option linter.unusedVariables false
set_option linter.unusedSimpArgs false
namespace Go.Proofs.YteepkanbiefpjaaGreatDoor.Fr
open Go.RowKit K Crc Sm
theorem info8 : (Tryz.prog.info? 5).map (fun i => (i.zero, i.size, i.bytes)) = some (some (.int .u8 0), 1, 1) := by kernel_rfl
def sumOf (kind : UInt8) (body : List UInt8) : BitVec 16 := crc 0xffff#16 (kind :: body)
def fbytes (kind : UInt8) (body : List UInt8) : List UInt8 :=
  [UInt8.ofNat ((body.length + 1) / 256), UInt8.ofNat (body.length + 1), kind] ++ body ++ [UInt8.ofNat ((sumOf kind body).toNat / 256), UInt8.ofNat (sumOf kind body).toNat]
set_option maxHeartbeats 400000 in
theorem right_calls (kind : Int) (A : Option Addr) (n c : Nat) (w : World) :
    Calls Tryz.prog 85 #[.agg #[.int .u8 kind, .slice A n c]] w fun e w' => e = .returned (.bool (decide (n ≤ 2048))) ∧ Upd (fun _ => False) w w' := by
  go_enter Tryz.func85, Tryz.ntmps85
  go_wp2
  go_ret
  have e : decide ((n : Int) ≤ 2048) = decide (n ≤ 2048) := by rw [decide_eq_decide]; omega
  exact ⟨by rw [← e]; rfl, (Upd.refl _ _).alloc _⟩
def PutPost (l : List UInt8) (w : World) (e : Ending) (w' : World) : Prop :=
  ∃ A c G, e = .returned (.slice A l.length c) ∧ Own w' 5 1 (.slice A l.length c) l.length (B l) G ∧ (∀ g, G = some g → w.heap.size ≤ g) ∧ l.length ≤ c ∧ c ≤ maxLen ∧ Upd (fun _ => False) w w'
theorem two_bytes (x : BitVec 16) : #[Value.int .u8 (n16 x / 256 % 256), .int .u8 (n16 x % 256)] = (B [UInt8.ofNat (x.toNat / 256), UInt8.ofNat x.toNat]).toArray := by
  have h1 : n16 x / 256 % 256 = ((UInt8.ofNat (x.toNat / 256)).toNat : Int) := by unfold n16; simp
  have h2 : n16 x % 256 = ((UInt8.ofNat x.toNat).toNat : Int) := by unfold n16; simp
  rw [h1, h2]; rfl
set_option maxHeartbeats 2000000 in
theorem put_ok (A : Option Addr) (n c : Nat) (b : List UInt8) (kind : UInt8) (A2 : Option Addr) (c2 : Nat) (body : List UInt8) (w : World) (hb : Rd w A n b) (hr : Rd w A2 body.length body) (hn : n ≤ 140737488351232) (h2 : body.length ≤ 2048) :
    Calls Tryz.prog 57 #[.slice A n c, .agg #[.int .u8 (kind.toNat : Int), .slice A2 body.length c2]] w (PutPost (b ++ fbytes kind body) w) := by
  have HB := Asd.mk hb
  have HR := Asd.mk hr
  clear hb hr
  go_enter Tryz.func57, Tryz.ntmps57
  go_wp2_with fail
  refine (right_calls _ _ _ _ _).mono ?_
  rintro e w1 ⟨rfl, hu⟩
  have hb1 := hu.blk (heap_alloc_new w _) (fun h => h)
  have hc0 : w1.cell? ⟨w.heap.size, 0, none⟩ = some (.int .u8 (kind.toNat : Int)) := by simp only [World.cell?, hb1]; rfl
  have hc1 : w1.cell? ⟨w.heap.size, 1, none⟩ = some (.slice A2 body.length c2) := by simp only [World.cell?, hb1]; rfl
  have HU1 := Asd.mk (((Upd.refl (fun _ => False) w).alloc (.cells #[.int .u8 (kind.toNat : Int), .slice A2 body.length c2] 105)).trans hu (fun _ _ h => h))
  have hlt : w.heap.size < w1.heap.size := blk_lt hb1
  have HB1 := Asd.mk hb1
  clear hu hb1
  have ht : decide (body.length ≤ 2048) = true := decide_eq_true h2
  rw [ht]
  obtain ⟨N2, hN2⟩ : ∃ N2, N2 = body.length := ⟨_, rfl⟩
  have hX : IntKind.u8.wrap (((body.length : Int) + 1) / 256) = ((UInt8.ofNat ((body.length + 1) / 256)).toNat : Int) := by rw [← u8_of]; rfl
  have hY : IntKind.u8.wrap ((body.length : Int) + 1) = ((UInt8.ofNat (body.length + 1)).toNat : Int) := by rw [← u8_of]; rfl
  have HC : Asd (#[Value.int .u8 (IntKind.u8.wrap (((body.length : Int) + 1) / 256)), .int .u8 (IntKind.u8.wrap ((body.length : Int) + 1)), .int .u8 (kind.toNat : Int)] = (B [UInt8.ofNat ((body.length + 1) / 256), UInt8.ofNat (body.length + 1), kind]).toArray) := ⟨by rw [hX, hY]; rfl⟩
  clear hX hY
  go_wp2
  go_region_law (first | (with_reducible refine gate_app (.const (.slice none 0 0)) (.tmp 16) 31 rfl ?_; refine step_appendF (S := fun _ => False) (w0 := w1) (by repeat (first | exact Upd.refl _ _ | refine Upd.drew ?_ | refine Upd.alloc ?_ _ | refine Upd.setCell ?_ (fun h => absurd h (Nat.lt_irrefl _)) _)) n 5 [] b none none 0 0 A n c (by rfl) (.const (.slice none 0 0)) (.tmp 16) 31 (by rfl) Tryz.underlying31 info8 (by simp [Act.eval, Act.put]) (by simp [Act.eval, Act.put]) (Own.nil _ _ _) (fun g e => by cases e) (by exact HB.out.up (by repeat (first | exact HU1.out | refine Upd.drew ?_ | refine Upd.drewN ?_ _ | refine Upd.alloc ?_ _))) (by omega) (by omega) ?_; intro A3 c3 w3 G3 hc3 hm3 hO3 hG3 hu3 hU3 _; rw [List.nil_append] at hO3; have HU3 := Asd.mk hu3; have HV3 := Asd.mk hU3; have HO3 := Asd.mk hO3; have HG3 := Asd.mk hG3; have hc0 := hu3.cell hc0 (fun h => h); clear hO3 hG3 hu3 hU3) | (with_reducible refine gate_app (.tmp 17) (.tmp 25) 31 rfl ?_; (first | (refine step_appendF (S := fun _ => False) (w0 := w1) (by exact (by repeat (first | exact HU3.out | refine Upd.drew ?_ | refine Upd.drewN ?_ _ | refine Upd.alloc ?_ _))) (n + 3) 5 b [UInt8.ofNat ((body.length + 1) / 256), UInt8.ofNat (body.length + 1), kind] G3 A3 n c3 (some ⟨w3.heap.size, 0, none⟩) 3 3 (by rfl) (.tmp 17) (.tmp 25) 31 (by rfl) Tryz.underlying31 info8 (by simp [Act.eval, Act.put]) (by simp [Act.eval, Act.put]) (HO3.out.upd (S := fun _ => False) (by repeat (first | exact Upd.refl _ _ | refine Upd.drew ?_ | refine Upd.alloc ?_ _ | refine Upd.setCell ?_ (fun h => absurd h (Nat.lt_irrefl _)) _)) (fun _ _ h => h)) HG3.out (by exact Rd.lit w3 _ _ _ 3 _ HC.out rfl (by omega)) (by omega) (by omega) ?_) | (refine step_appendF (S := fun _ => False) (w0 := w1) (by exact (by repeat (first | exact HU3.out | refine Upd.drew ?_ | refine Upd.drewN ?_ _ | refine Upd.alloc ?_ _))) (n + 3) 5 b [UInt8.ofNat ((body.length + 1) / 256), UInt8.ofNat (body.length + 1), kind] G3 A3 n c3 (some ⟨w1.heap.size, 0, none⟩) 3 3 (by rfl) (.tmp 17) (.tmp 25) 31 (by rfl) Tryz.underlying31 info8 (by simp [Act.eval, Act.put]) (by simp [Act.eval, Act.put]) (HO3.out.upd (S := fun _ => False) (by repeat (first | exact Upd.refl _ _ | refine Upd.drew ?_ | refine Upd.alloc ?_ _ | refine Upd.setCell ?_ (fun h => absurd h (Nat.lt_irrefl _)) _)) (fun _ _ h => h)) HG3.out (by have h0 := Rd.lit w1 _ 5 (0, 0) 3 _ HC.out rfl (by omega); exact Rd.upd (h0.upd ((Upd.refl (fun _ => False) _).drew) (fun _ _ h => h)) HV3.out (fun _ _ h => by cases h)) (by omega) (by omega) ?_)); intro A4 c4 w4 G4 hcw hm4 hO4 hG4 hu4 hU4 _; have HU4 := Asd.mk hu4; have HO4 := Asd.mk hO4; have HG4 := Asd.mk hG4; have hc1b := hu4.cell hc1 (fun h => h); clear hO4 hG4 hu4 hU4))
  all_goals
    go_wp2_with (first | (with_reducible refine stop_append _ _ _ _ rfl ?_) | (with_reducible refine stop_copy _ _ _ _ rfl ?_) | (with_reducible refine stop_make _ _ _ rfl ?_) | (with_reducible refine stop_conv 31 9 _ rfl ?_))
    refine wp_appendF HU4.out (n + 3 + body.length) 5 (b ++ [UInt8.ofNat ((body.length + 1) / 256), UInt8.ofNat (body.length + 1), kind]) body G4 A4 (n + 3) c4 A2 body.length c2 rfl _ _ 31 rfl Tryz.underlying31 info8 rfl rfl HO4.out HG4.out ((HR.out.up HU1.out).up HU4.out) rfl (by omega) ?_
    intro A5 c5 w5 G5 hc5 hm5 hO5 hG5 hu5 _ _
    have HU5 := Asd.mk hu5
    have HO5 := Asd.mk hO5
    have HG5 := Asd.mk hG5
    clear hO5 hG5 hu5 HU4 HO4 HG4
    obtain ⟨A6, hcut, _, hA6, _⟩ := cut_from' (P := Tryz.prog) 31 5 .i64 (sz := 1) Tryz.underlying31 (by kernel_rfl) A5 (n + 3 + body.length) c5 (n + 2) ((n : Int) + 2) (by omega) (by omega) hc5
    have hr6 := hA6 rfl _ _ HO5.out.rd
    have hbl : b.length = n := HB.out.len
    have hl6 : ((b ++ [UInt8.ofNat ((body.length + 1) / 256), UInt8.ofNat (body.length + 1), kind]) ++ body).drop (n + 2) = kind :: body := by
      rw [List.append_assoc, List.drop_append, List.drop_eq_nil_of_le (by omega), hbl]
      simp
    rw [hl6] at hr6
    have HR6 := Asd.mk hr6
    clear hA6 hr6 hbl hl6
    go_wp2_with fail
    refine (of_calls A6 _ _ (kind :: body) _ HR6.out).mono ?_
    rintro e w6 ⟨rfl, hd⟩
    have HU6 := Asd.mk (HU5.out.trans (hd.upd (fun _ => False)) (fun _ _ h => h))
    have HO6 := Asd.mk (HO5.out.upd (hd.upd (fun _ => False)) (fun _ _ h => h))
    clear hcut hd HR6 HO5 HU5
    go_wp2_with (first | (with_reducible refine stop_append _ _ _ _ rfl ?_) | (with_reducible refine stop_copy _ _ _ _ rfl ?_) | (with_reducible refine stop_make _ _ _ rfl ?_) | (with_reducible refine stop_conv 31 9 _ rfl ?_))
    refine wp_appendF (S := fun _ => False) (w0 := w1) (by exact (by repeat (first | exact HU6.out | refine Upd.drew ?_ | refine Upd.drewN ?_ _ | refine Upd.alloc ?_ _))) (n + 3 + body.length + 2) 5 ((b ++ [UInt8.ofNat ((body.length + 1) / 256), UInt8.ofNat (body.length + 1), kind]) ++ body) [UInt8.ofNat ((sumOf kind body).toNat / 256), UInt8.ofNat (sumOf kind body).toNat] G5 A5 (n + 3 + body.length) c5 (some ⟨w6.heap.size, 0, none⟩) 2 2 rfl _ _ 31 rfl Tryz.underlying31 info8 rfl rfl (HO6.out.upd ((Upd.refl (fun _ => False) _).alloc _) (fun _ _ h => h)) HG5.out (Rd.lit w6 _ _ _ 2 _ (two_bytes _) rfl (by omega)) rfl (by omega) ?_
    intro A7 c7 w7 G7 hc7 hm7 hO7 hG7 hu7 _ _
    have HU7 := Asd.mk (HU1.out.trans hu7 (fun _ _ h => h))
    have HO7 := Asd.mk hO7
    have HG7 : Asd (∀ g, G7 = some g → w.heap.size ≤ g) := ⟨fun g e => Nat.le_trans HU1.out.size (hG7 g e)⟩
    clear hO7 hG7 hu7 HU6 HO6 HG5
    go_wp2
    go_ret
    have hL : b ++ fbytes kind body = (b ++ [UInt8.ofNat ((body.length + 1) / 256), UInt8.ofNat (body.length + 1), kind]) ++ body ++ [UInt8.ofNat ((sumOf kind body).toNat / 256), UInt8.ofNat (sumOf kind body).toNat] := by simp [fbytes]
    have hlen : (b ++ fbytes kind body).length = n + 3 + body.length + 2 := by rw [hL]; simp [HB.out.len]; omega
    refine ⟨A7, c7, G7, ?_, ?_, HG7.out, by rw [hlen]; exact hc7, hm7, HU7.out⟩
    · rw [hlen]; rfl
    · rw [hlen, hL]; exact HO7.out
theorem fbytes_length (kind : UInt8) (body : List UInt8) : (fbytes kind body).length = body.length + 5 := by simp [fbytes]
def num2 (l : List UInt8) (i : Nat) : Nat := (l.getD i 0).toNat * 256 + (l.getD (i + 1) 0).toNat
def fget (b : List UInt8) : UInt8 × List UInt8 × Nat × Int :=
  if b.length < 2 then (0, [], 0, 5)
  else if num2 b 0 = 0 ∨ 2049 < num2 b 0 then (0, [], 0, 6)
  else if b.length < num2 b 0 + 4 then (0, [], 0, 5)
  else if (crc 0xffff#16 ((b.take (num2 b 0 + 2)).drop 2)).toNat ≠ num2 b (num2 b 0 + 2) then (0, [], 0, 7)
  else (b.getD 2 0, (b.take (num2 b 0 + 2)).drop 3, num2 b 0 + 4, 0)
def GetPost (r : UInt8 × List UInt8 × Nat × Int) (w : World) (e : Ending) (w' : World) : Prop :=
  ∃ A c G, e = .returned (.tuple #[.agg #[.int .u8 (r.1.toNat : Int), .slice A r.2.1.length c], .int .i64 (r.2.2.1 : Int), .int .i64 r.2.2.2]) ∧ Own w' 5 1 (.slice A r.2.1.length c) r.2.1.length (B r.2.1) G ∧ (∀ g, G = some g → w.heap.size ≤ g) ∧ r.2.1.length ≤ c ∧ c ≤ maxLen ∧ Upd (fun _ => False) w w'
theorem GetPost.none (r : UInt8 × List UInt8 × Nat × Int) (w w' : World) (k : Int) (h : r = (0, [], 0, k)) (hu : Upd (fun _ => False) w w') : GetPost r w (.returned (.tuple #[.agg #[.int .u8 0, .slice none 0 0], .int .i64 0, .int .i64 k])) w' := by
  subst h
  exact ⟨Option.none, 0, Option.none, rfl, Own.nil _ _ _, fun g e => (by cases e), Nat.le_refl _, (by simp [maxLen]), hu⟩
theorem or16 (a b : UInt8) : Go.bits .or .i64 ((a.toNat : Int) * 256) (b.toNat : Int) = ((a.toNat * 256 + b.toNat : Nat) : Int) := by
  have ha := a.toNat_lt
  have hb := b.toNat_lt
  show IntKind.i64.wrap (((BitVec.ofInt 64 ((a.toNat : Int) * 256) ||| BitVec.ofInt 64 (b.toNat : Int)).toNat : Nat) : Int) = _
  have e1 : BitVec.ofInt 64 ((a.toNat : Int) * 256) = BitVec.ofNat 64 (a.toNat <<< 8) := by
    apply BitVec.eq_of_toNat_eq
    simp [Nat.shiftLeft_eq]
    omega
  have e2 : BitVec.ofInt 64 (b.toNat : Int) = BitVec.ofNat 64 b.toNat := by
    apply BitVec.eq_of_toNat_eq
    simp
  rw [e1, e2, ← BitVec.ofNat_or, BitVec.toNat_ofNat, ← Nat.shiftLeft_add_eq_or_of_lt hb, Nat.shiftLeft_eq]
  simp only [IntKind.wrap, IntKind.bits, IntKind.signed]
  simp
  omega
theorem or16w (a b : UInt8) : Go.bits .or .i64 (wrap64 (wrap64 (a.toNat : Int) * 256)) (wrap64 (b.toNat : Int)) = ((a.toNat * 256 + b.toNat : Nat) : Int) := by
  have ha := a.toNat_lt
  have hb := b.toNat_lt
  have h1 : wrap64 (a.toNat : Int) = a.toNat := by unfold wrap64; omega
  have h2 : wrap64 (b.toNat : Int) = b.toNat := by unfold wrap64; omega
  have h3 : wrap64 ((a.toNat : Int) * 256) = (a.toNat : Int) * 256 := by unfold wrap64; omega
  rw [h1, h2, h3, or16]
theorem or16u (a b : UInt8) : Go.bits .or .u16 (IntKind.u16.wrap (IntKind.u16.wrap (a.toNat : Int) * 256)) (IntKind.u16.wrap (b.toNat : Int)) = n16 (BitVec.ofNat 16 (a.toNat * 256 + b.toNat)) := by
  have ha := a.toNat_lt
  have hb := b.toNat_lt
  have e1 : IntKind.u16.wrap (IntKind.u16.wrap (a.toNat : Int) * 256) = n16 (BitVec.ofNat 16 (a.toNat <<< 8)) := by
    rw [wrap16, wrap16]; unfold n16; simp [Nat.shiftLeft_eq]; omega
  have e2 : IntKind.u16.wrap (b.toNat : Int) = n16 (BitVec.ofNat 16 b.toNat) := by
    rw [wrap16]; unfold n16; simp; omega
  rw [e1, e2]
  have : Go.bits .or .u16 (n16 (BitVec.ofNat 16 (a.toNat <<< 8))) (n16 (BitVec.ofNat 16 b.toNat)) = n16 (BitVec.ofNat 16 (a.toNat <<< 8) ||| BitVec.ofNat 16 b.toNat) := by
    unfold Go.bits
    simp only [IntKind.bits, ofInt_n16]
    exact wrap_n16 _
  rw [this, ← BitVec.ofNat_or, ← Nat.shiftLeft_add_eq_or_of_lt hb, Nat.shiftLeft_eq]
theorem n16_num (x : BitVec 16) (a b : UInt8) : (n16 x == n16 (BitVec.ofNat 16 (a.toNat * 256 + b.toNat))) = decide (x.toNat = a.toNat * 256 + b.toNat) := by
  have ha := a.toNat_lt
  have hb := b.toNat_lt
  rw [Bool.eq_iff_iff, beq_iff_eq, decide_eq_true_eq, n16_inj]
  constructor
  · rintro rfl; simp; omega
  · intro h; apply BitVec.eq_of_toNat_eq; rw [h]; simp; omega
set_option maxHeartbeats 1000000 in
theorem get_calls (A : Option Addr) (n c : Nat) (b : List UInt8) (w : World) (hr : Rd w A n b) (hc : n ≤ c) :
    Calls Tryz.prog 62 #[.slice A n c] w (GetPost (fget b) w) := by
  have HR := Asd.mk hr
  have hlim := hr.lim
  obtain rfl := hr.len
  clear hr
  by_cases h1 : b.length < 2
  · have HG : Asd (fget b = (0, [], 0, 5)) := ⟨by unfold fget; rw [if_pos h1]⟩
    go_enter Tryz.func62, Tryz.ntmps62
    go_wp2
    exact bodyPost_ret (v := .tuple #[.agg #[.int .u8 0, .slice none 0 0], .int .i64 0, .int .i64 5]) (by simp [results, Tryz.results62, go_sem]) rfl (GetPost.none _ _ _ _ HG.out ((Upd.refl _ _).alloc _))
  obtain ⟨ad, rfl, hc0⟩ := HR.out.at 0 (by omega)
  obtain ⟨_, e, hc1⟩ := HR.out.at 1 (by omega)
  obtain rfl := Option.some.inj e
  obtain ⟨b0, hb0⟩ : ∃ x : UInt8, x = b[0] := ⟨_, rfl⟩
  obtain ⟨b1, hb1⟩ : ∃ x : UInt8, x = b[1] := ⟨_, rfl⟩
  rw [← hb0] at hc0
  rw [← hb1] at hc1
  obtain ⟨m, hm⟩ : ∃ m, m = b0.toNat * 256 + b1.toNat := ⟨_, rfl⟩
  have hor := or16w b0 b1
  rw [← hm] at hor
  have HN : Asd (num2 b 0 = m) := ⟨by rw [hm, hb0, hb1]; unfold num2; simp [List.getD_eq_getElem?_getD, List.getElem?_eq_getElem (show 0 < b.length by omega), List.getElem?_eq_getElem (show 1 < b.length by omega)]⟩
  have hm2 : m < 65536 := by have := b0.toNat_lt; have := b1.toNat_lt; omega
  clear hb0 hb1 hm e
  have hlt0 : 0 < b.length := by omega
  have hlt1 : 1 < b.length := by omega
  have hblk : ad.block < w.heap.size := by have := World.block_lt_of_cell? w _ hc0; rwa [add_block] at this
  have hc0 : w.cell? ad = some (.int .u8 (b0.toNat : Int)) := by simpa [Addr.add] using hc0
  have hc1 : w.cell? ⟨ad.block, ad.off + 1, none⟩ = some (.int .u8 (b1.toNat : Int)) := by simpa [Addr.add] using hc1
  by_cases h2 : m = 0
  · have HG : Asd (fget b = (0, [], 0, 6)) := ⟨by unfold fget; rw [if_neg h1, HN.out, if_pos (.inl h2)]⟩
    have h2b : ((m : Int) == 0) = true := beq_iff_eq.2 (by omega)
    clear h2
    go_enter Tryz.func62, Tryz.ntmps62
    go_wp2
    go_region
    go_wp2
    exact bodyPost_ret (v := .tuple #[.agg #[.int .u8 0, .slice none 0 0], .int .i64 0, .int .i64 6]) (by simp [results, Tryz.results62, go_sem]) rfl (GetPost.none _ _ _ _ HG.out (((Upd.refl _ _).alloc _).drew))
  have h2b : ((m : Int) == 0) = false := beq_eq_false_iff_ne.2 (by omega)
  have hm0 : 0 < m := by omega
  by_cases h3 : 2049 < m
  · have HG : Asd (fget b = (0, [], 0, 6)) := ⟨by unfold fget; rw [if_neg h1, HN.out, if_pos (.inr h3)]⟩
    clear h2
    go_enter Tryz.func62, Tryz.ntmps62
    go_wp2
    go_region
    go_wp2
    exact bodyPost_ret (v := .tuple #[.agg #[.int .u8 0, .slice none 0 0], .int .i64 0, .int .i64 6]) (by simp [results, Tryz.results62, go_sem]) rfl (GetPost.none _ _ _ _ HG.out (((Upd.refl _ _).alloc _).drew))
  by_cases h4 : b.length < m + 4
  · have HG : Asd (fget b = (0, [], 0, 5)) := ⟨by unfold fget; rw [if_neg h1, HN.out, if_neg (by omega), if_pos h4]⟩
    clear h2
    go_enter Tryz.func62, Tryz.ntmps62
    go_wp2
    go_region
    go_wp2
    exact bodyPost_ret (v := .tuple #[.agg #[.int .u8 0, .slice none 0 0], .int .i64 0, .int .i64 5]) (by simp [results, Tryz.results62, go_sem]) rfl (GetPost.none _ _ _ _ HG.out (((Upd.refl _ _).alloc _).drew))
  obtain ⟨A2, hcut, _, hA2, _⟩ := cut_both' (P := Tryz.prog) 31 5 .i64 .i64 (sz := 1) Tryz.underlying31 (by kernel_rfl) (some ad) b.length c 2 (m + 2) 2 ((m : Int) + 2) rfl (by omega) (by omega) (by omega) hc
  have HA2 := Asd.mk (hA2 rfl)
  obtain ⟨A3, hcut3, _, hA3, _⟩ := cut_both' (P := Tryz.prog) 31 5 .i64 .i64 (sz := 1) Tryz.underlying31 (by kernel_rfl) (some ad) b.length c 3 (m + 2) 3 ((m : Int) + 2) rfl (by omega) (by omega) (by omega) hc
  have HR3 : Asd (Rd w A3 (m - 1) ((b.take (m + 2)).drop 3)) := ⟨by have := hA3 rfl _ _ HR.out; rwa [show m + 2 - 3 = m - 1 by omega] at this⟩
  clear hA3
  obtain ⟨_, e, hc4⟩ := HR.out.at 2 (by omega)
  obtain rfl := Option.some.inj e
  obtain ⟨b4, hb4⟩ : ∃ x : UInt8, x = b[2] := ⟨_, rfl⟩
  rw [← hb4] at hc4
  have HB4 := Asd.mk hb4
  have hlt2 : (2 : Int) < (b.length : Int) := by omega
  have hc4 : w.cell? ⟨ad.block, ad.off + 2, none⟩ = some (.int .u8 (b4.toNat : Int)) := by rw [← hc4]; simp [Addr.add]
  clear hb4
  obtain ⟨_, e, hc2⟩ := HR.out.at (m + 2) (by omega)
  obtain rfl := Option.some.inj e
  obtain ⟨_, e, hc3⟩ := HR.out.at (m + 3) (by omega)
  obtain rfl := Option.some.inj e
  obtain ⟨b2, hb2⟩ : ∃ x : UInt8, x = b[m + 2] := ⟨_, rfl⟩
  obtain ⟨b3, hb3⟩ : ∃ x : UInt8, x = b[m + 3] := ⟨_, rfl⟩
  rw [← hb2] at hc2
  rw [← hb3] at hc3
  have HB2 := Asd.mk hb2
  have HB3 := Asd.mk hb3
  have hw2 : IntKind.i64.wrap ((m : Int) + 2) = (m : Int) + 2 := IntWalk.i64_in _ (by omega)
  have hw3 : IntKind.i64.wrap ((m : Int) + 3) = (m : Int) + 3 := IntWalk.i64_in _ (by omega)
  have hw4 : IntKind.i64.wrap ((m : Int) + 4) = (m : Int) + 4 := IntWalk.i64_in _ (by omega)
  have hn2 : ((m : Int) + 2).toNat = m + 2 := by omega
  have hn3 : ((m : Int) + 3).toNat = m + 3 := by omega
  have hp2 : 0 ≤ (m : Int) + 2 := by omega
  have hp3 : 0 ≤ (m : Int) + 3 := by omega
  have hl2 : (m : Int) + 2 < (b.length : Int) := by omega
  have hl3 : (m : Int) + 3 < (b.length : Int) := by omega
  have hc2 : w.cell? ⟨ad.block, ad.off + (m + 1 + 1), none⟩ = some (.int .u8 (b2.toNat : Int)) := by rw [← hc2]; simp [Addr.add]
  have hc3 : w.cell? ⟨ad.block, ad.off + (m + 1 + 1 + 1), none⟩ = some (.int .u8 (b3.toNat : Int)) := by rw [← hc3]; simp [Addr.add]
  clear hb2 hb3 e hA2 h2
  have hor3 := or16u b2 b3
  have HNum : Asd (num2 b (m + 2) = b2.toNat * 256 + b3.toNat) := ⟨by rw [HB2.out, HB3.out]; unfold num2; simp [List.getD_eq_getElem?_getD, List.getElem?_eq_getElem (show m + 2 < b.length by omega), List.getElem?_eq_getElem (show m + 3 < b.length by omega)]⟩
  obtain ⟨y, hy⟩ : ∃ y, y = BitVec.ofNat 16 (b2.toNat * 256 + b3.toNat) := ⟨_, rfl⟩
  rw [← hy] at hor3
  have HY := Asd.mk hy
  clear hy
  by_cases hsum : (crc 0xffff#16 ((b.take (m + 2)).drop 2)).toNat = b2.toNat * 256 + b3.toNat
  · have hq : (n16 (crc 0xffff#16 ((b.take (m + 2)).drop 2)) == n16 y) = true := by rw [HY.out, n16_num, decide_eq_true_eq]; exact hsum
    have HG : Asd (fget b = (b4, (b.take (m + 2)).drop 3, m + 4, 0)) := ⟨by
      unfold fget
      rw [if_neg h1, HN.out, if_neg (by omega), if_neg h4, HNum.out, if_neg (by simpa using hsum)]
      rw [HB4.out, List.getD_eq_getElem?_getD, List.getElem?_eq_getElem (show 2 < b.length by omega)]
      rfl⟩
    have HBL : Asd (((b.take (m + 2)).drop 3).length = m - 1) := ⟨by simp; omega⟩
    clear hsum
    go_enter Tryz.func62, Tryz.ntmps62
    go_wp2
    go_region
    go_wp2
    go_quiet ((go_at_call 86; refine (of_calls A2 m (c - 2) ((b.take (m + 2)).drop 2) _ ((HA2.out _ _ HR.out).up (by repeat (first | exact Upd.refl _ _ | refine Upd.drewN ?_ _ | refine Upd.drew ?_ | refine Upd.alloc ?_ _ | refine Upd.setCell ?_ (fun h => absurd h (Nat.lt_irrefl _)) _)))).mono ?_; rintro e w'' ⟨rfl, k, rfl⟩; exact ⟨rfl, _, by rw [World.drewN_drewN, Nat.add_assoc]⟩))
    go_wp2
    go_region_law (with_reducible refine gate_app (.const (.slice none 0 0)) (.tmp 63) 31 rfl ?_; refine step_appendF (S := fun _ => False) (w0 := w.alloc (.cells #[.int .u8 0, .slice none 0 0] 105)) (by repeat (first | exact Upd.refl _ _ | refine Upd.drewN ?_ _ | refine Upd.drew ?_ | refine Upd.alloc ?_ _ | refine Upd.setCell ?_ (fun h => absurd h (Nat.lt_irrefl _)) _)) (m - 1) 5 [] ((b.take (m + 2)).drop 3) none none 0 0 A3 (m - 1) (c - 3) (by rfl) (.const (.slice none 0 0)) (.tmp 63) 31 (by rfl) Tryz.underlying31 info8 (by simp [Act.eval, Act.put]) (by simp [Act.eval, Act.put]) (Own.nil _ _ _) (fun g e => by cases e) (by exact HR3.out.up (by repeat (first | exact Upd.refl _ _ | refine Upd.drewN ?_ _ | refine Upd.drew ?_ | refine Upd.alloc ?_ _ | refine Upd.setCell ?_ (fun h => absurd h (Nat.lt_irrefl _)) _))) (by omega) (by omega) ?_; intro A4 c4 w4 G4 hcw hm4 hO4 hG4 hu4 hU4 _; rw [List.nil_append] at hO4; have hb4 := hu4.blk (heap_alloc_new w _) (fun h => h); have hcc := hu4.cell (a := ⟨ad.block, ad.off + 2, none⟩) (v := .int .u8 (b4.toNat : Int)) (((Upd.refl (fun _ => False) w).alloc _).cell hc4 (fun h => h)) (fun h => h); have hx0 : w4.cell? ⟨w.heap.size, 0, none⟩ = some (.int .u8 0) := (by simp [World.cell?, hb4]); have hz0 : w4.frozen? ⟨w.heap.size, 0, none⟩ = false := (by simp [World.frozen?, hb4]); have hx1 : ∀ v, (w4.setCell ⟨w.heap.size, 0, none⟩ v).cell? ⟨w.heap.size, 1, none⟩ = some (.slice none 0 0) := (fun v => by simp [World.cell?, blk_setCell hb4]); have hz1 : ∀ v, (w4.setCell ⟨w.heap.size, 0, none⟩ v).frozen? ⟨w.heap.size, 1, none⟩ = false := (fun v => by simp [World.frozen?, blk_setCell hb4]); have HO4 := Asd.mk hO4; have HG4 := Asd.mk hG4; have HU4 := Asd.mk hu4; have HB4' := Asd.mk hb4; clear hO4 hG4 hu4 hU4 hb4)
    all_goals
      go_wp2
      have hbf := blk_setCell (o := 1) (blk_setCell (o := 0) HB4'.out (.int .u8 (b4.toNat : Int))) (.slice A4 (m - 1) c4)
      have q0 : ((w4.setCell ⟨w.heap.size, 0, none⟩ (.int .u8 (b4.toNat : Int))).setCell ⟨w.heap.size, 1, none⟩ (.slice A4 (m - 1) c4)).cell? ⟨w.heap.size, 0, none⟩ = some (.int .u8 (b4.toNat : Int)) := by simp [World.cell?, hbf]
      have q1 : ((w4.setCell ⟨w.heap.size, 0, none⟩ (.int .u8 (b4.toNat : Int))).setCell ⟨w.heap.size, 1, none⟩ (.slice A4 (m - 1) c4)).cell? ⟨w.heap.size, 1, none⟩ = some (.slice A4 (m - 1) c4) := by simp [World.cell?, hbf]
      have hGn : ∀ g, G4 = some g → w.heap.size ≤ g ∧ g ≠ w.heap.size := fun g e => by have := HG4.out g e; simp at this; omega
      refine bodyPost_ret (v := .tuple #[.agg #[.int .u8 (b4.toNat : Int), .slice A4 (m - 1) c4], .int .i64 ((m : Int) + 4), .int .i64 0]) (by simp [results, Tryz.results62, go_sem, Act.put, q0, q1, hw4]) rfl ?_
      rw [HG.out]
      refine ⟨A4, c4, G4, ?_, ?_, fun g e => (hGn g e).1, by rw [HBL.out]; exact hcw, hm4, ?_⟩
      · simp [HBL.out]
      · simp only [HBL.out]
        exact HO4.out.upd (((Upd.refl (fun k => k = w.heap.size) _).setCell (fun _ => rfl) _).setCell (fun _ => rfl) _) (fun g e e2 => (hGn g e).2 e2)
      · exact ((((Upd.refl _ _).alloc _).trans HU4.out (fun _ _ h => h)).setCell (fun h => absurd h (Nat.lt_irrefl _)) _).setCell (fun h => absurd h (Nat.lt_irrefl _)) _
  · have hq : (n16 (crc 0xffff#16 ((b.take (m + 2)).drop 2)) == n16 y) = false := by rw [HY.out, n16_num, decide_eq_false_iff_not]; exact hsum
    have HG : Asd (fget b = (0, [], 0, 7)) := ⟨by unfold fget; rw [if_neg h1, HN.out, if_neg (by omega), if_neg h4, HNum.out, if_pos hsum]⟩
    clear hsum
    go_enter Tryz.func62, Tryz.ntmps62
    go_wp2
    go_region
    go_wp2
    go_quiet ((go_at_call 86; refine (of_calls A2 m (c - 2) ((b.take (m + 2)).drop 2) _ ((HA2.out _ _ HR.out).up (by repeat (first | exact Upd.refl _ _ | refine Upd.drewN ?_ _ | refine Upd.drew ?_ | refine Upd.alloc ?_ _ | refine Upd.setCell ?_ (fun h => absurd h (Nat.lt_irrefl _)) _)))).mono ?_; rintro e w'' ⟨rfl, k, rfl⟩; exact ⟨rfl, _, by rw [World.drewN_drewN, Nat.add_assoc]⟩))
    go_wp2
    exact bodyPost_ret (v := .tuple #[.agg #[.int .u8 0, .slice none 0 0], .int .i64 0, .int .i64 7]) (by simp [results, Tryz.results62, go_sem]) rfl (GetPost.none _ _ _ _ HG.out (by repeat (first | exact Upd.refl _ _ | refine Upd.drewN ?_ _ | refine Upd.drew ?_ | refine Upd.alloc ?_ _ | refine Upd.setCell ?_ (fun h => absurd h (Nat.lt_irrefl _)) _)))
end Go.Proofs.YteepkanbiefpjaaGreatDoor.Fr
namespace Go.Proofs.YteepkanbiefpjaaGreatDoor.FrMath
open Go.RowKit K Crc Sm Fr
theorem getD_app (l m : List UInt8) (i : Nat) (h : i < l.length) : (l ++ m).getD i 0 = l.getD i 0 := by
  simp only [List.getD_eq_getElem?_getD]
  rw [List.getElem?_append_left h]
theorem ofNat_mod (n : Nat) : (UInt8.ofNat n).toNat = n % 256 := by simp
theorem fb0 (kind : UInt8) (body : List UInt8) : (fbytes kind body).getD 0 0 = UInt8.ofNat ((body.length + 1) / 256) := by simp [fbytes]
theorem fb1 (kind : UInt8) (body : List UInt8) : (fbytes kind body).getD 1 0 = UInt8.ofNat (body.length + 1) := by simp [fbytes]
theorem fb2 (kind : UInt8) (body : List UInt8) : (fbytes kind body).getD 2 0 = kind := by simp [fbytes]
theorem fb_take (kind : UInt8) (body : List UInt8) : (fbytes kind body).take (body.length + 3) = [UInt8.ofNat ((body.length + 1) / 256), UInt8.ofNat (body.length + 1), kind] ++ body := by
  unfold fbytes
  rw [List.take_append_of_le_length (by simp), List.take_of_length_le (by simp)]
theorem fb_s0 (kind : UInt8) (body : List UInt8) : (fbytes kind body).getD (body.length + 3) 0 = UInt8.ofNat ((sumOf kind body).toNat / 256) := by
  unfold fbytes
  rw [List.getD_eq_getElem?_getD, List.getElem?_append_right (by simp)]
  simp
theorem fb_s1 (kind : UInt8) (body : List UInt8) : (fbytes kind body).getD (body.length + 4) 0 = UInt8.ofNat (sumOf kind body).toNat := by
  unfold fbytes
  rw [List.getD_eq_getElem?_getD, List.getElem?_append_right (by simp)]
  simp [show body.length + 4 - (body.length + 3) = 1 by omega]
theorem num_sum (x : BitVec 16) : (UInt8.ofNat (x.toNat / 256)).toNat * 256 + (UInt8.ofNat x.toNat).toNat = x.toNat := by
  have := x.isLt
  rw [ofNat_mod, ofNat_mod]
  omega
theorem num_len (n : Nat) (h : n ≤ 2049) : (UInt8.ofNat (n / 256)).toNat * 256 + (UInt8.ofNat n).toNat = n := by
  rw [ofNat_mod, ofNat_mod]
  omega
theorem get_put (kind : UInt8) (body rest : List UInt8) (h : body.length ≤ 2048) : fget (fbytes kind body ++ rest) = (kind, body, body.length + 5, 0) := by
  have hl := fbytes_length kind body
  have h0 : num2 (fbytes kind body ++ rest) 0 = body.length + 1 := by
    unfold num2
    rw [getD_app _ _ _ (by omega), getD_app _ _ _ (by omega), fb0, fb1, num_len _ (by omega)]
  have h1 : num2 (fbytes kind body ++ rest) (body.length + 1 + 2) = (sumOf kind body).toNat := by
    unfold num2
    rw [getD_app _ _ _ (by omega), getD_app _ _ _ (by omega), show body.length + 1 + 2 = body.length + 3 by omega, show body.length + 3 + 1 = body.length + 4 by omega, fb_s0, fb_s1, num_sum]
  have h2 : (fbytes kind body ++ rest).take (body.length + 1 + 2) = [UInt8.ofNat ((body.length + 1) / 256), UInt8.ofNat (body.length + 1), kind] ++ body := by
    rw [show body.length + 1 + 2 = body.length + 3 by omega, List.take_append_of_le_length (by omega), fb_take]
  unfold fget
  rw [if_neg (by rw [List.length_append]; omega), h0, if_neg (by omega), if_neg (by rw [List.length_append]; omega), h1, h2, getD_app _ _ _ (by omega), fb2]
  rw [if_neg (by simp [sumOf])]
  simp
def turn (l : List UInt8) (i : Nat) (y : UInt8) : List UInt8 := l.set i (l.getD i 0 ^^^ y)
end Go.Proofs.YteepkanbiefpjaaGreatDoor.FrMath
set_option linter.unusedVariables false
set_option linter.unusedSimpArgs false
namespace Go.Proofs.YteepkanbiefpjaaGreatDoor.MgPut
open Go.RowKit K Mg MgNum MgOf MgFr MgHead MgLawOf
open Fr (fbytes fbytes_length)
def mbytes (kind : UInt8) (a b : Nat) (t : List UInt8) : List UInt8 := fbytes kind (mbody (kind.toNat : Int) a b t)
theorem kind_exists (k : Int) (h : known k = true) : ∃ kind : UInt8, k = (kind.toNat : Int) := by
  have : 1 ≤ k ∧ k ≤ 15 := of_decide_eq_true h
  exact ⟨UInt8.ofNat k.toNat, by simp; omega⟩
theorem room_for (k : Int) : 6 * nums k + most k ≤ 2048 := by
  by_cases h : 1 ≤ k ∧ k ≤ 15
  · rcases kinds k h with rfl | rfl | rfl | rfl | rfl | rfl | rfl | rfl | rfl | rfl | rfl | rfl | rfl | rfl | rfl <;> decide
  · simp [nums, most, h]
set_option maxHeartbeats 1000000 in
theorem put_calls (A : Option Addr) (c : Nat) (l : List UInt8) (k a b : Int) (t : List UInt8) (w : World) (hr : right k a b t.length = true) (hl : Rd w A l.length l) (hll : l.length ≤ 1048576) :
    Calls Tryz.prog 21 #[.slice A l.length c, .agg #[.int .i64 k, .int .i64 a, .int .i64 b, .string (S t)]] w (Fr.PutPost (l ++ mbytes (UInt8.ofNat k.toNat) a.toNat b.toNat t) w) := by
  obtain ⟨hkn, htl, ha0, hb0, ha1, hb1, _, _⟩ := right_nat k a b t.length hr
  obtain ⟨kind, rfl⟩ := kind_exists k hkn
  have hk : UInt8.ofNat ((kind.toNat : Int)).toNat = kind := by simp
  rw [hk]
  have HR := Asd.mk hr
  have HL := Asd.mk hl
  have hml : (mbody (kind.toNat : Int) a.toNat b.toNat t).length ≤ 2048 := by
    rw [mbody_length]
    have := room_for (kind.toNat : Int)
    omega
  obtain ⟨body, hbody⟩ : ∃ body, body = mbody (kind.toNat : Int) a.toNat b.toNat t := ⟨_, rfl⟩
  have HB := Asd.mk (show mbytes kind a.toNat b.toNat t = fbytes kind body by rw [hbody]; rfl)
  have HBD := Asd.mk hbody
  rw [← hbody] at hml
  rw [HB.out]
  clear hr hl hk hkn htl ha0 hb0 ha1 hb1 hbody
  go_enter Tryz.func21, Tryz.ntmps21
  go_wp2_with fail
  refine (frame_calls (kind.toNat : Int) a b t _).mono ?_
  rintro e w1 ⟨hu, _, hy⟩
  rw [← HBD.out] at hy
  obtain ⟨A1, c1, G1, rfl, ho, hg, hc1, hm1⟩ := hy HR.out
  have HU := Asd.mk (((Upd.refl (fun _ => False) w).alloc (.cells #[.int .i64 (kind.toNat : Int), .int .i64 a, .int .i64 b, .string (S t)] 36)).trans hu (fun _ _ h => h))
  have HO := Asd.mk ho.rd
  clear hu hy ho hg
  go_wp2_with fail
  have hV := (Upd.refl (fun _ => False) w1).alloc (.cells #[.int .u8 (kind.toNat : Int), .slice A1 body.length c1] 105)
  refine (Fr.put_ok A l.length c l kind A1 c1 body _ ((HL.out.up HU.out).up hV) (HO.out.up hV) (by omega) hml).mono ?_
  unfold Fr.PutPost
  rintro e w2 ⟨A2, c2, G2, rfl, ho2, hg2, hc2, hm2, hu2⟩
  have HU2 := Asd.mk ((HU.out.trans hV (fun _ _ h => h)).trans hu2 (fun _ _ h => h))
  have HO2 := Asd.mk ho2
  have hs := HU.out.size
  have hs2 := hV.size
  have HG2 : Asd (∀ g, G2 = some g → w.heap.size ≤ g) := ⟨fun g e => by have := hg2 g e; omega⟩
  clear ho2 hg2 hu2 hV
  go_wp2
  go_ret
  exact ⟨A2, c2, G2, by rw [List.length_append]; rfl, HO2.out, HG2.out, hc2, hm2, HU2.out⟩
theorem val_num6 (x : Nat) (h : x ≤ 1099511627776) : val (num6 x) = x := by
  simp only [num6, val, List.foldl_cons, List.foldl_nil, UInt8.toNat_ofNat']
  omega
end Go.Proofs.YteepkanbiefpjaaGreatDoor.MgPut
set_option linter.unusedVariables false
set_option linter.unusedSimpArgs false
namespace Go.Proofs.YteepkanbiefpjaaGreatDoor.K
open Go.RowKit Go.ChangeShapes Go.WideShapes Go.Deep
def R4 {α β γ δ : Type} (R : Rdr α) (T : Rdr β) (U : Rdr γ) (V : Rdr δ) : Rdr (α × β × γ × δ) := fun w cs x => ∃ c0 c1 c2 c3, cs = [c0, c1, c2, c3] ∧ R w [c0] x.1 ∧ T w [c1] x.2.1 ∧ U w [c2] x.2.2.1 ∧ V w [c3] x.2.2.2
theorem R4.stays {α β γ δ : Type} {R : Rdr α} {T : Rdr β} {U : Rdr γ} {V : Rdr δ} (h : Stays R) (k : Stays T) (l : Stays U) (m : Stays V) : Stays (R4 R T U V) := by
  rintro w w1 cs a hu ⟨c0, c1, c2, c3, e, h0, h1, h2, h3⟩
  exact ⟨c0, c1, c2, c3, e, h _ _ _ _ hu h0, k _ _ _ _ hu h1, l _ _ _ _ hu h2, m _ _ _ _ hu h3⟩
section
variable {P : Program}
theorem R4.opens {α β γ δ : Type} {R : Rdr α} {T : Rdr β} {U : Rdr γ} {V : Rdr δ} {t : TypeId} {f0 f1 f2 f3 : Field} (ht : P.underlying t = some (.struct #[f0, f1, f2, f3])) (hn : P.cellsOf t = 4) (h0 : f0.offset = 0) (h1 : f1.offset = 1) (h2 : f2.offset = 2) (h3 : f3.offset = 3) (c0 : P.cellsOf f0.type = 1) (c1 : P.cellsOf f1.type = 1) (c2 : P.cellsOf f2.type = 1) (c3 : P.cellsOf f3.type = 1)
    (hR : Opens P f0.type R) (hT : Opens P f1.type T) (hU : Opens P f2.type U) (hV : Opens P f3.type V) : Opens P t (R4 R T U V) := fun H enc W fuel cs x h hw => by
  obtain ⟨y0, y1, y2, y3, n, rfl, hl, g0, g1, g2, g3⟩ := Go.Joins.trod_struct4 ht h
  rw [hn] at hl
  rw [h0, c0] at g0
  rw [h1, c1] at g1
  rw [h2, c2] at g2
  rw [h3, c3] at g3
  match cs, hl with
  | [v0, v1, v2, v3], _ =>
    simp only [List.drop_zero, List.drop_one, List.tail_cons, List.take_succ_cons, List.take_zero, List.drop_succ_cons] at g0 g1 g2 g3
    obtain ⟨a, ha⟩ := hR _ _ _ _ _ _ g0 (fun k hk => hw k (by simp [DataW.weights, ht, DataW.weightsEach, hk]))
    obtain ⟨b, hb⟩ := hT _ _ _ _ _ _ g1 (fun k hk => hw k (by simp [DataW.weights, ht, DataW.weightsEach, hk]))
    obtain ⟨c, hc⟩ := hU _ _ _ _ _ _ g2 (fun k hk => hw k (by simp [DataW.weights, ht, DataW.weightsEach, hk]))
    obtain ⟨d, hd⟩ := hV _ _ _ _ _ _ g3 (fun k hk => hw k (by simp [DataW.weights, ht, DataW.weightsEach, hk]))
    exact ⟨(a, b, c, d), v0, v1, v2, v3, rfl, ha, hb, hc, hd⟩
end
theorem msg_cells {w : World} {cs : Array Value} {x : Int × Int × Int × ByteArray} (h : R4 (RInt .i64) (RInt .i64) (RInt .i64) RStr w cs.toList x) : ∃ (k a b : Int) (t : List UInt8), cs = #[.int .i64 k, .int .i64 a, .int .i64 b, .string (S t)] ∧ t.length ≤ 9223372036854775807 := by
  obtain ⟨k, a, b, s⟩ := x
  obtain ⟨c0, c1, c2, c3, hcs, ⟨h0, _⟩, ⟨h1, _⟩, ⟨h2, _⟩, h3, hs⟩ := h
  simp only [List.cons.injEq, and_true] at h0 h1 h2 h3
  subst h0; subst h1; subst h2; subst h3
  refine ⟨k, a, b, s.data.toList, ?_, ?_⟩
  · apply Array.ext'
    rw [← S_of]
    simpa using hcs
  · have : s.data.toList.length = s.size := by rw [Array.length_toList]; rfl
    rw [this]
    exact Nat.le_trans hs (by simp [reach])
end Go.Proofs.YteepkanbiefpjaaGreatDoor.K
set_option linter.unusedVariables false
set_option linter.unusedSimpArgs false
namespace Go.Proofs.YteepkanbiefpjaaGreatDoor.MgApart
open Go.RowKit K Mg MgNum MgOf MgFr MgHead MgLawOf MgPut
@[go_sem] theorem S_toList (l : List UInt8) : (S l).toList = l := by
  rw [ByteArray.toList_eq]
  simp [S]
end Go.Proofs.YteepkanbiefpjaaGreatDoor.MgApart
set_option linter.unusedVariables false
set_option linter.unusedSimpArgs false
namespace Go.Proofs.YteepkanbiefpjaaGreatDoor.MgTwo
open Go.RowKit K Mg MgNum MgOf MgFr MgHead MgLawOf MgPut
open Fr (fbytes fbytes_length)
set_option maxHeartbeats 1000000 in
theorem put_no (v : Value) (k a b : Int) (t : List UInt8) (w : World) (hr : right k a b t.length = false) :
    Calls Tryz.prog 21 #[v, .agg #[.int .i64 k, .int .i64 a, .int .i64 b, .string (S t)]] w fun e w' => e = .returned v ∧ Upd (fun _ => False) w w' := by
  have HR := Asd.mk hr
  clear hr
  go_enter Tryz.func21, Tryz.ntmps21
  go_wp2_with fail
  refine (frame_calls k a b t _).mono ?_
  rintro e w1 ⟨hu, hn, _⟩
  obtain rfl := hn HR.out
  have HU := Asd.mk (((Upd.refl (fun _ => False) w).alloc (.cells #[.int .i64 k, .int .i64 a, .int .i64 b, .string (S t)] 36)).trans hu (fun _ _ h => h))
  clear hu hn
  go_wp2
  go_ret
  exact ⟨rfl, HU.out.alloc _⟩
set_option maxHeartbeats 1000000 in
theorem size_calls (k a b : Int) (t : List UInt8) (w : World) (ht : t.length ≤ 1048576) :
    Calls Tryz.prog 137 #[.agg #[.int .i64 k, .int .i64 a, .int .i64 b, .string (S t)]] w fun e w' => e = .returned (.int .i64 ((5 + 6 * nums k + t.length : Nat) : Int)) ∧ Upd (fun _ => False) w w' := by
  obtain ⟨N, hN⟩ : ∃ N, N = nums k := ⟨_, rfl⟩
  have hN2 : N ≤ 2 := by rw [hN]; exact nums_le k
  have HN := Asd.mk hN
  rw [← hN]
  clear hN
  go_enter Tryz.func137, Tryz.ntmps137
  go_wp2_with fail
  refine (shape_calls k _).mono ?_
  rw [← HN.out]
  rintro e w1 ⟨rfl, rfl⟩
  go_wp2
  go_ret
  exact ⟨congrArg (fun x => Ending.returned (Value.int IntKind.i64 x)) (by omega), (Upd.refl _ _).alloc _⟩
theorem body_is (k : Int) (a b : Nat) (t : List UInt8) (h : right k (a : Int) (b : Int) t.length = true) : isMsg k (mbody k a b t) = true ∧ numA (nums k) (mbody k a b t) = a ∧ numB (nums k) (mbody k a b t) = b ∧ (mbody k a b t).drop (6 * nums k) = t := by
  obtain ⟨hk, _, _, _, ha, hb, za, zb⟩ := right_nat k (a : Int) (b : Int) t.length h
  have hn := nums_le k
  have hl := mbody_length k a b t
  have key : numA (nums k) (mbody k a b t) = a ∧ numB (nums k) (mbody k a b t) = b ∧ (mbody k a b t).drop (6 * nums k) = t := by
    unfold mbody
    generalize nums k = N at *
    have l12 : (num6 a ++ num6 b).length = 12 := rfl
    have hd : ((num6 a ++ num6 b).take (6 * N) ++ t).drop (6 * N) = t := by
      rw [List.drop_append_of_le_length (by rw [List.length_take, l12]; omega), List.drop_of_length_le (by rw [List.length_take, l12]; omega), List.nil_append]
    refine ⟨?_, ?_, hd⟩
    · rcases (by omega : N = 0 ∨ N = 1 ∨ N = 2) with rfl | rfl | rfl
      · show 0 = a; omega
      · have e : ((num6 a ++ num6 b).take (6 * 1) ++ t).take 6 = num6 a := by
          rw [List.take_append_of_le_length (by rw [List.length_take, l12]; omega)]
          rfl
        show val (((num6 a ++ num6 b).take (6 * 1) ++ t).take 6) = a
        rw [e, val_num6 a (by omega)]
      · have e : ((num6 a ++ num6 b).take (6 * 2) ++ t).take 6 = num6 a := by
          rw [List.take_append_of_le_length (by rw [List.length_take, l12]; omega)]
          rfl
        show val (((num6 a ++ num6 b).take (6 * 2) ++ t).take 6) = a
        rw [e, val_num6 a (by omega)]
    · rcases (by omega : N = 0 ∨ N = 1 ∨ N = 2) with rfl | rfl | rfl
      · show 0 = b; omega
      · show 0 = b; omega
      · have e : (((num6 a ++ num6 b).take (6 * 2) ++ t).drop 6).take 6 = num6 b := by
          rw [List.drop_append_of_le_length (by rw [List.length_take, l12]; omega), List.take_append_of_le_length (by rw [List.length_drop, List.length_take, l12]; omega)]
          rfl
        show val ((((num6 a ++ num6 b).take (6 * 2) ++ t).drop 6).take 6) = b
        rw [e, val_num6 b (by omega)]
  obtain ⟨h1, h2, h3⟩ := key
  refine ⟨?_, h1, h2, h3⟩
  unfold isMsg
  rw [hk, h1, h2, h3, h, decide_eq_true (by rw [hl]; omega)]
  rfl
end Go.Proofs.YteepkanbiefpjaaGreatDoor.MgTwo
set_option linter.unusedVariables false
set_option linter.unusedSimpArgs false
namespace Go.Proofs.YteepkanbiefpjaaGreatDoor.MgRow
open Go.RowKit K
structure M where
  k : Int
  a : Int
  b : Int
  t : List UInt8
def mC (m : M) : List Value := [.int .i64 m.k, .int .i64 m.a, .int .i64 m.b, .string (S m.t)]
structure Ms (w : World) (A : Option Addr) (n : Nat) (L : List M) : Prop where
  len : L.length = n
  lim : n ≤ 9223372036854775807
  at_ : ∀ i (h : i < n), ∃ ad, A = some ad ∧ ∀ j u, (mC (L[i]'(by rw [len]; exact h)))[j]? = some u → w.cell? (ad.add (i * 4 + j)) = some u
section
variable {w w1 : World} {A : Option Addr} {n : Nat} {L : List M}
theorem Ms.up (h : Ms w A n L) (k : Upd (fun _ => False) w w1) : Ms w1 A n L := ⟨h.len, h.lim, fun i hi => by
  obtain ⟨ad, e, hc⟩ := h.at_ i hi
  exact ⟨ad, e, fun j u hj => k.cell (hc j u hj) (fun h => h)⟩⟩
theorem Ms.take (h : Ms w A n L) (k : Nat) (hk : k ≤ n) : Ms w A k (L.take k) := ⟨by rw [List.length_take, h.len]; omega, by have := h.lim; omega, fun i hi => by
  obtain ⟨ad, e, hc⟩ := h.at_ i (by omega)
  exact ⟨ad, e, fun j u hj => hc j u (by rw [List.getElem_take] at hj; exact hj)⟩⟩
abbrev RMsg := R4 (RInt .i64) (RInt .i64) (RInt .i64) RStr
theorem RMsg.stays : Stays RMsg := R4.stays (RInt.stays _) (RInt.stays _) (RInt.stays _) RStr.stays
def toM (x : Int × Int × Int × ByteArray) : M := ⟨x.1, x.2.1, x.2.2.1, x.2.2.2.data.toList⟩
theorem RMsg.cells {cs : List Value} {x : Int × Int × Int × ByteArray} (h : RMsg w cs x) : cs = mC (toM x) ∧ (toM x).t.length ≤ reach := by
  obtain ⟨k, a, b, s⟩ := x
  obtain ⟨c0, c1, c2, c3, hcs, ⟨h0, _⟩, ⟨h1, _⟩, ⟨h2, _⟩, h3, hs⟩ := h
  simp only [List.cons.injEq, and_true] at h0 h1 h2 h3
  subst h0; subst h1; subst h2; subst h3
  refine ⟨?_, ?_⟩
  · rw [hcs]
    simp only [mC, toM]
    rw [← S_of]
  · show s.data.toList.length ≤ reach
    rw [Array.length_toList]
    exact hs
theorem Ms.ofEls {X : List (Int × Int × Int × ByteArray)} (h : Els RMsg 4 w A n X) : Ms w A n (X.map toM) ∧ ∀ m ∈ X.map toM, m.t.length ≤ reach := by
  refine ⟨⟨by rw [List.length_map]; exact h.len, h.lim, fun i hi => ?_⟩, fun m hm => ?_⟩
  · obtain ⟨ad, cs, e, hl, hr, hc⟩ := h.at_ i hi
    refine ⟨ad, e, fun j u hj => hc j u ?_⟩
    rw [(RMsg.cells hr).1]
    rw [List.getElem_map] at hj
    exact hj
  · obtain ⟨i, hi, rfl⟩ := List.getElem_of_mem hm
    rw [List.getElem_map]
    obtain ⟨ad, cs, e, hl, hr, hc⟩ := h.at_ i (by rw [← h.len]; simpa using hi)
    exact (RMsg.cells hr).2
theorem Ms.lit (w : World) (C : Array Value) (e : TypeId) (fz : Nat × Nat) (n : Nat) (L : List M) (h : C = (L.flatMap mC).toArray) (hl : L.length = n) (hm : n ≤ 9223372036854775807) : Ms (w.alloc (.cells C e fz)) (some ⟨w.heap.size, 0, none⟩) n L := by
  subst h
  refine ⟨hl, hm, fun i hi => ⟨_, rfl, fun j u hj => ?_⟩⟩
  rw [add_lit]
  have hb : (w.alloc (.cells (L.flatMap mC).toArray e fz)).heap[w.heap.size]? = some (.cells (L.flatMap mC).toArray e fz) := heap_alloc_new w _
  simp only [World.cell?, hb, Nat.zero_add]
  rw [if_neg (by simp), List.getElem?_toArray]
  have hj4 : j < 4 := by
    rcases Nat.lt_or_ge j 4 with h | h
    · exact h
    · rw [List.getElem?_eq_none (by simpa [mC] using h)] at hj; cases hj
  subst hl
  have flat : ∀ (L : List M) (i : Nat) (hi : i < L.length), (L.flatMap mC)[i * 4 + j]? = (mC L[i])[j]? := by
    intro L
    induction L with
    | nil => intro i hi; simp at hi
    | cons m L ih =>
      intro i hi
      rw [List.flatMap_cons]
      cases i with
      | zero =>
        rw [List.getElem?_append_left (by simp [mC]; omega), Nat.zero_mul, Nat.zero_add]
        rfl
      | succ i =>
        have hml : (mC m).length = 4 := rfl
        rw [List.getElem?_append_right (by omega), hml, show (i + 1) * 4 + j - 4 = i * 4 + j by omega]
        exact ih i (by simpa using hi)
  rw [flat L i hi]
  exact hj
theorem Ms.litg (w : World) (g : Nat) (hg : g = w.heap.size) (C : Array Value) (e : TypeId) (fz : Nat × Nat) (n : Nat) (L : List M) (h : C = (L.flatMap mC).toArray) (hl : L.length = n) (hm : n ≤ 9223372036854775807) : Ms (w.alloc (.cells C e fz)) (some ⟨g, 0, none⟩) n L := by
  subst hg
  exact Ms.lit w C e fz n L h hl hm
end
end Go.Proofs.YteepkanbiefpjaaGreatDoor.MgRow
set_option linter.unusedVariables false
set_option linter.unusedSimpArgs false
namespace Go.Proofs.YteepkanbiefpjaaGreatDoor.Vw
open Go.RowKit K Rg MgRow
def startA (l : List UInt8) (n : Nat) (back : Int) : Nat := (mx ((l.length - n : Nat) : Int) ((l.length : Int) - mx back 0)).toNat
def startN (l : List UInt8) (n : Nat) (back : Int) (line : Bool) : Nat := if line then lineOf l (l.length - n) (startA l n back : Int) else startA l n back
theorem startA_le (l : List UInt8) (n : Nat) (back : Int) : l.length - n ≤ startA l n back ∧ startA l n back ≤ l.length ∧ mx ((l.length - n : Nat) : Int) ((l.length : Int) - mx back 0) = (startA l n back : Int) := by
  have h1 : 0 ≤ mx back 0 := by unfold mx; split <;> omega
  generalize hm : mx back 0 = m at h1
  unfold startA
  rw [hm]
  unfold mx
  split <;> omega
section
variable {w : World} {q g n v : Nat} {l : List UInt8}
set_option maxHeartbeats 400000 in
theorem start_calls (h : Ring w q g n l) (back : Int) (hb : -9223372036854775808 ≤ back ∧ back ≤ 9223372036854775807) (line : Bool) :
    Calls Tryz.prog 122 #[.pointer (some ⟨q, 0, none⟩), .int .i64 back, .bool line] w fun e w' => e = .returned (.int .i64 (startN l n back line : Int)) ∧ Upd (fun _ => False) w w' := by
  obtain ⟨h1, h2, h3⟩ := startA_le l n back
  have hfew := h.few
  have HR := Asd.mk h
  have hm : 0 ≤ mx back 0 ∧ mx back 0 ≤ 9223372036854775807 := by unfold mx; split <;> omega
  obtain ⟨m, hmm⟩ : ∃ m, m = mx back 0 := ⟨_, rfl⟩
  rw [← hmm] at h3 hm
  obtain ⟨r, hr⟩ : ∃ r, r = startN l n back line := ⟨_, rfl⟩
  rw [← hr]
  obtain ⟨a, ha⟩ : ∃ a, a = startA l n back := ⟨_, rfl⟩
  rw [← ha] at h1 h2 h3
  have HRR : Asd (r = if line then lineOf l (l.length - n) (a : Int) else a) := ⟨by rw [hr, ha]; rfl⟩
  have HM := Asd.mk hmm
  have H3 := Asd.mk h3
  obtain ⟨base, hbase⟩ : ∃ base, base = l.length - n := ⟨_, rfl⟩
  rw [← hbase] at h1
  have HB := Asd.mk hbase
  clear h hr ha hmm h3 hbase
  go_enter Tryz.func122, Tryz.ntmps122
  go_wp2_with fail
  refine (base_calls HR.out).mono ?_
  rw [← HB.out]
  rintro e w1 ⟨rfl, rfl⟩
  go_wp2_with fail
  refine (end_calls HR.out).mono ?_
  rintro e w1 ⟨rfl, rfl⟩
  have hm2 := HM.out.symm
  have h32 := H3.out
  rw [← HB.out] at h32
  clear hb
  cases line with
  | false =>
    have HF : Asd (r = a) := ⟨by rw [HRR.out]; rfl⟩
    go_wp2
    go_ret
    exact ⟨by rw [HF.out]; rfl, Upd.refl _ _⟩
  | true =>
    have HF : Asd (r = lineOf l (l.length - n) (a : Int)) := ⟨by rw [HRR.out]; rfl⟩
    go_wp2_with fail
    refine (line_calls HR.out (a : Int)).mono ?_
    rw [← HF.out]
    rintro e w2 ⟨rfl, hu⟩
    go_wp2
    go_ret
    exact ⟨rfl, hu⟩
end
def V (w : World) (v at_ st : Nat) : Prop := w.heap[v]? = some (.cells #[.int .i64 (at_ : Int), .int .i64 (st : Int)] 169 (0, 0))
def NewPost (at_ : Nat) (w : World) (e : Ending) (w' : World) : Prop := ∃ v, e = .returned (.pointer (some ⟨v, 0, none⟩)) ∧ V w' v at_ 0 ∧ Upd (fun _ => False) w w' ∧ w.heap.size ≤ v
section
variable {w : World} {q g n v at_ st : Nat} {l : List UInt8}
theorem V.up {w1 : World} {S : Nat → Prop} (h : V w v at_ st) (k : Upd S w w1) (hn : ¬ S v) : V w1 v at_ st := k.blk h hn
set_option maxHeartbeats 400000 in
theorem new_calls (h : Ring w q g n l) (back : Int) (hb : -9223372036854775808 ≤ back ∧ back ≤ 9223372036854775807) (line : Bool) :
    Calls Tryz.prog 98 #[.pointer (some ⟨q, 0, none⟩), .int .i64 back, .bool line] w (NewPost (startN l n back line) w) := by
  go_enter Tryz.func98, Tryz.ntmps98
  go_wp2_with fail
  refine (start_calls h back hb line).mono ?_
  rintro e w1 ⟨rfl, hu⟩
  have HU := Asd.mk hu
  clear hu h hb
  go_wp2
  go_ret
  exact ⟨w1.heap.size, rfl, heap_alloc_new w1 _, HU.out.alloc _, HU.out.size⟩
set_option maxHeartbeats 400000 in
theorem at_calls (h : V w v at_ st) : Calls Tryz.prog 77 #[.pointer (some ⟨v, 0, none⟩)] w fun e w' => e = .returned (.int .i64 (at_ : Int)) ∧ w = w' := by
  have c0 := keepsC (o := 0) (v := .int .i64 (at_ : Int)) h rfl
  clear h
  go_enter Tryz.func77, Tryz.ntmps77
  go_wp2
  go_ret
  exact ⟨rfl, rfl⟩
end
end Go.Proofs.YteepkanbiefpjaaGreatDoor.Vw
set_option linter.unusedVariables false
set_option linter.unusedSimpArgs false
namespace Go.Proofs.YteepkanbiefpjaaGreatDoor.Vw
open Go.RowKit K Rg MgRow Mg MgTwo
def roomOf (room most : Int) : Int := mn (mn most (mx room 0 - 11)) 2042
structure Nx where
  m : M
  ok : Bool
  at_ : Nat
  st : Nat
def next (l : List UInt8) (n at_ st : Nat) (room most strikes : Int) : Nx :=
  if at_ < l.length - n then
    if strikes ≤ (st : Int) ∨ room < 17 then ⟨⟨12, 0, 0, []⟩, true, at_, st⟩ else ⟨⟨7, (at_ : Int), ((l.length - n : Nat) : Int), []⟩, true, l.length - n, st + 1⟩
  else if (l.drop at_).take (roomOf room most).toNat = [] then ⟨⟨0, 0, 0, []⟩, false, at_, st⟩
  else ⟨⟨6, (at_ : Int), 0, (l.drop at_).take (roomOf room most).toNat⟩, true, at_ + ((l.drop at_).take (roomOf room most).toNat).length, st⟩
def msgV (m : M) : Value := .agg #[.int .i64 m.k, .int .i64 m.a, .int .i64 m.b, .string (S m.t)]
def NextPost (v : Nat) (r : Nx) (w : World) (e : Ending) (w' : World) : Prop := e = .returned (.tuple #[msgV r.m, .bool r.ok]) ∧ V w' v r.at_ r.st ∧ Upd (fun i => i = v) w w'
section
variable {w : World} {q g n v at_ st : Nat} {l : List UInt8}
set_option maxHeartbeats 2000000 in
set_option maxRecDepth 100000 in
theorem next_calls (h : Ring w q g n l) (hv : V w v at_ st) (hne : ¬ Its q g v) (hat : at_ ≤ l.length) (hst : st ≤ 1000000000) (room most strikes : Int) (hr : -1000000000 ≤ room ∧ room ≤ 1000000000) (hm : -9223372036854775808 ≤ most ∧ most ≤ 9223372036854775807) :
    Calls Tryz.prog 107 #[.pointer (some ⟨v, 0, none⟩), .pointer (some ⟨q, 0, none⟩), .int .i64 room, .int .i64 most, .int .i64 strikes] w (NextPost v (next l n at_ st room most strikes) w) := by
  obtain ⟨r, hrr⟩ : ∃ r, r = next l n at_ st room most strikes := ⟨_, rfl⟩
  rw [← hrr]
  have HRR := Asd.mk hrr
  have HR := Asd.mk h
  have HV := Asd.mk hv
  have hfew := h.few
  have c0 := keepsC (o := 0) (v := .int .i64 (at_ : Int)) hv rfl
  have c1 := keepsC (o := 1) (v := .int .i64 (st : Int)) hv rfl
  have f0 := keepsF (o := 0) hv
  have f1 := keepsF (o := 1) hv
  obtain ⟨base, hbase⟩ : ∃ base, base = l.length - n := ⟨_, rfl⟩
  have HB := Asd.mk hbase
  have HQ := Asd.mk (Bare.lt h)
  have hvs : v < w.heap.size := blk_lt hv
  have hvn : v ≠ w.heap.size := by omega
  have hvn1 : v ≠ w.heap.size + 1 := by omega
  have hvn2 : w.heap.size ≠ v := by omega
  have hvn3 : w.heap.size + 1 ≠ v := by omega
  have HU2 : Upd (fun _ => False) w w := Upd.refl _ _
  clear hrr h hv hbase
  go_enter Tryz.func107, Tryz.ntmps107
  go_wp2
  refine wp_region_held_drew (S := fun W => Upd (fun _ => False) w W) (by kernel_rfl) (by exact (by repeat (first | assumption | with_reducible exact Upd.refl _ _ | with_reducible refine Upd.drewN ?_ _ | with_reducible refine Upd.drew ?_ | with_reducible refine Upd.alloc ?_ _ | with_reducible refine Upd.setAt ?_ ?_ | exact Or.inl rfl | exact Or.inr (by simp) | exact Or.inr (by omega)))) (fun hHeld => ?_)
  refine tk_ 0 ?_
  try simp only [Act.put, sl1_, sl2_, sl3_]
  refine tk_ 1 ?_
  try simp only [Act.put, sl1_, sl2_, sl3_]
  refine tk_ 2 ?_
  try simp only [Act.put, sl1_, sl2_, sl3_]
  refine tk_ 3 ?_
  try simp only [Act.put, sl1_, sl2_, sl3_]
  refine tk_ 4 ?_
  try simp only [Act.put, sl1_, sl2_, sl3_]
  refine wpAnyH_ready (rs := [5]) (by kernel_rfl) (by simp) (AllReadyH.cons (o := ?_) ?_ (fun K hK => ?_) AllReadyH.nil)
  rotate_left 1
  · (simp only [List.getElem?_toArray, List.getElem?_cons_succ, List.getElem?_cons_zero]; exact rfl)
  (go_simp; (go_at_call 136; refine (base_calls (HR.out.up (by repeat (first | assumption | with_reducible exact Upd.refl _ _ | with_reducible refine Upd.drewN ?_ _ | with_reducible refine Upd.drew ?_ | with_reducible refine Upd.alloc ?_ _ | with_reducible refine Upd.setAt ?_ ?_ | exact Or.inl rfl | exact Or.inr (by simp) | exact Or.inr (by omega))))).mono ?_; rw [← HB.out]; rintro e wn ⟨rfl, rfl⟩))
  refine hK.out _ _ (by exact (by repeat (first | assumption | with_reducible exact Upd.refl _ _ | with_reducible refine Upd.drewN ?_ _ | with_reducible refine Upd.drew ?_ | with_reducible refine Upd.alloc ?_ _ | with_reducible refine Upd.setAt ?_ ?_ | exact Or.inl rfl | exact Or.inr (by simp) | exact Or.inr (by omega)))) (fun hHeld => ?_)
  clear hK K
  try simp only [Act.put, List.setIfInBounds_toArray, List.set_cons_zero, List.set_cons_succ]
  refine tk_ 6 ?_
  try simp only [Act.put, sl1_, sl2_, sl3_]
  refine tk_ 7 ?_
  try simp only [Act.put, sl1_, sl2_, sl3_]
  refine wpAnyH_done (by kernel_rfl) ?_ _
  generalize hwz : World.drew _ = wz
  have h10 : wz.heap[w.heap.size]? = some (.cells #[.int .i64 0, .int .i64 0, .int .i64 0, .string { data := #[] }] 36 (0, 0)) := by rw [← hwz]; exact blk_past (blk_new rfl)
  have h12 : wz.heap[w.heap.size + 1]? = some (.cells #[.int .i64 0, .int .i64 0, .int .i64 0, .string { data := #[] }] 36 (0, 0)) := by rw [← hwz]; exact blk_new (by simp)
  have hsz : wz.heap.size = w.heap.size + 2 := by rw [← hwz]; simp
  have HUz : Upd (fun _ => False) w wz := by rw [← hwz]; exact (by repeat (first | assumption | with_reducible exact Upd.refl _ _ | with_reducible refine Upd.drewN ?_ _ | with_reducible refine Upd.drew ?_ | with_reducible refine Upd.alloc ?_ _ | with_reducible refine Upd.setAt ?_ ?_ | exact Or.inl rfl | exact Or.inr (by simp) | exact Or.inr (by omega)))
  have H10 := Asd.mk h10
  have H12 := Asd.mk h12
  have HSZ := Asd.mk hsz
  have hv3 := HUz.blk HV.out (fun h => h)
  have HVz := Asd.mk hv3
  clear hwz hHeld HU2 c0 c1 f0 f1 hsz
  (try clear hHeld)
  have HRz := Asd.mk (HR.out.up HUz)
  by_cases hgap : at_ < base
  · have hn17 : (nums 7 : Nat) = 2 := by decide
    have HN17 := Asd.mk hn17
    clear hn17
    have d0 := keepsCS (S := fun i => i = w.heap.size + 1) (o := 0) (v := .int .i64 (at_ : Int)) hv3 hvn1 rfl
    have z0 := keepsC (o := 0) h12 rfl
    have z1 := keepsC (o := 1) h12 rfl
    have z2 := keepsC (o := 2) h12 rfl
    have z3 := keepsC (o := 3) h12 rfl
    have y0 := fun o => keepsF (o := o) h12
    have HUn : Upd (fun i => i = w.heap.size + 1) wz wz := Upd.refl _ _
    clear h10 h12 hv3
    go_wp2_with fail
    refine wp_region_held_drew (S := fun W => Upd (fun i => i = w.heap.size + 1) wz W) (by kernel_rfl) (by exact (by repeat (first | assumption | with_reducible exact Upd.refl _ _ | with_reducible refine Upd.drewN ?_ _ | with_reducible refine Upd.drew ?_ | with_reducible refine Upd.alloc ?_ _ | with_reducible refine Upd.setAt ?_ ?_ | exact Or.inl rfl | exact Or.inr (by simp) | exact Or.inr (by omega)))) (fun hHeld => ?_)
    refine tk_ 0 ?_
    try simp only [Act.put, sl1_, sl2_, sl3_]
    refine tk_ 1 ?_
    try simp only [Act.put, sl1_, sl2_, sl3_]
    refine tk_ 2 ?_
    try simp only [Act.put, sl1_, sl2_, sl3_]
    refine tk_ 3 ?_
    try simp only [Act.put, sl1_, sl2_, sl3_]
    refine tk_ 4 ?_
    try simp only [Act.put, sl1_, sl2_, sl3_]
    refine wpAnyH_ready (rs := [5]) (by kernel_rfl) (by simp) (AllReadyH.cons (o := ?_) ?_ (fun K hK => ?_) AllReadyH.nil)
    rotate_left 1
    · (simp only [List.getElem?_toArray, List.getElem?_cons_succ, List.getElem?_cons_zero]; exact rfl)
    (go_simp; (go_at_call 136; refine (base_calls (HRz.out.up (by repeat (first | assumption | with_reducible exact Upd.refl _ _ | with_reducible refine Upd.drewN ?_ _ | with_reducible refine Upd.drew ?_ | with_reducible refine Upd.alloc ?_ _ | with_reducible refine Upd.setAt ?_ ?_ | exact Or.inl rfl | exact Or.inr (by simp) | exact Or.inr (by omega))))).mono ?_; rw [← HB.out]; rintro e wn ⟨rfl, rfl⟩))
    refine hK.out _ _ (by exact (by repeat (first | assumption | with_reducible exact Upd.refl _ _ | with_reducible refine Upd.drewN ?_ _ | with_reducible refine Upd.drew ?_ | with_reducible refine Upd.alloc ?_ _ | with_reducible refine Upd.setAt ?_ ?_ | exact Or.inl rfl | exact Or.inr (by simp) | exact Or.inr (by omega)))) (fun hHeld => ?_)
    clear hK K
    try simp only [Act.put, List.setIfInBounds_toArray, List.set_cons_zero, List.set_cons_succ]
    refine tk_ 6 ?_
    try simp only [Act.put, sl1_, sl2_, sl3_]
    refine wpAnyH_ready (rs := [7]) (by kernel_rfl) (by simp) (AllReadyH.cons (o := ?_) ?_ (fun K hK => ?_) AllReadyH.nil)
    rotate_left 1
    · (simp only [List.getElem?_toArray, List.getElem?_cons_succ, List.getElem?_cons_zero]; exact rfl)
    go_simp
    refine hK.out _ _ (by exact (by repeat (first | assumption | with_reducible exact Upd.refl _ _ | with_reducible refine Upd.drewN ?_ _ | with_reducible refine Upd.drew ?_ | with_reducible refine Upd.alloc ?_ _ | with_reducible refine Upd.setAt ?_ ?_ | exact Or.inl rfl | exact Or.inr (by simp) | exact Or.inr (by omega)))) (fun hHeld => ?_)
    clear hK K
    try simp only [Act.put, List.setIfInBounds_toArray, List.set_cons_zero, List.set_cons_succ]
    refine wpAnyH_done (by kernel_rfl) ?_ _
    generalize hw4 : World.drew _ = w4
    have h12 : w4.heap[w.heap.size + 1]? = some (.cells #[.int .i64 7, .int .i64 (at_ : Int), .int .i64 (base : Int), .string { data := #[] }] 36 (0, 0)) := by rw [← hw4]; exact (MgOf.four H12.out).2.2.2.2 _ _ _ _
    have hu4 : Upd (fun i => i = w.heap.size + 1) wz w4 := by rw [← hw4]; exact (by repeat (first | assumption | with_reducible exact Upd.refl _ _ | with_reducible refine Upd.drewN ?_ _ | with_reducible refine Upd.drew ?_ | with_reducible refine Upd.alloc ?_ _ | with_reducible refine Upd.setAt ?_ ?_ | exact Or.inl rfl | exact Or.inr (by simp) | exact Or.inr (by omega)))
    have h10 := hu4.blk H10.out (by omega)
    have HUv : Upd (fun _ => False) w w4 := HUz.trans hu4 (fun i h e => by omega)
    clear d0 z0 z1 z2 z3 y0 HUn H10 H12 HUz hw4 hu4 hHeld
    (try clear hHeld)
    (try clear hHeld)
    have HV4 := Asd.mk (HUv.blk HV.out (fun h => h))
    have v1 := keepsC (o := 1) (v := .int .i64 (st : Int)) HV4.out rfl
    have H10 := Asd.mk h10
    have H12 := Asd.mk h12
    have z0 := keepsC (o := 0) h12 rfl
    have z1 := keepsC (o := 1) h12 rfl
    have z2 := keepsC (o := 2) h12 rfl
    have z3 := keepsC (o := 3) h12 rfl
    have y0 := keepsC (o := 0) h10 rfl
    have y1 := keepsC (o := 1) h10 rfl
    have y2 := keepsC (o := 2) h10 rfl
    have y3 := keepsC (o := 3) h10 rfl
    have yf := fun o => keepsF (o := o) h10
    clear h12 h10
    by_cases hs : strikes ≤ (st : Int)
    · have HF : Asd (r = ⟨⟨12, 0, 0, []⟩, true, at_, st⟩) := ⟨by rw [HRR.out, next, if_pos (by rw [← HB.out]; exact hgap), if_pos (.inl hs)]⟩
      go_wp2
      have q := (MgOf.four H10.out).2.2.2.2 (.int .i64 12) (.int .i64 0) (.int .i64 0) (.string { data := #[] })
      refine bodyPost_ret (v := .tuple #[.agg #[.int .i64 12, .int .i64 0, .int .i64 0, .string { data := #[] }], .bool true]) (by simp [results, Tryz.results107, go_sem, World.cell?, q]) rfl ?_
      rw [HF.out]
      exact ⟨rfl, Upd.blk (S := fun i => i = w.heap.size) (by repeat (first | assumption | with_reducible exact Upd.refl _ _ | with_reducible refine Upd.drewN ?_ _ | with_reducible refine Upd.drew ?_ | with_reducible refine Upd.alloc ?_ _ | with_reducible refine Upd.setAt ?_ ?_ | exact Or.inl rfl | exact Or.inr (by simp) | exact Or.inr (by omega))) HV4.out hvn, (show Upd (fun _ => False) w _ from (by repeat (first | assumption | with_reducible exact Upd.refl _ _ | with_reducible refine Upd.drewN ?_ _ | with_reducible refine Upd.drew ?_ | with_reducible refine Upd.alloc ?_ _ | with_reducible refine Upd.setAt ?_ ?_ | exact Or.inl rfl | exact Or.inr (by simp) | exact Or.inr (by omega)))).mono (fun _ _ h => h.elim)⟩
    have hs2 : ¬ (strikes ≤ (st : Int)) := hs
    have hSz : ({ data := #[] } : ByteArray) = S [] := rfl
    have HSz := Asd.mk hSz
    clear hSz
    go_wp2_with fail
    rw [HSz.out]
    refine (size_calls 7 (at_ : Int) (base : Int) [] _ (by simp)).mono ?_
    rw [HN17.out]
    rintro e w5 ⟨rfl, hu⟩
    have h10 := hu.blk H10.out (fun h => h)
    have h12 := hu.blk H12.out (fun h => h)
    have hv5 := hu.blk HV4.out (fun h => h)
    have HUw : Upd (fun _ => False) w w5 := HUv.trans hu (fun _ _ h => h)
    clear hu z0 z1 z2 z3 y0 y1 y2 y3 yf H10 H12 HV4 HUv v1
    have d0 := keepsC (o := 0) (v := .int .i64 (at_ : Int)) hv5 rfl
    have d1 := keepsC (o := 1) (v := .int .i64 (st : Int)) hv5 rfl
    have d2 := fun o => keepsF (o := o) hv5
    have z0 := keepsC (o := 0) h12 rfl
    have z1 := keepsC (o := 1) h12 rfl
    have z2 := keepsC (o := 2) h12 rfl
    have z3 := keepsC (o := 3) h12 rfl
    have y0 := keepsC (o := 0) h10 rfl
    have y1 := keepsC (o := 1) h10 rfl
    have y2 := keepsC (o := 2) h10 rfl
    have y3 := keepsC (o := 3) h10 rfl
    have yf := fun o => keepsF (o := o) h10
    have H10 := Asd.mk h10
    have HV5 := Asd.mk hv5
    clear h10 h12 hv5
    have hx17 : ((5 + 6 * 2 + ([] : List UInt8).length : Nat) : Int) = 17 := rfl
    rw [hx17]
    clear hx17
    by_cases hr17 : room < 17
    · have HF : Asd (r = ⟨⟨12, 0, 0, []⟩, true, at_, st⟩) := ⟨by rw [HRR.out, next, if_pos (by rw [← HB.out]; exact hgap), if_pos (.inr hr17)]⟩
      go_wp2
      have q := (MgOf.four H10.out).2.2.2.2 (.int .i64 12) (.int .i64 0) (.int .i64 0) (.string { data := #[] })
      refine bodyPost_ret (v := .tuple #[.agg #[.int .i64 12, .int .i64 0, .int .i64 0, .string { data := #[] }], .bool true]) (by simp [results, Tryz.results107, go_sem, World.cell?, q]) rfl ?_
      rw [HF.out]
      exact ⟨rfl, Upd.blk (S := fun i => i = w.heap.size) (by repeat (first | assumption | with_reducible exact Upd.refl _ _ | with_reducible refine Upd.drewN ?_ _ | with_reducible refine Upd.drew ?_ | with_reducible refine Upd.alloc ?_ _ | with_reducible refine Upd.setAt ?_ ?_ | exact Or.inl rfl | exact Or.inr (by simp) | exact Or.inr (by omega))) HV5.out hvn, (show Upd (fun _ => False) w _ from (by repeat (first | assumption | with_reducible exact Upd.refl _ _ | with_reducible refine Upd.drewN ?_ _ | with_reducible refine Upd.drew ?_ | with_reducible refine Upd.alloc ?_ _ | with_reducible refine Upd.setAt ?_ ?_ | exact Or.inl rfl | exact Or.inr (by simp) | exact Or.inr (by omega)))).mono (fun _ _ h => h.elim)⟩
    · have HF : Asd (r = ⟨⟨7, (at_ : Int), (base : Int), []⟩, true, base, st + 1⟩) := ⟨by rw [HRR.out, next, if_pos (by rw [← HB.out]; exact hgap), if_neg (by omega), ← HB.out]⟩
      go_wp2
      have b0 := blk_setCell (o := 1) (blk_setCell (o := 0) HV5.out (.int .i64 (base : Int))) (.int .i64 ((st : Int) + 1))
      have b1 : ((w5.setCell ⟨v, 0, none⟩ (.int .i64 (base : Int))).setCell ⟨v, 1, none⟩ (.int .i64 ((st : Int) + 1))).heap[v]? = some (.cells #[.int .i64 (base : Int), .int .i64 ((st + 1 : Nat) : Int)] 169 (0, 0)) := by rw [b0, Int.natCast_add]; rfl
      have hu5 : Upd (fun i => i = v) w5 ((w5.setCell ⟨v, 0, none⟩ (.int .i64 (base : Int))).setCell ⟨v, 1, none⟩ (.int .i64 ((st : Int) + 1))) := (by repeat (first | assumption | with_reducible exact Upd.refl _ _ | with_reducible refine Upd.drewN ?_ _ | with_reducible refine Upd.drew ?_ | with_reducible refine Upd.alloc ?_ _ | with_reducible refine Upd.setAt ?_ ?_ | exact Or.inl rfl | exact Or.inr (by simp) | exact Or.inr (by omega)))
      have hb := hu5.blk H10.out (by omega)
      have q := (MgOf.four hb).2.2.2.2 (.int .i64 7) (.int .i64 (at_ : Int)) (.int .i64 (base : Int)) (.string { data := #[] })
      have hw5 : Upd (fun i => i = v) w w5 := HUw.mono (fun _ _ h => h.elim)
      clear hu5
      refine bodyPost_ret (v := .tuple #[.agg #[.int .i64 7, .int .i64 (at_ : Int), .int .i64 (base : Int), .string { data := #[] }], .bool true]) (by simp [results, Tryz.results107, go_sem, World.cell?, q]) rfl ?_
      rw [HF.out]
      refine ⟨rfl, ?_, (by repeat (first | assumption | with_reducible exact Upd.refl _ _ | with_reducible refine Upd.drewN ?_ _ | with_reducible refine Upd.drew ?_ | with_reducible refine Upd.alloc ?_ _ | with_reducible refine Upd.setAt ?_ ?_ | exact Or.inl rfl | exact Or.inr (by simp) | exact Or.inr (by omega)))⟩
      show V _ v base (st + 1)
      exact Upd.blk (S := fun i => i = w.heap.size) (by repeat (first | assumption | with_reducible exact Upd.refl _ _ | with_reducible refine Upd.drewN ?_ _ | with_reducible refine Upd.drew ?_ | with_reducible refine Upd.alloc ?_ _ | with_reducible refine Upd.setAt ?_ ?_ | exact Or.inl rfl | exact Or.inr (by simp) | exact Or.inr (by omega))) b1 hvn
  · obtain ⟨k, hk⟩ : ∃ k, k = roomOf room most := ⟨_, rfl⟩
    obtain ⟨m0, hm0⟩ : ∃ m0, m0 = mx room 0 := ⟨_, rfl⟩
    have hm1 : 0 ≤ m0 ∧ m0 ≤ 1000000000 := by rw [hm0]; unfold mx; split <;> omega
    have e0 : mx room 0 = m0 := hm0.symm
    have e1 : mn (mn most (m0 - 5 - 6)) 2042 = k := by rw [hk, roomOf, hm0, show mx room 0 - 5 - 6 = mx room 0 - 11 by omega]
    have hk1 : k ≤ 2042 ∧ -9223372036854775808 ≤ k := by rw [← e1]; unfold mn; split <;> split <;> omega
    have HKK := Asd.mk hk
    clear hk hm0
    have d00 := keepsC (o := 0) (v := .int .i64 (at_ : Int)) hv3 rfl
    clear h10 h12 hv3
    go_wp2_with fail
    refine (read_calls (HRz.out.up (by repeat (first | assumption | with_reducible exact Upd.refl _ _ | with_reducible refine Upd.drewN ?_ _ | with_reducible refine Upd.drew ?_ | with_reducible refine Upd.alloc ?_ _ | with_reducible refine Upd.setAt ?_ ?_ | exact Or.inl rfl | exact Or.inr (by simp) | exact Or.inr (by omega)))) (at_ : Int) k (by omega)).mono ?_
    rintro e w3 ⟨hu3, _, hrd⟩
    obtain ⟨A3, c3, G3, rfl, ho3, hg3⟩ := hrd (by have := HB.out; omega) (by omega)
    have h10 := hu3.blk H10.out (fun h => h)
    have h12 := hu3.blk H12.out (fun h => h)
    have hg3b : ∀ g, G3 = some g → w.heap.size + 2 ≤ g := fun g e => by have := hg3 g e; have := HSZ.out; simp at *; omega
    have hl : ((l.drop (at_ : Int).toNat).take k.toNat).length ≤ 2042 := by rw [List.length_take]; omega
    have hl2 : at_ + ((l.drop (at_ : Int).toNat).take k.toNat).length ≤ l.length := by rw [List.length_take, List.length_drop]; simp only [Int.toNat_natCast]; omega
    obtain ⟨bs, hbs⟩ : ∃ bs, bs = (l.drop (at_ : Int).toNat).take k.toNat := ⟨_, rfl⟩
    rw [← hbs] at ho3 hl hl2
    rw [← hbs]
    have HU3 : Upd (fun _ => False) w w3 := Upd.trans HUz (Upd.trans (by repeat (first | assumption | with_reducible exact Upd.refl _ _ | with_reducible refine Upd.drewN ?_ _ | with_reducible refine Upd.drew ?_ | with_reducible refine Upd.alloc ?_ _ | with_reducible refine Upd.setAt ?_ ?_ | exact Or.inl rfl | exact Or.inr (by simp) | exact Or.inr (by omega))) hu3 (fun _ _ h => h)) (fun _ _ h => h)
    have HBS : Asd (bs = (l.drop at_).take (roomOf room most).toNat) := ⟨by rw [hbs, HKK.out, Int.toNat_natCast]⟩
    have H10 := Asd.mk h10
    have H12 := Asd.mk h12
    clear d00
    have hv3 := HU3.blk HV.out (fun h => h)
    have HV3 := Asd.mk hv3
    have d0 := keepsCS (S := fun i => i = w.heap.size + 1) (o := 0) (v := .int .i64 (at_ : Int)) hv3 hvn1 rfl
    have z0 := keepsC (o := 0) h12 rfl
    have z1 := keepsC (o := 1) h12 rfl
    have z2 := keepsC (o := 2) h12 rfl
    have z3 := keepsC (o := 3) h12 rfl
    have y0 := fun o => keepsF (o := o) h12
    have hs : ∀ W, Upd (fun i => i = w.heap.size + 1) w3 W → (convert 31 9 (.slice A3 bs.length c3)).run Tryz.prog W = .ok (.string (S bs)) W := fun W k => run_str Tryz.underlying31 Tryz.underlying5 Tryz.underlying9 (ho3.upd k (fun g e h => by have := hg3b g e; omega)).rd
    clear hu3 hrd ho3 hg3 hbs h10 h12 hv3
    have HUn : Upd (fun i => i = w.heap.size + 1) w3 w3 := Upd.refl _ _
    go_wp2_with fail
    refine wp_region_held_drew (S := fun W => Upd (fun i => i = w.heap.size + 1) w3 W) (by kernel_rfl) (by exact (by repeat (first | assumption | with_reducible exact Upd.refl _ _ | with_reducible refine Upd.drewN ?_ _ | with_reducible refine Upd.drew ?_ | with_reducible refine Upd.alloc ?_ _ | with_reducible refine Upd.setAt ?_ ?_ | exact Or.inl rfl | exact Or.inr (by simp) | exact Or.inr (by omega)))) (fun hHeld => ?_)
    refine tk_ 0 ?_
    try simp only [Act.put, sl1_, sl2_, sl3_]
    refine tk_ 1 ?_
    try simp only [Act.put, sl1_, sl2_, sl3_]
    refine tk_ 2 ?_
    try simp only [Act.put, sl1_, sl2_, sl3_]
    refine tk_ 3 ?_
    try simp only [Act.put, sl1_, sl2_, sl3_]
    refine tk_ 4 ?_
    try simp only [Act.put, sl1_, sl2_, sl3_]
    refine tk_ 5 ?_
    try simp only [Act.put, sl1_, sl2_, sl3_]
    refine tk_ 6 ?_
    try simp only [Act.put, sl1_, sl2_, sl3_]
    refine wpAnyH_ready (rs := [7]) (by kernel_rfl) (by simp) (AllReadyH.cons (o := ?_) ?_ (fun K hK => ?_) AllReadyH.nil)
    rotate_left 1
    · (simp only [List.getElem?_toArray, List.getElem?_cons_succ, List.getElem?_cons_zero]; exact rfl)
    go_simp
    refine hK.out _ _ (by exact (by repeat (first | assumption | with_reducible exact Upd.refl _ _ | with_reducible refine Upd.drewN ?_ _ | with_reducible refine Upd.drew ?_ | with_reducible refine Upd.alloc ?_ _ | with_reducible refine Upd.setAt ?_ ?_ | exact Or.inl rfl | exact Or.inr (by simp) | exact Or.inr (by omega)))) (fun hHeld => ?_)
    clear hK K
    try simp only [Act.put, List.setIfInBounds_toArray, List.set_cons_zero, List.set_cons_succ]
    refine wpAnyH_done (by kernel_rfl) ?_ _
    generalize hw4 : World.drew _ = w4
    have h12 : w4.heap[w.heap.size + 1]? = some (.cells #[.int .i64 6, .int .i64 (at_ : Int), .int .i64 0, .string (S bs)] 36 (0, 0)) := by rw [← hw4]; exact (MgOf.four H12.out).2.2.2.2 _ _ _ _
    have hu4 : Upd (fun i => i = w.heap.size + 1) w3 w4 := by rw [← hw4]; exact (by repeat (first | assumption | with_reducible exact Upd.refl _ _ | with_reducible refine Upd.drewN ?_ _ | with_reducible refine Upd.drew ?_ | with_reducible refine Upd.alloc ?_ _ | with_reducible refine Upd.setAt ?_ ?_ | exact Or.inl rfl | exact Or.inr (by simp) | exact Or.inr (by omega)))
    have h10 := hu4.blk H10.out (by omega)
    have hv4 := hu4.blk HV3.out hvn1
    have HUv : Upd (fun i => i = v) w w4 := Upd.trans (HU3.mono (T := fun i => i = v) (fun _ _ h => h.elim)) hu4 (fun i h e => by omega)
    clear d0 z0 z1 z2 z3 y0 hs HUn H10 H12 HV3 HU3 hw4 hu4 hHeld hg3b HUz
    (try clear hHeld)
    (try clear hHeld)
    have d0 := keepsC (o := 0) (v := .int .i64 (at_ : Int)) hv4 rfl
    have d1 := keepsF (o := 0) hv4
    have z0 := keepsC (o := 0) h12 rfl
    have z1 := keepsC (o := 1) h12 rfl
    have z2 := keepsC (o := 2) h12 rfl
    have z3 := keepsC (o := 3) h12 rfl
    have y0 := keepsC (o := 0) h10 rfl
    have y1 := keepsC (o := 1) h10 rfl
    have y2 := keepsC (o := 2) h10 rfl
    have y3 := keepsC (o := 3) h10 rfl
    have yf := fun o => keepsF (o := o) h10
    have H10 := Asd.mk h10
    have HV4 := Asd.mk hv4
    clear h10 h12 hv4
    by_cases hbs : bs = []
    · have HF : Asd (r = ⟨⟨0, 0, 0, []⟩, false, at_, st⟩) := ⟨by rw [HRR.out, next, if_neg (by rw [← HB.out]; exact hgap), ← HBS.out, if_pos hbs]⟩
      subst hbs
      have hl0 : ([] : List UInt8).length = 0 := rfl
      go_wp2
      have q := (MgOf.four H10.out).2.2.2.2 (.int .i64 0) (.int .i64 0) (.int .i64 0) (.string { data := #[] })
      refine bodyPost_ret (v := .tuple #[.agg #[.int .i64 0, .int .i64 0, .int .i64 0, .string { data := #[] }], .bool false]) (by simp [results, Tryz.results107, go_sem, World.cell?, q]) rfl ?_
      rw [HF.out]
      exact ⟨rfl, Upd.blk (S := fun i => i = w.heap.size) (by repeat (first | assumption | with_reducible exact Upd.refl _ _ | with_reducible refine Upd.drewN ?_ _ | with_reducible refine Upd.drew ?_ | with_reducible refine Upd.alloc ?_ _ | with_reducible refine Upd.setAt ?_ ?_ | exact Or.inl rfl | exact Or.inr (by simp) | exact Or.inr (by omega))) HV4.out hvn, (by repeat (first | assumption | with_reducible exact Upd.refl _ _ | with_reducible refine Upd.drewN ?_ _ | with_reducible refine Upd.drew ?_ | with_reducible refine Upd.alloc ?_ _ | with_reducible refine Upd.setAt ?_ ?_ | exact Or.inl rfl | exact Or.inr (by simp) | exact Or.inr (by omega)))⟩
    · have HF : Asd (r = ⟨⟨6, (at_ : Int), 0, bs⟩, true, at_ + bs.length, st⟩) := ⟨by rw [HRR.out, next, if_neg (by rw [← HB.out]; exact hgap), ← HBS.out, if_neg hbs]⟩
      have hl0 : ((bs.length : Int) == 0) = false := beq_eq_false_iff_ne.2 (fun e => hbs (List.eq_nil_of_length_eq_zero (by omega)))
      clear hbs
      go_wp2
      have b0 := blk_setCell (o := 0) HV4.out (.int .i64 ((at_ : Int) + (bs.length : Int)))
      have b1 : (w4.setCell ⟨v, 0, none⟩ (.int .i64 ((at_ : Int) + (bs.length : Int)))).heap[v]? = some (.cells #[.int .i64 ((at_ + bs.length : Nat) : Int), .int .i64 (st : Int)] 169 (0, 0)) := by rw [b0, Int.natCast_add]; rfl
      have hb := Upd.blk (S := fun i => i = v) (w := w4) (w1 := w4.setCell ⟨v, 0, none⟩ (.int .i64 ((at_ : Int) + (bs.length : Int)))) (by repeat (first | assumption | with_reducible exact Upd.refl _ _ | with_reducible refine Upd.drewN ?_ _ | with_reducible refine Upd.drew ?_ | with_reducible refine Upd.alloc ?_ _ | with_reducible refine Upd.setAt ?_ ?_ | exact Or.inl rfl | exact Or.inr (by simp) | exact Or.inr (by omega))) H10.out (by omega)
      have q := (MgOf.four hb).2.2.2.2 (.int .i64 6) (.int .i64 (at_ : Int)) (.int .i64 0) (.string (S bs))
      refine bodyPost_ret (v := .tuple #[.agg #[.int .i64 6, .int .i64 (at_ : Int), .int .i64 0, .string (S bs)], .bool true]) (by simp [results, Tryz.results107, go_sem, World.cell?, q]) rfl ?_
      rw [HF.out]
      refine ⟨rfl, ?_, (by repeat (first | assumption | with_reducible exact Upd.refl _ _ | with_reducible refine Upd.drewN ?_ _ | with_reducible refine Upd.drew ?_ | with_reducible refine Upd.alloc ?_ _ | with_reducible refine Upd.setAt ?_ ?_ | exact Or.inl rfl | exact Or.inr (by simp) | exact Or.inr (by omega)))⟩
      show V _ v (at_ + bs.length) st
      exact Upd.blk (S := fun i => i = w.heap.size) (by repeat (first | assumption | with_reducible exact Upd.refl _ _ | with_reducible refine Upd.drewN ?_ _ | with_reducible refine Upd.drew ?_ | with_reducible refine Upd.alloc ?_ _ | with_reducible refine Upd.setAt ?_ ?_ | exact Or.inl rfl | exact Or.inr (by simp) | exact Or.inr (by omega))) b1 hvn
end
end Go.Proofs.YteepkanbiefpjaaGreatDoor.Vw
set_option linter.unusedVariables false
set_option linter.unusedSimpArgs false
namespace Go.Proofs.YteepkanbiefpjaaGreatDoor.LGet
open Go.RowKit K Crc Sm Fr FrMath
@[go_sem] theorem S_toList (l : List UInt8) : (S l).toList = l := by
  rw [ByteArray.toList_eq]
  simp [S]
def LawPost (r : UInt8 × List UInt8 × Nat × Int) (w : World) (A0 : Option Addr) (e : Ending) (w' : World) : Prop :=
  ∃ A c, e = .returned (.tuple #[.int .u8 (r.1.toNat : Int), .slice A r.2.1.length c, .int .i64 (r.2.2.1 : Int), .int .i64 r.2.2.2]) ∧ Rd w A r.2.1.length r.2.1 ∧ (∀ ad, A = some ad → ∃ ad', A0 = some ad' ∧ ad.block = ad'.block) ∧ r.2.1.length ≤ c ∧ c ≤ maxLen ∧ Upd (fun _ => False) w w'
theorem LawPost.none (r : UInt8 × List UInt8 × Nat × Int) (w w' : World) (A0 : Option Addr) (k : Int) (h : r = (0, [], 0, k)) (hu : Upd (fun _ => False) w w') : LawPost r w A0 (.returned (.tuple #[.int .u8 0, .slice none 0 0, .int .i64 0, .int .i64 k])) w' := by
  subst h
  exact ⟨Option.none, 0, rfl, Rd.nil _ _, fun ad e => (by cases e), Nat.le_refl _, (by simp [maxLen]), hu⟩
theorem hi_lo (a b : UInt8) : UInt8.ofNat ((a.toNat * 256 + b.toNat) / 256) = a ∧ UInt8.ofNat (a.toNat * 256 + b.toNat) = b := by
  have h1 := a.toNat_lt
  have h2 := b.toNat_lt
  constructor
  · apply UInt8.toNat_inj.1
    rw [ofNat_mod]
    omega
  · apply UInt8.toNat_inj.1
    rw [ofNat_mod]
    omega
theorem fb_whole (kind : UInt8) (body l : List UInt8) (m : Nat) (h0 : num2 l 0 = m) (hm : 0 < m) (hm2 : m ≤ 2049) (hl : m + 4 ≤ l.length) (hk : kind = l.getD 2 0) (hb : body = (l.take (m + 2)).drop 3) :
    fbytes kind body = l.take (m + 4) ↔ (crc 0xffff#16 ((l.take (m + 2)).drop 2)).toNat = num2 l (m + 2) := by
  have hbl : body.length + 1 = m := by rw [hb]; simp; omega
  have hd : (l.take (m + 2)).drop 2 = kind :: body := by
    rw [hk, hb]
    have h3 : 2 < (l.take (m + 2)).length := by simp; omega
    rw [List.drop_eq_getElem_cons h3]
    congr 1
    rw [List.getElem_take, List.getD_eq_getElem?_getD, List.getElem?_eq_getElem (by omega)]
    rfl
  have hx : m + 2 < l.length := by omega
  have hy : m + 3 < l.length := by omega
  have e0 : (l.drop (m + 2)).take 2 = [l.getD (m + 2) 0, l.getD (m + 3) 0] := by
    rw [List.drop_eq_getElem_cons hx, List.drop_eq_getElem_cons (show m + 2 + 1 < l.length by omega)]
    simp only [List.getD_eq_getElem?_getD]
    rw [List.getElem?_eq_getElem hx, List.getElem?_eq_getElem hy]
    rfl
  have e1 : l.take (m + 4) = l.take 2 ++ (kind :: body) ++ [l.getD (m + 2) 0, l.getD (m + 3) 0] := by
    rw [show m + 4 = (m + 2) + 2 by omega, List.take_add, e0, ← hd]
    congr 1
    have := List.take_append_drop 2 (l.take (m + 2))
    rw [List.take_take, show min 2 (m + 2) = 2 by omega] at this
    exact this.symm
  have e2 : l.take 2 = [UInt8.ofNat ((body.length + 1) / 256), UInt8.ofNat (body.length + 1)] := by
    have h2 : l.take 2 = [l.getD 0 0, l.getD 1 0] := by
      clear e0 e1 hd h0 hk hb
      match l, hl with
      | a :: b :: r, _ => rfl
    rw [h2, hbl, ← h0]
    unfold num2
    rw [(hi_lo _ _).1, (hi_lo _ _).2]
  have e3 : fbytes kind body = [UInt8.ofNat ((body.length + 1) / 256), UInt8.ofNat (body.length + 1)] ++ (kind :: body) ++ [UInt8.ofNat ((sumOf kind body).toNat / 256), UInt8.ofNat (sumOf kind body).toNat] := by simp [fbytes]
  rw [e1, e2, e3, hd]
  have hs : crc 0xffff#16 (kind :: body) = sumOf kind body := rfl
  rw [hs]
  have hn := num_sum (sumOf kind body)
  have l2 := (l.getD (m + 3) 0).toNat_lt
  have l3 := (UInt8.ofNat (sumOf kind body).toNat).toNat_lt
  constructor
  · intro h
    have h := List.append_cancel_left h
    simp only [List.cons.injEq, and_true] at h
    unfold num2
    rw [show m + 2 + 1 = m + 3 by omega, ← h.1, ← h.2, hn]
  · intro h
    unfold num2 at h
    rw [show m + 2 + 1 = m + 3 by omega, ← hn] at h
    have h1 : UInt8.ofNat ((sumOf kind body).toNat / 256) = l.getD (m + 2) 0 := UInt8.toNat_inj.1 (by omega)
    have h2 : UInt8.ofNat (sumOf kind body).toNat = l.getD (m + 3) 0 := UInt8.toNat_inj.1 (by omega)
    rw [h1, h2]
end Go.Proofs.YteepkanbiefpjaaGreatDoor.LGet
