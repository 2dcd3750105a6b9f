/- The sum of 16 bits as plain mathematics: bit by bit, byte by byte; it is linear; a burst within sixteen bits, and two bits less than 2400 apart, turn it. No condition beyond those each theorem names; no program in sight. -/
namespace Go.Proofs.Ytpphejjdgplalaa.Crc
def P : BitVec 16 := 0x1021#16
def T (x : BitVec 16) : BitVec 16 := if x.msb then (x <<< 1) ^^^ P else x <<< 1
def F (x : BitVec 16) (b : Bool) : BitVec 16 := if b != x.msb then (x <<< 1) ^^^ P else x <<< 1
def run (s : BitVec 16) (g : Nat → Bool) : Nat → BitVec 16
  | 0 => s
  | n + 1 => F (run s g n) (g n)
def pow : Nat → BitVec 16 → BitVec 16
  | 0, x => x
  | n + 1, x => T (pow n x)

theorem shl_xor (y d : BitVec 16) : (y ^^^ d) <<< 1 = (y <<< 1) ^^^ (d <<< 1) := by
  ext i hi; simp [BitVec.getElem_shiftLeft]; by_cases h : i = 0 <;> simp [h]
theorem xor3 (x y p : BitVec 16) : (x ^^^ p) ^^^ (y ^^^ p) = x ^^^ y := by
  ext i hi; simp; cases x[i] <;> cases y[i] <;> cases p[i] <;> rfl
theorem xor_swap (x y p : BitVec 16) : (x ^^^ y) ^^^ p = (x ^^^ p) ^^^ y := by
  ext i hi; simp; cases x[i] <;> cases y[i] <;> cases p[i] <;> rfl
theorem xor_cancel (x y : BitVec 16) : x ^^^ y ^^^ y = x := by
  ext i hi; simp
theorem xor_zero_iff (x y : BitVec 16) : x ^^^ y = 0#16 ↔ x = y := by
  constructor
  · intro h
    have := xor_cancel x y
    rw [h] at this
    rw [← this]; simp
  · rintro rfl; simp
theorem T_F (y d : BitVec 16) : T (y ^^^ d) = F y d.msb ^^^ (d <<< 1) := by
  unfold T F
  rw [BitVec.msb_xor, shl_xor]
  cases y.msb <;> cases d.msb <;> simp <;> exact xor_swap _ _ _
theorem F_lin (x y : BitVec 16) (a b : Bool) : F (x ^^^ y) (a ^^ b) = F x a ^^^ F y b := by
  unfold F
  rw [BitVec.msb_xor, shl_xor]
  cases x.msb <;> cases y.msb <;> cases a <;> cases b <;> simp <;> first | exact xor_swap _ _ _ | exact (xor3 _ _ _).symm | exact BitVec.xor_assoc _ _ _
theorem F_false (x : BitVec 16) : F x false = T x := by unfold F T; cases x.msb <;> rfl
theorem F_true (x : BitVec 16) : F x true = T x ^^^ P := by unfold F T; cases x.msb <;> simp [xor_cancel]
theorem T_lin (x y : BitVec 16) : T (x ^^^ y) = T x ^^^ T y := by
  have := F_lin x y false false
  simpa [F_false] using this
theorem T_zero : T 0#16 = 0#16 := by decide
theorem T_eq_zero (x : BitVec 16) (h : T x = 0#16) : x = 0#16 := by
  unfold T at h
  split at h
  · have h1 : ((x <<< 1) ^^^ P).getLsbD 0 = false := by rw [h]; rfl
    simp [P] at h1
  · rename_i hm
    have hm : x.msb = false := by simpa using hm
    ext i hi
    by_cases h15 : i = 15
    · subst h15
      simp [BitVec.msb_eq_getLsbD_last] at hm
      simpa using hm
    · have h2 : (x <<< 1).getLsbD (i + 1) = false := by rw [h]; simp
      simp [show i + 1 < 16 by omega] at h2
      simpa [BitVec.getLsbD_eq_getElem hi] using h2
theorem T_inj (x y : BitVec 16) (h : T x = T y) : x = y := by
  have h1 : T (x ^^^ y) = 0#16 := by rw [T_lin, h]; simp
  exact (xor_zero_iff x y).1 (T_eq_zero _ h1)
theorem pow_inj (n : Nat) (x y : BitVec 16) (h : pow n x = pow n y) : x = y := by
  induction n with
  | zero => exact h
  | succ n ih => exact ih (T_inj _ _ h)
theorem pow_zero (n : Nat) : pow n 0#16 = 0#16 := by
  induction n with
  | zero => rfl
  | succ n ih => rw [pow, ih, T_zero]
theorem pow_ne (n : Nat) (x : BitVec 16) (h : x ≠ 0#16) : pow n x ≠ 0#16 := fun e => h (pow_inj n x 0#16 (e.trans (pow_zero n).symm))
theorem pow_add (m n : Nat) (x : BitVec 16) : pow (m + n) x = pow n (pow m x) := by
  induction n with
  | zero => rfl
  | succ n ih => rw [← Nat.add_assoc, pow, ih, pow]

theorem run_lin (s t : BitVec 16) (g h : Nat → Bool) (n : Nat) : run (s ^^^ t) (fun i => g i ^^ h i) n = run s g n ^^^ run t h n := by
  induction n with
  | zero => rfl
  | succ n ih => simp only [run, ih, F_lin]
theorem run_add (s : BitVec 16) (g : Nat → Bool) (m n : Nat) : run s g (m + n) = run (run s g m) (fun i => g (m + i)) n := by
  induction n with
  | zero => rfl
  | succ n ih => rw [← Nat.add_assoc, run, ih, run]
theorem run_congr (s : BitVec 16) (g h : Nat → Bool) (n : Nat) (e : ∀ i, i < n → g i = h i) : run s g n = run s h n := by
  induction n with
  | zero => rfl
  | succ n ih => rw [run, run, ih (fun i hi => e i (by omega)), e n (by omega)]
theorem run_false (s : BitVec 16) (g : Nat → Bool) (n : Nat) (e : ∀ i, i < n → g i = false) : run s g n = pow n s := by
  induction n with
  | zero => rfl
  | succ n ih => rw [run, pow, ih (fun i hi => e i (by omega)), e n (by omega), F_false]
/-- Bits that are laid over the sum at once come to the same as one by one. -/
theorem pow_run (x d : BitVec 16) (n : Nat) (hn : n ≤ 16) : pow n (x ^^^ d) = run x (fun i => d.getMsbD i) n ^^^ (d <<< n) := by
  induction n with
  | zero => simp [pow, run]
  | succ n ih =>
    rw [pow, ih (by omega), T_F, run]
    have h1 : (d <<< n).msb = d.getMsbD n := by
      rw [BitVec.msb_eq_getLsbD_last, BitVec.getMsbD]
      simp [show n < 16 by omega, show ¬ 15 < n by omega]
      rw [BitVec.getLsbD_eq_getElem (by omega)]
    rw [h1, ← BitVec.shiftLeft_add]

/-! ### bytes -/
def bitOf (c : UInt8) (i : Nat) : Bool := c.toBitVec.getLsbD (7 - i)
def byte (s : BitVec 16) (c : UInt8) : BitVec 16 := run s (bitOf c) 8
def crc (s : BitVec 16) (l : List UInt8) : BitVec 16 := l.foldl byte s
def wide (c : UInt8) : BitVec 16 := c.toBitVec.setWidth 16 <<< 8
theorem byte_pow (x : BitVec 16) (c : UInt8) : pow 8 (x ^^^ wide c) = byte x c := by
  rw [pow_run x (wide c) 8 (by omega)]
  have h0 : wide c <<< 8 = 0#16 := by
    ext i hi
    simp [wide]
  rw [h0]
  simp only [BitVec.xor_zero]
  refine run_congr _ _ _ _ fun i hi => ?_
  unfold wide bitOf
  rw [BitVec.getMsbD]
  simp [show i < 16 by omega, show 15 - i < 16 by omega, show ¬ (15 - i < 8) by omega]
  congr 1
  omega
def bitAt (l : List UInt8) (p : Nat) : Bool := bitOf (l.getD (p / 8) 0) (p % 8)
theorem crc_run (s : BitVec 16) (l : List UInt8) : crc s l = run s (bitAt l) (8 * l.length) := by
  have key : ∀ k, k ≤ l.length → crc s (l.take k) = run s (bitAt l) (8 * k) := by
    intro k
    induction k with
    | zero => intro _; simp [crc, run]
    | succ k ih =>
      intro hk
      rw [List.take_succ_eq_append_getElem (by omega), crc, List.foldl_append]
      have := ih (by omega)
      unfold crc at this
      rw [this, Nat.mul_add, Nat.mul_one, run_add]
      simp only [List.foldl_cons, List.foldl_nil, byte]
      refine run_congr _ _ _ _ fun i hi => ?_
      unfold bitAt
      rw [show (8 * k + i) / 8 = k by omega, show (8 * k + i) % 8 = i by omega]
      simp [List.getD_eq_getElem?_getD, List.getElem?_eq_getElem (show k < l.length by omega)]
  have := key l.length (Nat.le_refl _)
  rwa [List.take_length] at this
theorem crc_append (s : BitVec 16) (l m : List UInt8) : crc s (l ++ m) = crc (crc s l) m := by simp [crc, List.foldl_append]
theorem crc_diff (s : BitVec 16) (l m : List UInt8) (h : l.length = m.length) : crc s l ^^^ crc s m = run 0#16 (fun p => bitAt l p ^^ bitAt m p) (8 * l.length) := by
  rw [crc_run, crc_run, ← h, ← run_lin]
  simp

/-! ### bursts, and two bits -/
theorem burst (g : Nat → Bool) (n p q : Nat) (h : ∀ i, g i = true → p ≤ i ∧ i < p + 16) (hq : q < n) (hg : g q = true) : run 0#16 g n ≠ 0#16 := by
  have hp := h q hg
  obtain ⟨m, hm1, hm2, hm3⟩ : ∃ m, m ≤ 16 ∧ p + m ≤ n ∧ q < p + m ∧ (m = 16 ∨ p + m = n) := by
    rcases Nat.le_total (p + 16) n with h1 | h1
    · exact ⟨16, by omega, h1, by omega, .inl rfl⟩
    · exact ⟨n - p, by omega, by omega, by omega, .inr (by omega)⟩
  obtain ⟨hm3, hm4⟩ := hm3
  let bs := (List.range 16).map fun i => decide (i < m) && g (p + i)
  have hbs : bs.length = 16 := by simp [bs]
  let D : BitVec 16 := (BitVec.ofBoolListBE bs).cast hbs
  have hD : ∀ i, i < 16 → D.getMsbD i = (decide (i < m) && g (p + i)) := by
    intro i hi
    simp [D, bs, hi]
  have hne : D ≠ 0#16 := by
    intro e
    have := hD (q - p) (by omega)
    rw [e] at this
    simp [show q - p < m by omega, show p + (q - p) = q by omega, hg] at this
  have e1 : run 0#16 g p = 0#16 := by
    rw [run_false _ _ _ (fun i hi => by
      cases hgi : g i with
      | false => rfl
      | true => have := h i hgi; omega), pow_zero]
  have e2 : run 0#16 g (p + m) = pow m D := by
    rw [run_add, e1]
    have := pow_run 0#16 D m hm1
    have hz : D <<< m = 0#16 := by
      apply BitVec.eq_of_getMsbD_eq
      intro i hi
      rw [BitVec.getMsbD_shiftLeft]
      rcases Nat.lt_or_ge (i + m) 16 with h1 | h1
      · rw [hD _ h1]
        simp [show ¬ i + m < m by omega]
      · rw [BitVec.getMsbD_of_ge _ _ h1]
        simp
    rw [hz] at this
    simp only [BitVec.zero_xor, BitVec.xor_zero] at this
    rw [this]
    refine run_congr _ _ _ _ fun i hi => ?_
    rw [hD i (by omega)]
    simp [hi]
  have e3 : run 0#16 g n = pow (n - (p + m)) (pow m D) := by
    have : n = (p + m) + (n - (p + m)) := by omega
    rw [this, run_add, e2, run_false]
    · congr 1
      omega
    · intro i hi
      cases hgi : g (p + m + i) with
      | false => rfl
      | true =>
        have := h _ hgi
        omega
  rw [e3]
  exact pow_ne _ _ (pow_ne _ _ hne)

def chk : Nat → BitVec 16 → Bool
  | 0, _ => true
  | n + 1, x => (T x != P) && chk n (T x)
theorem chk_ok : chk 2400 P = true := by decide +kernel
theorem chk_pow (n : Nat) : ∀ x, chk n x = true → ∀ k, 0 < k → k ≤ n → pow k x ≠ P := by
  induction n with
  | zero => intro x _ k h0 h1; omega
  | succ n ih =>
    intro x hx k h0 h1
    simp only [chk, Bool.and_eq_true, bne_iff_ne, ne_eq] at hx
    obtain ⟨k, rfl⟩ : ∃ m, k = 1 + m := ⟨k - 1, by omega⟩
    rw [pow_add]
    rcases Nat.eq_zero_or_pos k with h2 | h2
    · subst h2
      exact hx.1
    · exact ih (T x) hx.2 k h2 (by omega)
theorem two (g : Nat → Bool) (n i j : Nat) (hij : i < j) (hj : j < n) (hn : j - i ≤ 2400) (h : ∀ k, g k = true ↔ k = i ∨ k = j) : run 0#16 g n ≠ 0#16 := by
  have hf : ∀ k, k ≠ i → k ≠ j → g k = false := fun k h1 h2 => by
    cases hg : g k with
    | false => rfl
    | true => rcases (h k).1 hg with h3 | h3 <;> contradiction
  have e1 : run 0#16 g i = 0#16 := by rw [run_false _ _ _ (fun k hk => hf k (by omega) (by omega)), pow_zero]
  have e2 : run 0#16 g (i + 1) = P := by rw [run, e1, (h i).2 (.inl rfl)]; decide
  have e3 : run 0#16 g j = pow (j - i - 1) P := by
    have : j = (i + 1) + (j - i - 1) := by omega
    rw [this, run_add, e2, run_false _ _ _ (fun k hk => hf _ (by omega) (by omega))]
    congr 1
    omega
  have e4 : run 0#16 g (j + 1) = pow (j - i) P ^^^ P := by
    rw [run, e3, (h j).2 (.inr rfl), F_true]
    have : j - i = (j - i - 1) + 1 := by omega
    rw [this, pow]
    congr 3
  have e5 : run 0#16 g n = pow (n - (j + 1)) (pow (j - i) P ^^^ P) := by
    have : n = (j + 1) + (n - (j + 1)) := by omega
    rw [this, run_add, e4, run_false _ _ _ (fun k hk => hf _ (by omega) (by omega))]
    congr 1
    omega
  rw [e5]
  refine pow_ne _ _ fun e => ?_
  exact chk_pow 2400 P chk_ok (j - i) (by omega) hn ((xor_zero_iff _ _).1 e)

theorem bits_eq (l m : List UInt8) (h : l.length = m.length) (e : ∀ p, p < 8 * l.length → bitAt l p = bitAt m p) : l = m := by
  refine List.ext_getElem h fun i h1 h2 => ?_
  have hb : ∀ k, k < 8 → bitOf l[i] k = bitOf m[i] k := fun k hk => by
    have := e (8 * i + k) (by omega)
    unfold bitAt at this
    rw [show (8 * i + k) / 8 = i by omega, show (8 * i + k) % 8 = k by omega] at this
    simpa [List.getD_eq_getElem?_getD, List.getElem?_eq_getElem h1, List.getElem?_eq_getElem h2] using this
  apply UInt8.toBitVec_inj.1
  apply BitVec.eq_of_getLsbD_eq
  intro k hk
  have := hb (7 - k) (by omega)
  unfold bitOf at this
  rwa [show 7 - (7 - k) = k by omega] at this
/-- Bytes that differ within sixteen bits side by side have other sums. -/
theorem crc_burst (s : BitVec 16) (l m : List UInt8) (h : l.length = m.length) (hne : l ≠ m) (p : Nat) (hp : ∀ q, bitAt l q ≠ bitAt m q → p ≤ q ∧ q < p + 16) : crc s l ≠ crc s m := by
  intro e
  have hd := crc_diff s l m h
  rw [e] at hd
  have : ∃ q, q < 8 * l.length ∧ bitAt l q ≠ bitAt m q := by
    rcases Classical.em (∃ q, q < 8 * l.length ∧ bitAt l q ≠ bitAt m q) with h1 | h1
    · exact h1
    · refine absurd (bits_eq l m h fun q hq => ?_) hne
      rcases Classical.em (bitAt l q = bitAt m q) with h2 | h2
      · exact h2
      · exact absurd ⟨q, hq, h2⟩ h1
  obtain ⟨q, hq, hb⟩ := this
  refine burst (fun p => bitAt l p ^^ bitAt m p) (8 * l.length) p q (fun i hi => hp i ?_) hq ?_ (hd.symm.trans (by simp))
  · intro e; simp [e] at hi
  · revert hb
    cases bitAt l q <;> cases bitAt m q <;> simp
theorem crc_two (s : BitVec 16) (l m : List UInt8) (h : l.length = m.length) (i j : Nat) (hij : i < j) (hj : j < 8 * l.length) (hn : 8 * l.length ≤ 2400) (hp : ∀ q, bitAt l q ≠ bitAt m q ↔ q = i ∨ q = j) : crc s l ≠ crc s m := by
  intro e
  have hd := crc_diff s l m h
  rw [e] at hd
  refine two (fun p => bitAt l p ^^ bitAt m p) (8 * l.length) i j hij hj (by omega) (fun k => ?_) (hd.symm.trans (by simp))
  rw [← hp k]
  cases bitAt l k <;> cases bitAt m k <;> simp
end Go.Proofs.Ytpphejjdgplalaa.Crc
