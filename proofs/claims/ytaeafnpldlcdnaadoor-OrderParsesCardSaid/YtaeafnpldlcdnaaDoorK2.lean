/- How an argument reads: slices of bytes, of slices of bytes, of structs, by readers that compose; each with the reach's bound. -/
import Derived.Test.YtaeafnpldlcdnaaDoorK
import Derived.ProofKit
import Derived.Deep.Slices
import Derived.Deep.Strs
import Derived.SizedLaws
import Derived.ChangeSlices
set_option linter.unusedVariables false
set_option linter.unusedSimpArgs false
namespace Go.Proofs.YtaeafnpldlcdnaaDoor.K
open Go.RowKit Go.ChangeShapes Go.WideShapes Go.Deep

def reach : Nat := 140737488351232
theorem reach_eq : reachBytes = reach := rfl
/-- What a datum's cells say: a reader. -/
abbrev Rdr (α : Type) := World → List Value → α → Prop
/-- Whatever can be read at the type t is told by the reader. -/
def Opens (P : Program) (t : TypeId) {α : Type} (R : Rdr α) : Prop :=
  ∀ (H : Type) (enc : TypeId × Value → H) (W : World) (fuel : Nat) (cs : List Value) (x : DataW H × List MemPlace), DataW.trod enc P W 0 (fun _ => true) true fuel t cs = some x → (∀ n ∈ x.1.weights P t, n ≤ reach) → ∃ a, R W cs a
/-- What was told stays so while no old block is written. -/
def Stays {α : Type} (R : Rdr α) : Prop := ∀ w w1 cs a, Upd (fun _ => False) w w1 → R w cs a → R w1 cs a

/-- A slice of whole numbers that is read. -/
structure RdI (w : World) (k : IntKind) (A : Option Addr) (n : Nat) (l : List Int) : Prop where
  len : l.length = n
  lim : n ≤ 9223372036854775807
  wf : ∀ x ∈ l, (Lit.int k x).wf = true
  at_ : ∀ i (h : i < n), ∃ ad, A = some ad ∧ w.cell? (ad.add i) = some (.int k (l[i]'(by rw [len]; exact h)))
theorem RdI.up {w w1 : World} {k : IntKind} {A : Option Addr} {n : Nat} {l : List Int} (h : RdI w k A n l) (hu : Upd (fun _ => False) w w1) : RdI w1 k A n l :=
  ⟨h.len, h.lim, h.wf, fun i hi => by
    obtain ⟨ad, e, hc⟩ := h.at_ i hi
    exact ⟨ad, e, hu.cell hc (fun h => h)⟩⟩
theorem RdI.ofInts {w : World} {k : IntKind} {a : Option Addr} {len cap : Nat} (h : (a = none ∧ len = 0 ∧ cap = 0) ∨
    ∃ x, ∃ zs : List Int, a = some x ∧ len ≤ cap ∧ cap ≤ maxLen ∧ zs.length = cap ∧ (∀ i, i < zs.length → w.cell? (x.add i) = some (.int k (zs.getD i 0))) ∧ ∀ n ∈ zs, (Lit.int k n).wf = true) :
    ∃ l, RdI w k a len l ∧ len ≤ cap ∧ cap ≤ maxLen := by
  rcases h with ⟨rfl, rfl, rfl⟩ | ⟨x, zs, rfl, h1, h2, h3, h4, h5⟩
  · exact ⟨[], ⟨rfl, by omega, fun x h => by simp at h, fun i h => absurd h (by simp)⟩, Nat.le_refl _, by simp [maxLen]⟩
  · refine ⟨zs.take len, ⟨by simp; omega, by simp only [maxLen] at h2; omega, fun x hx => h5 x (List.mem_of_mem_take hx), fun i hi => ⟨x, rfl, ?_⟩⟩, h1, h2⟩
    rw [h4 i (by omega)]
    simp [List.getD_eq_getElem?_getD, List.getElem?_eq_getElem (show i < zs.length by omega)]

def RInt (k : IntKind) : Rdr Int := fun _ cs n => cs = [.int k n] ∧ (Lit.int k n).wf = true
def RBool : Rdr Bool := fun _ cs b => cs = [.bool b]
def RStr : Rdr ByteArray := fun _ cs s => cs = [.string s] ∧ s.size ≤ reach
def RBytes : Rdr (List UInt8) := fun w cs l => ∃ A c, cs = [.slice A l.length c] ∧ Rd w A l.length l ∧ l.length ≤ c ∧ c ≤ maxLen ∧ l.length ≤ reach
/-- The elements of a slice, each by the reader R, of sz cells. -/
structure Els {α : Type} (R : Rdr α) (sz : Nat) (w : World) (A : Option Addr) (n : Nat) (L : List α) : Prop where
  len : L.length = n
  lim : n ≤ 9223372036854775807
  at_ : ∀ i (h : i < n), ∃ ad cs, A = some ad ∧ cs.length = sz ∧ R w cs (L[i]'(by rw [len]; exact h)) ∧ ∀ j u, cs[j]? = some u → w.cell? (ad.add (i * sz + j)) = some u
def RSlice {α : Type} (R : Rdr α) (sz : Nat) : Rdr (List α) := fun w cs L => ∃ A c, cs = [.slice A L.length c] ∧ Els R sz w A L.length L ∧ L.length ≤ c ∧ c ≤ maxLen ∧ L.length ≤ reach
def R2 {α β : Type} (R : Rdr α) (T : Rdr β) : Rdr (α × β) := fun w cs x => ∃ c0 c1, cs = [c0, c1] ∧ R w [c0] x.1 ∧ T w [c1] x.2
def R3 {α β γ : Type} (R : Rdr α) (T : Rdr β) (U : Rdr γ) : Rdr (α × β × γ) := fun w cs x => ∃ c0 c1 c2, cs = [c0, c1, c2] ∧ R w [c0] x.1 ∧ T w [c1] x.2.1 ∧ U w [c2] x.2.2

theorem RInt.stays (k : IntKind) : Stays (RInt k) := fun _ _ _ _ _ h => h
theorem RBool.stays : Stays RBool := fun _ _ _ _ _ h => h
theorem RStr.stays : Stays RStr := fun _ _ _ _ _ h => h
theorem RBytes.stays : Stays RBytes := fun _ _ _ _ hu ⟨A, c, h1, h2, h3⟩ => ⟨A, c, h1, h2.up hu, h3⟩
theorem Els.up {α : Type} {R : Rdr α} {sz : Nat} {w w1 : World} {A : Option Addr} {n : Nat} {L : List α} (h : Els R sz w A n L) (hs : Stays R) (hu : Upd (fun _ => False) w w1) : Els R sz w1 A n L :=
  ⟨h.len, h.lim, fun i hi => by
    obtain ⟨ad, cs, e, hl, hr, hc⟩ := h.at_ i hi
    exact ⟨ad, cs, e, hl, hs _ _ _ _ hu hr, fun j u hj => hu.cell (hc j u hj) (fun h => h)⟩⟩
theorem RSlice.stays {α : Type} {R : Rdr α} {sz : Nat} (hs : Stays R) : Stays (RSlice R sz) := fun _ _ _ _ hu ⟨A, c, h1, h2, h3⟩ => ⟨A, c, h1, h2.up hs hu, h3⟩
theorem R2.stays {α β : Type} {R : Rdr α} {T : Rdr β} (h : Stays R) (k : Stays T) : Stays (R2 R T) := fun _ _ _ _ hu ⟨c0, c1, e, a, b⟩ => ⟨c0, c1, e, h _ _ _ _ hu a, k _ _ _ _ hu b⟩
theorem R3.stays {α β γ : Type} {R : Rdr α} {T : Rdr β} {U : Rdr γ} (h : Stays R) (k : Stays T) (l : Stays U) : Stays (R3 R T U) := fun _ _ _ _ hu ⟨c0, c1, c2, e, a, b, d⟩ => ⟨c0, c1, c2, e, h _ _ _ _ hu a, k _ _ _ _ hu b, l _ _ _ _ hu d⟩

section
variable {P : Program}
theorem RInt.opens {t : TypeId} {k : IntKind} (ht : P.underlying t = some (.int k)) : Opens P t (RInt k) := fun H enc W fuel cs x h _ => by
  obtain ⟨n, h1, _, h2⟩ := DataW.trod_int ht h
  exact ⟨n, h1, h2⟩
theorem RBool.opens {t : TypeId} (ht : P.underlying t = some .bool) : Opens P t RBool := fun H enc W fuel cs x h _ => by
  obtain ⟨b, h1, _⟩ := DataW.trod_bool ht h
  exact ⟨b, h1⟩
theorem RStr.opens {t : TypeId} (ht : P.underlying t = some .string) : Opens P t RStr := fun H enc W fuel cs x h hw => by
  obtain ⟨s, h1, h2, _⟩ := DataW.trod_string ht h
  refine ⟨s, h1, hw _ ?_⟩
  rw [h2]
  simp [DataW.weights]
theorem RBytes.opens {t e : TypeId} (ht : P.underlying t = some (.slice e)) (he : P.underlying e = some (.int .u8)) (hc : P.cellsOf e = 1) (hb : P.bytesOf e = 1) : Opens P t RBytes := fun H enc W fuel cs x h hw => by
  rcases open_ints ht he hc h with ⟨rfl, _⟩ | ⟨a, l, c, zs, rfl, _, hl, hm, hz, hx, hcell, hwz⟩
  · exact ⟨[], none, 0, rfl, Rd.nil _ _, Nat.le_refl _, by simp [maxLen], by simp⟩
  · have hz : zs.length = c := by simpa using hz
    obtain ⟨L, hr, h1, h2⟩ := Rd.ofInts (w := W) (a := some a) (len := l) (cap := c) (.inr ⟨a, zs, rfl, hl, hm, hz, hcell, hwz⟩)
    have hlen := hr.len
    subst hlen
    refine ⟨L, some a, c, rfl, hr, h1, h2, ?_⟩
    have := hw (c * P.bytesOf e) (by
      rw [hx]
      simp only [DataW.weights, ht]
      apply List.mem_cons.2
      left
      congr 1
      simp [lits]
      omega)
    rw [hb] at this
    omega
theorem mapM_at {α β : Type} {f : α → Option β} : ∀ {l : List α} {r : List β}, l.mapM f = some r → r.length = l.length ∧ ∀ (j : Nat) (x : α), l[j]? = some x → f x = r[j]?
  | [], r, h => by
    simp at h
    subst h
    exact ⟨rfl, fun j x hj => by simp at hj⟩
  | a :: l, r, h => by
    rw [List.mapM_cons] at h
    obtain ⟨b, hb, h⟩ := Option.bind_eq_some_iff.1 h
    obtain ⟨r', hr', h⟩ := Option.bind_eq_some_iff.1 h
    obtain rfl := Option.some.inj h
    obtain ⟨h1, h2⟩ := mapM_at hr'
    refine ⟨by simp [h1], fun j x hj => ?_⟩
    cases j with
    | zero => simp at hj; subst hj; simpa using hb
    | succ j => simpa using h2 j x (by simpa using hj)
theorem cells_at {W : World} {a : Addr} {n : Nat} {cs : List Value} (h : W.cells? 0 a n = some cs) : cs.length = n ∧ ∀ j u, cs[j]? = some u → W.cell? (a.add j) = some u := by
  unfold World.cells? at h
  rw [if_pos (Nat.zero_le _)] at h
  obtain ⟨hl, hc⟩ := mapM_at h
  rw [List.length_range] at hl
  refine ⟨hl, fun j u hj => ?_⟩
  have hjn : j < n := by
    rcases Nat.lt_or_ge j n with h1 | h1
    · exact h1
    · rw [List.getElem?_eq_none (by omega)] at hj; cases hj
  rw [hc j j (by simp [hjn]), hj]
theorem list_of {α : Type} {n : Nat} {p : Nat → α → Prop} (h : ∀ i, i < n → ∃ a, p i a) : ∃ L : List α, L.length = n ∧ ∀ i (hi : i < L.length), p i L[i] := by
  induction n with
  | zero => exact ⟨[], rfl, fun i hi => by simp at hi⟩
  | succ n ih =>
    obtain ⟨L, h1, h2⟩ := ih (fun i hi => h i (by omega))
    obtain ⟨a, ha⟩ := h n (by omega)
    refine ⟨L ++ [a], by simp [h1], fun i hi => ?_⟩
    rcases Nat.lt_or_ge i L.length with h3 | h3
    · rw [List.getElem_append_left h3]; exact h2 i h3
    · have : i = n := by simp at hi; omega
      subst this
      rw [List.getElem_append_right h3]
      simpa [h1] using ha
theorem weightsAll_mem {H : Type} {e : TypeId} {d : DataW H} {n : Nat} : ∀ {l : List (DataW H)}, d ∈ l → n ∈ d.weights P e → n ∈ DataW.weightsAll P e l
  | a :: l, h, hn => by
    simp only [DataW.weightsAll, List.mem_append]
    rcases List.mem_cons.1 h with rfl | h
    · exact .inl hn
    · exact .inr (weightsAll_mem h hn)
theorem RSlice.opens {α : Type} {R : Rdr α} {t e : TypeId} {sz : Nat} (ht : P.underlying t = some (.slice e)) (hc : P.cellsOf e = sz) (hb1 : 1 ≤ P.bytesOf e) (hR : Opens P e R) : Opens P t (RSlice R sz) := fun H enc W fuel cs x h hw => by
  rcases open_slice ht h with ⟨rfl, _⟩ | ⟨a, len, cap, m, n, D, Pl, rfl, _, hl, hm, hmm, rfl, hel⟩
  · exact ⟨[], none, 0, rfl, ⟨rfl, by simp, fun i h => absurd h (by simp)⟩, Nat.le_refl _, by simp [maxLen], by simp⟩
  · have hmc : m = cap := by simpa using hmm
    subst hmc
    have each : ∀ i, i < len → ∃ y, ∃ cs', cs'.length = sz ∧ R W cs' y ∧ ∀ j u, cs'[j]? = some u → W.cell? (a.add (i * sz + j)) = some u := by
      intro i hi
      obtain ⟨cs', h1, h2⟩ := hel i (by omega)
      rw [hc] at h1
      obtain ⟨h3, h4⟩ := cells_at h1
      obtain ⟨y, hy⟩ := hR H enc W n cs' _ h2 (fun k hk => hw k (by
        simp only [DataW.weights, ht]
        apply List.mem_cons.2
        right
        exact List.mem_append_left _ (weightsAll_mem (List.mem_map.2 ⟨i, by simp [hi], rfl⟩) hk)))
      exact ⟨y, cs', h3, hy, fun j u hj => by rw [← add_add]; exact h4 j u hj⟩
    obtain ⟨L, hL, hP⟩ := list_of each
    have hlen : len ≤ 9223372036854775807 := by simp only [maxLen] at hm; omega
    subst hL
    refine ⟨L, some a, m, rfl, ⟨rfl, hlen, fun i hi => ?_⟩, hl, hm, ?_⟩
    · obtain ⟨cs', h1, h2, h3⟩ := hP i hi
      exact ⟨a, cs', rfl, h1, h2, h3⟩
    · have := hw (m * P.bytesOf e) (by
        simp only [DataW.weights, ht]
        apply List.mem_cons.2
        left
        congr 1
        simp
        omega)
      have := Nat.le_mul_of_pos_right m hb1
      omega
theorem R2.opens {α β : Type} {R : Rdr α} {T : Rdr β} {t : TypeId} {f0 f1 : Field} (ht : P.underlying t = some (.struct #[f0, f1])) (hn : P.cellsOf t = 2) (h0 : f0.offset = 0) (h1 : f1.offset = 1) (c0 : P.cellsOf f0.type = 1) (c1 : P.cellsOf f1.type = 1)
    (hR : Opens P f0.type R) (hT : Opens P f1.type T) : Opens P t (R2 R T) := fun H enc W fuel cs x h hw => by
  obtain ⟨y0, y1, n, rfl, hl, g0, g1⟩ := trod_struct2 ht h
  rw [hn] at hl
  rw [h0, c0] at g0
  rw [h1, c1] at g1
  match cs, hl with
  | [v0, v1], _ =>
    simp only [List.drop_zero, List.drop_one, List.tail_cons, List.take_succ_cons, List.take_zero] at g0 g1
    obtain ⟨a, ha⟩ := hR _ _ _ _ _ _ g0 (fun k hk => hw k (by simp [DataW.weights, ht, DataW.weightsEach, hk]))
    obtain ⟨b, hb⟩ := hT _ _ _ _ _ _ g1 (fun k hk => hw k (by simp [DataW.weights, ht, DataW.weightsEach, hk]))
    exact ⟨(a, b), v0, v1, rfl, ha, hb⟩
theorem R3.opens {α β γ : Type} {R : Rdr α} {T : Rdr β} {U : Rdr γ} {t : TypeId} {f0 f1 f2 : Field} (ht : P.underlying t = some (.struct #[f0, f1, f2])) (hn : P.cellsOf t = 3) (h0 : f0.offset = 0) (h1 : f1.offset = 1) (h2 : f2.offset = 2) (c0 : P.cellsOf f0.type = 1) (c1 : P.cellsOf f1.type = 1) (c2 : P.cellsOf f2.type = 1)
    (hR : Opens P f0.type R) (hT : Opens P f1.type T) (hU : Opens P f2.type U) : Opens P t (R3 R T U) := fun H enc W fuel cs x h hw => by
  obtain ⟨y0, y1, y2, n, rfl, hl, g0, g1, g2⟩ := trod_struct3 ht h
  rw [hn] at hl
  rw [h0, c0] at g0
  rw [h1, c1] at g1
  rw [h2, c2] at g2
  match cs, hl with
  | [v0, v1, v2], _ =>
    simp only [List.drop_zero, List.drop_one, List.tail_cons, List.take_succ_cons, List.take_zero, List.drop_succ_cons] at g0 g1 g2
    obtain ⟨a, ha⟩ := hR _ _ _ _ _ _ g0 (fun k hk => hw k (by simp [DataW.weights, ht, DataW.weightsEach, hk]))
    obtain ⟨b, hb⟩ := hT _ _ _ _ _ _ g1 (fun k hk => hw k (by simp [DataW.weights, ht, DataW.weightsEach, hk]))
    obtain ⟨c, hc⟩ := hU _ _ _ _ _ _ g2 (fun k hk => hw k (by simp [DataW.weights, ht, DataW.weightsEach, hk]))
    exact ⟨(a, b, c), v0, v1, v2, rfl, ha, hb, hc⟩
/-- An argument, by its reader. -/
theorem Opens.arg {α : Type} {R : Rdr α} {t : TypeId} (hR : Opens P t R) {H : Type} {enc : TypeId × Value → H} {W : World} {v : Value} {d : DataW H} {ps : List MemPlace} {ts : List TypeId} {ds : List (DataW H)} {j : Nat}
    (h : DataW.Trod enc P W 0 (fun _ => true) true t v d ps) (hsz : (DataW.weightsEach P ts ds).all (· ≤ reachBytes) = true) (ht : ts[j]? = some t) (hd : ds[j]? = some d) : ∃ a, R W v.cells.toList a := by
  obtain ⟨fuel, hf⟩ := h
  exact hR H enc W fuel _ _ hf (fun n hn => by
    have := List.all_eq_true.1 hsz _ (DataW.weights_mem_each ht hd n hn)
    have h2 : n ≤ reachBytes := by simpa using this
    exact h2)
end
end Go.Proofs.YtaeafnpldlcdnaaDoor.K
