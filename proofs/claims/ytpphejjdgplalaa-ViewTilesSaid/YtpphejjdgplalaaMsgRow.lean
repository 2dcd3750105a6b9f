/- A slice of messages that is read. -/
import Derived.Test.YtpphejjdgplalaaK5
import Derived.Test.YtpphejjdgplalaaK6
set_option linter.unusedVariables false
set_option linter.unusedSimpArgs false
namespace Go.Proofs.Ytpphejjdgplalaa.MgRow
open Go.RowKit K
/-- A message. -/
structure M where
  k : Int
  a : Int
  b : Int
  t : List UInt8
def mC (m : M) : List Value := [.int .i64 m.k, .int .i64 m.a, .int .i64 m.b, .string (S m.t)]
structure Ms (w : World) (A : Option Addr) (n : Nat) (L : List M) : Prop where
  len : L.length = n
  lim : n ≤ 9223372036854775807
  at_ : ∀ i (h : i < n), ∃ ad, A = some ad ∧ ∀ j u, (mC (L[i]'(by rw [len]; exact h)))[j]? = some u → w.cell? (ad.add (i * 4 + j)) = some u
section
variable {w w1 : World} {A : Option Addr} {n : Nat} {L : List M}
theorem Ms.up (h : Ms w A n L) (k : Upd (fun _ => False) w w1) : Ms w1 A n L := ⟨h.len, h.lim, fun i hi => by
  obtain ⟨ad, e, hc⟩ := h.at_ i hi
  exact ⟨ad, e, fun j u hj => k.cell (hc j u hj) (fun h => h)⟩⟩
theorem Ms.take (h : Ms w A n L) (k : Nat) (hk : k ≤ n) : Ms w A k (L.take k) := ⟨by rw [List.length_take, h.len]; omega, by have := h.lim; omega, fun i hi => by
  obtain ⟨ad, e, hc⟩ := h.at_ i (by omega)
  exact ⟨ad, e, fun j u hj => hc j u (by rw [List.getElem_take] at hj; exact hj)⟩⟩
abbrev RMsg := R4 (RInt .i64) (RInt .i64) (RInt .i64) RStr
theorem RMsg.stays : Stays RMsg := R4.stays (RInt.stays _) (RInt.stays _) (RInt.stays _) RStr.stays
def toM (x : Int × Int × Int × ByteArray) : M := ⟨x.1, x.2.1, x.2.2.1, x.2.2.2.data.toList⟩
theorem RMsg.cells {cs : List Value} {x : Int × Int × Int × ByteArray} (h : RMsg w cs x) : cs = mC (toM x) ∧ (toM x).t.length ≤ reach := by
  obtain ⟨k, a, b, s⟩ := x
  obtain ⟨c0, c1, c2, c3, hcs, ⟨h0, _⟩, ⟨h1, _⟩, ⟨h2, _⟩, h3, hs⟩ := h
  simp only [List.cons.injEq, and_true] at h0 h1 h2 h3
  subst h0; subst h1; subst h2; subst h3
  refine ⟨?_, ?_⟩
  · rw [hcs]
    simp only [mC, toM]
    rw [← S_of]
  · show s.data.toList.length ≤ reach
    rw [Array.length_toList]
    exact hs
theorem Ms.ofEls {X : List (Int × Int × Int × ByteArray)} (h : Els RMsg 4 w A n X) : Ms w A n (X.map toM) ∧ ∀ m ∈ X.map toM, m.t.length ≤ reach := by
  refine ⟨⟨by rw [List.length_map]; exact h.len, h.lim, fun i hi => ?_⟩, fun m hm => ?_⟩
  · obtain ⟨ad, cs, e, hl, hr, hc⟩ := h.at_ i hi
    refine ⟨ad, e, fun j u hj => hc j u ?_⟩
    rw [(RMsg.cells hr).1]
    rw [List.getElem_map] at hj
    exact hj
  · obtain ⟨i, hi, rfl⟩ := List.getElem_of_mem hm
    rw [List.getElem_map]
    obtain ⟨ad, cs, e, hl, hr, hc⟩ := h.at_ i (by rw [← h.len]; simpa using hi)
    exact (RMsg.cells hr).2
theorem Ms.lit (w : World) (C : Array Value) (e : TypeId) (fz : Nat × Nat) (n : Nat) (L : List M) (h : C = (L.flatMap mC).toArray) (hl : L.length = n) (hm : n ≤ 9223372036854775807) : Ms (w.alloc (.cells C e fz)) (some ⟨w.heap.size, 0, none⟩) n L := by
  subst h
  refine ⟨hl, hm, fun i hi => ⟨_, rfl, fun j u hj => ?_⟩⟩
  rw [add_lit]
  have hb : (w.alloc (.cells (L.flatMap mC).toArray e fz)).heap[w.heap.size]? = some (.cells (L.flatMap mC).toArray e fz) := heap_alloc_new w _
  simp only [World.cell?, hb, Nat.zero_add]
  rw [if_neg (by simp), List.getElem?_toArray]
  have hj4 : j < 4 := by
    rcases Nat.lt_or_ge j 4 with h | h
    · exact h
    · rw [List.getElem?_eq_none (by simpa [mC] using h)] at hj; cases hj
  subst hl
  have flat : ∀ (L : List M) (i : Nat) (hi : i < L.length), (L.flatMap mC)[i * 4 + j]? = (mC L[i])[j]? := by
    intro L
    induction L with
    | nil => intro i hi; simp at hi
    | cons m L ih =>
      intro i hi
      rw [List.flatMap_cons]
      cases i with
      | zero =>
        rw [List.getElem?_append_left (by simp [mC]; omega), Nat.zero_mul, Nat.zero_add]
        rfl
      | succ i =>
        have hml : (mC m).length = 4 := rfl
        rw [List.getElem?_append_right (by omega), hml, show (i + 1) * 4 + j - 4 = i * 4 + j by omega]
        exact ih i (by simpa using hi)
  rw [flat L i hi]
  exact hj
theorem Ms.litg (w : World) (g : Nat) (hg : g = w.heap.size) (C : Array Value) (e : TypeId) (fz : Nat × Nat) (n : Nat) (L : List M) (h : C = (L.flatMap mC).toArray) (hl : L.length = n) (hm : n ≤ 9223372036854775807) : Ms (w.alloc (.cells C e fz)) (some ⟨g, 0, none⟩) n L := by
  subst hg
  exact Ms.lit w C e fz n L h hl hm
end
end Go.Proofs.Ytpphejjdgplalaa.MgRow
