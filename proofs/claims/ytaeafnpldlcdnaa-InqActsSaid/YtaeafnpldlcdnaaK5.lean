/- A reader for structs of four cells. -/
import Derived.Test.YtaeafnpldlcdnaaK2
import Derived.Lib.SmallJoins
set_option linter.unusedVariables false
set_option linter.unusedSimpArgs false
namespace Go.Proofs.Ytaeafnpldlcdnaa.K
open Go.RowKit Go.ChangeShapes Go.WideShapes Go.Deep

def R4 {α β γ δ : Type} (R : Rdr α) (T : Rdr β) (U : Rdr γ) (V : Rdr δ) : Rdr (α × β × γ × δ) := fun w cs x => ∃ c0 c1 c2 c3, cs = [c0, c1, c2, c3] ∧ R w [c0] x.1 ∧ T w [c1] x.2.1 ∧ U w [c2] x.2.2.1 ∧ V w [c3] x.2.2.2
theorem R4.stays {α β γ δ : Type} {R : Rdr α} {T : Rdr β} {U : Rdr γ} {V : Rdr δ} (h : Stays R) (k : Stays T) (l : Stays U) (m : Stays V) : Stays (R4 R T U V) := by
  rintro w w1 cs a hu ⟨c0, c1, c2, c3, e, h0, h1, h2, h3⟩
  exact ⟨c0, c1, c2, c3, e, h _ _ _ _ hu h0, k _ _ _ _ hu h1, l _ _ _ _ hu h2, m _ _ _ _ hu h3⟩
section
variable {P : Program}
theorem R4.opens {α β γ δ : Type} {R : Rdr α} {T : Rdr β} {U : Rdr γ} {V : Rdr δ} {t : TypeId} {f0 f1 f2 f3 : Field} (ht : P.underlying t = some (.struct #[f0, f1, f2, f3])) (hn : P.cellsOf t = 4) (h0 : f0.offset = 0) (h1 : f1.offset = 1) (h2 : f2.offset = 2) (h3 : f3.offset = 3) (c0 : P.cellsOf f0.type = 1) (c1 : P.cellsOf f1.type = 1) (c2 : P.cellsOf f2.type = 1) (c3 : P.cellsOf f3.type = 1)
    (hR : Opens P f0.type R) (hT : Opens P f1.type T) (hU : Opens P f2.type U) (hV : Opens P f3.type V) : Opens P t (R4 R T U V) := fun H enc W fuel cs x h hw => by
  obtain ⟨y0, y1, y2, y3, n, rfl, hl, g0, g1, g2, g3⟩ := Go.Joins.trod_struct4 ht h
  rw [hn] at hl
  rw [h0, c0] at g0
  rw [h1, c1] at g1
  rw [h2, c2] at g2
  rw [h3, c3] at g3
  match cs, hl with
  | [v0, v1, v2, v3], _ =>
    simp only [List.drop_zero, List.drop_one, List.tail_cons, List.take_succ_cons, List.take_zero, List.drop_succ_cons] at g0 g1 g2 g3
    obtain ⟨a, ha⟩ := hR _ _ _ _ _ _ g0 (fun k hk => hw k (by simp [DataW.weights, ht, DataW.weightsEach, hk]))
    obtain ⟨b, hb⟩ := hT _ _ _ _ _ _ g1 (fun k hk => hw k (by simp [DataW.weights, ht, DataW.weightsEach, hk]))
    obtain ⟨c, hc⟩ := hU _ _ _ _ _ _ g2 (fun k hk => hw k (by simp [DataW.weights, ht, DataW.weightsEach, hk]))
    obtain ⟨d, hd⟩ := hV _ _ _ _ _ _ g3 (fun k hk => hw k (by simp [DataW.weights, ht, DataW.weightsEach, hk]))
    exact ⟨(a, b, c, d), v0, v1, v2, v3, rfl, ha, hb, hc, hd⟩
end
/-- A message as an argument: its cells. -/
theorem msg_cells {w : World} {cs : Array Value} {x : Int × Int × Int × ByteArray} (h : R4 (RInt .i64) (RInt .i64) (RInt .i64) RStr w cs.toList x) : ∃ (k a b : Int) (t : List UInt8), cs = #[.int .i64 k, .int .i64 a, .int .i64 b, .string (S t)] ∧ t.length ≤ 9223372036854775807 := by
  obtain ⟨k, a, b, s⟩ := x
  obtain ⟨c0, c1, c2, c3, hcs, ⟨h0, _⟩, ⟨h1, _⟩, ⟨h2, _⟩, h3, hs⟩ := h
  simp only [List.cons.injEq, and_true] at h0 h1 h2 h3
  subst h0; subst h1; subst h2; subst h3
  refine ⟨k, a, b, s.data.toList, ?_, ?_⟩
  · apply Array.ext'
    rw [← S_of]
    simpa using hcs
  · have : s.data.toList.length = s.size := by rw [Array.length_toList]; rfl
    rw [this]
    exact Nat.le_trans hs (by simp [reach])
end Go.Proofs.Ytaeafnpldlcdnaa.K
