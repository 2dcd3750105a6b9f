/- What a bound on what comes in gives: of pieces of bytes, how many bytes they have in all. -/
import Derived.Test.YtpphejjdgplalaaRows
import Derived.Test.YtpphejjdgplalaaK2
import Derived.Deep.CondSized
set_option linter.unusedVariables false
set_option linter.unusedSimpArgs false
namespace Go.Proofs.Ytpphejjdgplalaa.K
open Go.ChangeShapes Go.WideShapes Go.ChangeAt Go.RowKit Go.Deep

section
variable {H : Type}
theorem bulk_one (d : DataW H) : 1 ≤ Rows.uptoBulk d := by
  cases d with
  | lit l => cases l <;> simp [Rows.uptoBulk]
  | nil => simp [Rows.uptoBulk]
  | ptr d => simp [Rows.uptoBulk]
  | slice elems spare => simp [Rows.uptoBulk]
  | agg parts => simp [Rows.uptoBulk]
  | iface t d => simp [Rows.uptoBulk]
  | map entries => simp [Rows.uptoBulk]
  | held h => simp [Rows.uptoBulk]
theorem bulk_part {d : DataW H} : ∀ {l : List (DataW H)}, d ∈ l → Rows.uptoBulk d ≤ Rows.uptoBulkAll l
  | x :: r, h => by
    simp only [Rows.uptoBulkAll]
    rcases List.mem_cons.1 h with rfl | h
    · omega
    · have := bulk_part h; omega
theorem bulk_length : ∀ (l : List (DataW H)), l.length ≤ Rows.uptoBulkAll l
  | [] => by simp [Rows.uptoBulkAll]
  | x :: r => by have := bulk_one x; have := bulk_length r; simp only [Rows.uptoBulkAll, List.length_cons]; omega
theorem bulk_elems (elems spare : List (DataW H)) : Rows.uptoBulkAll elems ≤ Rows.uptoBulk (.slice elems spare) := by
  simp only [Rows.uptoBulk]; omega
theorem bulk_of {l : List (DataW H)} (hk : Rows.uptoSmall H l = true) {d : DataW H} (hd : d ∈ l) : Rows.uptoBulk d ≤ 1048576 :=
  Nat.le_trans (bulk_part hd) (of_decide_eq_true hk)
theorem flatten_bulk : ∀ (L : List (List UInt8)) (M : List (DataW H)), L.length = M.length → (∀ i (h : i < L.length) (h2 : i < M.length), L[i].length ≤ Rows.uptoBulk M[i]) → L.flatten.length ≤ Rows.uptoBulkAll M
  | [], [], _, _ => by simp [Rows.uptoBulkAll]
  | x :: L, d :: M, hl, h => by
    have h0 := h 0 (by simp) (by simp)
    have h1 := flatten_bulk L M (by simpa using hl) (fun i hi hi2 => by
      have := h (i + 1) (by simpa using hi) (by simpa using hi2)
      rw [List.getElem_cons_succ, List.getElem_cons_succ] at this
      exact this)
    simp only [List.getElem_cons_zero] at h0
    simp only [Rows.uptoBulkAll, List.flatten_cons, List.length_append]
    omega
end
section
variable {P : Program}
theorem RBytes.bulk {t e : TypeId} (ht : P.underlying t = some (.slice e)) (he : P.underlying e = some (.int .u8)) (hc : P.cellsOf e = 1) (hb : P.bytesOf e = 1) {H : Type} {enc : TypeId × Value → H} {W : World} {fuel : Nat} {cs : List Value} {x : DataW H × List MemPlace} (h : DataW.trod enc P W 0 (fun _ => true) true fuel t cs = some x) (hw : ∀ n ∈ x.1.weights P t, n ≤ reach) :
    ∃ a, RBytes W cs a ∧ a.length ≤ Rows.uptoBulk x.1 := by
  obtain ⟨a, ha⟩ := RBytes.opens ht he hc hb H enc W fuel cs x h hw
  refine ⟨a, ha, ?_⟩
  obtain ⟨A, c, e1, hr, _⟩ := ha
  rcases open_ints ht he hc h with ⟨rfl, _⟩ | ⟨a', l, c', zs, rfl, _, hl, hm, hz, hx, _⟩
  · simp only [List.cons.injEq, Value.slice.injEq, and_true] at e1
    omega
  · simp only [List.cons.injEq, Value.slice.injEq, and_true] at e1
    obtain ⟨_, rfl, rfl⟩ := e1
    have hz : zs.length = c' := by simpa using hz
    rw [hx]
    refine Nat.le_trans ?_ (bulk_elems _ _)
    refine Nat.le_trans ?_ (bulk_length _)
    simp [lits]
    omega
theorem rows_arg {t e u : TypeId} (ht : P.underlying t = some (.slice e)) (hce : P.cellsOf e = 1) (hbe : 1 ≤ P.bytesOf e) (he : P.underlying e = some (.slice u)) (hu : P.underlying u = some (.int .u8)) (hcu : P.cellsOf u = 1) (hbu : P.bytesOf u = 1)
    {H : Type} {enc : TypeId × Value → H} {W : World} {v : Value} {d : DataW H} {ps : List MemPlace} {ts : List TypeId} {ds : List (DataW H)} {j : Nat}
    (h : DataW.Trod enc P W 0 (fun _ => true) true t v d ps) (hsz : (DataW.weightsEach P ts ds).all (· ≤ reachBytes) = true) (hts : ts[j]? = some t) (hd : ds[j]? = some d) (hk : Rows.uptoSmall H ds = true) :
    ∃ L, RSlice RBytes 1 W v.cells.toList L ∧ L.flatten.length ≤ 1048576 := by
  have hbd := bulk_of hk (List.mem_of_getElem? hd)
  obtain ⟨fuel, hf⟩ := h
  have hw : ∀ n ∈ d.weights P t, n ≤ reach := fun n hn => by
    have := List.all_eq_true.1 hsz _ (DataW.weights_mem_each hts hd n hn)
    have h2 : n ≤ reachBytes := by simpa using this
    exact h2
  generalize v.cells.toList = cs at hf
  generalize hx : (d, ps) = x at hf
  have hx1 : d = x.1 := by rw [← hx]
  subst hx1
  clear hx
  rcases open_slice ht hf with ⟨rfl, _⟩ | ⟨a, len, cap, m, n, D, Pl, rfl, _, hl, hm, hmm, rfl, hel⟩
  · exact ⟨[], ⟨none, 0, rfl, ⟨rfl, by simp, fun i h => absurd h (by simp)⟩, Nat.le_refl _, by simp [maxLen], by simp⟩, by simp⟩
  · have hmc : m = cap := by simpa using hmm
    subst hmc
    have each : ∀ i, i < len → ∃ y, (∃ cs', cs'.length = 1 ∧ RBytes W cs' y ∧ ∀ j u, cs'[j]? = some u → W.cell? (a.add (i * 1 + j)) = some u) ∧ y.length ≤ Rows.uptoBulk (D i) := by
      intro i hi
      obtain ⟨cs', h1, h2⟩ := hel i (by omega)
      rw [hce] at h1
      obtain ⟨h3, h4⟩ := cells_at h1
      obtain ⟨y, hy, hb⟩ := RBytes.bulk he hu hcu hbu h2 (fun k hk => hw k (by
        simp only [DataW.weights, ht]
        apply List.mem_cons.2
        right
        exact List.mem_append_left _ (weightsAll_mem (List.mem_map.2 ⟨i, by simp [hi], rfl⟩) hk)))
      exact ⟨y, ⟨cs', h3, hy, fun j u hj => by rw [← add_add]; exact h4 j u hj⟩, hb⟩
    obtain ⟨L, hL, hP⟩ := list_of each
    have hlen : len ≤ 9223372036854775807 := by simp only [maxLen] at hm; omega
    subst hL
    refine ⟨L, ⟨some a, m, rfl, ⟨rfl, hlen, fun i hi => ?_⟩, hl, hm, ?_⟩, ?_⟩
    · obtain ⟨⟨cs', h1, h2, h3⟩, _⟩ := hP i hi
      exact ⟨a, cs', rfl, h1, h2, h3⟩
    · have := hw (m * P.bytesOf e) (by
        simp only [DataW.weights, ht]
        apply List.mem_cons.2
        left
        congr 1
        simp
        omega)
      have := Nat.le_mul_of_pos_right m hbe
      omega
    · refine Nat.le_trans (flatten_bulk L ((List.range L.length).map D) (by simp) (fun i h h2 => ?_)) (Nat.le_trans (bulk_elems _ _) hbd)
      rw [List.getElem_map, List.getElem_range]
      exact (hP i h).2
end
end Go.Proofs.Ytpphejjdgplalaa.K
