/- The auditor over a list of messages: the first that may not be. Plain lists, no program. -/
import Derived.Test.YtpphejjdgplalaaAu
set_option linter.unusedVariables false
set_option linter.unusedSimpArgs false
namespace Go.Proofs.Ytpphejjdgplalaa.Au
open Go.RowKit K Mg MgRow
section
variable (out : List UInt8) (strikes : Int)
/-- The number of the first message that may not be. -/
def run1 : St → List M → Nat → Int
  | s, [], i => -1
  | s, m :: ms, i => if okay out strikes s m then run1 (nxt s m) ms (i + 1) else (i : Int)
/-- The state behind messages that all may be. -/
def after : St → List M → Option St
  | s, [] => some s
  | s, m :: ms => if okay out strikes s m then after (nxt s m) ms else none
variable {out strikes}
theorem after_snoc : ∀ {L : List M} {s : St} {m : M}, after out strikes s (L ++ [m]) = (after out strikes s L).bind fun s1 => if okay out strikes s1 m then some (nxt s1 m) else none
  | [], s, m => by simp [after]
  | x :: L, s, m => by
    simp only [List.cons_append, after]
    split
    · exact after_snoc
    · rfl
theorem after_sane : ∀ {L : List M} {s s1 : St} {n : Nat}, Sane out n s → after out strikes s L = some s1 → Sane out (n + L.length) s1
  | [], s, s1, n, h, e => by simp [after] at e; subst e; simpa using h
  | x :: L, s, s1, n, h, e => by
    simp only [after] at e
    split at e
    · rename_i hk
      have := after_sane (Sane.next h hk) e
      rw [List.length_cons, show n + (L.length + 1) = n + 1 + L.length by omega]
      exact this
    · cases e
theorem Sane.init : Sane out 0 init := ⟨by simp [Au.init], by simp [Au.init], by simp [Au.init], by simp [Au.init]⟩
theorem okay_over {s : St} {m : M} (h : s.over = true) : okay out strikes s m = false := by simp [okay, h]
theorem after_over : ∀ {L : List M} {s s1 : St}, s.over = true → after out strikes s L = some s1 → s1.over = true
  | [], s, s1, h, e => by simp [after] at e; subst e; exact h
  | x :: L, s, s1, h, e => by simp [after, okay_over h] at e
/-- The state behind the first i ones. -/
theorem after_take {L : List M} {s : St} (h : after out strikes init L = some s) (i : Nat) (hi : i < L.length) : ∃ s1, after out strikes init (L.take i) = some s1 ∧ okay out strikes s1 L[i] = true ∧ after out strikes init (L.take (i + 1)) = some (nxt s1 L[i]) ∧ after out strikes (nxt s1 L[i]) (L.drop (i + 1)) = some s := by
  have gen : ∀ (L : List M) (s0 : St) (i : Nat) (hi : i < L.length), after out strikes s0 L = some s → ∃ s1, after out strikes s0 (L.take i) = some s1 ∧ okay out strikes s1 L[i] = true ∧ after out strikes s0 (L.take (i + 1)) = some (nxt s1 L[i]) ∧ after out strikes (nxt s1 L[i]) (L.drop (i + 1)) = some s := by
    intro L
    induction L with
    | nil => intro s0 i hi; simp at hi
    | cons x L ih =>
      intro s0 i hi h
      simp only [after] at h
      split at h
      · rename_i hk
        cases i with
        | zero =>
          refine ⟨s0, rfl, hk, ?_, ?_⟩
          · simp [after, hk]
          · simpa using h
        | succ i =>
          obtain ⟨s1, h1, h2, h3, h4⟩ := ih (nxt s0 x) i (by simpa using hi) h
          refine ⟨s1, ?_, by simpa using h2, ?_, by simpa using h4⟩
          · simp only [List.take_succ_cons, after, hk, if_true]; exact h1
          · simp only [List.take_succ_cons, after, hk, if_true]; exact h3
      · cases h
  exact gen L init i hi h
theorem okay_here {s : St} {m : M} (hk : okay out strikes s m = true) (ho : (nxt s m).over = false) : (nxt s m).here = true := by
  simp only [okay, Bool.and_eq_true] at hk
  obtain ⟨_, hov, _, hh, _⟩ := hk
  unfold nxt at ho ⊢
  split
  · rfl
  · rename_i h5
    rw [if_neg h5] at ho
    have hkeep : m.k ≠ 12 → m.k ≠ 13 → s.here = true := by
      intro h12 h13
      simpa [h5, h13] using hh
    split
    · rename_i h6; exact hkeep (by omega) (by omega)
    · rename_i h6
      rw [if_neg h6] at ho
      split
      · rename_i h7; exact hkeep (by omega) (by omega)
      · rename_i h7
        rw [if_neg h7] at ho
        split
        · rename_i h12; rw [if_pos h12] at ho; cases ho
        · rename_i h12; exact hkeep (fun e => h12 (.inl e)) (fun e => h12 (.inr e))
theorem after_here : ∀ {L : List M} {s s1 : St}, after out strikes s L = some s1 → s1.over = false → L ≠ [] → s1.here = true
  | [], s, s1, _, _, h => absurd rfl h
  | x :: L, s, s1, e, ho, _ => by
    simp only [after] at e
    split at e
    · rename_i hk
      cases L with
      | nil =>
        simp only [after] at e
        obtain rfl := Option.some.inj e
        exact okay_here hk ho
      | cons y L => exact after_here e ho (by simp)
    · cases e
/-- Who is not done: whether Welcome came tells whether anything came. -/
theorem here_iff {L : List M} {s : St} (h : after out strikes init L = some s) (ho : s.over = false) : s.here = decide (0 < L.length) := by
  cases L with
  | nil => simp [after] at h; subst h; rfl
  | cons x L => rw [after_here h ho (by simp)]; simp
theorem run1_step {L : List M} (i : Nat) (hi : i < L.length) {s : St} : run1 out strikes s (L.drop i) i = if okay out strikes s L[i] then run1 out strikes (nxt s L[i]) (L.drop (i + 1)) (i + 1) else (i : Int) := by
  rw [List.drop_eq_getElem_cons hi, run1]
theorem run1_end (L : List M) (s : St) : run1 out strikes s (L.drop L.length) L.length = -1 := by
  rw [List.drop_length, run1]
end
end Go.Proofs.Ytpphejjdgplalaa.Au
