/- Slices of whole numbers that are owned: Clone, Contains, DeleteFunc, Sort (by the library's contracts), append. -/
import Derived.Test.YtaeafnpldlcdnaaKMap
import Derived.Test.YtaeafnpldlcdnaaShelf
set_option linter.unusedVariables false
set_option linter.unusedSimpArgs false
namespace Go.Proofs.Ytaeafnpldlcdnaa.K
open Go.RowKit Go.Sort Go.Lib Go.Shelf
def I (l : List Int) : List Value := l.map (Value.int .i64)
theorem I_length (l : List Int) : (I l).length = l.length := by simp [I]
theorem I_append (l m : List Int) : I (l ++ m) = I l ++ I m := by simp [I]
theorem I_get (l : List Int) (j : Nat) (h : j < l.length) : (I l)[j]? = some (.int .i64 l[j]) := by simp [I, h]
theorem I_one (l : List Int) : ∀ u ∈ I l, u.oneCell' = true := by
  intro u hu; simp only [I, List.mem_map] at hu; obtain ⟨b, _, rfl⟩ := hu; rfl
theorem I_take (l : List Int) (k : Nat) : I (l.take k) = (I l).take k := by simp [I, List.map_take]
theorem I_drop (l : List Int) (k : Nat) : I (l.drop k) = (I l).drop k := by simp [I, List.map_drop]
theorem infoI : (Try.prog.info? 3).map (fun i => (i.zero, i.size, i.bytes)) = some (some (.int .i64 0), 1, 8) := by kernel_rfl
/-- A slice of whole numbers at a value, owned in block G. -/
def OI (w : World) (v : Value) (l : List Int) (G : Option Nat) : Prop := Own w 3 1 v l.length (I l) G
section
variable {w w1 : World} {v : Value} {l : List Int} {G : Option Nat} {S : Nat → Prop} {A : Option Addr} {c : Nat}
theorem OI.upd (h : OI w v l G) (k : Upd S w w1) (hn : ∀ g, G = some g → ¬ S g) : OI w1 v l G := Own.upd h k hn
theorem OI.up (h : OI w v l G) (k : Upd (fun _ => False) w w1) : OI w1 v l G := Own.upd h k (fun _ _ h => h)
theorem OI.lt (h : OI w v l G) : ∀ g, G = some g → g < w.heap.size := Own.lt h
theorem OI.nil (w : World) : OI w (.slice none 0 0) [] none := Own.nil w _ _
theorem OI.slice (h : OI w v l G) : ∃ A c, v = .slice A l.length c ∧ l.length ≤ c ∧ c ≤ maxLen := by
  obtain ⟨A, c, hv, h1, h2, _⟩ := Own.slice h
  exact ⟨A, c, hv, h1, h2⟩
/-- its cells -/
theorem OI.at (h : OI w (.slice A l.length c) l G) (i : Nat) (hi : i < l.length) : ∃ ad, A = some ad ∧ w.cell? (ad.add i) = some (.int .i64 l[i]) := by
  obtain ⟨A', c', hv, _, _, hr, _⟩ := Own.slice h
  injection hv with e1 e2 e3
  subst e1; subst e3
  exact hr i _ (I_get l i hi)
theorem OI.row (h : OI w (.slice A l.length c) l G) : Row w A (I l) := by
  obtain ⟨A', c', hv, _, _, hr, _⟩ := Own.slice h
  injection hv with e1 e2 e3
  subst e1
  exact hr
theorem OI.cells (h : OI w (.slice A l.length c) l G) : (A = none ∧ l = []) ∨ ∃ g o, A = some ⟨g, o, none⟩ ∧ G = some g ∧ ∀ j, j < l.length → w.cell? ⟨g, o + j, none⟩ = some (.int .i64 (l.getD j 0)) ∧ w.frozen? ⟨g, o + j, none⟩ = false := by
  rcases h.form with ⟨hv, h0, hG⟩ | ⟨g, o, c', cur, hv, hG, hb, hc, hm, hs, hcell⟩
  · injection hv with e1 e2 e3
    exact .inl ⟨e1, List.eq_nil_of_length_eq_zero h0⟩
  · injection hv with e1 e2 e3
    refine .inr ⟨g, o, e1, hG, fun j hj => ?_⟩
    have := hcell j _ (I_get l j hj)
    have e4 : l.getD j 0 = l[j] := by simp [List.getD_eq_getElem?_getD, List.getElem?_eq_getElem hj]
    rw [e4]
    exact ⟨by simp [World.cell?, hb, this], by simp [World.frozen?, hb]⟩
end
def NewI (l : List Int) (w : World) (e : Ending) (w' : World) : Prop := ∃ A c G, e = .returned (.slice A l.length c) ∧ OI w' (.slice A l.length c) l G ∧ (∀ g, G = some g → w.heap.size ≤ g) ∧ Upd (fun _ => False) w w'
section
variable {w : World} {l : List Int} {G : Option Nat} {A : Option Addr} {c : Nat}
theorem clone_calls (h : OI w (.slice A l.length c) l G) (hl : l.length ≤ 1000000) : Calls Try.prog 45 #[.slice A l.length c] w (NewI l w) := by
  rcases h.cells with ⟨rfl, rfl⟩ | ⟨g, o, rfl, rfl, hc⟩
  · refine (Try.slices_Clone_int_nil _ _ w).mono fun e w' ⟨he, hw⟩ => ?_
    subst hw
    exact ⟨none, 0, none, he, OI.nil _, fun g h => (by cases h), Upd.refl _ _⟩
  · have fin : ∀ v' w', w'.ownsRow w.heap.size 3 1 v' l.length (I l) → Below w.heap.size w w' → NewI l w (.returned v') w' := by
      intro v' w' ho hb
      obtain ⟨G', hO, _, hG⟩ := Own.ofRow ho
      obtain ⟨A', c', rfl, _, _⟩ := OI.slice hO
      exact ⟨A', c', G', rfl, hO, hG, Upd.ofBelow hb _⟩
    rcases Nat.eq_zero_or_pos l.length with h0 | h0
    · have : l = [] := List.eq_nil_of_length_eq_zero h0
      subst this
      refine (Try.slices_Clone_int_zero _ _ w).mono fun e w' ⟨v', he, ho, _, hb⟩ => ?_
      rw [he]
      exact fin v' w' ho hb
    · refine (Try.slices_Clone_int g o l.length c l w (Nat.le_refl _) (by omega) (fun j hj => (hc j hj).1)).mono fun e w' ⟨v', he, ho, _, hb⟩ => ?_
      rw [he]
      rw [List.take_length] at ho
      exact fin v' w' ho hb
theorem contains_calls (h : OI w (.slice A l.length c) l G) (hl : l.length ≤ 1000000) (x : Int) : Calls Try.prog 43 #[.slice A l.length c, .int .i64 x] w fun e w' => e = .returned (.bool (l.contains x)) ∧ w = w' := by
  rcases h.cells with ⟨rfl, rfl⟩ | ⟨g, o, rfl, rfl, hc⟩
  · exact (Try.slices_Contains_int_empty _ _ x w).mono fun e w' ⟨he, hw⟩ => ⟨he, hw.symm⟩
  · refine (Try.slices_Contains_int g o l.length c l x w (Nat.le_refl _) (by omega) (fun j hj => (hc j hj).1)).mono fun e w' ⟨he, hw⟩ => ⟨?_, hw.symm⟩
    rw [List.take_length] at he
    exact he
/-- A row of cells put anew. -/
theorem OI.put {g o : Nat} (h : OI w (.slice (some ⟨g, o, none⟩) l.length c) l (some g)) (q : Nat) (d : Array Int) (hd : d.size = l.length) :
    OI (putRow (Value.int .i64) (Sort.ahead w q) g o d) (.slice (some ⟨g, o, none⟩) d.toList.length c) d.toList (some g) ∧ Upd (fun i => i = g) w (putRow (Value.int .i64) (Sort.ahead w q) g o d) := by
  rcases h.form with ⟨hv, _⟩ | ⟨g', o', c', cur, hv, hG, hb, hc, hm, hs, hcell⟩
  · cases hv
  · injection hv with e1 e2 e3
    injection e1 with e1
    injection e1 with e4 e5
    subst e4; subst e5; subst e3
    have hdl : d.toList.length = l.length := by simp [hd]
    have hb' : (putRow (Value.int .i64) (Sort.ahead w q) g o d).heap[g]? = some (.cells (putCells (Value.int .i64) o d cur) 3 (0, 0)) := by
      unfold putRow mapBlock
      simp [Array.getElem?_modify, hb, onCells]
    refine ⟨⟨by rw [I_length, Nat.mul_one], .inr ⟨g, o, c, _, rfl, rfl, hb', by rw [hdl]; exact hc, hm, by simpa [putCells] using hs, fun j u hj => ?_⟩⟩, ⟨rfl, rfl, rfl, by simp, fun i hi hn => ?_⟩⟩
    · have hjl : j < d.toList.length := by
        rcases Nat.lt_or_ge j d.toList.length with h | h
        · exact h
        · rw [List.getElem?_eq_none (by rw [I_length]; exact h)] at hj; cases hj
      rw [I_get _ j hjl] at hj
      obtain rfl := Option.some.inj hj
      have hoc : o + j < cur.size := by rw [Nat.mul_one] at hs; omega
      simp only [putCells, Array.getElem?_mapIdx, Array.getElem?_eq_getElem hoc, Option.map_some]
      have hjd : j < d.size := by simpa using hjl
      rw [if_pos ⟨by omega, by omega⟩, show o + j - o = j by omega, getElem!_pos d j hjd]
      simp
    · unfold putRow mapBlock
      simp only [Sort.heap_ahead, Array.getElem?_modify]
      rw [if_neg (fun e => hn e.symm)]
theorem OI.holds {g o : Nat} (h : OI w (.slice (some ⟨g, o, none⟩) l.length c) l (some g)) : Holds (Value.int .i64) w g o l.toArray := by
  rcases h.cells with ⟨h1, _⟩ | ⟨g', o', h1, h2, hc⟩
  · cases h1
  · injection h1 with h1
    injection h1 with h3 h4
    subst h3; subst h4
    intro j hj
    have hj' : j < l.length := by simpa using hj
    obtain ⟨h5, h6⟩ := hc j hj'
    refine ⟨?_, h6⟩
    rw [h5, getElem!_pos l.toArray j hj]
    simp [List.getD_eq_getElem?_getD, List.getElem?_eq_getElem hj']
def SortPost (l : List Int) (A : Option Addr) (c : Nat) (G : Option Nat) (w : World) (e : Ending) (w' : World) : Prop :=
  e = .returned (.tuple #[]) ∧ OI w' (.slice A (l.mergeSort fun x y => decide (x ≤ y)).length c) (l.mergeSort fun x y => decide (x ≤ y)) G ∧ Upd (fun i => some i = G) w w'
theorem grow_upd {S : Nat → Prop} {w w1 : World} (h : Upd S w w1) (os : Array Obj) : Upd S w (grow w1 os) := by
  refine h.trans (T := fun _ => False) ⟨rfl, rfl, rfl, ?_, fun i hi _ => ?_⟩ (fun _ _ h => h.elim)
  · simp [grow]
  · simp only [grow]
    rw [Array.getElem?_append_left hi]
theorem sort_calls (h : OI w (.slice A l.length c) l G) (hl : l.length ≤ 1000000) : Calls Try.prog 56 #[.slice A l.length c] w (SortPost l A c G w) := by
  rcases h.cells with ⟨rfl, rfl⟩ | ⟨g, o, rfl, rfl, hc⟩
  · refine (Try.slices_Sort_int_none _ _ w).mono fun e w' ⟨he, hw⟩ => ?_
    subst hw
    exact ⟨he, by simpa using h, Upd.refl _ _⟩
  · have hb : g < w.heap.size := h.lt g rfl
    refine (Try.slices_Sort_int g o c l w h.holds hb (by omega)).mono fun e w' ⟨he, n, os, hw⟩ => ?_
    subst hw
    obtain ⟨h1, h2⟩ := h.put n (l.mergeSort fun x y => decide (x ≤ y)).toArray (by simp)
    refine ⟨he, ?_, (grow_upd h2 os).mono (fun i hi e => by rw [e])⟩
    have := h1.up (grow_upd (Upd.refl (fun _ => False) _) os)
    simpa using this
/-- The row of one number, just made. -/
theorem Rd1 (w : World) (x : Int) : Row (w.alloc (.cells #[.int .i64 x] 3)) (some ⟨w.heap.size, 0, none⟩) (I [x]) := fun j u hj => by
  refine ⟨_, rfl, ?_⟩
  rw [add_lit]
  cases j with
  | zero =>
    obtain rfl := Option.some.inj hj
    have hb : (w.alloc (.cells #[.int .i64 x] 3)).heap[w.heap.size]? = some (.cells #[.int .i64 x] 3) := heap_alloc_new w _
    simp only [World.cell?, hb]
    rfl
  | succ j => simp [I] at hj
/-- append of one number to a row that is owned -/
theorem wp_appendI {P : Program} {ops : Array Oper} {rest : List Oper} {o : Oper} {a : Act} {Q : Exit → Act → World → Prop} {W w0 : World} {S : Nat → Prop} {m c2 : Nat} {l2 : List Int} (HU : Upd S w0 W) (hgd : o.guard = none) (s x : Operand) (t e : TypeId)
    (ho : o.op = .call { callee := .builtin .append, args := #[s, x], argTypes := #[t, t] })
    (ht : P.underlying t = some (.slice e)) (he : e = 3) (hinfo : (P.info? e).map (fun i => (i.zero, i.size, i.bytes)) = some (some (.int .i64 0), 1, 8))
    (hs : a.eval s = .slice A l.length c) {A2 : Option Addr} (hx : a.eval x = .slice A2 m c2) (HO : OI W (.slice A l.length c) l G) (hG : ∀ g, G = some g → w0.heap.size ≤ g) (HR : Row W A2 (I l2)) (hm : l2.length = m) (hlim : l.length + m ≤ 10000000)
    (h : ∀ A1 c1 w1 G1, OI w1 (.slice A1 (l ++ l2).length c1) (l ++ l2) G1 → (l ++ l2).length ≤ c1 → (∀ g, G1 = some g → w0.heap.size ≤ g) → Upd S w0 w1 → Upd (fun k => some k = G) W w1 → wpList P ops Q rest (a.put o.dst (.slice A1 (l ++ l2).length c1)) w1) :
    Stop (wpList P ops Q (o :: rest) a W) := by
  subst he
  subst hm
  refine wp_append hgd s x t 3 (.int .i64 0) 1 8 ho ht hinfo rfl (by omega) _ l.length (I l) G A2 l2.length c2 (I l2) hs hx HO HR (by rw [I_length, Nat.mul_one]) (I_one l2) (by simp only [maxLen]; omega) (by omega) ?_
  intro v1 w1 G1 hO hU hg
  rw [← I_append] at hO
  have e : l.length + l2.length = (l ++ l2).length := by simp
  rw [e] at hO
  obtain ⟨A1, c1, rfl, h1, _⟩ := OI.slice hO
  refine h A1 c1 w1 G1 hO h1 ?_ (HU.trans hU fun i hi e => ?_) hU
  · intro g e
    rcases hg with rfl | ⟨g', rfl, h3, _⟩
    · exact hG g e
    · obtain rfl := Option.some.inj e
      exact Nat.le_trans HU.size h3
  · have := hG i e.symm
    omega
end
end Go.Proofs.Ytaeafnpldlcdnaa.K
