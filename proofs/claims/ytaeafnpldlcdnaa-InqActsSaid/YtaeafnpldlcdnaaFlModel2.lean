/- The statements' own model of the floor: what each of its functions comes to. -/
import Derived.Test.YtaeafnpldlcdnaaFlModel
set_option linter.unusedVariables false
set_option linter.unusedSimpArgs false
namespace Go.Proofs.Ytaeafnpldlcdnaa.Fl
open Go.RowKit K Go.Sort Go.Lib Go.Shelf
/-- The model. -/
structure MT where
  lease : Int
  left : Int
  roles : List (Int × Int)
  line : List Int
structure MB (w : World) (m : Nat) (F : Nat → Prop) (s : MT) : Prop where
  mk ::
  has : ∃ A c G b, w.heap[m]? = some (.cells #[.int .i64 s.lease, .int .i64 s.left, .map (some b), .bool false, .slice A s.line.length c] 65 (0, 0)) ∧ OI w (.slice A s.line.length c) s.line G ∧ mapV w Try.prog 3 b (RI s.roles) ∧ m ≠ b ∧ some m ≠ G ∧ some b ≠ G ∧ ∀ k, F k ↔ k = m ∨ k = b ∨ some k = G
section
variable {w w1 : World} {m : Nat} {s : MT} {F S : Nat → Prop}
theorem MB.upd (h : MB w m F s) (k : Upd S w w1) (hn : ∀ i, F i → ¬ S i) : MB w1 m F s := by
  obtain ⟨A, c, G, b, hb, ho, hm, h1, h2, h3, hF⟩ := h.has
  exact ⟨A, c, G, b, k.blk hb (hn m ((hF m).2 (.inl rfl))), ho.upd k (fun g e => hn g ((hF g).2 (.inr (.inr e.symm)))), hm.upd k (hn b ((hF b).2 (.inr (.inl rfl)))), h1, h2, h3, hF⟩
theorem MB.up (h : MB w m F s) (k : Upd (fun _ => False) w w1) : MB w1 m F s := h.upd k (fun _ _ h => h)
theorem MB.lt (h : MB w m F s) : ∀ k, F k → k < w.heap.size := by
  obtain ⟨A, c, G, b, hb, ho, hm, h1, h2, h3, hF⟩ := h.has
  intro k hk
  rcases (hF k).1 hk with rfl | rfl | e
  · exact blk_lt hb
  · exact hm.lt
  · exact ho.lt k e.symm
theorem MB.own (h : MB w m F s) : F m := by obtain ⟨A, c, G, b, _, _, _, _, _, _, hF⟩ := h.has; exact (hF m).2 (.inl rfl)
theorem MB.cells (h : MB w m F s) : ∃ A c G b, Asd (w.heap[m]? = some (.cells #[.int .i64 s.lease, .int .i64 s.left, .map (some b), .bool false, .slice A s.line.length c] 65 (0, 0))) ∧ Asd (OI w (.slice A s.line.length c) s.line G) ∧ Asd (mapV w Try.prog 3 b (RI s.roles)) ∧ Asd (m ≠ b ∧ some m ≠ G ∧ some b ≠ G) ∧ Asd (∀ k, F k ↔ k = m ∨ k = b ∨ some k = G) ∧ m < w.heap.size ∧ s.line.length ≤ c ∧ c ≤ maxLen := by
  obtain ⟨A, c, G, b, hb, ho, hm, h1, h2, h3, hF⟩ := h.has
  obtain ⟨A', c', hv, h4, h5⟩ := OI.slice ho
  injection hv with e1 e2 e3
  subst e3
  exact ⟨A, c, G, b, ⟨hb⟩, ⟨ho⟩, ⟨hm⟩, ⟨h1, h2, h3⟩, ⟨hF⟩, blk_lt hb, h4, h5⟩
end
/-- A call that turns a model. -/
def MTurns (v : Value) (s : MT) (m : Nat) (F : Nat → Prop) (w : World) (e : Ending) (w' : World) : Prop :=
  e = .returned v ∧ ∃ F', MB w' m F' s ∧ Upd F w w' ∧ ∀ k, F' k → F k ∨ w.heap.size ≤ k
def MNewPost (s : MT) (w : World) (e : Ending) (w' : World) : Prop := ∃ m F, e = .returned (.pointer (some ⟨m, 0, none⟩)) ∧ MB w' m F s ∧ Upd (fun _ => False) w w' ∧ ∀ k, F k → w.heap.size ≤ k
set_option maxHeartbeats 400000 in
theorem mnew_calls (n : Int) (w : World) : Calls Try.prog 24 #[.int .i64 n] w (MNewPost ⟨clampLease n, 0, [], []⟩ w) := by
  have hmm := @run_makeMap Try.prog
  obtain ⟨L, hL⟩ : ∃ L, L = clampLease n := ⟨_, rfl⟩
  have hL2 : mn (mx n 1) 1000 = L := by rw [hL]; unfold clampLease mx mn; split <;> split <;> (try split) <;> (try split) <;> omega
  rw [← hL]
  clear hL
  go_enter Try.func24, Try.ntmps24
  go_wp2
  go_ret
  have h1 := heap_alloc_new (w.alloc (.map #[] 0)) (.cells #[.int .i64 L, .int .i64 0, .map (some w.heap.size), .bool false, .slice none 0 0] 65)
  rw [show (w.alloc (.map #[] 0)).heap.size = w.heap.size + 1 by simp] at h1
  refine ⟨w.heap.size + 1, fun k => k = w.heap.size + 1 ∨ k = w.heap.size ∨ some k = none, rfl, ⟨none, 0, none, w.heap.size, h1, OI.nil _, (mapV.made w _ _).upd ((Upd.refl (fun _ => False) _).alloc _) (fun h => h), by omega, by simp, by simp, fun k => Iff.rfl⟩, ((Upd.refl _ _).alloc _).alloc _, fun k hk => ?_⟩
  rcases hk with rfl | rfl | h
  · omega
  · omega
  · cases h
/-- A user's place in a line; below 0: none. -/
def place : List Int → Int → Nat → Int
  | [], _, _ => -1
  | x :: r, id, i => if x = id then (i : Int) else place r id (i + 1)
section
variable {w : World} {m : Nat} {s : MT} {F : Nat → Prop}
set_option maxHeartbeats 1000000 in
theorem place_calls (h : MB w m F s) (id : Int) : Calls Try.prog 49 #[.pointer (some ⟨m, 0, none⟩), .int .i64 id] w fun e w' => e = .returned (.int .i64 (place s.line id 0)) ∧ w = w' := by
  obtain ⟨A, c, G, b, HB, HO, HM, HN, HF, hms, hc, hcm⟩ := h.cells
  simp only [maxLen] at hcm
  have c4 := keepsC (o := 4) HB.out rfl
  obtain ⟨r, hr⟩ : ∃ r, r = place s.line id 0 := ⟨_, rfl⟩
  rw [← hr]
  have HR := Asd.mk hr
  clear h hr
  go_enter Try.func49, Try.ntmps49
  go_wp2
  go_loop [12] (fun v12 => ∃ i : Nat, v12 = .int .i64 (i : Int) ∧ i ≤ s.line.length ∧ Asd (r = place (s.line.drop i) id i)) (fun v12 => s.line.length - (intOf v12).toNat)
  case atStart => exact ⟨0, rfl, by omega, HR⟩
  case round =>
    obtain ⟨i, rfl, hi, HI⟩ := hrel
    by_cases hlt : i < s.line.length
    · obtain ⟨ad, rfl, hcell⟩ := HO.out.at i hlt
      have hst : place (s.line.drop i) id i = if s.line[i] = id then (i : Int) else place (s.line.drop (i + 1)) id (i + 1) := by
        rw [List.drop_eq_getElem_cons hlt, place]
      obtain ⟨x, hx⟩ : ∃ x, x = s.line[i] := ⟨_, rfl⟩
      rw [← hx] at hcell hst
      clear hx
      by_cases he : x = id
      · rw [if_pos he] at hst
        have HF2 := Asd.mk (HI.out.trans hst)
        subst he
        have hb1 : (x == x) = true := by simp
        clear hst
        go_wp2
        go_ret
        exact ⟨by rw [HF2.out]; rfl, rfl⟩
      · rw [if_neg he] at hst
        have HF2 := Asd.mk (HI.out.trans hst)
        have hb1 : (x == id) = false := beq_eq_false_iff_ne.2 he
        clear hst he
        go_wp2
        go_round
        case rel => exact ⟨i + 1, by go_num, by omega, HF2⟩
        case measure => simp only [intOf]; omega
    · have hi2 : i = s.line.length := by omega
      subst hi2
      have HF2 : Asd (r = -1) := ⟨by rw [HI.out, List.drop_length, place]⟩
      go_wp2
      go_ret
      exact ⟨by rw [HF2.out]; rfl, rfl⟩
/-- No numbers at all, just made. -/
theorem OI0 (w : World) (g : Nat) (hg : g = w.heap.size) : OI (w.alloc (.cells #[] 3)) (.slice (some ⟨g, 0, none⟩) ([] : List Int).length 0) [] (some g) := by
  subst hg
  have := Own.lit w 3 1 0 #[] (by simp [maxLen]) rfl
  exact this
/-- The one at a place goes out of the line. -/
def mout (s : MT) (i : Nat) : MT := { s with
  line := s.line.take i ++ s.line.drop (i + 1)
  left := if i = 0 then (if s.line.take i ++ s.line.drop (i + 1) = [] then 0 else s.lease) else s.left }
theorem MB.outs {A A6 : Option Addr} {c c6 b : Nat} {G G6 : Option Nat} {l3 : List Int} {L' : Int} {w6 w7 : World} (HB : Asd (w.heap[m]? = some (.cells #[.int .i64 s.lease, .int .i64 s.left, .map (some b), .bool false, .slice A s.line.length c] 65 (0, 0)))) (HM : Asd (mapV w Try.prog 3 b (RI s.roles))) (HN : Asd (m ≠ b ∧ some m ≠ G ∧ some b ≠ G)) (HF : Asd (∀ k, F k ↔ k = m ∨ k = b ∨ some k = G)) (hU6 : Upd (fun _ => False) w w6) (HO6 : Asd (OI w6 (.slice A6 l3.length c6) l3 G6)) (HG6 : Asd (∀ g, G6 = some g → w.heap.size ≤ g)) (hu : Upd (fun i => i = m) w6 w7) (hb7 : w7.heap[m]? = some (.cells #[.int .i64 s.lease, .int .i64 L', .map (some b), .bool false, .slice A6 l3.length c6] 65 (0, 0))) :
    ∃ F', MB w7 m F' { s with line := l3, left := L' } ∧ Upd F w w7 ∧ ∀ k, F' k → F k ∨ w.heap.size ≤ k := by
  have hm := blk_lt HB.out
  have hbs := HM.out.lt
  have n1 : some m ≠ G6 := fun e => by have := HG6.out m e.symm; omega
  have n2 : some b ≠ G6 := fun e => by have := HG6.out b e.symm; omega
  refine ⟨fun k => k = m ∨ k = b ∨ some k = G6, ⟨A6, c6, G6, b, hb7, HO6.out.upd hu (fun g e e2 => n1 (by rw [e, e2])), (HM.out.upd hU6 (fun h => h)).upd hu (fun e => HN.out.1 e.symm), HN.out.1, n1, n2, fun k => Iff.rfl⟩, (hU6.mono (T := F) (fun i hi h => h.elim)).trans hu (fun i hi e => (HF.out i).2 (.inl e)), fun k hk => ?_⟩
  rcases hk with rfl | rfl | h
  · exact .inl ((HF.out _).2 (.inl rfl))
  · exact .inl ((HF.out _).2 (.inr (.inl rfl)))
  · exact .inr (HG6.out k h.symm)
set_option maxHeartbeats 2000000 in
theorem out_calls (h : MB w m F s) (i : Nat) (hi : i < s.line.length) (hl : s.line.length ≤ 1000000) : Calls Try.prog 48 #[.pointer (some ⟨m, 0, none⟩), .int .i64 (i : Int)] w (MTurns (.tuple #[]) (mout s i) m F w) := by
  obtain ⟨A, c, G, b, HB, HO, HM, HN, HF, hms, hc, hcm⟩ := h.cells
  simp only [maxLen] at hcm
  have c0 := keepsC (o := 0) HB.out rfl
  have c4 := keepsC (o := 4) HB.out rfl
  have c1 := keepsC (o := 1) HB.out rfl
  have ff := fun o => keepsF (o := o) HB.out
  have HT := Asd.mk h.own
  obtain ⟨A2, hsl, hrow, _, _⟩ := cut_from (P := Try.prog) 31 3 .i64 (sz := 1) Try.underlying31 (by kernel_rfl) A s.line.length c (i + 1) (by omega) hc
  have hsl2 : ∀ W : World, (Instr.slice 31 (.slice A s.line.length c) (some (.int .i64 ((i : Int) + 1))) none none).run Try.prog W = .ok (.slice A2 (s.line.length - (i + 1)) (c - (i + 1))) W := fun W => by rw [← hsl W]; rfl
  have HROW : Asd (∀ W, Upd (fun _ => False) w W → Row W A (I (s.line.take i)) ∧ Row W A2 (I (s.line.drop (i + 1)))) := ⟨fun W k => by
    refine ⟨?_, ?_⟩
    · rw [I_take]; exact ((HO.out.up k).row).take i
    · have h3 := hrow W _ _ (HO.out.up k)
      rw [Nat.mul_one, ← I_drop] at h3
      obtain ⟨A3, c3, hv, _, _, hr, _⟩ := Own.slice h3
      injection hv with e1
      rw [e1]; exact hr⟩
  have g1 : (0 : Int) ≤ (i : Int) := by omega
  have g2 : (i : Int) ≤ (c : Int) := by omega
  have g3 : i ≤ c := by omega
  have htl : (s.line.take i).length = i := by rw [List.length_take]; omega
  have hHU : Upd (fun _ => False) w w := Upd.refl _ _
  have htl2 : (s.line.drop (i + 1)).length = s.line.length - (i + 1) := List.length_drop
  obtain ⟨l1, hl1⟩ : ∃ l1, l1 = s.line.take i := ⟨_, rfl⟩
  obtain ⟨l2, hl2⟩ : ∃ l2, l2 = s.line.drop (i + 1) := ⟨_, rfl⟩
  obtain ⟨l3, hl3⟩ : ∃ l3, l3 = l1 ++ l2 := ⟨_, rfl⟩
  rw [← hl1] at htl
  rw [← hl2] at htl2
  rw [← hl1, ← hl2] at HROW
  have HTL := Asd.mk htl
  have HTL2 := Asd.mk htl2
  have HL3 := Asd.mk hl3.symm
  have HMO : Asd (mout s i = { s with line := l3, left := if i = 0 then (if l3 = [] then 0 else s.lease) else s.left }) := ⟨by unfold mout; rw [← hl1, ← hl2, ← hl3]⟩
  clear htl2 hl1 hl2 hl3
  have hwr : IntKind.i64.wrap ((i : Int) + 1) = (i : Int) + 1 := w64i _ (by omega) (by omega)
  clear hsl hrow h htl
  go_enter Try.func48, Try.ntmps48
  go_wp2
  go_region_law (first | (with_reducible refine gate_app (.tmp 7) (.tmp 13) 31 rfl ?_; (refine step_appendI (S := fun _ => False) (w0 := w) (by repeat (first | assumption | with_reducible exact Upd.refl _ _ | with_reducible refine Upd.drewN ?_ _ | with_reducible refine Upd.drew ?_ | with_reducible refine Upd.alloc ?_ _ | with_reducible refine Upd.setAt ?_ ?_ | exact Or.inl rfl | exact Or.inr (by simp) | exact Or.inr (by omega))) rfl _ _ 31 3 (by rfl) Try.underlying31 rfl infoI (l := []) (A := some ⟨w.heap.size, 0, none⟩) (c := 0) (by simp [Act.eval, Act.put]) (m := i) (A2 := A) (c2 := c) (by simp [Act.eval, Act.put]) ((OI0 w _ rfl).up (by repeat (first | assumption | with_reducible exact Upd.refl _ _ | with_reducible refine Upd.drewN ?_ _ | with_reducible refine Upd.drew ?_ | with_reducible refine Upd.alloc ?_ _ | with_reducible refine Upd.setAt ?_ ?_ | exact Or.inl rfl | exact Or.inr (by simp) | exact Or.inr (by omega)))) (fun g e => by obtain rfl := Option.some.inj e; exact Nat.le_refl _) (l2 := l1) ((HROW.out _ (by repeat (first | assumption | with_reducible exact Upd.refl _ _ | with_reducible refine Upd.drewN ?_ _ | with_reducible refine Upd.drew ?_ | with_reducible refine Upd.alloc ?_ _ | with_reducible refine Upd.setAt ?_ ?_ | exact Or.inl rfl | exact Or.inr (by simp) | exact Or.inr (by omega)))).1) HTL.out (by simp; omega) ?_; intro A5 c5 w5 G5 hO5 hc5 hG5 hU5 _; rw [List.nil_append] at hO5 hc5; rw [List.nil_append]; have HO5 := Asd.mk hO5; have HG5 := Asd.mk hG5; clear hO5 hG5)) | (with_reducible refine gate_app (.tmp 14) (.tmp 21) 31 rfl ?_; (refine step_appendI (S := fun _ => False) (w0 := w) (by repeat (first | assumption | with_reducible exact Upd.refl _ _ | with_reducible refine Upd.drewN ?_ _ | with_reducible refine Upd.drew ?_ | with_reducible refine Upd.alloc ?_ _ | with_reducible refine Upd.setAt ?_ ?_ | exact Or.inl rfl | exact Or.inr (by simp) | exact Or.inr (by omega))) rfl _ _ 31 3 (by rfl) Try.underlying31 rfl infoI (l := l1) (A := A5) (c := c5) (by simp [Act.eval, Act.put, HTL.out]) (m := s.line.length - (i + 1)) (A2 := A2) (c2 := c - (i + 1)) (by simp [Act.eval, Act.put]) (HO5.out.up (by repeat (first | assumption | with_reducible exact Upd.refl _ _ | with_reducible refine Upd.drewN ?_ _ | with_reducible refine Upd.drew ?_ | with_reducible refine Upd.alloc ?_ _ | with_reducible refine Upd.setAt ?_ ?_ | exact Or.inl rfl | exact Or.inr (by simp) | exact Or.inr (by omega)))) HG5.out (l2 := l2) ((HROW.out _ (by repeat (first | assumption | with_reducible exact Upd.refl _ _ | with_reducible refine Upd.drewN ?_ _ | with_reducible refine Upd.drew ?_ | with_reducible refine Upd.alloc ?_ _ | with_reducible refine Upd.setAt ?_ ?_ | exact Or.inl rfl | exact Or.inr (by simp) | exact Or.inr (by omega)))).2) HTL2.out (by have := HTL.out; omega) ?_; intro A6 c6 w6 G6 hO6 hc6 hG6 hU6 _; rw [HL3.out] at hO6 hc6; rw [HL3.out]; have HO6 := Asd.mk hO6; have HG6 := Asd.mk hG6; clear hO6 hG6)))
  all_goals
    have hb6 := Asd.mk (hU6.blk HB.out (fun h => h))
    have hF6 : ∀ o, w6.frozen? ⟨m, o, none⟩ = false := fun o => ff o _ hU6
    clear hU5 HO5 HG5 hc5 hsl2 hwr HROW HTL HTL2 HL3
    by_cases hi0 : i = 0
    · have hb1 : ((i : Int) == 0) = true := by rw [hi0]; rfl
      by_cases h3 : l3 = []
      · have HMO2 := Asd.mk (HMO.out.trans (by rw [if_pos hi0, if_pos h3]))
        have hb2 : decide (0 < (l3.length : Int)) = false := by rw [h3]; rfl
        have hb3 : ¬ 0 < l3.length := by rw [h3]; simp
        have hb4 : (0 < l3.length) = False := eq_false hb3
        clear hi0 h3 HMO
        go_wp2
        go_end0
        refine ⟨rfl, ?_⟩
        rw [HMO2.out]
        exact MB.outs HB HM HN HF hU6 HO6 HG6 (((Upd.refl (fun i => i = m) w6).setAt (.inl rfl)).setAt (.inl rfl)) (by rw [hp_same (hp_same hb6.out)]; rfl)
      · have HMO2 := Asd.mk (HMO.out.trans (by rw [if_pos hi0, if_neg h3]))
        have h4 : 0 < l3.length := List.length_pos_iff.2 h3
        have hb2 : decide (0 < (l3.length : Int)) = true := decide_eq_true (by omega)
        clear hi0 h3 HMO
        go_wp2
        go_end0
        refine ⟨rfl, ?_⟩
        rw [HMO2.out]
        exact MB.outs HB HM HN HF hU6 HO6 HG6 ((((Upd.refl (fun i => i = m) w6).setAt (.inl rfl)).setAt (.inl rfl)).setAt (.inl rfl)) (by rw [hp_same (hp_same (hp_same hb6.out))]; rfl)
    · have hb1 : ((i : Int) == 0) = false := beq_eq_false_iff_ne.2 (by omega)
      have HMO2 := Asd.mk (HMO.out.trans (by rw [if_neg hi0]))
      clear hi0 HMO
      go_wp2
      go_end0
      refine ⟨rfl, ?_⟩
      rw [HMO2.out]
      exact MB.outs HB HM HN HF hU6 HO6 HG6 ((Upd.refl (fun i => i = m) w6).setAt (.inl rfl)) (by rw [hp_same hb6.out]; rfl)
end
end Go.Proofs.Ytaeafnpldlcdnaa.Fl
