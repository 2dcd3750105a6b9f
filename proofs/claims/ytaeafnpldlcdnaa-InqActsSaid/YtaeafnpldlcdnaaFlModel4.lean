/- The statements' own model of the floor: asking, giving, ticks. -/
import Derived.Test.YtaeafnpldlcdnaaFlModel3
set_option linter.unusedVariables false
set_option linter.unusedSimpArgs false
namespace Go.Proofs.Ytaeafnpldlcdnaa.Fl
open Go.RowKit K Go.Sort Go.Lib Go.Shelf
/-- Append where the row may be turned in place. -/
theorem wp_appendO {P : Program} {ops : Array Oper} {rest : List Oper} {o : Oper} {a : Act} {Q : Exit → Act → World → Prop} {W : World} {m c2 c : Nat} {l l2 : List Int} {A : Option Addr} {G : Option Nat} (hgd : o.guard = none) (s x : Operand) (t e : TypeId)
    (ho : o.op = .call { callee := .builtin .append, args := #[s, x], argTypes := #[t, t] })
    (ht : P.underlying t = some (.slice e)) (he : e = 3) (hinfo : (P.info? e).map (fun i => (i.zero, i.size, i.bytes)) = some (some (.int .i64 0), 1, 8))
    (hs : a.eval s = .slice A l.length c) {A2 : Option Addr} (hx : a.eval x = .slice A2 m c2) (HO : OI W (.slice A l.length c) l G) (HR : Row W A2 (I l2)) (hm : l2.length = m) (hlim : l.length + m ≤ 10000000)
    (h : ∀ A1 c1 w1 G1, OI w1 (.slice A1 (l ++ l2).length c1) (l ++ l2) G1 → (l ++ l2).length ≤ c1 → (G1 = G ∨ ∀ g, G1 = some g → W.heap.size ≤ g) → Upd (fun k => some k = G) W w1 → wpList P ops Q rest (a.put o.dst (.slice A1 (l ++ l2).length c1)) w1) :
    Stop (wpList P ops Q (o :: rest) a W) := by
  subst he
  subst hm
  refine wp_append hgd s x t 3 (.int .i64 0) 1 8 ho ht hinfo rfl (by omega) _ l.length (I l) G A2 l2.length c2 (I l2) hs hx HO HR (by rw [I_length, Nat.mul_one]) (I_one l2) (by simp only [maxLen]; omega) (by omega) ?_
  intro v1 w1 G1 hO hU hg
  rw [← I_append] at hO
  have e : l.length + l2.length = (l ++ l2).length := by simp
  rw [e] at hO
  obtain ⟨A1, c1, rfl, h1, _⟩ := OI.slice hO
  exact h A1 c1 w1 G1 hO h1 (hg.imp id (fun ⟨g, h2, h3, _⟩ k e => by obtain rfl := Option.some.inj (h2.symm.trans e); exact h3)) hU
def mmay (s : MT) (id : Int) : Int := match rget s.roles id with
  | none => 2
  | some r => if r = 0 then 4 else 0
def masks (s : MT) (id : Int) : Int := if mmay s id ≠ 0 then mmay s id else if 0 ≤ place s.line id 0 then 3 else 0
def mask (s : MT) (id : Int) : MT := if masks s id ≠ 0 then s else { s with line := s.line ++ [id], left := if s.line = [] then s.lease else s.left }
def mholder (s : MT) : Int := s.line.headD 0
def mdrops (s : MT) (id : Int) : Int := if (rget s.roles id).isSome = false then 2 else if place s.line id 0 < 0 then 3 else 0
def mdrop (s : MT) (id : Int) : MT := if mdrops s id = 0 then mlose s id else s
def mrevokes (s : MT) : Int := if s.line = [] then 3 else 0
def mrevoke (s : MT) : MT := if s.line = [] then s else moutI s 0
def mtick (s : MT) : MT := if s.line = [] then s else if 1 < s.left then { s with left := s.left - 1 } else if 1 < s.line.length then moutI { s with left := s.lease } 0 else { s with left := s.lease }
section
variable {w : World} {m : Nat} {s : MT} {F : Nat → Prop}
theorem MB.lefts (h : MB w m F s) (n : Int) : MB (w.setCell ⟨m, 1, none⟩ (.int .i64 n)) m F { s with left := n } := by
  obtain ⟨A, c, G, b, hb, ho, hm, h1, h2, h3, hF⟩ := h.has
  have hu : Upd (fun i => i = m) w (w.setCell ⟨m, 1, none⟩ (.int .i64 n)) := (Upd.refl (fun i => i = m) w).setAt (.inl rfl)
  exact ⟨A, c, G, b, by rw [hp_same hb]; rfl, ho.upd hu (fun g e e2 => h2 (by rw [e, e2])), hm.upd hu (fun e => h1 e.symm), h1, h2, h3, hF⟩
set_option maxHeartbeats 400000 in
theorem mholder_calls (h : MB w m F s) : Calls Try.prog 41 #[.pointer (some ⟨m, 0, none⟩)] w fun e w' => e = .returned (.int .i64 (mholder s)) ∧ w = w' := by
  obtain ⟨A, c, G, b, HB, HO, HM, HN, HF, hms, hc, hcm⟩ := h.cells
  have c4 := keepsC (o := 4) HB.out rfl
  clear h HM HN HF
  unfold mholder
  cases hl : s.line with
  | nil =>
    rw [hl] at c4
    simp only [List.length_nil, List.headD_nil] at c4 ⊢
    clear hl hc hcm
    go_enter Try.func41, Try.ntmps41
    go_wp2
    go_ret
    exact ⟨rfl, rfl⟩
  | cons x r =>
    have hlen : 0 < s.line.length := by rw [hl]; simp
    obtain ⟨ad, rfl, hcell⟩ := HO.out.at 0 hlen
    have e0 : s.line[0] = x := by simp [hl]
    rw [e0] at hcell
    have hcell0 : w.cell? ad = some (.int .i64 x) := hcell
    clear hcell
    simp only [List.headD_cons]
    have hb1 : ((s.line.length : Int) == 0) = false := beq_eq_false_iff_ne.2 (by omega)
    clear e0 hl
    go_enter Try.func41, Try.ntmps41
    go_wp2
    go_ret
    exact ⟨rfl, rfl⟩
set_option maxHeartbeats 1000000 in
theorem mrevoke_calls (h : MB w m F s) (hq : s.line.length ≤ 1000000) : Calls Try.prog 31 #[.pointer (some ⟨m, 0, none⟩)] w (MTurns (.int .i64 (mrevokes s)) (mrevoke s) m F w) := by
  have HT := Asd.mk h
  obtain ⟨A, c, G, b, HB, HO, HM, HN, HF, hms, hc, hcm⟩ := h.cells
  have c4 := keepsC (o := 4) HB.out rfl
  clear h HM HN HF HO
  by_cases hl : s.line = []
  · have e1 : mrevokes s = 3 := if_pos hl
    have e2 : mrevoke s = s := if_pos hl
    rw [e1, e2]
    rw [hl] at c4
    simp only [List.length_nil] at c4
    clear hl e1 e2 hc hcm HB
    go_enter Try.func31, Try.ntmps31
    go_wp2
    go_ret
    exact MTurns.stay HT.out _
  · have e1 : mrevokes s = 0 := if_neg hl
    have e2 : mrevoke s = moutI s 0 := if_neg hl
    rw [e1, e2]
    have hlen : 0 < s.line.length := List.length_pos_iff.2 hl
    have hb1 : ((s.line.length : Int) == 0) = false := beq_eq_false_iff_ne.2 (by omega)
    clear e1 e2 hl HB
    go_enter Try.func31, Try.ntmps31
    go_wp2_with fail
    refine (outi_calls HT.out 0 (by omega) hq).mono ?_
    rintro e w1 ⟨rfl, hE⟩
    have HE := Asd.mk hE
    clear hE
    go_wp2
    go_ret
    exact ⟨rfl, HE.out⟩
set_option maxHeartbeats 1000000 in
theorem mdrop_calls (h : MB w m F s) (id : Int) (hid : idOk id) (hq : s.line.length ≤ 1000000) : Calls Try.prog 29 #[.pointer (some ⟨m, 0, none⟩), .int .i64 id] w (MTurns (.int .i64 (mdrops s id)) (mdrop s id) m F w) := by
  have HT := Asd.mk h
  obtain ⟨A, c, G, b, HB, HO, HM, HN, HF, hms, hc, hcm⟩ := h.cells
  clear hc hcm
  have c2 := keepsC (o := 2) HB.out rfl
  have hl := looksR HM.out id hid
  clear h HB HO HM HN HF
  obtain ⟨p, hp⟩ : ∃ p, p = place s.line id 0 := ⟨_, rfl⟩
  have HP := Asd.mk hp
  clear hp
  cases hgs : rget s.roles id with
  | none =>
    have e1 : mdrops s id = 2 := by unfold mdrops; rw [hgs]; rfl
    have e2 : mdrop s id = s := by unfold mdrop; rw [e1]; rfl
    rw [e1, e2]
    rw [hgs] at hl
    simp only [Option.getD_none, Option.isSome_none] at hl
    clear hgs e1 e2
    go_enter Try.func29, Try.ntmps29
    go_wp2
    go_ret
    exact MTurns.stay HT.out _
  | some r =>
    rw [hgs] at hl
    simp only [Option.getD_some, Option.isSome_some] at hl
    have e0 : mdrops s id = if p < 0 then 3 else 0 := by unfold mdrops; rw [hgs, HP.out]; rfl
    clear hgs
    by_cases h0 : p < 0
    · rw [if_pos h0] at e0
      have e2 : mdrop s id = s := by unfold mdrop; rw [e0]; rfl
      rw [e0, e2]
      clear e0 e2
      go_enter Try.func29, Try.ntmps29
      go_wp2_with fail
      refine (place_calls HT.out id).mono ?_
      rw [← HP.out]
      rintro e w1 ⟨rfl, rfl⟩
      go_wp2
      go_ret
      exact MTurns.stay HT.out _
    · rw [if_neg h0] at e0
      have e2 : mdrop s id = moutI s p := by unfold mdrop mlose; rw [e0, ← HP.out]; rfl
      rw [e0, e2]
      clear e0 e2
      go_enter Try.func29, Try.ntmps29
      go_wp2_with fail
      refine (place_calls HT.out id).mono ?_
      rw [← HP.out]
      rintro e w1 ⟨rfl, rfl⟩
      go_wp2_with fail
      refine (place_calls HT.out id).mono ?_
      rw [← HP.out]
      rintro e w1 ⟨rfl, rfl⟩
      go_wp2_with fail
      refine (outi_calls HT.out p (by rw [HP.out]; exact place_lt0 _ _) hq).mono ?_
      rintro e w1 ⟨rfl, hE⟩
      have HE := Asd.mk hE
      clear hE
      go_wp2
      go_ret
      exact ⟨rfl, HE.out⟩
set_option maxHeartbeats 1000000 in
theorem mtick_calls (h : MB w m F s) (hq : s.line.length ≤ 1000000) (hl : -1000 ≤ s.left ∧ s.left ≤ 1000000) : Calls Try.prog 32 #[.pointer (some ⟨m, 0, none⟩)] w (MTurns (.tuple #[]) (mtick s) m F w) := by
  have HT := Asd.mk h
  obtain ⟨A, c, G, b, HB, _, _, _, _, hms, hc, hcm⟩ := h.cells
  have c0 := keepsC (o := 0) HB.out rfl
  have c1 := keepsC (o := 1) HB.out rfl
  have c4 := keepsC (o := 4) HB.out rfl
  have ff := fun o => keepsF (o := o) HB.out
  have HFT := Asd.mk h.own
  clear h hcm
  have HK := Asd.mk (fun n : Int => HT.out.lefts n)
  have HK2 := Asd.mk (fun n k : Int => (HT.out.lefts n).lefts k)
  have HU := Asd.mk (fun n k : Int => (show Upd (fun i => i = m) w ((w.setCell ⟨m, 1, none⟩ (.int .i64 n)).setCell ⟨m, 1, none⟩ (.int .i64 k)) from (by repeat (first | assumption | with_reducible exact Upd.refl _ _ | with_reducible refine Upd.drewN ?_ _ | with_reducible refine Upd.drew ?_ | with_reducible refine Upd.alloc ?_ _ | with_reducible refine Upd.setAt ?_ ?_ | exact Or.inl rfl | exact Or.inr (by simp) | exact Or.inr (by omega)))).mono (T := F) (fun i hi e => by rw [e]; exact HFT.out))
  have HU1 := Asd.mk (fun n : Int => (show Upd (fun i => i = m) w (w.setCell ⟨m, 1, none⟩ (.int .i64 n)) from (by repeat (first | assumption | with_reducible exact Upd.refl _ _ | with_reducible refine Upd.drewN ?_ _ | with_reducible refine Upd.drew ?_ | with_reducible refine Upd.alloc ?_ _ | with_reducible refine Upd.setAt ?_ ?_ | exact Or.inl rfl | exact Or.inr (by simp) | exact Or.inr (by omega)))).mono (T := F) (fun i hi e => by rw [e]; exact HFT.out))
  clear HB
  by_cases hh : s.line = []
  · have hp : mtick s = s := if_pos hh
    rw [hp]
    rw [hh] at c4
    simp only [List.length_nil] at c4
    clear hp hh hc hq
    go_enter Try.func32, Try.ntmps32
    go_wp2
    go_end0
    exact MTurns.stay HT.out _
  · have hp : mtick s = if 1 < s.left then { s with left := s.left - 1 } else if 1 < s.line.length then moutI { s with left := s.lease } 0 else { s with left := s.lease } := if_neg hh
    have hlen : 0 < s.line.length := List.length_pos_iff.2 hh
    have hhb : ((s.line.length : Int) == 0) = false := beq_eq_false_iff_ne.2 (by omega)
    rw [hp]
    clear hp hh
    by_cases h1 : 1 < s.left
    · rw [if_pos h1]
      have h1b : (0 : Int) < s.left - 1 := by omega
      go_enter Try.func32, Try.ntmps32
      go_wp2
      go_end0
      exact ⟨rfl, F, HK.out _, HU1.out _, fun k h => .inl h⟩
    · rw [if_neg h1]
      have h1b : ¬ ((0 : Int) < s.left - 1) := by omega
      by_cases hqe : 1 < s.line.length
      · rw [if_pos hqe]
        have hqi : (1 : Int) < (s.line.length : Int) := by omega
        go_enter Try.func32, Try.ntmps32
        go_wp2_with fail
        refine (outi_calls (HK2.out (s.left - 1) s.lease) 0 (by simp only; omega) hq).mono ?_
        rintro e w2 ⟨rfl, F2, ht, hu, hf⟩
        have HE := Asd.mk (MTurns.then (HU.out (s.left - 1) s.lease) (fun k h => .inl h) ht hu hf)
        clear ht hu hf
        go_wp2
        go_end0
        exact ⟨rfl, HE.out⟩
      · rw [if_neg hqe]
        have hqi : ¬ (1 : Int) < (s.line.length : Int) := by omega
        go_enter Try.func32, Try.ntmps32
        go_wp2
        go_end0
        exact ⟨rfl, F, HK2.out _ _, HU.out _ _, fun k h => .inl h⟩
/-- The line when the floor is given. -/
def gfold (id : Int) : List Int → Nat → List Int → List Int
  | [], _, l => l
  | x :: r, i, l => gfold id r (i + 1) (if 0 < i ∧ x ≠ id then l ++ [x] else l)
def mgives (s : MT) (id : Int) : Int := if mmay s id ≠ 0 then mmay s id else if place s.line id 0 = 0 then 3 else 0
def mgive (s : MT) (id : Int) : MT := if mgives s id ≠ 0 then s else { s with line := gfold id s.line 0 [id], left := s.lease }
theorem OI1 (w : World) (id : Int) (g : Nat) (hg : g = w.heap.size) : OI (w.alloc (.cells #[.int .i64 id] 3)) (.slice (some ⟨g, 0, none⟩) ([id] : List Int).length 1) [id] (some g) := by
  subst hg
  have := Own.lit w 3 1 1 #[.int .i64 id] (by simp [maxLen]) rfl
  exact this
set_option maxHeartbeats 2000000 in
theorem mgive_calls (h : MB w m F s) (id : Int) (hid : idOk id) (hq : s.line.length ≤ 1000000) : Calls Try.prog 30 #[.pointer (some ⟨m, 0, none⟩), .int .i64 id] w (MTurns (.int .i64 (mgives s id)) (mgive s id) m F w) := by
  have HT := Asd.mk h
  obtain ⟨A, c, G, b, HB, HO, HM, HN, HF, hms, hc, hcm⟩ := h.cells
  clear hcm
  have c0 := keepsC (o := 0) HB.out rfl
  have c1 := keepsC (o := 1) HB.out rfl
  have c2 := keepsC (o := 2) HB.out rfl
  have c4 := keepsC (o := 4) HB.out rfl
  have ff := fun o => keepsF (o := o) HB.out
  have hl := looksR HM.out id hid
  clear h
  obtain ⟨p, hp⟩ : ∃ p, p = place s.line id 0 := ⟨_, rfl⟩
  have HP := Asd.mk hp
  clear hp
  have hHU : Upd (fun _ => False) w w := Upd.refl _ _
  cases hgs : rget s.roles id with
  | none =>
    have e1 : mgives s id = 2 := by unfold mgives mmay; rw [hgs]; rfl
    have e2 : mgive s id = s := by unfold mgive; rw [e1]; rfl
    rw [e1, e2]
    rw [hgs] at hl
    simp only [Option.getD_none, Option.isSome_none] at hl
    clear hgs e1 e2
    go_enter Try.func30, Try.ntmps30
    go_wp2
    go_ret
    exact MTurns.stay HT.out _
  | some r =>
    rw [hgs] at hl
    simp only [Option.getD_some, Option.isSome_some] at hl
    by_cases hr0 : r = 0
    · have e1 : mgives s id = 4 := by unfold mgives mmay; rw [hgs, hr0]; rfl
      have e2 : mgive s id = s := by unfold mgive; rw [e1]; rfl
      rw [e1, e2]
      rw [hr0] at hl
      clear hgs e1 e2 hr0
      go_enter Try.func30, Try.ntmps30
      go_wp2
      go_ret
      exact MTurns.stay HT.out _
    · have hrb : (r == 0) = false := beq_eq_false_iff_ne.2 hr0
      have e0 : mgives s id = if p = 0 then 3 else 0 := by unfold mgives mmay; rw [hgs, HP.out]; simp [hr0]
      clear hgs hr0
      by_cases h0 : p = 0
      · rw [if_pos h0] at e0
        have e2 : mgive s id = s := by unfold mgive; rw [e0]; rfl
        rw [e0, e2]
        have hpb : (p == 0) = true := beq_iff_eq.2 h0
        clear e0 e2 h0
        go_enter Try.func30, Try.ntmps30
        go_wp2_with fail
        refine (place_calls HT.out id).mono ?_
        rw [← HP.out]
        rintro e w1 ⟨rfl, rfl⟩
        go_wp2
        go_ret
        exact MTurns.stay HT.out _
      · rw [if_neg h0] at e0
        have hpb : (p == 0) = false := beq_eq_false_iff_ne.2 h0
        have e2 : mgive s id = { s with line := gfold id s.line 0 [id], left := s.lease } := by unfold mgive; rw [e0]; rfl
        rw [e0, e2]
        obtain ⟨fin, hfin⟩ : ∃ fin, fin = gfold id s.line 0 [id] := ⟨_, rfl⟩
        rw [← hfin]
        have HFIN := Asd.mk hfin
        clear e0 e2 h0 hfin
        go_enter Try.func30, Try.ntmps30
        go_wp2_with fail
        refine (place_calls HT.out id).mono ?_
        rw [← HP.out]
        rintro e w1 ⟨rfl, rfl⟩
        go_wp2
        have hm0 := OI1 w id _ rfl
        go_loopw [7, 37] (fun v7 v37 wr => ∃ (i : Nat) (A3 : Option Addr) (c3 : Nat) (G3 : Option Nat) (l : List Int), v37 = .int .i64 (i : Int) ∧ v7 = .slice A3 l.length c3 ∧ i ≤ s.line.length ∧ l.length ≤ i + 1 ∧ Asd (fin = gfold id (s.line.drop i) i l) ∧ Asd (OI wr (.slice A3 l.length c3) l G3) ∧ Asd (∀ g, G3 = some g → w.heap.size ≤ g) ∧ Upd (fun _ => False) w wr) (fun _ v37 _ => s.line.length - (intOf v37).toNat)
        case atStart => exact ⟨0, some ⟨w.heap.size, 0, none⟩, 1, some w.heap.size, [id], rfl, rfl, by omega, by simp, HFIN, ⟨hm0⟩, ⟨fun g e => by obtain rfl := Option.some.inj e; exact Nat.le_refl _⟩, (by repeat (first | assumption | with_reducible exact Upd.refl _ _ | with_reducible refine Upd.drewN ?_ _ | with_reducible refine Upd.drew ?_ | with_reducible refine Upd.alloc ?_ _ | with_reducible refine Upd.setAt ?_ ?_ | exact Or.inl rfl | exact Or.inr (by simp) | exact Or.inr (by omega)))⟩
        case round =>
          clear hm0
          obtain ⟨i, A3, c3, G3, l, rfl, rfl, hi, hll, HI, HO3, HG3, hU⟩ := hrel
          by_cases hlt : i < s.line.length
          · obtain ⟨ad, rfl, hcell⟩ := (HO.out.up hU).at i hlt
            have hst : gfold id (s.line.drop i) i l = gfold id (s.line.drop (i + 1)) (i + 1) (if 0 < i ∧ s.line[i] ≠ id then l ++ [s.line[i]] else l) := by
              rw [List.drop_eq_getElem_cons hlt, gfold]
            obtain ⟨x, hx⟩ : ∃ x, x = s.line[i] := ⟨_, rfl⟩
            rw [← hx] at hcell hst
            have cx := keeps hcell
            have hUr : Upd (fun _ => False) wr wr := Upd.refl _ _
            clear hx
            by_cases he : 0 < i ∧ x ≠ id
            · rw [if_pos he] at hst
              have HF2 := Asd.mk (HI.out.trans hst)
              have hb1 : (x != id) = true := bne_iff_ne.2 he.2
              have hb2 : (0 : Int) < (i : Int) := by omega
              have hi0 := he.1
              clear hst he
              go_wp2_with (with_reducible refine stop_append _ _ _ _ rfl ?_)
              refine wp_appendI (S := fun _ => False) (w0 := w) (hU.alloc _) rfl _ _ 31 3 rfl Try.underlying31 rfl infoI rfl rfl (HO3.out.up ((Upd.refl (fun _ => False) _).alloc _)) HG3.out (l2 := [x]) (m := 1) (c2 := 1) (Rd1 _ _) rfl (by omega) ?_
              intro A5 c5 w5 G5 hO5 hc5 hG5 hU5 _
              have HLL : Asd ((l ++ [x]).length ≤ i + 2) := ⟨by simp; omega⟩
              obtain ⟨l2, hl2⟩ : ∃ l2, l2 = l ++ [x] := ⟨_, rfl⟩
              rw [← hl2] at hO5 hc5 HF2 HLL
              rw [← hl2]
              have HO5 := Asd.mk hO5
              have HG5 := Asd.mk hG5
              clear hl2 hO5 hG5
              go_wp2
              go_roundw
              case rel => exact ⟨i + 1, A5, c5, G5, l2, by go_num, rfl, by omega, HLL.out, HF2, HO5, HG5, hU5⟩
              case measure => simp only [intOf]; omega
            · rw [if_neg he] at hst
              have HF2 := Asd.mk (HI.out.trans hst)
              clear hst
              by_cases hi0 : 0 < i
              · have hxe : x = id := Classical.byContradiction fun h => he ⟨hi0, h⟩
                have hb1 : (x != id) = false := by rw [hxe]; simp
                have hb2 : (0 : Int) < (i : Int) := by omega
                clear he hxe
                go_wp2
                go_roundw
                case rel => exact ⟨i + 1, A3, c3, G3, l, by go_num, rfl, by omega, by omega, HF2, HO3, HG3, hU⟩
                case measure => simp only [intOf]; omega
              · have hi00 : i = 0 := by omega
                subst hi00
                have cx0 : wr.cell? ad = some (.int .i64 x) := hcell
                clear he hi0 cx hcell
                go_wp2
                go_roundw
                case rel => exact ⟨1, A3, c3, G3, l, by go_num, rfl, by omega, by omega, HF2, HO3, HG3, hU⟩
                case measure => simp only [intOf]; omega
          · have hi2 : i = s.line.length := by omega
            subst hi2
            have HF2 : Asd (fin = l) := ⟨by rw [HI.out, List.drop_length, gfold]⟩
            have hb6 := Asd.mk (hU.blk HB.out (fun h => h))
            have hF6 : ∀ o, wr.frozen? ⟨m, o, none⟩ = false := fun o => ff o _ hU
            clear hlt
            go_wp2
            go_ret
            refine ⟨rfl, ?_⟩
            rw [HF2.out]
            exact MB.lined HB HM HN HF (hU.mono (fun _ _ h => h.elim)) HO3 ⟨.inr HG3.out⟩ (((Upd.refl (fun i => i = m) wr).setAt (.inl rfl)).setAt (.inl rfl)) (by rw [hp_same (hp_same hb6.out)]; rfl)
set_option maxHeartbeats 2000000 in
theorem mask_calls (h : MB w m F s) (id : Int) (hid : idOk id) (hq : s.line.length ≤ 1000000) : Calls Try.prog 28 #[.pointer (some ⟨m, 0, none⟩), .int .i64 id] w (MTurns (.int .i64 (masks s id)) (mask s id) m F w) := by
  have HT := Asd.mk h
  obtain ⟨A, c, G, b, HB, HO, HM, HN, HF, hms, hc, hcm⟩ := h.cells
  clear hcm
  have c2 := keepsC (o := 2) HB.out rfl
  have c4 := keepsC (o := 4) HB.out rfl
  have ff := fun o => keepsF (o := o) HB.out
  have hl := looksR HM.out id hid
  clear h
  obtain ⟨p, hp⟩ : ∃ p, p = place s.line id 0 := ⟨_, rfl⟩
  have HP := Asd.mk hp
  clear hp
  have hHU : Upd (fun _ => False) w w := Upd.refl _ _
  cases hgs : rget s.roles id with
  | none =>
    have e1 : masks s id = 2 := by unfold masks mmay; rw [hgs]; rfl
    have e2 : mask s id = s := by unfold mask; rw [e1]; rfl
    rw [e1, e2]
    rw [hgs] at hl
    simp only [Option.getD_none, Option.isSome_none] at hl
    clear hgs e1 e2
    go_enter Try.func28, Try.ntmps28
    go_wp2
    go_ret
    exact MTurns.stay HT.out _
  | some r =>
    rw [hgs] at hl
    simp only [Option.getD_some, Option.isSome_some] at hl
    by_cases hr0 : r = 0
    · have e1 : masks s id = 4 := by unfold masks mmay; rw [hgs, hr0]; rfl
      have e2 : mask s id = s := by unfold mask; rw [e1]; rfl
      rw [e1, e2]
      rw [hr0] at hl
      clear hgs e1 e2 hr0
      go_enter Try.func28, Try.ntmps28
      go_wp2
      go_ret
      exact MTurns.stay HT.out _
    · have hrb : (r == 0) = false := beq_eq_false_iff_ne.2 hr0
      have e0 : masks s id = if 0 ≤ p then 3 else 0 := by unfold masks mmay; rw [hgs, HP.out]; simp [hr0]
      clear hgs hr0
      by_cases h0 : 0 ≤ p
      · rw [if_pos h0] at e0
        have e2 : mask s id = s := by unfold mask; rw [e0]; rfl
        rw [e0, e2]
        clear e0 e2
        go_enter Try.func28, Try.ntmps28
        go_wp2_with fail
        refine (place_calls HT.out id).mono ?_
        rw [← HP.out]
        rintro e w1 ⟨rfl, rfl⟩
        go_wp2
        go_ret
        exact MTurns.stay HT.out _
      · rw [if_neg h0] at e0
        have e2 : mask s id = { s with line := s.line ++ [id], left := if s.line = [] then s.lease else s.left } := by unfold mask; rw [e0]; rfl
        rw [e0, e2]
        obtain ⟨L', hL⟩ : ∃ L', L' = if s.line = [] then s.lease else s.left := ⟨_, rfl⟩
        rw [← hL]
        have HL := Asd.mk hL
        clear e0 e2 hL
        go_enter Try.func28, Try.ntmps28
        go_wp2_with fail
        refine (place_calls HT.out id).mono ?_
        rw [← HP.out]
        rintro e w1 ⟨rfl, rfl⟩
        clear hl
        go_wp2_with (with_reducible refine stop_append _ _ _ _ rfl ?_)
        refine wp_appendO rfl _ _ 31 3 rfl Try.underlying31 rfl infoI (by rfl) (by rfl) (HO.out.up ((Upd.refl (fun _ => False) w).alloc _)) (l2 := [id]) (m := 1) (c2 := 1) (Rd1 _ _) rfl (by omega) ?_
        intro A5 c5 w5 G5 hO5 hc5 hG5 hU5
        have HG5 : Asd (G5 = G ∨ ∀ g, G5 = some g → w.heap.size ≤ g) := ⟨hG5.imp (fun h => h) (fun h g e => by have := h g e; simp at this; omega)⟩
        have hu5 : Upd (fun k => some k = G) w w5 := (((Upd.refl (fun _ => False) w).alloc _).mono (fun _ _ h => h.elim)).trans hU5 (fun i hi h => h)
        have hb5 := hu5.blk HB.out HN.out.2.1
        have HLL : Asd ((s.line ++ [id]).length = s.line.length + 1) := ⟨by simp⟩
        obtain ⟨l2, hl2⟩ : ∃ l2, l2 = s.line ++ [id] := ⟨_, rfl⟩
        rw [← hl2] at hO5 hc5 HLL
        rw [← hl2]
        have HQE := Asd.mk hl2
        have HB5 := Asd.mk hb5
        have HO5 := Asd.mk hO5
        have d0 := keepsC (o := 0) hb5 rfl
        have d1 := keepsC (o := 1) hb5 rfl
        have d4 := keepsC (o := 4) hb5 rfl
        have f5 := fun o => keepsF (o := o) hb5
        have hk5 : Upd (fun _ => False) w5 w5 := Upd.refl _ _
        have HU5 := Asd.mk hu5
        clear hl2 hO5 hG5 hU5 hu5 hb5 c2 c4 ff hHU hc5
        by_cases hle : s.line = []
        · have HL2 := Asd.mk (HL.out.trans (if_pos hle))
          have hb1 : ((l2.length : Int) == 1) = true := beq_iff_eq.2 (by rw [HLL.out, hle]; rfl)
          clear hle HL
          go_wp2
          go_ret
          refine ⟨rfl, ?_⟩
          have hqe := HQE.out
          rw [HL2.out, ← hqe]
          exact MB.lined HB HM HN HF HU5.out HO5 HG5 (((Upd.refl (fun i => i = m) w5).setAt (.inl rfl)).setAt (.inl rfl)) (by rw [hp_same (hp_same HB5.out)]; rfl)
        · have HL2 := Asd.mk (HL.out.trans (if_neg hle))
          have hlen : 0 < s.line.length := List.length_pos_iff.2 hle
          have hb1 : ((l2.length : Int) == 1) = false := beq_eq_false_iff_ne.2 (by rw [HLL.out]; omega)
          clear hle HL
          go_wp2
          go_ret
          refine ⟨rfl, ?_⟩
          have hqe := HQE.out
          rw [HL2.out, ← hqe]
          exact MB.lined HB HM HN HF HU5.out HO5 HG5 ((Upd.refl (fun i => i = m) w5).setAt (.inl rfl)) (by rw [hp_same HB5.out]; rfl)
end
end Go.Proofs.Ytaeafnpldlcdnaa.Fl
