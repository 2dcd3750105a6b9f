/- What these laws lean on, part Vi: contracts of the given program's functions and plain lists. No condition. -/
import Derived.Test.YteepkanbiefpjaaGreatDoorVh
import Derived.Test.YteepkanbiefpjaaGreatDoorVa
set_option linter.unusedVariables false
set_option linter.unusedSimpArgs false
namespace Go.Proofs.YteepkanbiefpjaaGreatDoor.Bk
open Go.RowKit K
open MgRow (M)
set_option maxHeartbeats 1000000 in
theorem own_calls (k : Int) (w : World) : Calls Tryz.prog 129 #[.int .i64 k] w fun e w' => e = .returned (.bool (own k)) ∧ w = w' := by
  obtain ⟨y, hy⟩ : ∃ y, y = own k := ⟨_, rfl⟩
  rw [← hy]
  rcases (by omega : k = 5 ∨ (k ≠ 5 ∧ 6 ≤ k ∧ k ≤ 9) ∨ k = 11 ∨ (k ≠ 5 ∧ k < 6 ∧ k ≠ 11) ∨ (9 < k ∧ k ≠ 11)) with rfl | ⟨h1, h2, h3⟩ | rfl | ⟨h1, h2, h3⟩ | ⟨h2, h3⟩
  · have e : y = true := by rw [hy]; rfl
    subst e
    clear hy
    go_enter Tryz.func129, Tryz.ntmps129
    go_wp2
    go_ret
    exact ⟨rfl, rfl⟩
  · have e : y = true := by rw [hy]; unfold own; simp; omega
    subst e
    clear hy
    have n1 : (k == 5) = false := beq_eq_false_iff_ne.2 h1
    go_enter Tryz.func129, Tryz.ntmps129
    go_wp2
    go_ret
    exact ⟨rfl, rfl⟩
  · have e : y = true := by rw [hy]; rfl
    subst e
    clear hy
    go_enter Tryz.func129, Tryz.ntmps129
    go_wp2
    go_ret
    exact ⟨rfl, rfl⟩
  · have e : y = false := by rw [hy]; unfold own; simp; omega
    subst e
    clear hy
    have n1 : (k == 5) = false := beq_eq_false_iff_ne.2 h1
    have n2 : ¬ 6 ≤ k := by omega
    have n3 : (k == 11) = false := beq_eq_false_iff_ne.2 h3
    go_enter Tryz.func129, Tryz.ntmps129
    go_wp2
    go_ret
    exact ⟨rfl, rfl⟩
  · have e : y = false := by rw [hy]; unfold own; simp; omega
    subst e
    clear hy
    have n1 : (k == 5) = false := beq_eq_false_iff_ne.2 (by omega)
    have n2 : ¬ k ≤ 9 := by omega
    have n3 : (k == 11) = false := beq_eq_false_iff_ne.2 h3
    have n4 : 6 ≤ k := by omega
    go_enter Tryz.func129, Tryz.ntmps129
    go_wp2
    go_ret
    exact ⟨rfl, rfl⟩
section
variable {w w' : World} {L : Lay} {s : Br} {F : Nat → Prop} {id : Int} {c : Cn}
def userV (L : Lay) (s : Br) (n : Int) : Value := match userOf s n with
  | some _ => .pointer (some ⟨(L.cn n).p, 0, none⟩)
  | none => .pointer none
set_option maxHeartbeats 2000000 in
theorem user_calls (h : Bt L w s F) (n : Int) (hn : -9223372036854775808 ≤ n ∧ n ≤ 9223372036854775807) : Calls Tryz.prog 76 #[ptr L.q, .int .i64 n] w fun e w' => e = .returned (userV L s n) ∧ w = w' := by
  obtain ⟨y, hy⟩ : ∃ y, y = userV L s n := ⟨_, rfl⟩
  rw [← hy]
  have hq := keepsC (o := 12) (v := .map (some L.m)) h.own rfl
  have hlook := h.look n hn
  have hs : Upd (fun _ => False) w w := Upd.refl _ _
  by_cases h16 : 16 < n
  · have e : y = .pointer none := by rw [hy]; unfold userV userOf; rw [if_pos h16]
    subst e
    clear hy h
    go_enter Tryz.func76, Tryz.ntmps76
    go_wp2
    go_ret
    exact ⟨rfl, rfl⟩
  cases hg : get s n with
  | none =>
    have e : y = .pointer none := by rw [hy]; unfold userV userOf; rw [if_neg h16, hg]
    subst e
    rw [hg] at hlook
    simp only at hlook
    clear hy h hg
    go_enter Tryz.func76, Tryz.ntmps76
    go_wp2
    go_ret
    exact ⟨rfl, rfl⟩
  | some c =>
    obtain ⟨v, hb⟩ := h.conn hg
    have b1 := keepsC (o := 1) (v := .int .i64 c.st) hb rfl
    rw [hg] at hlook
    simp only at hlook
    by_cases h1 : c.st = 1
    · have e : y = .pointer (some ⟨(L.cn n).p, 0, none⟩) := by rw [hy]; unfold userV userOf; rw [if_neg h16, hg]; simp only; rw [if_pos h1]
      have hb1 : (c.st == 1) = true := beq_iff_eq.2 h1
      subst e
      clear hy h hg hb h1
      go_enter Tryz.func76, Tryz.ntmps76
      go_wp2
      go_ret
      exact ⟨rfl, rfl⟩
    · have e : y = .pointer none := by rw [hy]; unfold userV userOf; rw [if_neg h16, hg]; simp only; rw [if_neg h1]
      have hb1 : (c.st == 1) = false := beq_eq_false_iff_ne.2 h1
      subst e
      clear hy h hg hb h1
      go_enter Tryz.func76, Tryz.ntmps76
      go_wp2
      go_ret
      exact ⟨rfl, rfl⟩
set_option maxHeartbeats 8000000 in
set_option maxRecDepth 100000 in
theorem toOther_calls (h : Bt L w s F) (ho : Ok s) (k n : Int) (hk : 6 ≤ k ∧ k ≤ 9) (hn : -9223372036854775808 ≤ n ∧ n ≤ 9223372036854775807) : Calls Tryz.prog 135 #[ptr L.q, .agg #[.int .i64 k, .int .i64 n]] w (Goes L (toOther s k n).1 F w (.bool (toOther s k n).2)) := by
  obtain ⟨y, hy⟩ : ∃ y, y = toOther s k n := ⟨_, rfl⟩
  rw [← hy]
  have H := Asd.mk h
  have HO := Asd.mk ho
  have HY := Asd.mk hy
  have hk1 := (Upd.refl (fun _ => False) w).alloc (.cells #[.int .i64 k, .int .i64 n] 44)
  have hm1 := heap_alloc_new w (.cells #[.int .i64 k, .int .i64 n] 44)
  have hs1 := Upd.refl (fun _ => False) (w.alloc (.cells #[.int .i64 k, .int .i64 n] 44))
  have o0 := keepsC (o := 0) (v := .int .i64 k) hm1 rfl
  have o1 := keepsC (o := 1) (v := .int .i64 n) hm1 rfl
  clear h ho hy hm1
  cases hu : userOf s n with
  | none =>
    have HU : Asd (userV L s n = .pointer none) := ⟨by unfold userV; rw [hu]⟩
    have HE : Asd (y = (s, false)) := ⟨by rw [HY.out]; unfold toOther; rw [hu]⟩
    clear hu
    go_enter Tryz.func135, Tryz.ntmps135
    go_wp2_with fail
    refine (user_calls (H.out.up hk1) n hn).mono ?_
    rw [HU.out]
    rintro e w2 ⟨rfl, rfl⟩
    go_wp2
    go_ret
    exact ⟨by rw [HE.out]; rfl, F, by rw [HE.out]; exact H.out.up hk1, Tn.grow F hk1⟩
  | some c =>
    have HU : Asd (userV L s n = .pointer (some ⟨(L.cn n).p, 0, none⟩)) := ⟨by unfold userV; rw [hu]⟩
    have hgn : get s n = some c ∧ c.st = 1 := by
      unfold userOf at hu
      split at hu
      · cases hu
      · cases hg : get s n with
        | none => rw [hg] at hu; cases hu
        | some x =>
          rw [hg] at hu
          simp only at hu
          split at hu
          · rename_i hx; cases hu; exact ⟨rfl, hx⟩
          · cases hu
    have HU2 := Asd.mk hu
    have HG := Asd.mk hgn.1
    have HIR := Asd.mk (HO.out.rng n (get_ids hgn.1))
    clear hu hgn
    obtain ⟨v, hb⟩ := (H.out.up hk1).conn HG.out
    have q10 := keepsC (o := 10) (v := .pointer (some ⟨L.tb, 0, none⟩)) (H.out.up hk1).own rfl
    have b0 := keepsC (o := 0) (v := .int .i64 n) hb rfl
    have HH := Asd.mk (H.out.up hk1)
    clear hb
    rcases (by omega : k = 6 ∨ k = 7 ∨ k = 8 ∨ k = 9) with rfl | rfl | rfl | rfl
    · have HE : Asd (y = (wTab s (Fl.give s.tab n), Fl.may s.tab n == 0)) := ⟨by rw [HY.out]; unfold toOther; rw [HU2.out]; rfl⟩
      go_enter Tryz.func135, Tryz.ntmps135
      go_wp2_with fail
      refine (user_calls HH.out n hn).mono ?_
      rw [HU.out]
      rintro e w2 ⟨rfl, rfl⟩
      go_wp2
      generalize hw1 : w.alloc (.cells #[.int .i64 6, .int .i64 n] 44) = w1 at hk1 hs1 o0 o1 q10 b0 HH ⊢
      clear hw1
      refine wp_region_held_drew (S := fun W => W.cell? ⟨L.q, 10, none⟩ = some (.pointer (some ⟨L.tb, 0, none⟩)) ∧ W.cell? ⟨(L.cn n).p, 0, none⟩ = some (.int .i64 n)) (by kernel_rfl) (by exact ⟨q10 _ (by repeat (first | assumption | with_reducible exact Upd.refl _ _ | with_reducible refine Upd.drewN ?_ _ | with_reducible refine Upd.drew ?_ | with_reducible refine Upd.alloc ?_ _ | with_reducible refine Upd.setAt ?_ ?_ | exact Or.inl rfl | exact Or.inr (by simp) | exact Or.inr (by omega))), b0 _ (by repeat (first | assumption | with_reducible exact Upd.refl _ _ | with_reducible refine Upd.drewN ?_ _ | with_reducible refine Upd.drew ?_ | with_reducible refine Upd.alloc ?_ _ | with_reducible refine Upd.setAt ?_ ?_ | exact Or.inl rfl | exact Or.inr (by simp) | exact Or.inr (by omega)))⟩) (fun hHeld => ?_)
      refine tk_ 0 ?_
      try simp only [Act.put, sl1_, sl2_, sl3_]
      refine tk_ 1 ?_
      try simp only [Act.put, sl1_, sl2_, sl3_]
      refine tk_ 2 ?_
      try simp only [Act.put, sl1_, sl2_, sl3_]
      refine tk_ 3 ?_
      try simp only [Act.put, sl1_, sl2_, sl3_]
      refine tk_ 4 ?_
      try simp only [Act.put, sl1_, sl2_, sl3_]
      refine tk_ 5 ?_
      try simp only [Act.put, sl1_, sl2_, sl3_]
      refine tk_ 6 ?_
      try simp only [Act.put, sl1_, sl2_, sl3_]
      refine tk_ 7 ?_
      try simp only [Act.put, sl1_, sl2_, sl3_]
      refine wpAnyH_ready (rs := [8]) (by kernel_rfl) (by simp) (AllReadyH.cons (o := ?_) ?_ (fun K hK => ?_) AllReadyH.nil)
      rotate_left 1
      · (simp only [List.getElem?_toArray, List.getElem?_cons_succ, List.getElem?_cons_zero]; exact rfl)
      (go_simp; (go_at_call 164; obtain ⟨Ft, hT, _, hput⟩ := (HH.out.up (show Upd (fun _ => False) w1 w1.drew from (by repeat (first | assumption | with_reducible exact Upd.refl _ _ | with_reducible refine Upd.drewN ?_ _ | with_reducible refine Upd.drew ?_ | with_reducible refine Upd.alloc ?_ _ | with_reducible refine Upd.setAt ?_ ?_ | exact Or.inl rfl | exact Or.inr (by simp) | exact Or.inr (by omega))))).table; refine (Fl.give_calls hT n ⟨by have := HIR.out; omega, by have := HIR.out; omega⟩ (by have := HO.out.g.lens; omega)).mono ?_; rintro e w9 ⟨rfl, Ft', hT2, hu2, hn2⟩; obtain ⟨F9, h9, t9⟩ := hput w9 _ Ft' hT2 hu2 hn2; have H9 := Asd.mk h9; have T9 := Asd.mk ((Tn.grow F (show Upd (fun _ => False) w1 w1.drew from (by repeat (first | assumption | with_reducible exact Upd.refl _ _ | with_reducible refine Upd.drewN ?_ _ | with_reducible refine Upd.drew ?_ | with_reducible refine Upd.alloc ?_ _ | with_reducible refine Upd.setAt ?_ ?_ | exact Or.inl rfl | exact Or.inr (by simp) | exact Or.inr (by omega))))).trans t9); obtain ⟨v9, hb9⟩ := h9.conn (show get (wTab s (Fl.give s.tab n)) n = _ from HG.out); have HC9 := Asd.mk (And.intro (keepsC (o := 10) (v := .pointer (some ⟨L.tb, 0, none⟩)) h9.own rfl _ (Upd.refl _ _)) (keepsC (o := 0) (v := .int .i64 n) hb9 rfl _ (Upd.refl _ _))); clear hT hput hT2 hu2 hn2 h9 t9 hb9))
      refine hK.out _ _ (by exact HC9.out) (fun hHeld => ?_)
      clear hK K
      try simp only [Act.put, List.setIfInBounds_toArray, List.set_cons_zero, List.set_cons_succ]
      refine tk_ 9 ?_
      try simp only [Act.put, sl1_, sl2_, sl3_]
      refine tk_ 10 ?_
      try simp only [Act.put, sl1_, sl2_, sl3_]
      refine wpAnyH_done (by kernel_rfl) ?_ _
      clear q10 b0 o0 o1 hs1
      go_wp2
      go_ret
      exact ⟨by rw [HE.out]; rfl, F9, by rw [HE.out]; exact H9.out, (Tn.grow F hk1).trans T9.out⟩
    · have HE : Asd (y = (shut s n 5, true)) := ⟨by rw [HY.out]; unfold toOther; rw [HU2.out]; rfl⟩
      go_enter Tryz.func135, Tryz.ntmps135
      go_wp2_with fail
      refine (user_calls HH.out n hn).mono ?_
      rw [HU.out]
      rintro e w2 ⟨rfl, rfl⟩
      go_wp2_with fail
      refine (shut_calls HH.out HO.out HG.out 5).mono ?_
      rintro e w3 ⟨rfl, F3, h3, t3⟩
      have H3 := Asd.mk h3
      have T3 := Asd.mk ((Tn.grow F hk1).trans t3)
      clear h3 t3
      go_wp2
      go_ret
      exact ⟨by rw [HE.out]; rfl, F3, by rw [HE.out]; exact H3.out, T3.out⟩
    · have HE : Asd (y = (wTab s (Fl.setRole s.tab n 1), Fl.sets s.tab n 1)) := ⟨by rw [HY.out]; unfold toOther; rw [HU2.out]; rfl⟩
      go_enter Tryz.func135, Tryz.ntmps135
      go_wp2_with fail
      refine (user_calls HH.out n hn).mono ?_
      rw [HU.out]
      rintro e w2 ⟨rfl, rfl⟩
      go_wp2
      generalize hw1 : w.alloc (.cells #[.int .i64 8, .int .i64 n] 44) = w1 at hk1 hs1 o0 o1 q10 b0 HH ⊢
      clear hw1
      refine wp_region_held_drew (S := fun W => W.cell? ⟨L.q, 10, none⟩ = some (.pointer (some ⟨L.tb, 0, none⟩)) ∧ W.cell? ⟨(L.cn n).p, 0, none⟩ = some (.int .i64 n)) (by kernel_rfl) (by exact ⟨q10 _ (by repeat (first | assumption | with_reducible exact Upd.refl _ _ | with_reducible refine Upd.drewN ?_ _ | with_reducible refine Upd.drew ?_ | with_reducible refine Upd.alloc ?_ _ | with_reducible refine Upd.setAt ?_ ?_ | exact Or.inl rfl | exact Or.inr (by simp) | exact Or.inr (by omega))), b0 _ (by repeat (first | assumption | with_reducible exact Upd.refl _ _ | with_reducible refine Upd.drewN ?_ _ | with_reducible refine Upd.drew ?_ | with_reducible refine Upd.alloc ?_ _ | with_reducible refine Upd.setAt ?_ ?_ | exact Or.inl rfl | exact Or.inr (by simp) | exact Or.inr (by omega)))⟩) (fun hHeld => ?_)
      refine tk_ 0 ?_
      try simp only [Act.put, sl1_, sl2_, sl3_]
      refine tk_ 1 ?_
      try simp only [Act.put, sl1_, sl2_, sl3_]
      refine tk_ 2 ?_
      try simp only [Act.put, sl1_, sl2_, sl3_]
      refine tk_ 3 ?_
      try simp only [Act.put, sl1_, sl2_, sl3_]
      refine tk_ 4 ?_
      try simp only [Act.put, sl1_, sl2_, sl3_]
      refine tk_ 5 ?_
      try simp only [Act.put, sl1_, sl2_, sl3_]
      refine tk_ 6 ?_
      try simp only [Act.put, sl1_, sl2_, sl3_]
      refine tk_ 7 ?_
      try simp only [Act.put, sl1_, sl2_, sl3_]
      refine wpAnyH_ready (rs := [8]) (by kernel_rfl) (by simp) (AllReadyH.cons (o := ?_) ?_ (fun K hK => ?_) AllReadyH.nil)
      rotate_left 1
      · (simp only [List.getElem?_toArray, List.getElem?_cons_succ, List.getElem?_cons_zero]; exact rfl)
      (go_simp; (go_at_call 165; obtain ⟨Ft, hT, _, hput⟩ := (HH.out.up (show Upd (fun _ => False) w1 w1.drew from (by repeat (first | assumption | with_reducible exact Upd.refl _ _ | with_reducible refine Upd.drewN ?_ _ | with_reducible refine Upd.drew ?_ | with_reducible refine Upd.alloc ?_ _ | with_reducible refine Upd.setAt ?_ ?_ | exact Or.inl rfl | exact Or.inr (by simp) | exact Or.inr (by omega))))).table; refine (Fl.set_calls hT n 1 ⟨by have := HIR.out; omega, by have := HIR.out; omega⟩ (by have := HO.out.g.lens; omega) (by have := HO.out.g.lens; omega)).mono ?_; rintro e w9 ⟨rfl, Ft', hT2, hu2, hn2⟩; obtain ⟨F9, h9, t9⟩ := hput w9 _ Ft' hT2 hu2 hn2; have H9 := Asd.mk h9; have T9 := Asd.mk ((Tn.grow F (show Upd (fun _ => False) w1 w1.drew from (by repeat (first | assumption | with_reducible exact Upd.refl _ _ | with_reducible refine Upd.drewN ?_ _ | with_reducible refine Upd.drew ?_ | with_reducible refine Upd.alloc ?_ _ | with_reducible refine Upd.setAt ?_ ?_ | exact Or.inl rfl | exact Or.inr (by simp) | exact Or.inr (by omega))))).trans t9); obtain ⟨v9, hb9⟩ := h9.conn (show get (wTab s (Fl.setRole s.tab n 1)) n = _ from HG.out); have HC9 := Asd.mk (And.intro (keepsC (o := 10) (v := .pointer (some ⟨L.tb, 0, none⟩)) h9.own rfl _ (Upd.refl _ _)) (keepsC (o := 0) (v := .int .i64 n) hb9 rfl _ (Upd.refl _ _))); clear hT hput hT2 hu2 hn2 h9 t9 hb9))
      refine hK.out _ _ (by exact HC9.out) (fun hHeld => ?_)
      clear hK K
      try simp only [Act.put, List.setIfInBounds_toArray, List.set_cons_zero, List.set_cons_succ]
      refine tk_ 9 ?_
      try simp only [Act.put, sl1_, sl2_, sl3_]
      refine wpAnyH_done (by kernel_rfl) ?_ _
      clear q10 b0 o0 o1 hs1
      go_wp2
      go_ret
      exact ⟨by rw [HE.out]; rfl, F9, by rw [HE.out]; exact H9.out, (Tn.grow F hk1).trans T9.out⟩
    · have HE : Asd (y = (wTab s (Fl.setRole s.tab n 0), Fl.sets s.tab n 0)) := ⟨by rw [HY.out]; unfold toOther; rw [HU2.out]; rfl⟩
      go_enter Tryz.func135, Tryz.ntmps135
      go_wp2_with fail
      refine (user_calls HH.out n hn).mono ?_
      rw [HU.out]
      rintro e w2 ⟨rfl, rfl⟩
      go_wp2
      generalize hw1 : w.alloc (.cells #[.int .i64 9, .int .i64 n] 44) = w1 at hk1 hs1 o0 o1 q10 b0 HH ⊢
      clear hw1
      refine wp_region_held_drew (S := fun W => W.cell? ⟨L.q, 10, none⟩ = some (.pointer (some ⟨L.tb, 0, none⟩)) ∧ W.cell? ⟨(L.cn n).p, 0, none⟩ = some (.int .i64 n)) (by kernel_rfl) (by exact ⟨q10 _ (by repeat (first | assumption | with_reducible exact Upd.refl _ _ | with_reducible refine Upd.drewN ?_ _ | with_reducible refine Upd.drew ?_ | with_reducible refine Upd.alloc ?_ _ | with_reducible refine Upd.setAt ?_ ?_ | exact Or.inl rfl | exact Or.inr (by simp) | exact Or.inr (by omega))), b0 _ (by repeat (first | assumption | with_reducible exact Upd.refl _ _ | with_reducible refine Upd.drewN ?_ _ | with_reducible refine Upd.drew ?_ | with_reducible refine Upd.alloc ?_ _ | with_reducible refine Upd.setAt ?_ ?_ | exact Or.inl rfl | exact Or.inr (by simp) | exact Or.inr (by omega)))⟩) (fun hHeld => ?_)
      refine tk_ 0 ?_
      try simp only [Act.put, sl1_, sl2_, sl3_]
      refine tk_ 1 ?_
      try simp only [Act.put, sl1_, sl2_, sl3_]
      refine tk_ 2 ?_
      try simp only [Act.put, sl1_, sl2_, sl3_]
      refine tk_ 3 ?_
      try simp only [Act.put, sl1_, sl2_, sl3_]
      refine tk_ 4 ?_
      try simp only [Act.put, sl1_, sl2_, sl3_]
      refine tk_ 5 ?_
      try simp only [Act.put, sl1_, sl2_, sl3_]
      refine tk_ 6 ?_
      try simp only [Act.put, sl1_, sl2_, sl3_]
      refine tk_ 7 ?_
      try simp only [Act.put, sl1_, sl2_, sl3_]
      refine wpAnyH_ready (rs := [8]) (by kernel_rfl) (by simp) (AllReadyH.cons (o := ?_) ?_ (fun K hK => ?_) AllReadyH.nil)
      rotate_left 1
      · (simp only [List.getElem?_toArray, List.getElem?_cons_succ, List.getElem?_cons_zero]; exact rfl)
      (go_simp; (go_at_call 165; obtain ⟨Ft, hT, _, hput⟩ := (HH.out.up (show Upd (fun _ => False) w1 w1.drew from (by repeat (first | assumption | with_reducible exact Upd.refl _ _ | with_reducible refine Upd.drewN ?_ _ | with_reducible refine Upd.drew ?_ | with_reducible refine Upd.alloc ?_ _ | with_reducible refine Upd.setAt ?_ ?_ | exact Or.inl rfl | exact Or.inr (by simp) | exact Or.inr (by omega))))).table; refine (Fl.set_calls hT n 0 ⟨by have := HIR.out; omega, by have := HIR.out; omega⟩ (by have := HO.out.g.lens; omega) (by have := HO.out.g.lens; omega)).mono ?_; rintro e w9 ⟨rfl, Ft', hT2, hu2, hn2⟩; obtain ⟨F9, h9, t9⟩ := hput w9 _ Ft' hT2 hu2 hn2; have H9 := Asd.mk h9; have T9 := Asd.mk ((Tn.grow F (show Upd (fun _ => False) w1 w1.drew from (by repeat (first | assumption | with_reducible exact Upd.refl _ _ | with_reducible refine Upd.drewN ?_ _ | with_reducible refine Upd.drew ?_ | with_reducible refine Upd.alloc ?_ _ | with_reducible refine Upd.setAt ?_ ?_ | exact Or.inl rfl | exact Or.inr (by simp) | exact Or.inr (by omega))))).trans t9); obtain ⟨v9, hb9⟩ := h9.conn (show get (wTab s (Fl.setRole s.tab n 0)) n = _ from HG.out); have HC9 := Asd.mk (And.intro (keepsC (o := 10) (v := .pointer (some ⟨L.tb, 0, none⟩)) h9.own rfl _ (Upd.refl _ _)) (keepsC (o := 0) (v := .int .i64 n) hb9 rfl _ (Upd.refl _ _))); clear hT hput hT2 hu2 hn2 h9 t9 hb9))
      refine hK.out _ _ (by exact HC9.out) (fun hHeld => ?_)
      clear hK K
      try simp only [Act.put, List.setIfInBounds_toArray, List.set_cons_zero, List.set_cons_succ]
      refine tk_ 9 ?_
      try simp only [Act.put, sl1_, sl2_, sl3_]
      refine wpAnyH_done (by kernel_rfl) ?_ _
      clear q10 b0 o0 o1 hs1
      go_wp2
      go_ret
      exact ⟨by rw [HE.out]; rfl, F9, by rw [HE.out]; exact H9.out, (Tn.grow F hk1).trans T9.out⟩
end
end Go.Proofs.YteepkanbiefpjaaGreatDoor.Bk
set_option linter.unusedVariables false
set_option linter.unusedSimpArgs false
namespace Go.Proofs.YteepkanbiefpjaaGreatDoor.Bk
open Go.RowKit K
open MgRow (M)
set_option maxHeartbeats 1000000 in
theorem again_calls {w : World} {q g n v a st : Nat} {l : List UInt8} (h : Rg.Ring w q g n l) (hv : Vw.V w v a st) (back : Int) (hb : -9223372036854775808 ≤ back ∧ back ≤ 9223372036854775807) :
    Calls Tryz.prog 134 #[.pointer (some ⟨v, 0, none⟩), .pointer (some ⟨q, 0, none⟩), .int .i64 back] w fun e w' => e = .returned (.tuple #[]) ∧ Vw.V w' v (Vw.startN l n back false) st ∧ Upd (fun i => i = v) w w' := by
  have HV := Asd.mk hv
  have HR := Asd.mk h
  have hb0 : w.heap[v]? = some (.cells #[.int .i64 (a : Int), .int .i64 (st : Int)] 169 (0, 0)) := hv
  clear h hv
  go_enter Tryz.func134, Tryz.ntmps134
  go_wp2_with fail
  refine (Vw.start_calls HR.out back hb false).mono ?_
  rintro e w1 ⟨rfl, hu⟩
  have hb1 := hu.blk hb0 (fun h => h)
  have c0 := keepsC (o := 0) (v := .int .i64 (a : Int)) hb1 rfl
  have cf := fun o => keepsF (o := o) hb1
  have hs : Upd (fun _ => False) w1 w1 := Upd.refl _ _
  have HU := Asd.mk hu
  have HB1 := Asd.mk hb1
  clear hb0 hb1 hu
  go_wp2
  go_end0
  exact ⟨rfl, blk_setCell (o := 0) HB1.out _, (HU.out.mono (T := fun i => i = v) (fun _ _ h => h.elim)).setCell (fun _ => rfl) _⟩
section
variable {w w' : World} {L : Lay} {s : Br} {F : Nat → Prop} {id : Int} {c : Cn}
theorem list_next {id : Int} {K : List Int} {i : Nat} {f : Br → Int → Br} (st : Br) (h : K.drop i = id :: K.drop (i + 1)) : (K.drop i).foldl f st = (K.drop (i + 1)).foldl f (f st id) := by rw [h, List.foldl_cons]
set_option maxHeartbeats 8000000 in
set_option maxRecDepth 100000 in
theorem list_calls (h : Bt L w s F) (ho : Ok s) (hg : get s id = some c) (hnm : ∀ j x, get s j = some x → x.name.length ≤ 3000) : Calls Tryz.prog 132 #[ptr L.q, ptr (L.cn id).p] w (Goes L (listN s id) F w (.tuple #[])) := by
  have H := Asd.mk h
  have HO := Asd.mk ho
  have HG := Asd.mk hg
  have HNM := Asd.mk hnm
  obtain ⟨Ft, hT, hFt, _⟩ := h.table
  have HT := Asd.mk hT
  have q10 := keepsC (o := 10) (v := .pointer (some ⟨L.tb, 0, none⟩)) h.own rfl
  have hs : Upd (fun _ => False) w w := Upd.refl _ _
  have hlen := ho.g.lens.2
  have hkl : (Fl.keys s.tab).length = s.tab.roles.length := by simp [Fl.keys]
  clear h ho hg hnm hT
  go_enter Tryz.func132, Tryz.ntmps132
  go_wp2_with fail
  refine (Fl.users_calls HT.out (by omega)).mono ?_
  rintro e w1 ⟨A, cc, G, rfl, hO, hGn, hu⟩
  obtain ⟨N, hN⟩ : ∃ N, N = (Fl.keys s.tab).length := ⟨_, rfl⟩
  have hN16 : N ≤ 16 := by omega
  have HN := Asd.mk hN
  rw [← hN]
  have HOI := Asd.mk hO
  have HGn := Asd.mk hGn
  have HU := Asd.mk hu
  obtain ⟨KK, hKK⟩ : ∃ KK, KK = Fl.keys s.tab := ⟨_, rfl⟩
  rw [← hKK] at HN HOI
  have HKK := Asd.mk hKK
  clear hO hGn hu hN hkl hlen q10 HT hs hKK
  go_wp2
  go_loopw [15] (fun v15 wr => ∃ (i : Nat) (st : Br) (F1 : Nat → Prop), v15 = .int .i64 (i : Int) ∧ i ≤ N ∧ Asd (Bt L wr st F1) ∧ Asd (Ok st) ∧ Asd (Sm s st) ∧ Asd (listN s id = (KK.drop i).foldl (fun s j => send s id (note (listT s j ((Fl.rget s.tab.roles j).getD 0)))) st) ∧ Asd (OI wr (.slice A KK.length cc) KK G ∧ ∀ g, G = some g → ¬ F1 g) ∧ Asd (Tn w F wr F1)) (fun v15 _ => N - (intOf v15).toNat)
  case atStart => exact ⟨0, s, F, rfl, Nat.zero_le _, ⟨H.out.up HU.out⟩, HO, ⟨Sm.refl s⟩, ⟨by rw [HKK.out]; rfl⟩, ⟨HOI.out, fun g hg hf => by have := HGn.out g hg; have := H.out.bk.lt g hf; omega⟩, ⟨Tn.grow F HU.out⟩⟩
  case round =>
    obtain ⟨i, st, F1, rfl, hi, HB, HO1, HSm, HL, HS, HTn⟩ := hrel
    by_cases hlt : i < N
    · obtain ⟨j, hj⟩ : ∃ j, j = KK[i]'(by rw [← HN.out]; exact hlt) := ⟨_, rfl⟩
      have hdrop : KK.drop i = j :: KK.drop (i + 1) := by rw [hj]; exact List.drop_eq_getElem_cons (by rw [← HN.out]; exact hlt)
      obtain ⟨A1, c1, he1, _, _, hrow, _⟩ := K.Own.slice HS.out.1
      obtain ⟨rfl, rfl⟩ : A = A1 ∧ cc = c1 := by injection he1 with a b c; exact ⟨a, c⟩
      obtain ⟨ad, rfl, hcell⟩ := hrow i (.int .i64 j) (by rw [I, List.getElem?_map, List.getElem?_eq_getElem (by rw [← HN.out]; exact hlt), ← hj]; rfl)
      have hjm : j ∈ KK := by rw [hj]; exact List.getElem_mem _
      obtain ⟨x0, hx0, _⟩ := HO.out.use j (keys_get (by rw [← HKK.out]; exact hjm))
      obtain ⟨x, hx, _, hxn, _⟩ := HSm.out.cn j x0 hx0
      have hnl := HNM.out j x0 hx0
      rw [← hxn] at hnl
      have HJR := Asd.mk (HO.out.rng j (get_ids hx0))
      obtain ⟨cid, hcid, _⟩ := HSm.out.cn id c HG.out
      have HCID := Asd.mk hcid
      have hstep := list_next (f := fun s j => send s id (note (listT s j ((Fl.rget s.tab.roles j).getD 0)))) st hdrop
      have HST := Asd.mk hstep
      have hcell2 : ∀ W, Upd (fun _ => False) wr W → W.cell? (ad.add i) = some (.int .i64 j) := fun W k => k.cell hcell (fun h => h)
      have q10 := keepsC (o := 10) (v := .pointer (some ⟨L.tb, 0, none⟩)) HB.out.own rfl
      have q12 := keepsC (o := 12) (v := .map (some L.m)) HB.out.own rfl
      have hlook := HB.out.look j (by have := HJR.out; omega)
      rw [hx] at hlook
      simp only at hlook
      obtain ⟨vx, hbx⟩ := HB.out.conn hx
      have x2 := keepsC (o := 2) (v := .string (S x.name)) hbx rfl
      obtain ⟨Ft, hT, _, _⟩ := HB.out.table
      have HT := Asd.mk hT
      have HX := Asd.mk hx
      obtain ⟨rr, hrr⟩ : ∃ rr, rr = Fl.rget st.tab.roles j := ⟨_, rfl⟩
      obtain ⟨r, hr⟩ : ∃ r, r = rr.getD 0 := ⟨_, rfl⟩
      have HRR : Asd (r = 0 ∨ r = 1 ∨ r = 2) := ⟨by
        rw [hr, hrr]
        cases hq : Fl.rget st.tab.roles j with
        | none => exact .inl rfl
        | some y => have := HO1.out.rls _ (Fl.rget_mem hq); simp only at this; simp only [Option.getD_some]; omega⟩
      have hil := Lib.itoa_length_le j (by have := HJR.out; omega) (by have := HJR.out; omega)
      have hwl : (wordOf r).length ≤ 8 := by unfold wordOf; split <;> (try split) <;> simp
      have hs2 : Upd (fun _ => False) wr wr := Upd.refl _ _
      obtain ⟨sp, hsp⟩ : ∃ sp : List UInt8, sp = [32] := ⟨_, rfl⟩
      have hsl : sp.length = 1 := by rw [hsp]; rfl
      have e2 : ({ data := #[32] } : ByteArray) = S sp := by rw [hsp]; rfl
      have n1 : ¬ 9223372036854775807 < (Lib.itoa j).length + sp.length := by omega
      have n2 : ¬ 9223372036854775807 < (Lib.itoa j).length + sp.length + (wordOf r).length := by omega
      have n3 : ¬ 9223372036854775807 < (Lib.itoa j).length + (sp.length + (wordOf r).length) + sp.length := by omega
      have n4 : ¬ 9223372036854775807 < (Lib.itoa j).length + (sp.length + ((wordOf r).length + sp.length)) + x.name.length := by omega
      have HR := Asd.mk hr
      have HRr := Asd.mk hrr
      have HSP := Asd.mk hsp
      have HLN := Asd.mk hnl
      clear hj hdrop hrow hcell hjm hx0 hx hxn hnl hcid hstep hbx hT hrr hr hsp hsl hil hwl
      go_wp2_with fail
      refine (Fl.role_calls HT.out j ⟨by have := HJR.out; omega, by have := HJR.out; omega⟩).mono ?_
      rw [← HRr.out, ← HR.out]
      rintro e w2 ⟨rfl, rfl⟩
      go_wp2
      refine wp_region_held_drew (S := fun W => Upd (fun _ => False) wr W) (by kernel_rfl) (by exact (by repeat (first | assumption | with_reducible exact Upd.refl _ _ | with_reducible refine Upd.drewN ?_ _ | with_reducible refine Upd.drew ?_ | with_reducible refine Upd.alloc ?_ _ | with_reducible refine Upd.setAt ?_ ?_ | exact Or.inl rfl | exact Or.inr (by simp) | exact Or.inr (by omega)))) (fun hHeld => ?_)
      refine tk_ 0 ?_
      try simp only [Act.put, sl1_, sl2_, sl3_]
      refine tk_ 3 ?_
      try simp only [Act.put, sl1_, sl2_, sl3_]
      refine tk_ 7 ?_
      try simp only [Act.put, sl1_, sl2_, sl3_]
      refine tk_ 8 ?_
      try simp only [Act.put, sl1_, sl2_, sl3_]
      refine tk_ 9 ?_
      try simp only [Act.put, sl1_, sl2_, sl3_]
      refine tk_ 10 ?_
      try simp only [Act.put, sl1_, sl2_, sl3_]
      refine tk_ 11 ?_
      try simp only [Act.put, sl1_, sl2_, sl3_]
      refine tk_ 12 ?_
      try simp only [Act.put, sl1_, sl2_, sl3_]
      refine tk_ 13 ?_
      try simp only [Act.put, sl1_, sl2_, sl3_]
      refine tk_ 14 ?_
      try simp only [Act.put, sl1_, sl2_, sl3_]
      refine tk_ 15 ?_
      try simp only [Act.put, sl1_, sl2_, sl3_]
      refine wpAnyH_ready (rs := [1]) (by kernel_rfl) (by simp) (AllReadyH.cons (o := ?_) ?_ (fun K hK => ?_) AllReadyH.nil)
      rotate_left 1
      · (simp only [List.getElem?_toArray, List.getElem?_cons_succ, List.getElem?_cons_zero]; exact rfl)
      (go_simp; (go_at_call 35; refine (itoa_calls j (by have := HJR.out; omega) (by have := HJR.out; omega) _).mono ?_; rintro e w5 ⟨rfl, rfl⟩))
      refine hK.out _ _ (by exact (by repeat (first | assumption | with_reducible exact Upd.refl _ _ | with_reducible refine Upd.drewN ?_ _ | with_reducible refine Upd.drew ?_ | with_reducible refine Upd.alloc ?_ _ | with_reducible refine Upd.setAt ?_ ?_ | exact Or.inl rfl | exact Or.inr (by simp) | exact Or.inr (by omega)))) (fun hHeld => ?_)
      clear hK K
      try simp only [Act.put, List.setIfInBounds_toArray, List.set_cons_zero, List.set_cons_succ]
      refine tk_ 2 ?_
      try simp only [Act.put, sl1_, sl2_, sl3_]
      refine wpAnyH_ready (rs := [4]) (by kernel_rfl) (by simp) (AllReadyH.cons (o := ?_) ?_ (fun K hK => ?_) AllReadyH.nil)
      rotate_left 1
      · (simp only [List.getElem?_toArray, List.getElem?_cons_succ, List.getElem?_cons_zero]; exact rfl)
      (go_simp; (go_at_call 101; refine (word_calls r HRR.out _).mono ?_; rintro e w5 ⟨rfl, hu5⟩; have h25 := (show Upd (fun _ => False) wr wr.drew from (by repeat (first | assumption | with_reducible exact Upd.refl _ _ | with_reducible refine Upd.drewN ?_ _ | with_reducible refine Upd.drew ?_ | with_reducible refine Upd.alloc ?_ _ | with_reducible refine Upd.setAt ?_ ?_ | exact Or.inl rfl | exact Or.inr (by simp) | exact Or.inr (by omega)))).trans hu5 (fun _ _ h => h)))
      refine hK.out _ _ (by exact h25) (fun hHeld => ?_)
      clear hK K
      try simp only [Act.put, List.setIfInBounds_toArray, List.set_cons_zero, List.set_cons_succ]
      refine tk_ 5 ?_
      try simp only [Act.put, sl1_, sl2_, sl3_]
      refine tk_ 6 ?_
      try simp only [Act.put, sl1_, sl2_, sl3_]
      refine tk_ 16 ?_
      try simp only [Act.put, sl1_, sl2_, sl3_]
      refine tk_ 17 ?_
      try simp only [Act.put, sl1_, sl2_, sl3_]
      refine wpAnyH_done (by kernel_rfl) ?_ _
      have HB5 := Asd.mk (HB.out.up h25)
      have HT5 := Asd.mk (HT.out.up h25)
      have q10' := keepsC (o := 10) (v := .pointer (some ⟨L.tb, 0, none⟩)) HB5.out.own rfl
      have hs5 : Upd (fun _ => False) w5 w5 := Upd.refl _ _
      have T5 := Asd.mk (HTn.out.trans (Tn.grow F1 h25))
      have HS5 : Asd (OI w5 (.slice (some ad) KK.length cc) KK G ∧ ∀ g, G = some g → ¬ F1 g) := ⟨HS.out.1.up h25, HS.out.2⟩
      clear q10 q12 hlook x2 hcell2 hs2 n1 n2 n3 n4 h25
      try clear hHeld
      obtain ⟨base, hbase⟩ : ∃ base, base = Lib.itoa j ++ (sp ++ (wordOf r ++ (sp ++ x.name))) := ⟨_, rfl⟩
      rw [← hbase]
      have hbl : base.length ≤ 4000 := by
        have h1 := Lib.itoa_length_le j (by have := HJR.out; omega) (by have := HJR.out; omega)
        have h2 : (wordOf r).length ≤ 8 := by unfold wordOf; split <;> (try split) <;> simp
        have h3 : sp.length = 1 := by rw [HSP.out]; rfl
        have h4 := HLN.out
        rw [hbase]
        simp only [List.length_append]
        omega
      have HBA := Asd.mk hbase
      clear hbase
      have hfin : ∀ (lt : List UInt8), lt = listT st j r → ∃ st2, st2 = send st id (note lt) ∧ listN s id = (KK.drop (i + 1)).foldl (fun s j => send s id (note (listT s j ((Fl.rget s.tab.roles j).getD 0)))) st2 := fun lt hlt => ⟨_, rfl, by rw [HL.out, HST.out, hlt, HR.out, HRr.out]⟩
      have HF := Asd.mk hfin
      clear hfin
      go_wp2_with fail
      refine (Fl.holder_calls HT5.out).mono ?_
      rintro e w6 ⟨rfl, rfl⟩
      by_cases hjh : j = st.tab.holder
      · have hb : (j == st.tab.holder) = true := beq_iff_eq.2 hjh
        have HLT : Asd (base ++ [32, 42] = listT st j r) := ⟨by rw [HBA.out, HSP.out]; unfold listT; rw [HX.out, if_pos hjh]; simp⟩
        obtain ⟨st2, hst2, hnx⟩ := HF.out _ HLT.out
        have e3 : S base ++ ({ data := #[32, 42] } : ByteArray) = S (base ++ [32, 42]) := by rw [← S_append]; rfl
        have n5 : ¬ 9223372036854775807 < base.length + 2 := by omega
        have HS2 := Asd.mk hst2
        have HNX := Asd.mk hnx
        clear hjh hst2 hnx
        go_wp2_with fail
        refine (send_calls HB5.out HO1.out HCID.out (note (base ++ [32, 42]))).mono ?_
        rw [← HS2.out]
        rintro e w7 ⟨rfl, F7, h7, t7⟩
        have H7 := Asd.mk h7
        have T7 := Asd.mk (T5.out.trans t7)
        have HSm7 := Asd.mk (HS2.out ▸ HSm.out.trans (sm_send' st id (note (base ++ [32, 42]))))
        have HO7 := Asd.mk (HS2.out ▸ ok_send' HO1.out id (note (base ++ [32, 42])))
        have HS7 : Asd (OI w7 (.slice (some ad) KK.length cc) KK G ∧ ∀ g, G = some g → ¬ F7 g) := ⟨HS5.out.1.upd t7.upd (fun g hg => HS5.out.2 g hg), fun g hg hf => (t7.new g hf).elim (HS5.out.2 g hg) (fun h => by have := HS5.out.1.lt g hg; omega)⟩
        clear h7 t7 q10' hs5
        go_wp2
        go_roundw
        case rel => exact ⟨i + 1, st2, F7, by go_num, by omega, H7, HO7, HSm7, HNX, HS7, T7⟩
        case measure => simp only [intOf]; omega
      · have hb : (j == st.tab.holder) = false := beq_eq_false_iff_ne.2 hjh
        have HLT : Asd (base = listT st j r) := ⟨by rw [HBA.out, HSP.out]; unfold listT; rw [HX.out, if_neg hjh]; simp⟩
        obtain ⟨st2, hst2, hnx⟩ := HF.out _ HLT.out
        have HS2 := Asd.mk hst2
        have HNX := Asd.mk hnx
        clear hjh hst2 hnx
        go_wp2_with fail
        refine (send_calls HB5.out HO1.out HCID.out (note base)).mono ?_
        rw [← HS2.out]
        rintro e w7 ⟨rfl, F7, h7, t7⟩
        have H7 := Asd.mk h7
        have T7 := Asd.mk (T5.out.trans t7)
        have HSm7 := Asd.mk (HS2.out ▸ HSm.out.trans (sm_send' st id (note base)))
        have HO7 := Asd.mk (HS2.out ▸ ok_send' HO1.out id (note base))
        have HS7 : Asd (OI w7 (.slice (some ad) KK.length cc) KK G ∧ ∀ g, G = some g → ¬ F7 g) := ⟨HS5.out.1.upd t7.upd (fun g hg => HS5.out.2 g hg), fun g hg hf => (t7.new g hf).elim (HS5.out.2 g hg) (fun h => by have := HS5.out.1.lt g hg; omega)⟩
        clear h7 t7 q10' hs5
        go_wp2
        go_roundw
        case rel => exact ⟨i + 1, st2, F7, by go_num, by omega, H7, HO7, HSm7, HNX, HS7, T7⟩
        case measure => simp only [intOf]; omega
    · have HE : Asd (listN s id = st) := ⟨by rw [HL.out, List.drop_eq_nil_of_le (by have := HN.out; omega)]; rfl⟩
      go_wp2
      go_end0
      exact ⟨rfl, F1, by rw [HE.out]; exact HB.out, HTn.out⟩
end
end Go.Proofs.YteepkanbiefpjaaGreatDoor.Bk
