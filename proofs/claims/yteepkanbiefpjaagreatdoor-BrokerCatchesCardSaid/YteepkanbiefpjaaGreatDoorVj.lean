/- What these laws lean on, part Vj: contracts of the given program's functions and plain lists. No condition. -/
import Derived.Test.YteepkanbiefpjaaGreatDoorVi
import Derived.Test.YteepkanbiefpjaaGreatDoorVa
set_option linter.unusedVariables false
set_option linter.unusedSimpArgs false
namespace Go.Proofs.YteepkanbiefpjaaGreatDoor.Bk
open Go.RowKit K
open MgRow (M)
section
variable {w w' : World} {L : Lay} {s : Br} {F : Nat → Prop} {id : Int} {c : Cn}
theorem Bt.setView (h : Bt L w s F) (hg : get s id = some c) {a b : Nat} (hv : c.vw = some (a, b)) : ∃ v, w.heap[(L.cn id).p]? = some (.cells (ccells (L.cn id) id c (.pointer (some ⟨v, 0, none⟩))) 101 (0, 0)) ∧ Vw.V w v a b ∧ (∃ g, Rg.Ring w L.lg g (Rg.roomN s.cf.log) s.log ∧ ¬ Rg.Its L.lg g v) ∧ (v ≠ L.q ∧ v ≠ (L.cn id).p ∧ F v) ∧ ∀ (w' : World) (a' b' : Nat), Vw.V w' v a' b' → Upd (fun i => i = v) w w' → ∃ F', Bt L w' (set s id (cVw c (a', b'))) F' ∧ Tn w F w' F' := by
  obtain ⟨Fi, hp, hF, hd, hput⟩ := h.bk.turn (.conn id)
  obtain ⟨Fr, ⟨g, hr, hFr⟩, hdr⟩ := hd .ring (by intro e; cases e)
  obtain ⟨Fq, ⟨_, hFq⟩, hdq⟩ := hd .own (by intro e; cases e)
  simp only [PartAt] at hp
  rw [hg] at hp
  simp only [ConnAt] at hp
  rw [hv] at hp
  obtain ⟨v, a1, a2, a3, a4⟩ := hp
  have hFv : Fi v := (a4 _).2 (.inr rfl)
  refine ⟨v, a1, a2, ⟨g, hr, fun hi => hdr v hFv ((hFr v).2 hi)⟩, ⟨fun e => hdq v hFv ((hFq v).2 e), a3, hF v hFv⟩, fun w' a' b' hV hu => ?_⟩
  have hpart : PartAt L (set s id (cVw c (a', b'))) (.conn id) w' Fi := by
    simp only [PartAt]
    rw [get_set_same hg]
    simp only [ConnAt, cVw]
    exact ⟨v, hu.blk a1 (fun e => a3 e.symm), hV, a3, a4⟩
  obtain ⟨F', hbk, ht⟩ := hput w' L (set s id (cVw c (a', b'))) Fi hpart (fun j hj W Fj hw => set_part hg hw (fun e => absurd e hj) (fun _ => ⟨rfl, rfl⟩) (fun _ => rfl) (fun _ => rfl)) ⟨hu.mono (fun k _ e => by subst e; exact hFv), fun k hk => .inl hk⟩
  exact ⟨F', h.go hbk ht, ht⟩
set_option maxHeartbeats 16000000 in
set_option maxRecDepth 100000 in
theorem does_calls (h : Bt L w s F) (ho : Ok s) (hg : get s id = some c) (hst : c.st = 1) (k n : Int) (hk : 1 ≤ k ∧ k ≤ 11) (hn : 0 ≤ n ∧ n ≤ 1099511627776) (hnm : ∀ j x, get s j = some x → x.name.length ≤ 3000) : Calls Tryz.prog 105 #[ptr L.q, ptr (L.cn id).p, .agg #[.int .i64 k, .int .i64 n]] w (Goes L (does s id k n).1 F w (.bool (does s id k n).2)) := by
  obtain ⟨y, hy⟩ : ∃ y, y = does s id k n := ⟨_, rfl⟩
  rw [← hy]
  have H := Asd.mk h
  have HO := Asd.mk ho
  have HG := Asd.mk hg
  have HNM := Asd.mk hnm
  have HY := Asd.mk hy
  have HVW := Asd.mk (ho.opn id c hg hst)
  have HIR := Asd.mk (ho.rng id (get_ids hg))
  have hk1 := (Upd.refl (fun _ => False) w).alloc (.cells #[.int .i64 k, .int .i64 n] 44)
  have hm1 := heap_alloc_new w (.cells #[.int .i64 k, .int .i64 n] 44)
  have hs1 := Upd.refl (fun _ => False) (w.alloc (.cells #[.int .i64 k, .int .i64 n] 44))
  have o0 := keepsC (o := 0) (v := .int .i64 k) hm1 rfl
  have o1 := keepsC (o := 1) (v := .int .i64 n) hm1 rfl
  obtain ⟨v, hb⟩ := (h.up hk1).conn hg
  have q10 := keepsC (o := 10) (v := .pointer (some ⟨L.tb, 0, none⟩)) (h.up hk1).own rfl
  have b0 := keepsC (o := 0) (v := .int .i64 id) hb rfl
  have HH := Asd.mk (h.up hk1)
  obtain ⟨r, hr⟩ : ∃ r, r = Fl.rget s.tab.roles id := ⟨_, rfl⟩
  have HR := Asd.mk hr
  obtain ⟨rg, hrg⟩ : ∃ rg, rg = r.getD 0 := ⟨_, rfl⟩
  have HRG := Asd.mk hrg
  clear h ho hy hm1 hg hnm hst hb hr hrg
  by_cases hown : own k = true ∧ r ≠ some 2
  · have HE : Asd (y = (s, false)) := ⟨by rw [HY.out]; unfold does; rw [← HR.out, if_pos hown]⟩
    have HOK := Asd.mk hown.1
    have hg2 : (rg != 2) = true := by
      refine bne_iff_ne.2 (fun e => hown.2 ?_)
      rw [HRG.out] at e
      cases r with
      | none => cases e
      | some x => simp only [Option.getD_some] at e; rw [e]
    clear hown
    go_enter Tryz.func105, Tryz.ntmps105
    go_wp2
    generalize hw1 : w.alloc (.cells #[.int .i64 k, .int .i64 n] 44) = w1 at hk1 hs1 o0 o1 q10 b0 HH ⊢
    clear hw1
    refine wp_region_held_drew (S := fun W => W.cell? ⟨L.q, 10, none⟩ = some (.pointer (some ⟨L.tb, 0, none⟩)) ∧ W.cell? ⟨(L.cn id).p, 0, none⟩ = some (.int .i64 id)) (by kernel_rfl) (by exact ⟨q10 _ (by repeat (first | assumption | with_reducible exact Upd.refl _ _ | with_reducible refine Upd.drewN ?_ _ | with_reducible refine Upd.drew ?_ | with_reducible refine Upd.alloc ?_ _ | with_reducible refine Upd.setAt ?_ ?_ | exact Or.inl rfl | exact Or.inr (by simp) | exact Or.inr (by omega))), b0 _ (by repeat (first | assumption | with_reducible exact Upd.refl _ _ | with_reducible refine Upd.drewN ?_ _ | with_reducible refine Upd.drew ?_ | with_reducible refine Upd.alloc ?_ _ | with_reducible refine Upd.setAt ?_ ?_ | exact Or.inl rfl | exact Or.inr (by simp) | exact Or.inr (by omega)))⟩) (fun hHeld => ?_)
    refine tk_ 0 ?_
    try simp only [Act.put, sl1_, sl2_, sl3_]
    refine tk_ 1 ?_
    try simp only [Act.put, sl1_, sl2_, sl3_]
    refine tk_ 2 ?_
    try simp only [Act.put, sl1_, sl2_, sl3_]
    refine tk_ 3 ?_
    try simp only [Act.put, sl1_, sl2_, sl3_]
    refine tk_ 4 ?_
    try simp only [Act.put, sl1_, sl2_, sl3_]
    refine tk_ 5 ?_
    try simp only [Act.put, sl1_, sl2_, sl3_]
    refine tk_ 6 ?_
    try simp only [Act.put, sl1_, sl2_, sl3_]
    refine tk_ 7 ?_
    try simp only [Act.put, sl1_, sl2_, sl3_]
    refine wpAnyH_ready (rs := [8]) (by kernel_rfl) (by simp) (AllReadyH.cons (o := ?_) ?_ (fun K hK => ?_) AllReadyH.nil)
    rotate_left 1
    · (simp only [List.getElem?_toArray, List.getElem?_cons_succ, List.getElem?_cons_zero]; exact rfl)
    (go_simp; (go_at_call 64; obtain ⟨Ft, hT, _, _⟩ := (HH.out.up (show Upd (fun _ => False) w1 w1.drew from (by repeat (first | assumption | with_reducible exact Upd.refl _ _ | with_reducible refine Upd.drewN ?_ _ | with_reducible refine Upd.drew ?_ | with_reducible refine Upd.alloc ?_ _ | with_reducible refine Upd.setAt ?_ ?_ | exact Or.inl rfl | exact Or.inr (by simp) | exact Or.inr (by omega))))).table; refine (Fl.role_calls hT id ⟨by have := HIR.out; omega, by have := HIR.out; omega⟩).mono ?_; rw [← HR.out, ← HRG.out]; rintro e w2 ⟨rfl, hw2⟩; have h12 := (show Upd (fun _ => False) w1 w1.drew from (by repeat (first | assumption | with_reducible exact Upd.refl _ _ | with_reducible refine Upd.drewN ?_ _ | with_reducible refine Upd.drew ?_ | with_reducible refine Upd.alloc ?_ _ | with_reducible refine Upd.setAt ?_ ?_ | exact Or.inl rfl | exact Or.inr (by simp) | exact Or.inr (by omega)))); rw [hw2] at h12; clear hT hw2))
    refine hK.out _ _ (by exact ⟨q10 _ h12, b0 _ h12⟩) (fun hHeld => ?_)
    clear hK K
    try simp only [Act.put, List.setIfInBounds_toArray, List.set_cons_zero, List.set_cons_succ]
    refine tk_ 9 ?_
    try simp only [Act.put, sl1_, sl2_, sl3_]
    refine tk_ 10 ?_
    try simp only [Act.put, sl1_, sl2_, sl3_]
    refine tk_ 11 ?_
    try simp only [Act.put, sl1_, sl2_, sl3_]
    refine tk_ 12 ?_
    try simp only [Act.put, sl1_, sl2_, sl3_]
    refine tk_ 13 ?_
    try simp only [Act.put, sl1_, sl2_, sl3_]
    refine wpAnyH_done (by kernel_rfl) ?_ _
    have H2 := Asd.mk (HH.out.up h12)
    have k2 := hk1.trans h12 (fun _ _ h => h)
    have T2 := Asd.mk (Tn.grow F k2)
    obtain ⟨v2, hb2⟩ := H2.out.conn HG.out
    replace q10 := keepsC (o := 10) (v := .pointer (some ⟨L.tb, 0, none⟩)) H2.out.own rfl
    replace b0 := keepsC (o := 0) (v := .int .i64 id) hb2 rfl
    replace o0 : ∀ W, Upd (fun _ => False) w2 W → _ := fun W k => o0 W (h12.trans k (fun _ _ h => h))
    replace o1 : ∀ W, Upd (fun _ => False) w2 W → _ := fun W k => o1 W (h12.trans k (fun _ _ h => h))
    have hs2 := Upd.refl (fun _ => False) w2
    clear hb2 h12 hs1 hk1 k2
    try clear hHeld
    go_wp2_with fail
    refine (own_calls k _).mono ?_
    rw [show own k = true from HOK.out]
    rintro e w3 ⟨rfl, rfl⟩
    go_wp2
    go_ret
    exact ⟨by rw [HE.out]; rfl, F, by rw [HE.out]; exact H2.out, T2.out⟩
  have hown2 : own k = true → r = some 2 := fun h => by
    by_cases e : r = some 2
    · exact e
    · exact absurd ⟨h, e⟩ hown
  have HOW := Asd.mk hown
  clear hown
  rcases (by omega : k = 1 ∨ k = 2 ∨ k = 3 ∨ k = 4 ∨ k = 5 ∨ k = 6 ∨ k = 7 ∨ k = 8 ∨ k = 9 ∨ k = 10 ∨ k = 11) with rfl | rfl | rfl | rfl | rfl | rfl | rfl | rfl | rfl | rfl | rfl
  · have HE : Asd (y = (wTab s (Fl.ask s.tab id), Fl.asks s.tab id == 0)) := ⟨by rw [HY.out]; unfold does; rw [← HR.out, if_neg HOW.out]; rfl⟩
    clear hown2
    go_enter Tryz.func105, Tryz.ntmps105
    go_wp2
    generalize hw1 : w.alloc (.cells #[.int .i64 1, .int .i64 n] 44) = w1 at hk1 hs1 o0 o1 q10 b0 HH ⊢
    clear hw1
    refine wp_region_held_drew (S := fun W => W.cell? ⟨L.q, 10, none⟩ = some (.pointer (some ⟨L.tb, 0, none⟩)) ∧ W.cell? ⟨(L.cn id).p, 0, none⟩ = some (.int .i64 id)) (by kernel_rfl) (by exact ⟨q10 _ (by repeat (first | assumption | with_reducible exact Upd.refl _ _ | with_reducible refine Upd.drewN ?_ _ | with_reducible refine Upd.drew ?_ | with_reducible refine Upd.alloc ?_ _ | with_reducible refine Upd.setAt ?_ ?_ | exact Or.inl rfl | exact Or.inr (by simp) | exact Or.inr (by omega))), b0 _ (by repeat (first | assumption | with_reducible exact Upd.refl _ _ | with_reducible refine Upd.drewN ?_ _ | with_reducible refine Upd.drew ?_ | with_reducible refine Upd.alloc ?_ _ | with_reducible refine Upd.setAt ?_ ?_ | exact Or.inl rfl | exact Or.inr (by simp) | exact Or.inr (by omega)))⟩) (fun hHeld => ?_)
    refine tk_ 0 ?_
    try simp only [Act.put, sl1_, sl2_, sl3_]
    refine tk_ 1 ?_
    try simp only [Act.put, sl1_, sl2_, sl3_]
    refine tk_ 2 ?_
    try simp only [Act.put, sl1_, sl2_, sl3_]
    refine tk_ 3 ?_
    try simp only [Act.put, sl1_, sl2_, sl3_]
    refine tk_ 4 ?_
    try simp only [Act.put, sl1_, sl2_, sl3_]
    refine tk_ 5 ?_
    try simp only [Act.put, sl1_, sl2_, sl3_]
    refine tk_ 6 ?_
    try simp only [Act.put, sl1_, sl2_, sl3_]
    refine tk_ 7 ?_
    try simp only [Act.put, sl1_, sl2_, sl3_]
    refine wpAnyH_ready (rs := [8]) (by kernel_rfl) (by simp) (AllReadyH.cons (o := ?_) ?_ (fun K hK => ?_) AllReadyH.nil)
    rotate_left 1
    · (simp only [List.getElem?_toArray, List.getElem?_cons_succ, List.getElem?_cons_zero]; exact rfl)
    (go_simp; (go_at_call 64; obtain ⟨Ft, hT, _, _⟩ := (HH.out.up (show Upd (fun _ => False) w1 w1.drew from (by repeat (first | assumption | with_reducible exact Upd.refl _ _ | with_reducible refine Upd.drewN ?_ _ | with_reducible refine Upd.drew ?_ | with_reducible refine Upd.alloc ?_ _ | with_reducible refine Upd.setAt ?_ ?_ | exact Or.inl rfl | exact Or.inr (by simp) | exact Or.inr (by omega))))).table; refine (Fl.role_calls hT id ⟨by have := HIR.out; omega, by have := HIR.out; omega⟩).mono ?_; rw [← HR.out, ← HRG.out]; rintro e w2 ⟨rfl, hw2⟩; have h12 := (show Upd (fun _ => False) w1 w1.drew from (by repeat (first | assumption | with_reducible exact Upd.refl _ _ | with_reducible refine Upd.drewN ?_ _ | with_reducible refine Upd.drew ?_ | with_reducible refine Upd.alloc ?_ _ | with_reducible refine Upd.setAt ?_ ?_ | exact Or.inl rfl | exact Or.inr (by simp) | exact Or.inr (by omega)))); rw [hw2] at h12; clear hT hw2))
    refine hK.out _ _ (by exact ⟨q10 _ h12, b0 _ h12⟩) (fun hHeld => ?_)
    clear hK K
    try simp only [Act.put, List.setIfInBounds_toArray, List.set_cons_zero, List.set_cons_succ]
    refine tk_ 9 ?_
    try simp only [Act.put, sl1_, sl2_, sl3_]
    refine tk_ 10 ?_
    try simp only [Act.put, sl1_, sl2_, sl3_]
    refine tk_ 11 ?_
    try simp only [Act.put, sl1_, sl2_, sl3_]
    refine tk_ 12 ?_
    try simp only [Act.put, sl1_, sl2_, sl3_]
    refine tk_ 13 ?_
    try simp only [Act.put, sl1_, sl2_, sl3_]
    refine wpAnyH_done (by kernel_rfl) ?_ _
    have H2 := Asd.mk (HH.out.up h12)
    have k2 := hk1.trans h12 (fun _ _ h => h)
    have T2 := Asd.mk (Tn.grow F k2)
    obtain ⟨v2, hb2⟩ := H2.out.conn HG.out
    replace q10 := keepsC (o := 10) (v := .pointer (some ⟨L.tb, 0, none⟩)) H2.out.own rfl
    replace b0 := keepsC (o := 0) (v := .int .i64 id) hb2 rfl
    replace o0 : ∀ W, Upd (fun _ => False) w2 W → _ := fun W k => o0 W (h12.trans k (fun _ _ h => h))
    replace o1 : ∀ W, Upd (fun _ => False) w2 W → _ := fun W k => o1 W (h12.trans k (fun _ _ h => h))
    have hs2 := Upd.refl (fun _ => False) w2
    clear hb2 h12 hs1 hk1 k2
    try clear hHeld
    go_wp2_with fail
    refine (own_calls 1 _).mono ?_
    rw [show own 1 = false from rfl]
    rintro e w3 ⟨rfl, rfl⟩
    go_wp2
    refine wp_region_held_drew (S := fun W => W.cell? ⟨L.q, 10, none⟩ = some (.pointer (some ⟨L.tb, 0, none⟩)) ∧ W.cell? ⟨(L.cn id).p, 0, none⟩ = some (.int .i64 id)) (by kernel_rfl) (by exact ⟨q10 _ (by repeat (first | assumption | with_reducible exact Upd.refl _ _ | with_reducible refine Upd.drewN ?_ _ | with_reducible refine Upd.drew ?_ | with_reducible refine Upd.alloc ?_ _ | with_reducible refine Upd.setAt ?_ ?_ | exact Or.inl rfl | exact Or.inr (by simp) | exact Or.inr (by omega))), b0 _ (by repeat (first | assumption | with_reducible exact Upd.refl _ _ | with_reducible refine Upd.drewN ?_ _ | with_reducible refine Upd.drew ?_ | with_reducible refine Upd.alloc ?_ _ | with_reducible refine Upd.setAt ?_ ?_ | exact Or.inl rfl | exact Or.inr (by simp) | exact Or.inr (by omega)))⟩) (fun hHeld => ?_)
    refine tk_ 0 ?_
    try simp only [Act.put, sl1_, sl2_, sl3_]
    refine tk_ 1 ?_
    try simp only [Act.put, sl1_, sl2_, sl3_]
    refine tk_ 2 ?_
    try simp only [Act.put, sl1_, sl2_, sl3_]
    refine tk_ 3 ?_
    try simp only [Act.put, sl1_, sl2_, sl3_]
    refine tk_ 4 ?_
    try simp only [Act.put, sl1_, sl2_, sl3_]
    refine tk_ 5 ?_
    try simp only [Act.put, sl1_, sl2_, sl3_]
    refine tk_ 6 ?_
    try simp only [Act.put, sl1_, sl2_, sl3_]
    refine tk_ 7 ?_
    try simp only [Act.put, sl1_, sl2_, sl3_]
    refine wpAnyH_ready (rs := [8]) (by kernel_rfl) (by simp) (AllReadyH.cons (o := ?_) ?_ (fun K hK => ?_) AllReadyH.nil)
    rotate_left 1
    · (simp only [List.getElem?_toArray, List.getElem?_cons_succ, List.getElem?_cons_zero]; exact rfl)
    (go_simp; (go_at_call 130; obtain ⟨Ft, hT, _, hput⟩ := (H2.out.up (show Upd (fun _ => False) w2 w2.drew from (by repeat (first | assumption | with_reducible exact Upd.refl _ _ | with_reducible refine Upd.drewN ?_ _ | with_reducible refine Upd.drew ?_ | with_reducible refine Upd.alloc ?_ _ | with_reducible refine Upd.setAt ?_ ?_ | exact Or.inl rfl | exact Or.inr (by simp) | exact Or.inr (by omega))))).table; refine (Fl.ask_calls hT id ⟨by have := HIR.out; omega, by have := HIR.out; omega⟩ (by have := HO.out.g.lens; omega)).mono ?_; rintro e w9 ⟨rfl, Ft', hT2, hu2, hn2⟩; obtain ⟨F9, h9, t9⟩ := hput w9 _ Ft' hT2 hu2 hn2; have H9 := Asd.mk h9; have T9 := Asd.mk ((Tn.grow F (show Upd (fun _ => False) w2 w2.drew from (by repeat (first | assumption | with_reducible exact Upd.refl _ _ | with_reducible refine Upd.drewN ?_ _ | with_reducible refine Upd.drew ?_ | with_reducible refine Upd.alloc ?_ _ | with_reducible refine Upd.setAt ?_ ?_ | exact Or.inl rfl | exact Or.inr (by simp) | exact Or.inr (by omega))))).trans t9); obtain ⟨v9, hb9⟩ := h9.conn (show get (wTab s (Fl.ask s.tab id)) id = _ from HG.out); have HC9 := Asd.mk (And.intro (keepsC (o := 10) (v := .pointer (some ⟨L.tb, 0, none⟩)) h9.own rfl _ (Upd.refl _ _)) (keepsC (o := 0) (v := .int .i64 id) hb9 rfl _ (Upd.refl _ _))); clear hT hput hT2 hu2 hn2 h9 t9 hb9))
    refine hK.out _ _ (by exact HC9.out) (fun hHeld => ?_)
    clear hK K
    try simp only [Act.put, List.setIfInBounds_toArray, List.set_cons_zero, List.set_cons_succ]
    refine tk_ 9 ?_
    try simp only [Act.put, sl1_, sl2_, sl3_]
    refine tk_ 10 ?_
    try simp only [Act.put, sl1_, sl2_, sl3_]
    refine wpAnyH_done (by kernel_rfl) ?_ _
    clear q10 b0 o0 o1 hs2
    go_wp2
    go_ret
    exact ⟨by rw [HE.out]; rfl, F9, by rw [HE.out]; exact H9.out, T2.out.trans T9.out⟩
  · have HE : Asd (y = (wTab s (Fl.drop s.tab id), Fl.drops s.tab id == 0)) := ⟨by rw [HY.out]; unfold does; rw [← HR.out, if_neg HOW.out]; rfl⟩
    clear hown2
    go_enter Tryz.func105, Tryz.ntmps105
    go_wp2
    generalize hw1 : w.alloc (.cells #[.int .i64 2, .int .i64 n] 44) = w1 at hk1 hs1 o0 o1 q10 b0 HH ⊢
    clear hw1
    refine wp_region_held_drew (S := fun W => W.cell? ⟨L.q, 10, none⟩ = some (.pointer (some ⟨L.tb, 0, none⟩)) ∧ W.cell? ⟨(L.cn id).p, 0, none⟩ = some (.int .i64 id)) (by kernel_rfl) (by exact ⟨q10 _ (by repeat (first | assumption | with_reducible exact Upd.refl _ _ | with_reducible refine Upd.drewN ?_ _ | with_reducible refine Upd.drew ?_ | with_reducible refine Upd.alloc ?_ _ | with_reducible refine Upd.setAt ?_ ?_ | exact Or.inl rfl | exact Or.inr (by simp) | exact Or.inr (by omega))), b0 _ (by repeat (first | assumption | with_reducible exact Upd.refl _ _ | with_reducible refine Upd.drewN ?_ _ | with_reducible refine Upd.drew ?_ | with_reducible refine Upd.alloc ?_ _ | with_reducible refine Upd.setAt ?_ ?_ | exact Or.inl rfl | exact Or.inr (by simp) | exact Or.inr (by omega)))⟩) (fun hHeld => ?_)
    refine tk_ 0 ?_
    try simp only [Act.put, sl1_, sl2_, sl3_]
    refine tk_ 1 ?_
    try simp only [Act.put, sl1_, sl2_, sl3_]
    refine tk_ 2 ?_
    try simp only [Act.put, sl1_, sl2_, sl3_]
    refine tk_ 3 ?_
    try simp only [Act.put, sl1_, sl2_, sl3_]
    refine tk_ 4 ?_
    try simp only [Act.put, sl1_, sl2_, sl3_]
    refine tk_ 5 ?_
    try simp only [Act.put, sl1_, sl2_, sl3_]
    refine tk_ 6 ?_
    try simp only [Act.put, sl1_, sl2_, sl3_]
    refine tk_ 7 ?_
    try simp only [Act.put, sl1_, sl2_, sl3_]
    refine wpAnyH_ready (rs := [8]) (by kernel_rfl) (by simp) (AllReadyH.cons (o := ?_) ?_ (fun K hK => ?_) AllReadyH.nil)
    rotate_left 1
    · (simp only [List.getElem?_toArray, List.getElem?_cons_succ, List.getElem?_cons_zero]; exact rfl)
    (go_simp; (go_at_call 64; obtain ⟨Ft, hT, _, _⟩ := (HH.out.up (show Upd (fun _ => False) w1 w1.drew from (by repeat (first | assumption | with_reducible exact Upd.refl _ _ | with_reducible refine Upd.drewN ?_ _ | with_reducible refine Upd.drew ?_ | with_reducible refine Upd.alloc ?_ _ | with_reducible refine Upd.setAt ?_ ?_ | exact Or.inl rfl | exact Or.inr (by simp) | exact Or.inr (by omega))))).table; refine (Fl.role_calls hT id ⟨by have := HIR.out; omega, by have := HIR.out; omega⟩).mono ?_; rw [← HR.out, ← HRG.out]; rintro e w2 ⟨rfl, hw2⟩; have h12 := (show Upd (fun _ => False) w1 w1.drew from (by repeat (first | assumption | with_reducible exact Upd.refl _ _ | with_reducible refine Upd.drewN ?_ _ | with_reducible refine Upd.drew ?_ | with_reducible refine Upd.alloc ?_ _ | with_reducible refine Upd.setAt ?_ ?_ | exact Or.inl rfl | exact Or.inr (by simp) | exact Or.inr (by omega)))); rw [hw2] at h12; clear hT hw2))
    refine hK.out _ _ (by exact ⟨q10 _ h12, b0 _ h12⟩) (fun hHeld => ?_)
    clear hK K
    try simp only [Act.put, List.setIfInBounds_toArray, List.set_cons_zero, List.set_cons_succ]
    refine tk_ 9 ?_
    try simp only [Act.put, sl1_, sl2_, sl3_]
    refine tk_ 10 ?_
    try simp only [Act.put, sl1_, sl2_, sl3_]
    refine tk_ 11 ?_
    try simp only [Act.put, sl1_, sl2_, sl3_]
    refine tk_ 12 ?_
    try simp only [Act.put, sl1_, sl2_, sl3_]
    refine tk_ 13 ?_
    try simp only [Act.put, sl1_, sl2_, sl3_]
    refine wpAnyH_done (by kernel_rfl) ?_ _
    have H2 := Asd.mk (HH.out.up h12)
    have k2 := hk1.trans h12 (fun _ _ h => h)
    have T2 := Asd.mk (Tn.grow F k2)
    obtain ⟨v2, hb2⟩ := H2.out.conn HG.out
    replace q10 := keepsC (o := 10) (v := .pointer (some ⟨L.tb, 0, none⟩)) H2.out.own rfl
    replace b0 := keepsC (o := 0) (v := .int .i64 id) hb2 rfl
    replace o0 : ∀ W, Upd (fun _ => False) w2 W → _ := fun W k => o0 W (h12.trans k (fun _ _ h => h))
    replace o1 : ∀ W, Upd (fun _ => False) w2 W → _ := fun W k => o1 W (h12.trans k (fun _ _ h => h))
    have hs2 := Upd.refl (fun _ => False) w2
    clear hb2 h12 hs1 hk1 k2
    try clear hHeld
    go_wp2_with fail
    refine (own_calls 2 _).mono ?_
    rw [show own 2 = false from rfl]
    rintro e w3 ⟨rfl, rfl⟩
    go_wp2
    refine wp_region_held_drew (S := fun W => W.cell? ⟨L.q, 10, none⟩ = some (.pointer (some ⟨L.tb, 0, none⟩)) ∧ W.cell? ⟨(L.cn id).p, 0, none⟩ = some (.int .i64 id)) (by kernel_rfl) (by exact ⟨q10 _ (by repeat (first | assumption | with_reducible exact Upd.refl _ _ | with_reducible refine Upd.drewN ?_ _ | with_reducible refine Upd.drew ?_ | with_reducible refine Upd.alloc ?_ _ | with_reducible refine Upd.setAt ?_ ?_ | exact Or.inl rfl | exact Or.inr (by simp) | exact Or.inr (by omega))), b0 _ (by repeat (first | assumption | with_reducible exact Upd.refl _ _ | with_reducible refine Upd.drewN ?_ _ | with_reducible refine Upd.drew ?_ | with_reducible refine Upd.alloc ?_ _ | with_reducible refine Upd.setAt ?_ ?_ | exact Or.inl rfl | exact Or.inr (by simp) | exact Or.inr (by omega)))⟩) (fun hHeld => ?_)
    refine tk_ 0 ?_
    try simp only [Act.put, sl1_, sl2_, sl3_]
    refine tk_ 1 ?_
    try simp only [Act.put, sl1_, sl2_, sl3_]
    refine tk_ 2 ?_
    try simp only [Act.put, sl1_, sl2_, sl3_]
    refine tk_ 3 ?_
    try simp only [Act.put, sl1_, sl2_, sl3_]
    refine tk_ 4 ?_
    try simp only [Act.put, sl1_, sl2_, sl3_]
    refine tk_ 5 ?_
    try simp only [Act.put, sl1_, sl2_, sl3_]
    refine tk_ 6 ?_
    try simp only [Act.put, sl1_, sl2_, sl3_]
    refine tk_ 7 ?_
    try simp only [Act.put, sl1_, sl2_, sl3_]
    refine wpAnyH_ready (rs := [8]) (by kernel_rfl) (by simp) (AllReadyH.cons (o := ?_) ?_ (fun K hK => ?_) AllReadyH.nil)
    rotate_left 1
    · (simp only [List.getElem?_toArray, List.getElem?_cons_succ, List.getElem?_cons_zero]; exact rfl)
    (go_simp; (go_at_call 131; obtain ⟨Ft, hT, _, hput⟩ := (H2.out.up (show Upd (fun _ => False) w2 w2.drew from (by repeat (first | assumption | with_reducible exact Upd.refl _ _ | with_reducible refine Upd.drewN ?_ _ | with_reducible refine Upd.drew ?_ | with_reducible refine Upd.alloc ?_ _ | with_reducible refine Upd.setAt ?_ ?_ | exact Or.inl rfl | exact Or.inr (by simp) | exact Or.inr (by omega))))).table; refine (Fl.drop_calls hT id ⟨by have := HIR.out; omega, by have := HIR.out; omega⟩ (by have := HO.out.g.lens; omega)).mono ?_; rintro e w9 ⟨rfl, Ft', hT2, hu2, hn2⟩; obtain ⟨F9, h9, t9⟩ := hput w9 _ Ft' hT2 hu2 hn2; have H9 := Asd.mk h9; have T9 := Asd.mk ((Tn.grow F (show Upd (fun _ => False) w2 w2.drew from (by repeat (first | assumption | with_reducible exact Upd.refl _ _ | with_reducible refine Upd.drewN ?_ _ | with_reducible refine Upd.drew ?_ | with_reducible refine Upd.alloc ?_ _ | with_reducible refine Upd.setAt ?_ ?_ | exact Or.inl rfl | exact Or.inr (by simp) | exact Or.inr (by omega))))).trans t9); obtain ⟨v9, hb9⟩ := h9.conn (show get (wTab s (Fl.drop s.tab id)) id = _ from HG.out); have HC9 := Asd.mk (And.intro (keepsC (o := 10) (v := .pointer (some ⟨L.tb, 0, none⟩)) h9.own rfl _ (Upd.refl _ _)) (keepsC (o := 0) (v := .int .i64 id) hb9 rfl _ (Upd.refl _ _))); clear hT hput hT2 hu2 hn2 h9 t9 hb9))
    refine hK.out _ _ (by exact HC9.out) (fun hHeld => ?_)
    clear hK K
    try simp only [Act.put, List.setIfInBounds_toArray, List.set_cons_zero, List.set_cons_succ]
    refine tk_ 9 ?_
    try simp only [Act.put, sl1_, sl2_, sl3_]
    refine tk_ 10 ?_
    try simp only [Act.put, sl1_, sl2_, sl3_]
    refine wpAnyH_done (by kernel_rfl) ?_ _
    clear q10 b0 o0 o1 hs2
    go_wp2
    go_ret
    exact ⟨by rw [HE.out]; rfl, F9, by rw [HE.out]; exact H9.out, T2.out.trans T9.out⟩
  · have HE : Asd (y = (listN s id, true)) := ⟨by rw [HY.out]; unfold does; rw [← HR.out, if_neg HOW.out]; rfl⟩
    clear hown2
    go_enter Tryz.func105, Tryz.ntmps105
    go_wp2
    generalize hw1 : w.alloc (.cells #[.int .i64 3, .int .i64 n] 44) = w1 at hk1 hs1 o0 o1 q10 b0 HH ⊢
    clear hw1
    refine wp_region_held_drew (S := fun W => W.cell? ⟨L.q, 10, none⟩ = some (.pointer (some ⟨L.tb, 0, none⟩)) ∧ W.cell? ⟨(L.cn id).p, 0, none⟩ = some (.int .i64 id)) (by kernel_rfl) (by exact ⟨q10 _ (by repeat (first | assumption | with_reducible exact Upd.refl _ _ | with_reducible refine Upd.drewN ?_ _ | with_reducible refine Upd.drew ?_ | with_reducible refine Upd.alloc ?_ _ | with_reducible refine Upd.setAt ?_ ?_ | exact Or.inl rfl | exact Or.inr (by simp) | exact Or.inr (by omega))), b0 _ (by repeat (first | assumption | with_reducible exact Upd.refl _ _ | with_reducible refine Upd.drewN ?_ _ | with_reducible refine Upd.drew ?_ | with_reducible refine Upd.alloc ?_ _ | with_reducible refine Upd.setAt ?_ ?_ | exact Or.inl rfl | exact Or.inr (by simp) | exact Or.inr (by omega)))⟩) (fun hHeld => ?_)
    refine tk_ 0 ?_
    try simp only [Act.put, sl1_, sl2_, sl3_]
    refine tk_ 1 ?_
    try simp only [Act.put, sl1_, sl2_, sl3_]
    refine tk_ 2 ?_
    try simp only [Act.put, sl1_, sl2_, sl3_]
    refine tk_ 3 ?_
    try simp only [Act.put, sl1_, sl2_, sl3_]
    refine tk_ 4 ?_
    try simp only [Act.put, sl1_, sl2_, sl3_]
    refine tk_ 5 ?_
    try simp only [Act.put, sl1_, sl2_, sl3_]
    refine tk_ 6 ?_
    try simp only [Act.put, sl1_, sl2_, sl3_]
    refine tk_ 7 ?_
    try simp only [Act.put, sl1_, sl2_, sl3_]
    refine wpAnyH_ready (rs := [8]) (by kernel_rfl) (by simp) (AllReadyH.cons (o := ?_) ?_ (fun K hK => ?_) AllReadyH.nil)
    rotate_left 1
    · (simp only [List.getElem?_toArray, List.getElem?_cons_succ, List.getElem?_cons_zero]; exact rfl)
    (go_simp; (go_at_call 64; obtain ⟨Ft, hT, _, _⟩ := (HH.out.up (show Upd (fun _ => False) w1 w1.drew from (by repeat (first | assumption | with_reducible exact Upd.refl _ _ | with_reducible refine Upd.drewN ?_ _ | with_reducible refine Upd.drew ?_ | with_reducible refine Upd.alloc ?_ _ | with_reducible refine Upd.setAt ?_ ?_ | exact Or.inl rfl | exact Or.inr (by simp) | exact Or.inr (by omega))))).table; refine (Fl.role_calls hT id ⟨by have := HIR.out; omega, by have := HIR.out; omega⟩).mono ?_; rw [← HR.out, ← HRG.out]; rintro e w2 ⟨rfl, hw2⟩; have h12 := (show Upd (fun _ => False) w1 w1.drew from (by repeat (first | assumption | with_reducible exact Upd.refl _ _ | with_reducible refine Upd.drewN ?_ _ | with_reducible refine Upd.drew ?_ | with_reducible refine Upd.alloc ?_ _ | with_reducible refine Upd.setAt ?_ ?_ | exact Or.inl rfl | exact Or.inr (by simp) | exact Or.inr (by omega)))); rw [hw2] at h12; clear hT hw2))
    refine hK.out _ _ (by exact ⟨q10 _ h12, b0 _ h12⟩) (fun hHeld => ?_)
    clear hK K
    try simp only [Act.put, List.setIfInBounds_toArray, List.set_cons_zero, List.set_cons_succ]
    refine tk_ 9 ?_
    try simp only [Act.put, sl1_, sl2_, sl3_]
    refine tk_ 10 ?_
    try simp only [Act.put, sl1_, sl2_, sl3_]
    refine tk_ 11 ?_
    try simp only [Act.put, sl1_, sl2_, sl3_]
    refine tk_ 12 ?_
    try simp only [Act.put, sl1_, sl2_, sl3_]
    refine tk_ 13 ?_
    try simp only [Act.put, sl1_, sl2_, sl3_]
    refine wpAnyH_done (by kernel_rfl) ?_ _
    have H2 := Asd.mk (HH.out.up h12)
    have k2 := hk1.trans h12 (fun _ _ h => h)
    have T2 := Asd.mk (Tn.grow F k2)
    obtain ⟨v2, hb2⟩ := H2.out.conn HG.out
    replace q10 := keepsC (o := 10) (v := .pointer (some ⟨L.tb, 0, none⟩)) H2.out.own rfl
    replace b0 := keepsC (o := 0) (v := .int .i64 id) hb2 rfl
    replace o0 : ∀ W, Upd (fun _ => False) w2 W → _ := fun W k => o0 W (h12.trans k (fun _ _ h => h))
    replace o1 : ∀ W, Upd (fun _ => False) w2 W → _ := fun W k => o1 W (h12.trans k (fun _ _ h => h))
    have hs2 := Upd.refl (fun _ => False) w2
    clear hb2 h12 hs1 hk1 k2
    try clear hHeld
    go_wp2_with fail
    refine (own_calls 3 _).mono ?_
    rw [show own 3 = false from rfl]
    rintro e w3 ⟨rfl, rfl⟩
    go_wp2_with fail
    refine (list_calls H2.out HO.out HG.out HNM.out).mono ?_
    rintro e w3 ⟨rfl, F3, h3, t3⟩
    have H3 := Asd.mk h3
    have T3 := Asd.mk (T2.out.trans t3)
    clear h3 t3 q10 b0 o0 o1 hs2
    go_wp2
    go_ret
    exact ⟨by rw [HE.out]; rfl, F3, by rw [HE.out]; exact H3.out, T3.out⟩
  · have HE : Asd (y = (shut s id 0, true)) := ⟨by rw [HY.out]; unfold does; rw [← HR.out, if_neg HOW.out]; rfl⟩
    clear hown2
    go_enter Tryz.func105, Tryz.ntmps105
    go_wp2
    generalize hw1 : w.alloc (.cells #[.int .i64 4, .int .i64 n] 44) = w1 at hk1 hs1 o0 o1 q10 b0 HH ⊢
    clear hw1
    refine wp_region_held_drew (S := fun W => W.cell? ⟨L.q, 10, none⟩ = some (.pointer (some ⟨L.tb, 0, none⟩)) ∧ W.cell? ⟨(L.cn id).p, 0, none⟩ = some (.int .i64 id)) (by kernel_rfl) (by exact ⟨q10 _ (by repeat (first | assumption | with_reducible exact Upd.refl _ _ | with_reducible refine Upd.drewN ?_ _ | with_reducible refine Upd.drew ?_ | with_reducible refine Upd.alloc ?_ _ | with_reducible refine Upd.setAt ?_ ?_ | exact Or.inl rfl | exact Or.inr (by simp) | exact Or.inr (by omega))), b0 _ (by repeat (first | assumption | with_reducible exact Upd.refl _ _ | with_reducible refine Upd.drewN ?_ _ | with_reducible refine Upd.drew ?_ | with_reducible refine Upd.alloc ?_ _ | with_reducible refine Upd.setAt ?_ ?_ | exact Or.inl rfl | exact Or.inr (by simp) | exact Or.inr (by omega)))⟩) (fun hHeld => ?_)
    refine tk_ 0 ?_
    try simp only [Act.put, sl1_, sl2_, sl3_]
    refine tk_ 1 ?_
    try simp only [Act.put, sl1_, sl2_, sl3_]
    refine tk_ 2 ?_
    try simp only [Act.put, sl1_, sl2_, sl3_]
    refine tk_ 3 ?_
    try simp only [Act.put, sl1_, sl2_, sl3_]
    refine tk_ 4 ?_
    try simp only [Act.put, sl1_, sl2_, sl3_]
    refine tk_ 5 ?_
    try simp only [Act.put, sl1_, sl2_, sl3_]
    refine tk_ 6 ?_
    try simp only [Act.put, sl1_, sl2_, sl3_]
    refine tk_ 7 ?_
    try simp only [Act.put, sl1_, sl2_, sl3_]
    refine wpAnyH_ready (rs := [8]) (by kernel_rfl) (by simp) (AllReadyH.cons (o := ?_) ?_ (fun K hK => ?_) AllReadyH.nil)
    rotate_left 1
    · (simp only [List.getElem?_toArray, List.getElem?_cons_succ, List.getElem?_cons_zero]; exact rfl)
    (go_simp; (go_at_call 64; obtain ⟨Ft, hT, _, _⟩ := (HH.out.up (show Upd (fun _ => False) w1 w1.drew from (by repeat (first | assumption | with_reducible exact Upd.refl _ _ | with_reducible refine Upd.drewN ?_ _ | with_reducible refine Upd.drew ?_ | with_reducible refine Upd.alloc ?_ _ | with_reducible refine Upd.setAt ?_ ?_ | exact Or.inl rfl | exact Or.inr (by simp) | exact Or.inr (by omega))))).table; refine (Fl.role_calls hT id ⟨by have := HIR.out; omega, by have := HIR.out; omega⟩).mono ?_; rw [← HR.out, ← HRG.out]; rintro e w2 ⟨rfl, hw2⟩; have h12 := (show Upd (fun _ => False) w1 w1.drew from (by repeat (first | assumption | with_reducible exact Upd.refl _ _ | with_reducible refine Upd.drewN ?_ _ | with_reducible refine Upd.drew ?_ | with_reducible refine Upd.alloc ?_ _ | with_reducible refine Upd.setAt ?_ ?_ | exact Or.inl rfl | exact Or.inr (by simp) | exact Or.inr (by omega)))); rw [hw2] at h12; clear hT hw2))
    refine hK.out _ _ (by exact ⟨q10 _ h12, b0 _ h12⟩) (fun hHeld => ?_)
    clear hK K
    try simp only [Act.put, List.setIfInBounds_toArray, List.set_cons_zero, List.set_cons_succ]
    refine tk_ 9 ?_
    try simp only [Act.put, sl1_, sl2_, sl3_]
    refine tk_ 10 ?_
    try simp only [Act.put, sl1_, sl2_, sl3_]
    refine tk_ 11 ?_
    try simp only [Act.put, sl1_, sl2_, sl3_]
    refine tk_ 12 ?_
    try simp only [Act.put, sl1_, sl2_, sl3_]
    refine tk_ 13 ?_
    try simp only [Act.put, sl1_, sl2_, sl3_]
    refine wpAnyH_done (by kernel_rfl) ?_ _
    have H2 := Asd.mk (HH.out.up h12)
    have k2 := hk1.trans h12 (fun _ _ h => h)
    have T2 := Asd.mk (Tn.grow F k2)
    obtain ⟨v2, hb2⟩ := H2.out.conn HG.out
    replace q10 := keepsC (o := 10) (v := .pointer (some ⟨L.tb, 0, none⟩)) H2.out.own rfl
    replace b0 := keepsC (o := 0) (v := .int .i64 id) hb2 rfl
    replace o0 : ∀ W, Upd (fun _ => False) w2 W → _ := fun W k => o0 W (h12.trans k (fun _ _ h => h))
    replace o1 : ∀ W, Upd (fun _ => False) w2 W → _ := fun W k => o1 W (h12.trans k (fun _ _ h => h))
    have hs2 := Upd.refl (fun _ => False) w2
    clear hb2 h12 hs1 hk1 k2
    try clear hHeld
    go_wp2_with fail
    refine (own_calls 4 _).mono ?_
    rw [show own 4 = false from rfl]
    rintro e w3 ⟨rfl, rfl⟩
    go_wp2_with fail
    refine (shut_calls H2.out HO.out HG.out 0).mono ?_
    rintro e w3 ⟨rfl, F3, h3, t3⟩
    have H3 := Asd.mk h3
    have T3 := Asd.mk (T2.out.trans t3)
    clear h3 t3 q10 b0 o0 o1 hs2
    go_wp2
    go_ret
    exact ⟨by rw [HE.out]; rfl, F3, by rw [HE.out]; exact H3.out, T3.out⟩
  · have hr2 : rg = 2 := by rw [HRG.out, hown2 rfl]; rfl
    have hg2 : (rg != 2) = false := by rw [hr2]; rfl
    have HE : Asd (y = (wTab s (Fl.revoke s.tab), Fl.revokes s.tab == 0)) := ⟨by rw [HY.out]; unfold does; rw [← HR.out, if_neg HOW.out]; rfl⟩
    clear hown2
    go_enter Tryz.func105, Tryz.ntmps105
    go_wp2
    generalize hw1 : w.alloc (.cells #[.int .i64 5, .int .i64 n] 44) = w1 at hk1 hs1 o0 o1 q10 b0 HH ⊢
    clear hw1
    refine wp_region_held_drew (S := fun W => W.cell? ⟨L.q, 10, none⟩ = some (.pointer (some ⟨L.tb, 0, none⟩)) ∧ W.cell? ⟨(L.cn id).p, 0, none⟩ = some (.int .i64 id)) (by kernel_rfl) (by exact ⟨q10 _ (by repeat (first | assumption | with_reducible exact Upd.refl _ _ | with_reducible refine Upd.drewN ?_ _ | with_reducible refine Upd.drew ?_ | with_reducible refine Upd.alloc ?_ _ | with_reducible refine Upd.setAt ?_ ?_ | exact Or.inl rfl | exact Or.inr (by simp) | exact Or.inr (by omega))), b0 _ (by repeat (first | assumption | with_reducible exact Upd.refl _ _ | with_reducible refine Upd.drewN ?_ _ | with_reducible refine Upd.drew ?_ | with_reducible refine Upd.alloc ?_ _ | with_reducible refine Upd.setAt ?_ ?_ | exact Or.inl rfl | exact Or.inr (by simp) | exact Or.inr (by omega)))⟩) (fun hHeld => ?_)
    refine tk_ 0 ?_
    try simp only [Act.put, sl1_, sl2_, sl3_]
    refine tk_ 1 ?_
    try simp only [Act.put, sl1_, sl2_, sl3_]
    refine tk_ 2 ?_
    try simp only [Act.put, sl1_, sl2_, sl3_]
    refine tk_ 3 ?_
    try simp only [Act.put, sl1_, sl2_, sl3_]
    refine tk_ 4 ?_
    try simp only [Act.put, sl1_, sl2_, sl3_]
    refine tk_ 5 ?_
    try simp only [Act.put, sl1_, sl2_, sl3_]
    refine tk_ 6 ?_
    try simp only [Act.put, sl1_, sl2_, sl3_]
    refine tk_ 7 ?_
    try simp only [Act.put, sl1_, sl2_, sl3_]
    refine wpAnyH_ready (rs := [8]) (by kernel_rfl) (by simp) (AllReadyH.cons (o := ?_) ?_ (fun K hK => ?_) AllReadyH.nil)
    rotate_left 1
    · (simp only [List.getElem?_toArray, List.getElem?_cons_succ, List.getElem?_cons_zero]; exact rfl)
    (go_simp; (go_at_call 64; obtain ⟨Ft, hT, _, _⟩ := (HH.out.up (show Upd (fun _ => False) w1 w1.drew from (by repeat (first | assumption | with_reducible exact Upd.refl _ _ | with_reducible refine Upd.drewN ?_ _ | with_reducible refine Upd.drew ?_ | with_reducible refine Upd.alloc ?_ _ | with_reducible refine Upd.setAt ?_ ?_ | exact Or.inl rfl | exact Or.inr (by simp) | exact Or.inr (by omega))))).table; refine (Fl.role_calls hT id ⟨by have := HIR.out; omega, by have := HIR.out; omega⟩).mono ?_; rw [← HR.out, ← HRG.out]; rintro e w2 ⟨rfl, hw2⟩; have h12 := (show Upd (fun _ => False) w1 w1.drew from (by repeat (first | assumption | with_reducible exact Upd.refl _ _ | with_reducible refine Upd.drewN ?_ _ | with_reducible refine Upd.drew ?_ | with_reducible refine Upd.alloc ?_ _ | with_reducible refine Upd.setAt ?_ ?_ | exact Or.inl rfl | exact Or.inr (by simp) | exact Or.inr (by omega)))); rw [hw2] at h12; clear hT hw2))
    refine hK.out _ _ (by exact ⟨q10 _ h12, b0 _ h12⟩) (fun hHeld => ?_)
    clear hK K
    try simp only [Act.put, List.setIfInBounds_toArray, List.set_cons_zero, List.set_cons_succ]
    refine tk_ 9 ?_
    try simp only [Act.put, sl1_, sl2_, sl3_]
    refine tk_ 10 ?_
    try simp only [Act.put, sl1_, sl2_, sl3_]
    refine tk_ 11 ?_
    try simp only [Act.put, sl1_, sl2_, sl3_]
    refine tk_ 12 ?_
    try simp only [Act.put, sl1_, sl2_, sl3_]
    refine tk_ 13 ?_
    try simp only [Act.put, sl1_, sl2_, sl3_]
    refine wpAnyH_done (by kernel_rfl) ?_ _
    have H2 := Asd.mk (HH.out.up h12)
    have k2 := hk1.trans h12 (fun _ _ h => h)
    have T2 := Asd.mk (Tn.grow F k2)
    obtain ⟨v2, hb2⟩ := H2.out.conn HG.out
    replace q10 := keepsC (o := 10) (v := .pointer (some ⟨L.tb, 0, none⟩)) H2.out.own rfl
    replace b0 := keepsC (o := 0) (v := .int .i64 id) hb2 rfl
    replace o0 : ∀ W, Upd (fun _ => False) w2 W → _ := fun W k => o0 W (h12.trans k (fun _ _ h => h))
    replace o1 : ∀ W, Upd (fun _ => False) w2 W → _ := fun W k => o1 W (h12.trans k (fun _ _ h => h))
    have hs2 := Upd.refl (fun _ => False) w2
    clear hb2 h12 hs1 hk1 k2
    try clear hHeld
    go_wp2_with fail
    refine (own_calls 5 _).mono ?_
    rw [show own 5 = true from rfl]
    rintro e w3 ⟨rfl, rfl⟩
    go_wp2_with fail
    obtain ⟨Ft, hT, _, hput⟩ := H2.out.table
    refine (Fl.revoke_calls hT (by have := HO.out.g.lens; omega)).mono ?_
    rintro e w9 ⟨rfl, Ft', hT2, hu2, hn2⟩
    obtain ⟨F9, h9, t9⟩ := hput w9 _ Ft' hT2 hu2 hn2
    have H9 := Asd.mk h9
    have T9 := Asd.mk (T2.out.trans t9)
    clear hT hput hT2 hu2 hn2 h9 t9 q10 b0 o0 o1 hs2
    go_wp2
    go_ret
    exact ⟨by rw [HE.out]; rfl, F9, by rw [HE.out]; exact H9.out, T9.out⟩
  · have hr2 : rg = 2 := by rw [HRG.out, hown2 rfl]; rfl
    have hg2 : (rg != 2) = false := by rw [hr2]; rfl
    have HE : Asd (y = toOther s 6 n) := ⟨by rw [HY.out]; unfold does; rw [← HR.out, if_neg HOW.out]; rfl⟩
    clear hown2
    go_enter Tryz.func105, Tryz.ntmps105
    go_wp2
    generalize hw1 : w.alloc (.cells #[.int .i64 6, .int .i64 n] 44) = w1 at hk1 hs1 o0 o1 q10 b0 HH ⊢
    clear hw1
    refine wp_region_held_drew (S := fun W => W.cell? ⟨L.q, 10, none⟩ = some (.pointer (some ⟨L.tb, 0, none⟩)) ∧ W.cell? ⟨(L.cn id).p, 0, none⟩ = some (.int .i64 id)) (by kernel_rfl) (by exact ⟨q10 _ (by repeat (first | assumption | with_reducible exact Upd.refl _ _ | with_reducible refine Upd.drewN ?_ _ | with_reducible refine Upd.drew ?_ | with_reducible refine Upd.alloc ?_ _ | with_reducible refine Upd.setAt ?_ ?_ | exact Or.inl rfl | exact Or.inr (by simp) | exact Or.inr (by omega))), b0 _ (by repeat (first | assumption | with_reducible exact Upd.refl _ _ | with_reducible refine Upd.drewN ?_ _ | with_reducible refine Upd.drew ?_ | with_reducible refine Upd.alloc ?_ _ | with_reducible refine Upd.setAt ?_ ?_ | exact Or.inl rfl | exact Or.inr (by simp) | exact Or.inr (by omega)))⟩) (fun hHeld => ?_)
    refine tk_ 0 ?_
    try simp only [Act.put, sl1_, sl2_, sl3_]
    refine tk_ 1 ?_
    try simp only [Act.put, sl1_, sl2_, sl3_]
    refine tk_ 2 ?_
    try simp only [Act.put, sl1_, sl2_, sl3_]
    refine tk_ 3 ?_
    try simp only [Act.put, sl1_, sl2_, sl3_]
    refine tk_ 4 ?_
    try simp only [Act.put, sl1_, sl2_, sl3_]
    refine tk_ 5 ?_
    try simp only [Act.put, sl1_, sl2_, sl3_]
    refine tk_ 6 ?_
    try simp only [Act.put, sl1_, sl2_, sl3_]
    refine tk_ 7 ?_
    try simp only [Act.put, sl1_, sl2_, sl3_]
    refine wpAnyH_ready (rs := [8]) (by kernel_rfl) (by simp) (AllReadyH.cons (o := ?_) ?_ (fun K hK => ?_) AllReadyH.nil)
    rotate_left 1
    · (simp only [List.getElem?_toArray, List.getElem?_cons_succ, List.getElem?_cons_zero]; exact rfl)
    (go_simp; (go_at_call 64; obtain ⟨Ft, hT, _, _⟩ := (HH.out.up (show Upd (fun _ => False) w1 w1.drew from (by repeat (first | assumption | with_reducible exact Upd.refl _ _ | with_reducible refine Upd.drewN ?_ _ | with_reducible refine Upd.drew ?_ | with_reducible refine Upd.alloc ?_ _ | with_reducible refine Upd.setAt ?_ ?_ | exact Or.inl rfl | exact Or.inr (by simp) | exact Or.inr (by omega))))).table; refine (Fl.role_calls hT id ⟨by have := HIR.out; omega, by have := HIR.out; omega⟩).mono ?_; rw [← HR.out, ← HRG.out]; rintro e w2 ⟨rfl, hw2⟩; have h12 := (show Upd (fun _ => False) w1 w1.drew from (by repeat (first | assumption | with_reducible exact Upd.refl _ _ | with_reducible refine Upd.drewN ?_ _ | with_reducible refine Upd.drew ?_ | with_reducible refine Upd.alloc ?_ _ | with_reducible refine Upd.setAt ?_ ?_ | exact Or.inl rfl | exact Or.inr (by simp) | exact Or.inr (by omega)))); rw [hw2] at h12; clear hT hw2))
    refine hK.out _ _ (by exact ⟨q10 _ h12, b0 _ h12⟩) (fun hHeld => ?_)
    clear hK K
    try simp only [Act.put, List.setIfInBounds_toArray, List.set_cons_zero, List.set_cons_succ]
    refine tk_ 9 ?_
    try simp only [Act.put, sl1_, sl2_, sl3_]
    refine tk_ 10 ?_
    try simp only [Act.put, sl1_, sl2_, sl3_]
    refine tk_ 11 ?_
    try simp only [Act.put, sl1_, sl2_, sl3_]
    refine tk_ 12 ?_
    try simp only [Act.put, sl1_, sl2_, sl3_]
    refine tk_ 13 ?_
    try simp only [Act.put, sl1_, sl2_, sl3_]
    refine wpAnyH_done (by kernel_rfl) ?_ _
    have H2 := Asd.mk (HH.out.up h12)
    have k2 := hk1.trans h12 (fun _ _ h => h)
    have T2 := Asd.mk (Tn.grow F k2)
    obtain ⟨v2, hb2⟩ := H2.out.conn HG.out
    replace q10 := keepsC (o := 10) (v := .pointer (some ⟨L.tb, 0, none⟩)) H2.out.own rfl
    replace b0 := keepsC (o := 0) (v := .int .i64 id) hb2 rfl
    replace o0 : ∀ W, Upd (fun _ => False) w2 W → _ := fun W k => o0 W (h12.trans k (fun _ _ h => h))
    replace o1 : ∀ W, Upd (fun _ => False) w2 W → _ := fun W k => o1 W (h12.trans k (fun _ _ h => h))
    have hs2 := Upd.refl (fun _ => False) w2
    clear hb2 h12 hs1 hk1 k2
    try clear hHeld
    go_wp2_with fail
    refine (own_calls 6 _).mono ?_
    rw [show own 6 = true from rfl]
    rintro e w3 ⟨rfl, rfl⟩
    go_wp2_with fail
    refine (toOther_calls H2.out HO.out 6 n (by omega) (by omega)).mono ?_
    rw [← HE.out]
    rintro e w3 ⟨rfl, F3, h3, t3⟩
    have H3 := Asd.mk h3
    have T3 := Asd.mk (T2.out.trans t3)
    clear h3 t3 q10 b0 o0 o1 hs2
    go_wp2
    go_ret
    exact ⟨rfl, F3, H3.out, T3.out⟩
  · have hr2 : rg = 2 := by rw [HRG.out, hown2 rfl]; rfl
    have hg2 : (rg != 2) = false := by rw [hr2]; rfl
    have HE : Asd (y = toOther s 7 n) := ⟨by rw [HY.out]; unfold does; rw [← HR.out, if_neg HOW.out]; rfl⟩
    clear hown2
    go_enter Tryz.func105, Tryz.ntmps105
    go_wp2
    generalize hw1 : w.alloc (.cells #[.int .i64 7, .int .i64 n] 44) = w1 at hk1 hs1 o0 o1 q10 b0 HH ⊢
    clear hw1
    refine wp_region_held_drew (S := fun W => W.cell? ⟨L.q, 10, none⟩ = some (.pointer (some ⟨L.tb, 0, none⟩)) ∧ W.cell? ⟨(L.cn id).p, 0, none⟩ = some (.int .i64 id)) (by kernel_rfl) (by exact ⟨q10 _ (by repeat (first | assumption | with_reducible exact Upd.refl _ _ | with_reducible refine Upd.drewN ?_ _ | with_reducible refine Upd.drew ?_ | with_reducible refine Upd.alloc ?_ _ | with_reducible refine Upd.setAt ?_ ?_ | exact Or.inl rfl | exact Or.inr (by simp) | exact Or.inr (by omega))), b0 _ (by repeat (first | assumption | with_reducible exact Upd.refl _ _ | with_reducible refine Upd.drewN ?_ _ | with_reducible refine Upd.drew ?_ | with_reducible refine Upd.alloc ?_ _ | with_reducible refine Upd.setAt ?_ ?_ | exact Or.inl rfl | exact Or.inr (by simp) | exact Or.inr (by omega)))⟩) (fun hHeld => ?_)
    refine tk_ 0 ?_
    try simp only [Act.put, sl1_, sl2_, sl3_]
    refine tk_ 1 ?_
    try simp only [Act.put, sl1_, sl2_, sl3_]
    refine tk_ 2 ?_
    try simp only [Act.put, sl1_, sl2_, sl3_]
    refine tk_ 3 ?_
    try simp only [Act.put, sl1_, sl2_, sl3_]
    refine tk_ 4 ?_
    try simp only [Act.put, sl1_, sl2_, sl3_]
    refine tk_ 5 ?_
    try simp only [Act.put, sl1_, sl2_, sl3_]
    refine tk_ 6 ?_
    try simp only [Act.put, sl1_, sl2_, sl3_]
    refine tk_ 7 ?_
    try simp only [Act.put, sl1_, sl2_, sl3_]
    refine wpAnyH_ready (rs := [8]) (by kernel_rfl) (by simp) (AllReadyH.cons (o := ?_) ?_ (fun K hK => ?_) AllReadyH.nil)
    rotate_left 1
    · (simp only [List.getElem?_toArray, List.getElem?_cons_succ, List.getElem?_cons_zero]; exact rfl)
    (go_simp; (go_at_call 64; obtain ⟨Ft, hT, _, _⟩ := (HH.out.up (show Upd (fun _ => False) w1 w1.drew from (by repeat (first | assumption | with_reducible exact Upd.refl _ _ | with_reducible refine Upd.drewN ?_ _ | with_reducible refine Upd.drew ?_ | with_reducible refine Upd.alloc ?_ _ | with_reducible refine Upd.setAt ?_ ?_ | exact Or.inl rfl | exact Or.inr (by simp) | exact Or.inr (by omega))))).table; refine (Fl.role_calls hT id ⟨by have := HIR.out; omega, by have := HIR.out; omega⟩).mono ?_; rw [← HR.out, ← HRG.out]; rintro e w2 ⟨rfl, hw2⟩; have h12 := (show Upd (fun _ => False) w1 w1.drew from (by repeat (first | assumption | with_reducible exact Upd.refl _ _ | with_reducible refine Upd.drewN ?_ _ | with_reducible refine Upd.drew ?_ | with_reducible refine Upd.alloc ?_ _ | with_reducible refine Upd.setAt ?_ ?_ | exact Or.inl rfl | exact Or.inr (by simp) | exact Or.inr (by omega)))); rw [hw2] at h12; clear hT hw2))
    refine hK.out _ _ (by exact ⟨q10 _ h12, b0 _ h12⟩) (fun hHeld => ?_)
    clear hK K
    try simp only [Act.put, List.setIfInBounds_toArray, List.set_cons_zero, List.set_cons_succ]
    refine tk_ 9 ?_
    try simp only [Act.put, sl1_, sl2_, sl3_]
    refine tk_ 10 ?_
    try simp only [Act.put, sl1_, sl2_, sl3_]
    refine tk_ 11 ?_
    try simp only [Act.put, sl1_, sl2_, sl3_]
    refine tk_ 12 ?_
    try simp only [Act.put, sl1_, sl2_, sl3_]
    refine tk_ 13 ?_
    try simp only [Act.put, sl1_, sl2_, sl3_]
    refine wpAnyH_done (by kernel_rfl) ?_ _
    have H2 := Asd.mk (HH.out.up h12)
    have k2 := hk1.trans h12 (fun _ _ h => h)
    have T2 := Asd.mk (Tn.grow F k2)
    obtain ⟨v2, hb2⟩ := H2.out.conn HG.out
    replace q10 := keepsC (o := 10) (v := .pointer (some ⟨L.tb, 0, none⟩)) H2.out.own rfl
    replace b0 := keepsC (o := 0) (v := .int .i64 id) hb2 rfl
    replace o0 : ∀ W, Upd (fun _ => False) w2 W → _ := fun W k => o0 W (h12.trans k (fun _ _ h => h))
    replace o1 : ∀ W, Upd (fun _ => False) w2 W → _ := fun W k => o1 W (h12.trans k (fun _ _ h => h))
    have hs2 := Upd.refl (fun _ => False) w2
    clear hb2 h12 hs1 hk1 k2
    try clear hHeld
    go_wp2_with fail
    refine (own_calls 7 _).mono ?_
    rw [show own 7 = true from rfl]
    rintro e w3 ⟨rfl, rfl⟩
    go_wp2_with fail
    refine (toOther_calls H2.out HO.out 7 n (by omega) (by omega)).mono ?_
    rw [← HE.out]
    rintro e w3 ⟨rfl, F3, h3, t3⟩
    have H3 := Asd.mk h3
    have T3 := Asd.mk (T2.out.trans t3)
    clear h3 t3 q10 b0 o0 o1 hs2
    go_wp2
    go_ret
    exact ⟨rfl, F3, H3.out, T3.out⟩
  · have hr2 : rg = 2 := by rw [HRG.out, hown2 rfl]; rfl
    have hg2 : (rg != 2) = false := by rw [hr2]; rfl
    have HE : Asd (y = toOther s 8 n) := ⟨by rw [HY.out]; unfold does; rw [← HR.out, if_neg HOW.out]; rfl⟩
    clear hown2
    go_enter Tryz.func105, Tryz.ntmps105
    go_wp2
    generalize hw1 : w.alloc (.cells #[.int .i64 8, .int .i64 n] 44) = w1 at hk1 hs1 o0 o1 q10 b0 HH ⊢
    clear hw1
    refine wp_region_held_drew (S := fun W => W.cell? ⟨L.q, 10, none⟩ = some (.pointer (some ⟨L.tb, 0, none⟩)) ∧ W.cell? ⟨(L.cn id).p, 0, none⟩ = some (.int .i64 id)) (by kernel_rfl) (by exact ⟨q10 _ (by repeat (first | assumption | with_reducible exact Upd.refl _ _ | with_reducible refine Upd.drewN ?_ _ | with_reducible refine Upd.drew ?_ | with_reducible refine Upd.alloc ?_ _ | with_reducible refine Upd.setAt ?_ ?_ | exact Or.inl rfl | exact Or.inr (by simp) | exact Or.inr (by omega))), b0 _ (by repeat (first | assumption | with_reducible exact Upd.refl _ _ | with_reducible refine Upd.drewN ?_ _ | with_reducible refine Upd.drew ?_ | with_reducible refine Upd.alloc ?_ _ | with_reducible refine Upd.setAt ?_ ?_ | exact Or.inl rfl | exact Or.inr (by simp) | exact Or.inr (by omega)))⟩) (fun hHeld => ?_)
    refine tk_ 0 ?_
    try simp only [Act.put, sl1_, sl2_, sl3_]
    refine tk_ 1 ?_
    try simp only [Act.put, sl1_, sl2_, sl3_]
    refine tk_ 2 ?_
    try simp only [Act.put, sl1_, sl2_, sl3_]
    refine tk_ 3 ?_
    try simp only [Act.put, sl1_, sl2_, sl3_]
    refine tk_ 4 ?_
    try simp only [Act.put, sl1_, sl2_, sl3_]
    refine tk_ 5 ?_
    try simp only [Act.put, sl1_, sl2_, sl3_]
    refine tk_ 6 ?_
    try simp only [Act.put, sl1_, sl2_, sl3_]
    refine tk_ 7 ?_
    try simp only [Act.put, sl1_, sl2_, sl3_]
    refine wpAnyH_ready (rs := [8]) (by kernel_rfl) (by simp) (AllReadyH.cons (o := ?_) ?_ (fun K hK => ?_) AllReadyH.nil)
    rotate_left 1
    · (simp only [List.getElem?_toArray, List.getElem?_cons_succ, List.getElem?_cons_zero]; exact rfl)
    (go_simp; (go_at_call 64; obtain ⟨Ft, hT, _, _⟩ := (HH.out.up (show Upd (fun _ => False) w1 w1.drew from (by repeat (first | assumption | with_reducible exact Upd.refl _ _ | with_reducible refine Upd.drewN ?_ _ | with_reducible refine Upd.drew ?_ | with_reducible refine Upd.alloc ?_ _ | with_reducible refine Upd.setAt ?_ ?_ | exact Or.inl rfl | exact Or.inr (by simp) | exact Or.inr (by omega))))).table; refine (Fl.role_calls hT id ⟨by have := HIR.out; omega, by have := HIR.out; omega⟩).mono ?_; rw [← HR.out, ← HRG.out]; rintro e w2 ⟨rfl, hw2⟩; have h12 := (show Upd (fun _ => False) w1 w1.drew from (by repeat (first | assumption | with_reducible exact Upd.refl _ _ | with_reducible refine Upd.drewN ?_ _ | with_reducible refine Upd.drew ?_ | with_reducible refine Upd.alloc ?_ _ | with_reducible refine Upd.setAt ?_ ?_ | exact Or.inl rfl | exact Or.inr (by simp) | exact Or.inr (by omega)))); rw [hw2] at h12; clear hT hw2))
    refine hK.out _ _ (by exact ⟨q10 _ h12, b0 _ h12⟩) (fun hHeld => ?_)
    clear hK K
    try simp only [Act.put, List.setIfInBounds_toArray, List.set_cons_zero, List.set_cons_succ]
    refine tk_ 9 ?_
    try simp only [Act.put, sl1_, sl2_, sl3_]
    refine tk_ 10 ?_
    try simp only [Act.put, sl1_, sl2_, sl3_]
    refine tk_ 11 ?_
    try simp only [Act.put, sl1_, sl2_, sl3_]
    refine tk_ 12 ?_
    try simp only [Act.put, sl1_, sl2_, sl3_]
    refine tk_ 13 ?_
    try simp only [Act.put, sl1_, sl2_, sl3_]
    refine wpAnyH_done (by kernel_rfl) ?_ _
    have H2 := Asd.mk (HH.out.up h12)
    have k2 := hk1.trans h12 (fun _ _ h => h)
    have T2 := Asd.mk (Tn.grow F k2)
    obtain ⟨v2, hb2⟩ := H2.out.conn HG.out
    replace q10 := keepsC (o := 10) (v := .pointer (some ⟨L.tb, 0, none⟩)) H2.out.own rfl
    replace b0 := keepsC (o := 0) (v := .int .i64 id) hb2 rfl
    replace o0 : ∀ W, Upd (fun _ => False) w2 W → _ := fun W k => o0 W (h12.trans k (fun _ _ h => h))
    replace o1 : ∀ W, Upd (fun _ => False) w2 W → _ := fun W k => o1 W (h12.trans k (fun _ _ h => h))
    have hs2 := Upd.refl (fun _ => False) w2
    clear hb2 h12 hs1 hk1 k2
    try clear hHeld
    go_wp2_with fail
    refine (own_calls 8 _).mono ?_
    rw [show own 8 = true from rfl]
    rintro e w3 ⟨rfl, rfl⟩
    go_wp2_with fail
    refine (toOther_calls H2.out HO.out 8 n (by omega) (by omega)).mono ?_
    rw [← HE.out]
    rintro e w3 ⟨rfl, F3, h3, t3⟩
    have H3 := Asd.mk h3
    have T3 := Asd.mk (T2.out.trans t3)
    clear h3 t3 q10 b0 o0 o1 hs2
    go_wp2
    go_ret
    exact ⟨rfl, F3, H3.out, T3.out⟩
  · have hr2 : rg = 2 := by rw [HRG.out, hown2 rfl]; rfl
    have hg2 : (rg != 2) = false := by rw [hr2]; rfl
    have HE : Asd (y = toOther s 9 n) := ⟨by rw [HY.out]; unfold does; rw [← HR.out, if_neg HOW.out]; rfl⟩
    clear hown2
    go_enter Tryz.func105, Tryz.ntmps105
    go_wp2
    generalize hw1 : w.alloc (.cells #[.int .i64 9, .int .i64 n] 44) = w1 at hk1 hs1 o0 o1 q10 b0 HH ⊢
    clear hw1
    refine wp_region_held_drew (S := fun W => W.cell? ⟨L.q, 10, none⟩ = some (.pointer (some ⟨L.tb, 0, none⟩)) ∧ W.cell? ⟨(L.cn id).p, 0, none⟩ = some (.int .i64 id)) (by kernel_rfl) (by exact ⟨q10 _ (by repeat (first | assumption | with_reducible exact Upd.refl _ _ | with_reducible refine Upd.drewN ?_ _ | with_reducible refine Upd.drew ?_ | with_reducible refine Upd.alloc ?_ _ | with_reducible refine Upd.setAt ?_ ?_ | exact Or.inl rfl | exact Or.inr (by simp) | exact Or.inr (by omega))), b0 _ (by repeat (first | assumption | with_reducible exact Upd.refl _ _ | with_reducible refine Upd.drewN ?_ _ | with_reducible refine Upd.drew ?_ | with_reducible refine Upd.alloc ?_ _ | with_reducible refine Upd.setAt ?_ ?_ | exact Or.inl rfl | exact Or.inr (by simp) | exact Or.inr (by omega)))⟩) (fun hHeld => ?_)
    refine tk_ 0 ?_
    try simp only [Act.put, sl1_, sl2_, sl3_]
    refine tk_ 1 ?_
    try simp only [Act.put, sl1_, sl2_, sl3_]
    refine tk_ 2 ?_
    try simp only [Act.put, sl1_, sl2_, sl3_]
    refine tk_ 3 ?_
    try simp only [Act.put, sl1_, sl2_, sl3_]
    refine tk_ 4 ?_
    try simp only [Act.put, sl1_, sl2_, sl3_]
    refine tk_ 5 ?_
    try simp only [Act.put, sl1_, sl2_, sl3_]
    refine tk_ 6 ?_
    try simp only [Act.put, sl1_, sl2_, sl3_]
    refine tk_ 7 ?_
    try simp only [Act.put, sl1_, sl2_, sl3_]
    refine wpAnyH_ready (rs := [8]) (by kernel_rfl) (by simp) (AllReadyH.cons (o := ?_) ?_ (fun K hK => ?_) AllReadyH.nil)
    rotate_left 1
    · (simp only [List.getElem?_toArray, List.getElem?_cons_succ, List.getElem?_cons_zero]; exact rfl)
    (go_simp; (go_at_call 64; obtain ⟨Ft, hT, _, _⟩ := (HH.out.up (show Upd (fun _ => False) w1 w1.drew from (by repeat (first | assumption | with_reducible exact Upd.refl _ _ | with_reducible refine Upd.drewN ?_ _ | with_reducible refine Upd.drew ?_ | with_reducible refine Upd.alloc ?_ _ | with_reducible refine Upd.setAt ?_ ?_ | exact Or.inl rfl | exact Or.inr (by simp) | exact Or.inr (by omega))))).table; refine (Fl.role_calls hT id ⟨by have := HIR.out; omega, by have := HIR.out; omega⟩).mono ?_; rw [← HR.out, ← HRG.out]; rintro e w2 ⟨rfl, hw2⟩; have h12 := (show Upd (fun _ => False) w1 w1.drew from (by repeat (first | assumption | with_reducible exact Upd.refl _ _ | with_reducible refine Upd.drewN ?_ _ | with_reducible refine Upd.drew ?_ | with_reducible refine Upd.alloc ?_ _ | with_reducible refine Upd.setAt ?_ ?_ | exact Or.inl rfl | exact Or.inr (by simp) | exact Or.inr (by omega)))); rw [hw2] at h12; clear hT hw2))
    refine hK.out _ _ (by exact ⟨q10 _ h12, b0 _ h12⟩) (fun hHeld => ?_)
    clear hK K
    try simp only [Act.put, List.setIfInBounds_toArray, List.set_cons_zero, List.set_cons_succ]
    refine tk_ 9 ?_
    try simp only [Act.put, sl1_, sl2_, sl3_]
    refine tk_ 10 ?_
    try simp only [Act.put, sl1_, sl2_, sl3_]
    refine tk_ 11 ?_
    try simp only [Act.put, sl1_, sl2_, sl3_]
    refine tk_ 12 ?_
    try simp only [Act.put, sl1_, sl2_, sl3_]
    refine tk_ 13 ?_
    try simp only [Act.put, sl1_, sl2_, sl3_]
    refine wpAnyH_done (by kernel_rfl) ?_ _
    have H2 := Asd.mk (HH.out.up h12)
    have k2 := hk1.trans h12 (fun _ _ h => h)
    have T2 := Asd.mk (Tn.grow F k2)
    obtain ⟨v2, hb2⟩ := H2.out.conn HG.out
    replace q10 := keepsC (o := 10) (v := .pointer (some ⟨L.tb, 0, none⟩)) H2.out.own rfl
    replace b0 := keepsC (o := 0) (v := .int .i64 id) hb2 rfl
    replace o0 : ∀ W, Upd (fun _ => False) w2 W → _ := fun W k => o0 W (h12.trans k (fun _ _ h => h))
    replace o1 : ∀ W, Upd (fun _ => False) w2 W → _ := fun W k => o1 W (h12.trans k (fun _ _ h => h))
    have hs2 := Upd.refl (fun _ => False) w2
    clear hb2 h12 hs1 hk1 k2
    try clear hHeld
    go_wp2_with fail
    refine (own_calls 9 _).mono ?_
    rw [show own 9 = true from rfl]
    rintro e w3 ⟨rfl, rfl⟩
    go_wp2_with fail
    refine (toOther_calls H2.out HO.out 9 n (by omega) (by omega)).mono ?_
    rw [← HE.out]
    rintro e w3 ⟨rfl, F3, h3, t3⟩
    have H3 := Asd.mk h3
    have T3 := Asd.mk (T2.out.trans t3)
    clear h3 t3 q10 b0 o0 o1 hs2
    go_wp2
    go_ret
    exact ⟨rfl, F3, H3.out, T3.out⟩
  · have HE : Asd (y = (set s id (cVw c (Vw.startN s.log (Rg.roomN s.cf.log) n false, (c.vw.map (·.2)).getD 0)), true)) := ⟨by rw [HY.out]; unfold does; rw [← HR.out, if_neg HOW.out]; rw [HG.out]; rfl⟩
    clear hown2
    go_enter Tryz.func105, Tryz.ntmps105
    go_wp2
    generalize hw1 : w.alloc (.cells #[.int .i64 10, .int .i64 n] 44) = w1 at hk1 hs1 o0 o1 q10 b0 HH ⊢
    clear hw1
    refine wp_region_held_drew (S := fun W => W.cell? ⟨L.q, 10, none⟩ = some (.pointer (some ⟨L.tb, 0, none⟩)) ∧ W.cell? ⟨(L.cn id).p, 0, none⟩ = some (.int .i64 id)) (by kernel_rfl) (by exact ⟨q10 _ (by repeat (first | assumption | with_reducible exact Upd.refl _ _ | with_reducible refine Upd.drewN ?_ _ | with_reducible refine Upd.drew ?_ | with_reducible refine Upd.alloc ?_ _ | with_reducible refine Upd.setAt ?_ ?_ | exact Or.inl rfl | exact Or.inr (by simp) | exact Or.inr (by omega))), b0 _ (by repeat (first | assumption | with_reducible exact Upd.refl _ _ | with_reducible refine Upd.drewN ?_ _ | with_reducible refine Upd.drew ?_ | with_reducible refine Upd.alloc ?_ _ | with_reducible refine Upd.setAt ?_ ?_ | exact Or.inl rfl | exact Or.inr (by simp) | exact Or.inr (by omega)))⟩) (fun hHeld => ?_)
    refine tk_ 0 ?_
    try simp only [Act.put, sl1_, sl2_, sl3_]
    refine tk_ 1 ?_
    try simp only [Act.put, sl1_, sl2_, sl3_]
    refine tk_ 2 ?_
    try simp only [Act.put, sl1_, sl2_, sl3_]
    refine tk_ 3 ?_
    try simp only [Act.put, sl1_, sl2_, sl3_]
    refine tk_ 4 ?_
    try simp only [Act.put, sl1_, sl2_, sl3_]
    refine tk_ 5 ?_
    try simp only [Act.put, sl1_, sl2_, sl3_]
    refine tk_ 6 ?_
    try simp only [Act.put, sl1_, sl2_, sl3_]
    refine tk_ 7 ?_
    try simp only [Act.put, sl1_, sl2_, sl3_]
    refine wpAnyH_ready (rs := [8]) (by kernel_rfl) (by simp) (AllReadyH.cons (o := ?_) ?_ (fun K hK => ?_) AllReadyH.nil)
    rotate_left 1
    · (simp only [List.getElem?_toArray, List.getElem?_cons_succ, List.getElem?_cons_zero]; exact rfl)
    (go_simp; (go_at_call 64; obtain ⟨Ft, hT, _, _⟩ := (HH.out.up (show Upd (fun _ => False) w1 w1.drew from (by repeat (first | assumption | with_reducible exact Upd.refl _ _ | with_reducible refine Upd.drewN ?_ _ | with_reducible refine Upd.drew ?_ | with_reducible refine Upd.alloc ?_ _ | with_reducible refine Upd.setAt ?_ ?_ | exact Or.inl rfl | exact Or.inr (by simp) | exact Or.inr (by omega))))).table; refine (Fl.role_calls hT id ⟨by have := HIR.out; omega, by have := HIR.out; omega⟩).mono ?_; rw [← HR.out, ← HRG.out]; rintro e w2 ⟨rfl, hw2⟩; have h12 := (show Upd (fun _ => False) w1 w1.drew from (by repeat (first | assumption | with_reducible exact Upd.refl _ _ | with_reducible refine Upd.drewN ?_ _ | with_reducible refine Upd.drew ?_ | with_reducible refine Upd.alloc ?_ _ | with_reducible refine Upd.setAt ?_ ?_ | exact Or.inl rfl | exact Or.inr (by simp) | exact Or.inr (by omega)))); rw [hw2] at h12; clear hT hw2))
    refine hK.out _ _ (by exact ⟨q10 _ h12, b0 _ h12⟩) (fun hHeld => ?_)
    clear hK K
    try simp only [Act.put, List.setIfInBounds_toArray, List.set_cons_zero, List.set_cons_succ]
    refine tk_ 9 ?_
    try simp only [Act.put, sl1_, sl2_, sl3_]
    refine tk_ 10 ?_
    try simp only [Act.put, sl1_, sl2_, sl3_]
    refine tk_ 11 ?_
    try simp only [Act.put, sl1_, sl2_, sl3_]
    refine tk_ 12 ?_
    try simp only [Act.put, sl1_, sl2_, sl3_]
    refine tk_ 13 ?_
    try simp only [Act.put, sl1_, sl2_, sl3_]
    refine wpAnyH_done (by kernel_rfl) ?_ _
    have H2 := Asd.mk (HH.out.up h12)
    have k2 := hk1.trans h12 (fun _ _ h => h)
    have T2 := Asd.mk (Tn.grow F k2)
    obtain ⟨v2, hb2⟩ := H2.out.conn HG.out
    replace q10 := keepsC (o := 10) (v := .pointer (some ⟨L.tb, 0, none⟩)) H2.out.own rfl
    replace b0 := keepsC (o := 0) (v := .int .i64 id) hb2 rfl
    replace o0 : ∀ W, Upd (fun _ => False) w2 W → _ := fun W k => o0 W (h12.trans k (fun _ _ h => h))
    replace o1 : ∀ W, Upd (fun _ => False) w2 W → _ := fun W k => o1 W (h12.trans k (fun _ _ h => h))
    have hs2 := Upd.refl (fun _ => False) w2
    clear hb2 h12 hs1 hk1 k2
    try clear hHeld
    go_wp2_with fail
    refine (own_calls 10 _).mono ?_
    rw [show own 10 = false from rfl]
    rintro e w3 ⟨rfl, rfl⟩
    obtain ⟨a, b, hvw⟩ : ∃ a b, c.vw = some (a, b) := by
        cases e : c.vw with
        | none => have := HVW.out.1; rw [e] at this; cases this
        | some q => exact ⟨q.1, q.2, rfl⟩
    have HVB : Asd ((c.vw.map (·.2)).getD 0 = b) := ⟨by rw [hvw]; rfl⟩
    rw [HVB.out] at HE
    obtain ⟨vv, hbv, hV, ⟨g, hR, hRn⟩, hvq, hput⟩ := H2.out.setView HG.out hvw
    have HNE : Asd ((L.cn id).p ≠ vv ∧ L.q ≠ vv ∧ w.heap.size ≠ vv) := ⟨⟨fun e => hvq.2.1 e.symm, fun e => hvq.1 e.symm, fun e => by have := H.out.bk.lt _ hvq.2.2; omega⟩⟩
    have c7 := keepsC (o := 7) (v := .pointer (some ⟨vv, 0, none⟩)) hbv rfl
    have q8 := keepsC (o := 8) (v := .pointer (some ⟨L.lg, 0, none⟩)) H2.out.own rfl
    have HPUT := Asd.mk hput
    have HV := Asd.mk hV
    have HRI := Asd.mk hR
    clear hput hV hR hRn hvq hbv hvw b0 q10
    go_wp2
    refine wp_region_held_drew (S := fun W => W.cell? ⟨(L.cn id).p, 7, none⟩ = some (.pointer (some ⟨vv, 0, none⟩)) ∧ W.cell? ⟨L.q, 8, none⟩ = some (.pointer (some ⟨L.lg, 0, none⟩)) ∧ W.cell? ⟨w.heap.size, 1, none⟩ = some (.int .i64 n)) (by kernel_rfl) (by exact ⟨c7 _ (by repeat (first | assumption | with_reducible exact Upd.refl _ _ | with_reducible refine Upd.drewN ?_ _ | with_reducible refine Upd.drew ?_ | with_reducible refine Upd.alloc ?_ _ | with_reducible refine Upd.setAt ?_ ?_ | exact Or.inl rfl | exact Or.inr (by simp) | exact Or.inr (by omega))), q8 _ (by repeat (first | assumption | with_reducible exact Upd.refl _ _ | with_reducible refine Upd.drewN ?_ _ | with_reducible refine Upd.drew ?_ | with_reducible refine Upd.alloc ?_ _ | with_reducible refine Upd.setAt ?_ ?_ | exact Or.inl rfl | exact Or.inr (by simp) | exact Or.inr (by omega))), o1 _ (by repeat (first | assumption | with_reducible exact Upd.refl _ _ | with_reducible refine Upd.drewN ?_ _ | with_reducible refine Upd.drew ?_ | with_reducible refine Upd.alloc ?_ _ | with_reducible refine Upd.setAt ?_ ?_ | exact Or.inl rfl | exact Or.inr (by simp) | exact Or.inr (by omega)))⟩) (fun hHeld => ?_)
    refine tk_ 0 ?_
    try simp only [Act.put, sl1_, sl2_, sl3_]
    refine tk_ 1 ?_
    try simp only [Act.put, sl1_, sl2_, sl3_]
    refine tk_ 2 ?_
    try simp only [Act.put, sl1_, sl2_, sl3_]
    refine tk_ 3 ?_
    try simp only [Act.put, sl1_, sl2_, sl3_]
    refine tk_ 4 ?_
    try simp only [Act.put, sl1_, sl2_, sl3_]
    refine tk_ 5 ?_
    try simp only [Act.put, sl1_, sl2_, sl3_]
    refine tk_ 6 ?_
    try simp only [Act.put, sl1_, sl2_, sl3_]
    refine tk_ 7 ?_
    try simp only [Act.put, sl1_, sl2_, sl3_]
    refine tk_ 8 ?_
    try simp only [Act.put, sl1_, sl2_, sl3_]
    refine tk_ 9 ?_
    try simp only [Act.put, sl1_, sl2_, sl3_]
    refine wpAnyH_ready (rs := [10]) (by kernel_rfl) (by simp) (AllReadyH.cons (o := ?_) ?_ (fun K hK => ?_) AllReadyH.nil)
    rotate_left 1
    · (simp only [List.getElem?_toArray, List.getElem?_cons_succ, List.getElem?_cons_zero]; exact rfl)
    (go_simp; (go_at_call 134; have hd2 := (show Upd (fun _ => False) w2 w2.drew from (by repeat (first | assumption | with_reducible exact Upd.refl _ _ | with_reducible refine Upd.drewN ?_ _ | with_reducible refine Upd.drew ?_ | with_reducible refine Upd.alloc ?_ _ | with_reducible refine Upd.setAt ?_ ?_ | exact Or.inl rfl | exact Or.inr (by simp) | exact Or.inr (by omega)))); refine (again_calls (HRI.out.up hd2) (HV.out.up hd2 (fun h => h)) n (by omega)).mono ?_; rintro e w9 ⟨rfl, hV9, hu9⟩; have hu29 := (hd2.mono (T := fun i => i = vv) (fun _ _ h => h.elim)).trans hu9 (fun _ _ h => h); obtain ⟨F9, h9, t9⟩ := HPUT.out w9 _ _ hV9 hu29; have H9 := Asd.mk h9; have T9 := Asd.mk (T2.out.trans t9); have HC9 := Asd.mk (And.intro (hu29.cell (c7 _ (Upd.refl _ _)) HNE.out.1) (And.intro (hu29.cell (q8 _ (Upd.refl _ _)) HNE.out.2.1) (hu29.cell (o1 _ (Upd.refl _ _)) HNE.out.2.2))); clear hV9 hu9 h9 t9 hd2 hu29))
    refine hK.out _ _ (by exact HC9.out) (fun hHeld => ?_)
    clear hK K
    try simp only [Act.put, List.setIfInBounds_toArray, List.set_cons_zero, List.set_cons_succ]
    refine wpAnyH_done (by kernel_rfl) ?_ _
    clear c7 q8 o1 hs2
    go_wp2
    go_ret
    exact ⟨by rw [HE.out]; rfl, F9, by rw [HE.out]; exact H9.out, T9.out⟩
  · have hr2 : rg = 2 := by rw [HRG.out, hown2 rfl]; rfl
    have hg2 : (rg != 2) = false := by rw [hr2]; rfl
    have HE : Asd (y = (if 9 < n then (s, false) else (wStrikes s n, true))) := ⟨by rw [HY.out]; unfold does; rw [← HR.out, if_neg HOW.out]; rfl⟩
    clear hown2
    by_cases hn9 : 9 < n
    · have HE2 : Asd (y = (s, false)) := ⟨by rw [HE.out, if_pos hn9]⟩
      go_enter Tryz.func105, Tryz.ntmps105
      go_wp2
      generalize hw1 : w.alloc (.cells #[.int .i64 11, .int .i64 n] 44) = w1 at hk1 hs1 o0 o1 q10 b0 HH ⊢
      clear hw1
      refine wp_region_held_drew (S := fun W => W.cell? ⟨L.q, 10, none⟩ = some (.pointer (some ⟨L.tb, 0, none⟩)) ∧ W.cell? ⟨(L.cn id).p, 0, none⟩ = some (.int .i64 id)) (by kernel_rfl) (by exact ⟨q10 _ (by repeat (first | assumption | with_reducible exact Upd.refl _ _ | with_reducible refine Upd.drewN ?_ _ | with_reducible refine Upd.drew ?_ | with_reducible refine Upd.alloc ?_ _ | with_reducible refine Upd.setAt ?_ ?_ | exact Or.inl rfl | exact Or.inr (by simp) | exact Or.inr (by omega))), b0 _ (by repeat (first | assumption | with_reducible exact Upd.refl _ _ | with_reducible refine Upd.drewN ?_ _ | with_reducible refine Upd.drew ?_ | with_reducible refine Upd.alloc ?_ _ | with_reducible refine Upd.setAt ?_ ?_ | exact Or.inl rfl | exact Or.inr (by simp) | exact Or.inr (by omega)))⟩) (fun hHeld => ?_)
      refine tk_ 0 ?_
      try simp only [Act.put, sl1_, sl2_, sl3_]
      refine tk_ 1 ?_
      try simp only [Act.put, sl1_, sl2_, sl3_]
      refine tk_ 2 ?_
      try simp only [Act.put, sl1_, sl2_, sl3_]
      refine tk_ 3 ?_
      try simp only [Act.put, sl1_, sl2_, sl3_]
      refine tk_ 4 ?_
      try simp only [Act.put, sl1_, sl2_, sl3_]
      refine tk_ 5 ?_
      try simp only [Act.put, sl1_, sl2_, sl3_]
      refine tk_ 6 ?_
      try simp only [Act.put, sl1_, sl2_, sl3_]
      refine tk_ 7 ?_
      try simp only [Act.put, sl1_, sl2_, sl3_]
      refine wpAnyH_ready (rs := [8]) (by kernel_rfl) (by simp) (AllReadyH.cons (o := ?_) ?_ (fun K hK => ?_) AllReadyH.nil)
      rotate_left 1
      · (simp only [List.getElem?_toArray, List.getElem?_cons_succ, List.getElem?_cons_zero]; exact rfl)
      (go_simp; (go_at_call 64; obtain ⟨Ft, hT, _, _⟩ := (HH.out.up (show Upd (fun _ => False) w1 w1.drew from (by repeat (first | assumption | with_reducible exact Upd.refl _ _ | with_reducible refine Upd.drewN ?_ _ | with_reducible refine Upd.drew ?_ | with_reducible refine Upd.alloc ?_ _ | with_reducible refine Upd.setAt ?_ ?_ | exact Or.inl rfl | exact Or.inr (by simp) | exact Or.inr (by omega))))).table; refine (Fl.role_calls hT id ⟨by have := HIR.out; omega, by have := HIR.out; omega⟩).mono ?_; rw [← HR.out, ← HRG.out]; rintro e w2 ⟨rfl, hw2⟩; have h12 := (show Upd (fun _ => False) w1 w1.drew from (by repeat (first | assumption | with_reducible exact Upd.refl _ _ | with_reducible refine Upd.drewN ?_ _ | with_reducible refine Upd.drew ?_ | with_reducible refine Upd.alloc ?_ _ | with_reducible refine Upd.setAt ?_ ?_ | exact Or.inl rfl | exact Or.inr (by simp) | exact Or.inr (by omega)))); rw [hw2] at h12; clear hT hw2))
      refine hK.out _ _ (by exact ⟨q10 _ h12, b0 _ h12⟩) (fun hHeld => ?_)
      clear hK K
      try simp only [Act.put, List.setIfInBounds_toArray, List.set_cons_zero, List.set_cons_succ]
      refine tk_ 9 ?_
      try simp only [Act.put, sl1_, sl2_, sl3_]
      refine tk_ 10 ?_
      try simp only [Act.put, sl1_, sl2_, sl3_]
      refine tk_ 11 ?_
      try simp only [Act.put, sl1_, sl2_, sl3_]
      refine tk_ 12 ?_
      try simp only [Act.put, sl1_, sl2_, sl3_]
      refine tk_ 13 ?_
      try simp only [Act.put, sl1_, sl2_, sl3_]
      refine wpAnyH_done (by kernel_rfl) ?_ _
      have H2 := Asd.mk (HH.out.up h12)
      have k2 := hk1.trans h12 (fun _ _ h => h)
      have T2 := Asd.mk (Tn.grow F k2)
      obtain ⟨v2, hb2⟩ := H2.out.conn HG.out
      replace q10 := keepsC (o := 10) (v := .pointer (some ⟨L.tb, 0, none⟩)) H2.out.own rfl
      replace b0 := keepsC (o := 0) (v := .int .i64 id) hb2 rfl
      replace o0 : ∀ W, Upd (fun _ => False) w2 W → _ := fun W k => o0 W (h12.trans k (fun _ _ h => h))
      replace o1 : ∀ W, Upd (fun _ => False) w2 W → _ := fun W k => o1 W (h12.trans k (fun _ _ h => h))
      have hs2 := Upd.refl (fun _ => False) w2
      clear hb2 h12 hs1 hk1 k2
      try clear hHeld
      go_wp2_with fail
      refine (own_calls 11 _).mono ?_
      rw [show own 11 = true from rfl]
      rintro e w3 ⟨rfl, rfl⟩
      go_wp2
      go_ret
      exact ⟨by rw [HE2.out]; rfl, F, by rw [HE2.out]; exact H2.out, T2.out⟩
    · have HE2 : Asd (y = (wStrikes s n, true)) := ⟨by rw [HE.out, if_neg hn9]⟩
      go_enter Tryz.func105, Tryz.ntmps105
      go_wp2
      generalize hw1 : w.alloc (.cells #[.int .i64 11, .int .i64 n] 44) = w1 at hk1 hs1 o0 o1 q10 b0 HH ⊢
      clear hw1
      refine wp_region_held_drew (S := fun W => W.cell? ⟨L.q, 10, none⟩ = some (.pointer (some ⟨L.tb, 0, none⟩)) ∧ W.cell? ⟨(L.cn id).p, 0, none⟩ = some (.int .i64 id)) (by kernel_rfl) (by exact ⟨q10 _ (by repeat (first | assumption | with_reducible exact Upd.refl _ _ | with_reducible refine Upd.drewN ?_ _ | with_reducible refine Upd.drew ?_ | with_reducible refine Upd.alloc ?_ _ | with_reducible refine Upd.setAt ?_ ?_ | exact Or.inl rfl | exact Or.inr (by simp) | exact Or.inr (by omega))), b0 _ (by repeat (first | assumption | with_reducible exact Upd.refl _ _ | with_reducible refine Upd.drewN ?_ _ | with_reducible refine Upd.drew ?_ | with_reducible refine Upd.alloc ?_ _ | with_reducible refine Upd.setAt ?_ ?_ | exact Or.inl rfl | exact Or.inr (by simp) | exact Or.inr (by omega)))⟩) (fun hHeld => ?_)
      refine tk_ 0 ?_
      try simp only [Act.put, sl1_, sl2_, sl3_]
      refine tk_ 1 ?_
      try simp only [Act.put, sl1_, sl2_, sl3_]
      refine tk_ 2 ?_
      try simp only [Act.put, sl1_, sl2_, sl3_]
      refine tk_ 3 ?_
      try simp only [Act.put, sl1_, sl2_, sl3_]
      refine tk_ 4 ?_
      try simp only [Act.put, sl1_, sl2_, sl3_]
      refine tk_ 5 ?_
      try simp only [Act.put, sl1_, sl2_, sl3_]
      refine tk_ 6 ?_
      try simp only [Act.put, sl1_, sl2_, sl3_]
      refine tk_ 7 ?_
      try simp only [Act.put, sl1_, sl2_, sl3_]
      refine wpAnyH_ready (rs := [8]) (by kernel_rfl) (by simp) (AllReadyH.cons (o := ?_) ?_ (fun K hK => ?_) AllReadyH.nil)
      rotate_left 1
      · (simp only [List.getElem?_toArray, List.getElem?_cons_succ, List.getElem?_cons_zero]; exact rfl)
      (go_simp; (go_at_call 64; obtain ⟨Ft, hT, _, _⟩ := (HH.out.up (show Upd (fun _ => False) w1 w1.drew from (by repeat (first | assumption | with_reducible exact Upd.refl _ _ | with_reducible refine Upd.drewN ?_ _ | with_reducible refine Upd.drew ?_ | with_reducible refine Upd.alloc ?_ _ | with_reducible refine Upd.setAt ?_ ?_ | exact Or.inl rfl | exact Or.inr (by simp) | exact Or.inr (by omega))))).table; refine (Fl.role_calls hT id ⟨by have := HIR.out; omega, by have := HIR.out; omega⟩).mono ?_; rw [← HR.out, ← HRG.out]; rintro e w2 ⟨rfl, hw2⟩; have h12 := (show Upd (fun _ => False) w1 w1.drew from (by repeat (first | assumption | with_reducible exact Upd.refl _ _ | with_reducible refine Upd.drewN ?_ _ | with_reducible refine Upd.drew ?_ | with_reducible refine Upd.alloc ?_ _ | with_reducible refine Upd.setAt ?_ ?_ | exact Or.inl rfl | exact Or.inr (by simp) | exact Or.inr (by omega)))); rw [hw2] at h12; clear hT hw2))
      refine hK.out _ _ (by exact ⟨q10 _ h12, b0 _ h12⟩) (fun hHeld => ?_)
      clear hK K
      try simp only [Act.put, List.setIfInBounds_toArray, List.set_cons_zero, List.set_cons_succ]
      refine tk_ 9 ?_
      try simp only [Act.put, sl1_, sl2_, sl3_]
      refine tk_ 10 ?_
      try simp only [Act.put, sl1_, sl2_, sl3_]
      refine tk_ 11 ?_
      try simp only [Act.put, sl1_, sl2_, sl3_]
      refine tk_ 12 ?_
      try simp only [Act.put, sl1_, sl2_, sl3_]
      refine tk_ 13 ?_
      try simp only [Act.put, sl1_, sl2_, sl3_]
      refine wpAnyH_done (by kernel_rfl) ?_ _
      have H2 := Asd.mk (HH.out.up h12)
      have k2 := hk1.trans h12 (fun _ _ h => h)
      have T2 := Asd.mk (Tn.grow F k2)
      obtain ⟨v2, hb2⟩ := H2.out.conn HG.out
      replace q10 := keepsC (o := 10) (v := .pointer (some ⟨L.tb, 0, none⟩)) H2.out.own rfl
      replace b0 := keepsC (o := 0) (v := .int .i64 id) hb2 rfl
      replace o0 : ∀ W, Upd (fun _ => False) w2 W → _ := fun W k => o0 W (h12.trans k (fun _ _ h => h))
      replace o1 : ∀ W, Upd (fun _ => False) w2 W → _ := fun W k => o1 W (h12.trans k (fun _ _ h => h))
      have hs2 := Upd.refl (fun _ => False) w2
      clear hb2 h12 hs1 hk1 k2
      try clear hHeld
      have q13 := keepsC (o := 13) (v := .int .i64 s.strikes) H2.out.own rfl
      have qf := fun o => keepsF (o := o) H2.out.own
      go_wp2_with fail
      refine (own_calls 11 _).mono ?_
      rw [show own 11 = true from rfl]
      rintro e w3 ⟨rfl, rfl⟩
      go_wp2
      go_ret
      obtain ⟨F9, h9, t9⟩ := H2.out.setOwn (w' := w2.setCell ⟨L.q, 13, none⟩ (.int .i64 n)) (wStrikes s n) (fun j hj W Fj hw => by cases j <;> first | exact hw | exact absurd rfl hj) ((Upd.refl (fun k => k = L.q) _).setCell (fun _ => rfl) _) (blk_setCell (o := 13) H2.out.own _)
      exact ⟨by rw [HE2.out]; rfl, F9, by rw [HE2.out]; exact h9, T2.out.trans t9⟩
end
end Go.Proofs.YteepkanbiefpjaaGreatDoor.Bk
