/- What these laws lean on, part Zh: contracts of the given program's functions and plain lists. No condition. -/
import Derived.Test.YteepkanbiefpjaaGreatDoorZg
import Derived.Test.YteepkanbiefpjaaGreatDoorZa
set_option linter.unusedVariables false
set_option linter.unusedSimpArgs false
namespace Go.Proofs.YteepkanbiefpjaaGreatDoor.Bk
open Go.RowKit K
open MgRow (M)
section
variable {w w' : World} {L : Lay} {s : Br} {F : Nat → Prop} {id : Int} {c : Cn}
def cNm (c : Cn) (t : List UInt8) : Cn := { c with st := 1, name := t }
theorem set_set (s : Br) (id : Int) (a b : Cn) : set (set s id a) id b = set s id b := by
  unfold set cset
  simp only [List.map_map]
  congr 1
  refine List.map_congr_left (fun p _ => ?_)
  simp only [Function.comp]
  by_cases h : p.1 = id
  · rw [if_pos h, if_pos rfl, if_pos h]
  · rw [if_neg h, if_neg h]
theorem Bt.newView (h : Bt L w s F) (hg : get s id = some c) {w1 : World} (hu : Upd (fun _ => False) w w1) {v at_ st : Nat} (hV : Vw.V w1 v at_ st) (hv : w.heap.size ≤ v) : ∃ F', Bt L (w1.setCell ⟨(L.cn id).p, 7, none⟩ (.pointer (some ⟨v, 0, none⟩))) (set s id (cVw c (at_, st))) F' ∧ Tn w F (w1.setCell ⟨(L.cn id).p, 7, none⟩ (.pointer (some ⟨v, 0, none⟩))) F' := by
  obtain ⟨Fi, hp, hF, _, hput⟩ := h.bk.turn (.conn id)
  obtain ⟨v0, hb⟩ := h.conn hg
  have hlt := blk_lt hb
  have hne : v ≠ (L.cn id).p := by omega
  have hu2 := (Upd.refl (fun k => k = (L.cn id).p) w1).setCell (p := ⟨(L.cn id).p, 7, none⟩) (fun _ => rfl) (.pointer (some ⟨v, 0, none⟩))
  have hpin : Fi (L.cn id).p := by
    simp only [PartAt] at hp
    rw [hg] at hp
    simp only [ConnAt] at hp
    cases hv : c.vw with
    | none => rw [hv] at hp; exact (hp.2 _).2 rfl
    | some q => rw [hv] at hp; obtain ⟨_, _, _, _, a4⟩ := hp; exact (a4 _).2 (.inl rfl)
  have hpart : PartAt L (set s id (cVw c (at_, st))) (.conn id) (w1.setCell ⟨(L.cn id).p, 7, none⟩ (.pointer (some ⟨v, 0, none⟩))) (fun k => k = (L.cn id).p ∨ k = v) := by
    simp only [PartAt]
    rw [get_set_same hg]
    simp only [ConnAt, cVw]
    exact ⟨v, blk_setCell (o := 7) (hu.blk hb (fun h => h)) _, hu2.blk hV hne, hne, fun k => Iff.rfl⟩
  obtain ⟨F', hbk, ht⟩ := hput _ L (set s id (cVw c (at_, st))) _ hpart (fun j hj W Fj hw => set_part hg hw (fun e => absurd e hj) (fun _ => ⟨rfl, rfl⟩) (fun _ => rfl) (fun _ => rfl)) ⟨(hu.mono (T := Fi) (fun _ _ h => h.elim)).trans hu2 (fun k _ e => by subst e; exact hpin), fun k hk => hk.elim (fun e => .inl (by rw [e]; exact hpin)) (fun e => .inr (by omega))⟩
  exact ⟨F', h.go hbk ht, ht⟩
theorem Bt.view (h : Bt L w s F) (hg : get s id = some c) {a b : Nat} (hv : c.vw = some (a, b)) : ∃ v, w.heap[(L.cn id).p]? = some (.cells (ccells (L.cn id) id c (.pointer (some ⟨v, 0, none⟩))) 101 (0, 0)) ∧ Vw.V w v a b := by
  obtain ⟨Fo, ho, _⟩ := h.bk.part (.conn id)
  simp only [PartAt] at ho
  rw [hg] at ho
  simp only [ConnAt] at ho
  rw [hv] at ho
  obtain ⟨v, h1, h2, _⟩ := ho
  exact ⟨v, h1, h2⟩
theorem Bt.ring (h : Bt L w s F) : ∃ g, Rg.Ring w L.lg g (Rg.roomN s.cf.log) s.log := by
  obtain ⟨Fi, ⟨g, hr, _⟩, _⟩ := h.bk.part .ring
  exact ⟨g, hr⟩
theorem Bt.apart (h : Bt L w s F) (hg : get s id = some c) : L.q ≠ (L.cn id).p := by
  obtain ⟨Fi, hp, _, hd, _⟩ := h.bk.turn (.conn id)
  obtain ⟨Fj, ho, hdis⟩ := hd .own (by intro e; cases e)
  intro e
  refine hdis (L.cn id).p ?_ ((ho.2 _).2 e.symm)
  simp only [PartAt] at hp
  rw [hg] at hp
  simp only [ConnAt] at hp
  cases hv : c.vw with
  | none => rw [hv] at hp; exact (hp.2 _).2 rfl
  | some q => rw [hv] at hp; obtain ⟨_, _, _, _, a4⟩ := hp; exact (a4 _).2 (.inl rfl)
theorem itoa_calls (i : Int) (h0 : 0 ≤ i) (h1 : i < 100) (w : World) : Calls Tryz.prog 35 #[.int .i64 i] w fun e w' => e = .returned (.string (S (Lib.itoa i))) ∧ w = w' := by
  obtain ⟨n, rfl⟩ : ∃ n : Nat, i = (n : Int) := ⟨i.toNat, by omega⟩
  exact (Tryz.strconv_Itoa_small n (by omega) w).mono fun e w' ⟨he, hw⟩ => ⟨by rw [he]; unfold Lib.itoa; rw [if_neg (by omega)]; rfl, hw.symm⟩
set_option maxHeartbeats 8000000 in
set_option maxRecDepth 100000 in
theorem hello_calls (h : Bt L w s F) (ho : Ok s) (hg : get s id = some c) (hst : c.st = 0) (m : M) (ha : 0 ≤ m.a ∧ m.a ≤ 1099511627776) (hbb : 0 ≤ m.b ∧ m.b ≤ 1099511627776) (ht : m.t.length ≤ 3000) : Calls Tryz.prog 80 #[ptr L.q, ptr (L.cn id).p, Vw.msgV m] w (Goes L (hello s id m) F w (.tuple #[])) := by
  unfold Vw.msgV
  have H := Asd.mk h
  have HO := Asd.mk ho
  have HG := Asd.mk hg
  have HST := Asd.mk hst
  have hk1 := (Upd.refl (fun _ => False) w).alloc (.cells #[.int .i64 m.k, .int .i64 m.a, .int .i64 m.b, .string (S m.t)] 36)
  have hm1 := heap_alloc_new w (.cells #[.int .i64 m.k, .int .i64 m.a, .int .i64 m.b, .string (S m.t)] 36)
  have hs1 := Upd.refl (fun _ => False) (w.alloc (.cells #[.int .i64 m.k, .int .i64 m.a, .int .i64 m.b, .string (S m.t)] 36))
  have m0 := keepsC (o := 0) (v := .int .i64 m.k) hm1 rfl
  have m1 := keepsC (o := 1) (v := .int .i64 m.a) hm1 rfl
  have m2 := keepsC (o := 2) (v := .int .i64 m.b) hm1 rfl
  have m3 := keepsC (o := 3) (v := .string (S m.t)) hm1 rfl
  have HM1 := Asd.mk hm1
  clear h ho hg hst hm1
  by_cases hk : m.k = 1
  case neg =>
    have hkb : (m.k != 1) = true := bne_iff_ne.2 hk
    have HE : Asd (hello s id m = shut s id 4) := ⟨by unfold hello; rw [if_pos hk]⟩
    rw [HE.out]
    clear hk HE
    go_enter Tryz.func80, Tryz.ntmps80
    go_wp2_with fail
    refine (shut_calls (H.out.up hk1) HO.out HG.out 4).mono ?_
    rintro e w2 ⟨rfl, F2, h2, t2⟩
    go_wp2
    go_end0
    exact ⟨rfl, F2, h2, (Tn.grow F hk1).trans t2⟩
  have hkb : (m.k != 1) = false := by rw [hk]; rfl
  by_cases hv : m.a / 4 = 1
  case neg =>
    have hvb : (m.a / 4 != 1) = true := bne_iff_ne.2 hv
    have HE : Asd (hello s id m = shut s id 2) := ⟨by unfold hello; rw [if_neg (fun h => h hk), if_pos hv]⟩
    rw [HE.out]
    clear hk hv HE
    go_enter Tryz.func80, Tryz.ntmps80
    go_wp2_with fail
    refine (shut_calls (H.out.up hk1) HO.out HG.out 2).mono ?_
    rintro e w2 ⟨rfl, F2, h2, t2⟩
    go_wp2
    go_end0
    exact ⟨rfl, F2, h2, (Tn.grow F hk1).trans t2⟩
  have hvb : (m.a / 4 != 1) = false := by rw [hv]; rfl
  cases hn : named m.t with
  | false =>
    have HE : Asd (hello s id m = shut s id 3) := ⟨by unfold hello; rw [if_neg (fun h => h hk), if_neg (fun h => h hv), if_pos hn]⟩
    have HN := Asd.mk hn
    rw [HE.out]
    clear hk hv hn HE
    go_enter Tryz.func80, Tryz.ntmps80
    go_wp2_with fail
    refine (named_calls m.t (by omega) _).mono ?_
    rw [HN.out]
    rintro e w2 ⟨rfl, rfl⟩
    go_wp2_with fail
    refine (shut_calls (H.out.up hk1) HO.out HG.out 3).mono ?_
    rintro e w2 ⟨rfl, F2, h2, t2⟩
    go_wp2
    go_end0
    exact ⟨rfl, F2, h2, (Tn.grow F hk1).trans t2⟩
  | true =>
    have HN := Asd.mk hn
    have hHE : hello s id m = hello s id m := rfl
    have hil := Lib.itoa_length_le id (by have := HO.out.rng id (get_ids HG.out); omega) (by have := HO.out.rng id (get_ids HG.out); omega)
    have HIR : Asd (1 ≤ id ∧ id ≤ 16) := ⟨HO.out.rng id (get_ids HG.out)⟩
    obtain ⟨v, hb⟩ := H.out.conn HG.out
    have HP : Asd ((L.cn id).p < w.heap.size) := ⟨blk_lt hb⟩
    have b0 := keepsC (o := 0) (v := .int .i64 id) (hk1.blk hb (fun h => h)) rfl
    obtain ⟨J, hJ⟩ : ∃ J : List UInt8, J = [106, 111, 105, 110, 101, 100, 32] := ⟨_, rfl⟩
    obtain ⟨sp, hsp⟩ : ∃ sp : List UInt8, sp = [32] := ⟨_, rfl⟩
    have hJl : J.length = 7 := by rw [hJ]; rfl
    have hsl : sp.length = 1 := by rw [hsp]; rfl
    have n1 : ¬ 9223372036854775807 < J.length + (Lib.itoa id).length := by omega
    have n2 : ¬ 9223372036854775807 < J.length + (Lib.itoa id).length + sp.length := by omega
    have n3 : ¬ 9223372036854775807 < J.length + (Lib.itoa id).length + sp.length + m.t.length := by omega
    have n2' : ¬ 9223372036854775807 < J.length + ((Lib.itoa id).length + sp.length) := by omega
    have n3' : ¬ 9223372036854775807 < J.length + ((Lib.itoa id).length + sp.length) + m.t.length := by omega
    have n3'' : ¬ 9223372036854775807 < J.length + ((Lib.itoa id).length + (sp.length + m.t.length)) := by omega
    have e1 : ({ data := #[106, 111, 105, 110, 101, 100, 32] } : ByteArray) = S J := by rw [hJ]; rfl
    have e2 : ({ data := #[32] } : ByteArray) = S sp := by rw [hsp]; rfl
    have HJ : Asd (joinT id m.t = J ++ (Lib.itoa id ++ (sp ++ m.t))) := ⟨by rw [hJ, hsp]; simp [joinT]⟩
    clear hJ hsp hJl hsl
    have ha4 : m.a = 4 ∨ m.a = 5 ∨ m.a = 6 ∨ m.a = 7 := by omega
    obtain ⟨y2, hy2, hy2b⟩ : ∃ y2, Go.bits .and .i64 m.a 2 = y2 ∧ (y2 == 2) = decide (m.a / 2 % 2 = 1) := by rcases ha4 with h | h | h | h <;> (rw [h]; exact ⟨_, rfl, by decide⟩)
    obtain ⟨y1, hy1, hy1b⟩ : ∃ y1, Go.bits .and .i64 m.a 1 = y1 ∧ (y1 == 1) = decide (m.a % 2 = 1) := by rcases ha4 with h | h | h | h <;> (rw [h]; exact ⟨_, rfl, by decide⟩)
    have HK := Asd.mk hk
    have HV := Asd.mk hv
    clear hk hv hn hb hHE ha4
    go_enter Tryz.func80, Tryz.ntmps80
    go_wp2_with fail
    refine (named_calls m.t (by omega) _).mono ?_
    rw [HN.out]
    rintro e w2 ⟨rfl, rfl⟩
    go_wp2
    generalize hw1 : w.alloc (.cells #[.int .i64 m.k, .int .i64 m.a, .int .i64 m.b, .string (S m.t)] 36) = w1 at hk1 hs1 b0 m0 m1 m2 m3 HM1 ⊢
    clear hw1
    refine wp_region_held_drew (S := fun W => W.cell? ⟨(L.cn id).p, 0, none⟩ = some (.int .i64 id) ∧ W.cell? ⟨w.heap.size, 3, none⟩ = some (.string (S m.t))) (by kernel_rfl) (by exact ⟨b0 _ (by repeat (first | assumption | with_reducible exact Upd.refl _ _ | with_reducible refine Upd.drewN ?_ _ | with_reducible refine Upd.drew ?_ | with_reducible refine Upd.alloc ?_ _ | with_reducible refine Upd.setAt ?_ ?_ | exact Or.inl rfl | exact Or.inr (by simp) | exact Or.inr (by omega))), m3 _ (by repeat (first | assumption | with_reducible exact Upd.refl _ _ | with_reducible refine Upd.drewN ?_ _ | with_reducible refine Upd.drew ?_ | with_reducible refine Upd.alloc ?_ _ | with_reducible refine Upd.setAt ?_ ?_ | exact Or.inl rfl | exact Or.inr (by simp) | exact Or.inr (by omega)))⟩) (fun hHeld => ?_)
    refine tk_ 0 ?_
    try simp only [Act.put, sl1_, sl2_, sl3_]
    refine tk_ 1 ?_
    try simp only [Act.put, sl1_, sl2_, sl3_]
    refine tk_ 2 ?_
    try simp only [Act.put, sl1_, sl2_, sl3_]
    refine tk_ 3 ?_
    try simp only [Act.put, sl1_, sl2_, sl3_]
    refine tk_ 4 ?_
    try simp only [Act.put, sl1_, sl2_, sl3_]
    refine tk_ 8 ?_
    try simp only [Act.put, sl1_, sl2_, sl3_]
    refine tk_ 9 ?_
    try simp only [Act.put, sl1_, sl2_, sl3_]
    refine wpAnyH_ready (rs := [5]) (by kernel_rfl) (by simp) (AllReadyH.cons (o := ?_) ?_ (fun K hK => ?_) AllReadyH.nil)
    rotate_left 1
    · (simp only [List.getElem?_toArray, List.getElem?_cons_succ, List.getElem?_cons_zero]; exact rfl)
    (go_simp; (go_at_call 35; refine (itoa_calls id (by have := HIR.out; omega) (by have := HIR.out; omega) _).mono ?_; rintro e w2 ⟨rfl, rfl⟩))
    refine hK.out _ _ (by exact ⟨b0 _ (by repeat (first | assumption | with_reducible exact Upd.refl _ _ | with_reducible refine Upd.drewN ?_ _ | with_reducible refine Upd.drew ?_ | with_reducible refine Upd.alloc ?_ _ | with_reducible refine Upd.setAt ?_ ?_ | exact Or.inl rfl | exact Or.inr (by simp) | exact Or.inr (by omega))), m3 _ (by repeat (first | assumption | with_reducible exact Upd.refl _ _ | with_reducible refine Upd.drewN ?_ _ | with_reducible refine Upd.drew ?_ | with_reducible refine Upd.alloc ?_ _ | with_reducible refine Upd.setAt ?_ ?_ | exact Or.inl rfl | exact Or.inr (by simp) | exact Or.inr (by omega)))⟩) (fun hHeld => ?_)
    clear hK K
    try simp only [Act.put, List.setIfInBounds_toArray, List.set_cons_zero, List.set_cons_succ]
    refine tk_ 6 ?_
    try simp only [Act.put, sl1_, sl2_, sl3_]
    refine tk_ 7 ?_
    try simp only [Act.put, sl1_, sl2_, sl3_]
    refine tk_ 10 ?_
    try simp only [Act.put, sl1_, sl2_, sl3_]
    refine tk_ 11 ?_
    try simp only [Act.put, sl1_, sl2_, sl3_]
    refine wpAnyH_ready (rs := [12]) (by kernel_rfl) (by simp) (AllReadyH.cons (o := ?_) ?_ (fun K hK => ?_) AllReadyH.nil)
    rotate_left 1
    · (simp only [List.getElem?_toArray, List.getElem?_cons_succ, List.getElem?_cons_zero]; exact rfl)
    (go_simp; (go_at_call 75; rw [← HJ.out]; refine (tell_calls (H.out.up (hk1.trans (show Upd (fun _ => False) w1 w1.drew from (by repeat (first | assumption | with_reducible exact Upd.refl _ _ | with_reducible refine Upd.drewN ?_ _ | with_reducible refine Upd.drew ?_ | with_reducible refine Upd.alloc ?_ _ | with_reducible refine Upd.setAt ?_ ?_ | exact Or.inl rfl | exact Or.inr (by simp) | exact Or.inr (by omega)))) (fun _ _ h => h))) HO.out (note (joinT id m.t))).mono ?_; rintro e w2 ⟨rfl, F2, h2, t2⟩; have H2 := Asd.mk h2; have T2 := Asd.mk ((Tn.grow F (hk1.trans (show Upd (fun _ => False) w1 w1.drew from (by repeat (first | assumption | with_reducible exact Upd.refl _ _ | with_reducible refine Upd.drewN ?_ _ | with_reducible refine Upd.drew ?_ | with_reducible refine Upd.alloc ?_ _ | with_reducible refine Upd.setAt ?_ ?_ | exact Or.inl rfl | exact Or.inr (by simp) | exact Or.inr (by omega)))) (fun _ _ h => h))).trans t2); obtain ⟨c1, hg1, hc1⟩ := (sm_tell' s (note (joinT id m.t))).cn id c HG.out; obtain ⟨v2, hb2⟩ := h2.conn hg1; have hm2 := t2.upd.blk (show w1.drew.heap[w.heap.size]? = _ from HM1.out) (fun h => by have := H.out.bk.lt _ h; omega); have HC2 := Asd.mk (And.intro (keepsC (o := 0) (v := .int .i64 id) hb2 rfl _ (Upd.refl _ _)) (keepsC (o := 3) (v := .string (S m.t)) hm2 rfl _ (Upd.refl _ _))); have HG1 := Asd.mk hg1; have HB2 := Asd.mk hb2; have HM2 := Asd.mk hm2; clear h2 t2 hg1 hb2 hm2 hc1))
    refine hK.out _ _ (by exact HC2.out) (fun hHeld => ?_)
    clear hK K
    try simp only [Act.put, List.setIfInBounds_toArray, List.set_cons_zero, List.set_cons_succ]
    refine wpAnyH_done (by kernel_rfl) ?_ _
    have HO2 := Asd.mk (ok_tell' HO.out (note (joinT id m.t)))
    obtain ⟨s1, hs1'⟩ : ∃ s1, s1 = tell s (note (joinT id m.t)) := ⟨_, rfl⟩
    rw [← hs1'] at H2 HG1 HO2
    have HS1 := Asd.mk hs1'
    clear hs1' b0 m0 m1 m2 m3 hs1 n1 n2 n3 n2' n3' n3'' e1 e2 hHeld
    have b1 := keepsC (o := 1) (v := .int .i64 c1.st) HB2.out rfl
    have b2 := keepsC (o := 2) (v := .string (S c1.name)) HB2.out rfl
    have bf := fun o => keepsF (o := o) HB2.out
    have m3 := keepsC (o := 3) (v := .string (S m.t)) HM2.out rfl
    have hs2 : Upd (fun _ => False) w2 w2 := Upd.refl _ _
    have hne : w.heap.size ≠ (L.cn id).p := by have := HP.out; omega
    have bb1 := blk_setCell (o := 1) (show w2.drew.heap[(L.cn id).p]? = _ from HB2.out) (.int .i64 1)
    have bb2 := blk_setCell (o := 2) bb1 (.string (S m.t))
    have mm1 : (w2.drew.setCell ⟨(L.cn id).p, 1, none⟩ (.int .i64 1)).cell? ⟨w.heap.size, 3, none⟩ = some (.string (S m.t)) := (World.cell?_setCell_other _ _ _ _ (fun e => hne (by injection e with e1 e2; exact e1.symm))).trans (m3 _ (by repeat (first | assumption | with_reducible exact Upd.refl _ _ | with_reducible refine Upd.drewN ?_ _ | with_reducible refine Upd.drew ?_ | with_reducible refine Upd.alloc ?_ _ | with_reducible refine Upd.setAt ?_ ?_ | exact Or.inl rfl | exact Or.inr (by simp) | exact Or.inr (by omega))))
    have mm2 : ((w2.drew.setCell ⟨(L.cn id).p, 1, none⟩ (.int .i64 1)).setCell ⟨(L.cn id).p, 2, none⟩ (.string (S m.t))).cell? ⟨w.heap.size, 3, none⟩ = some (.string (S m.t)) := (World.cell?_setCell_other _ _ _ _ (fun e => hne (by injection e with e1 e2; exact e1.symm))).trans mm1
    have cc2 : (w2.drew.setCell ⟨(L.cn id).p, 1, none⟩ (.int .i64 1)).cell? ⟨(L.cn id).p, 2, none⟩ = some (.string (S c1.name)) := by simp [World.cell?, bb1, ccells]
    have ff2 : (w2.drew.setCell ⟨(L.cn id).p, 1, none⟩ (.int .i64 1)).frozen? ⟨(L.cn id).p, 2, none⟩ = false := by simp [World.frozen?, bb1]
    go_wp2
    refine wp_region_held_drew (S := fun W => W.cell? ⟨w.heap.size, 3, none⟩ = some (.string (S m.t))) (by kernel_rfl) (by exact m3 _ (by repeat (first | assumption | with_reducible exact Upd.refl _ _ | with_reducible refine Upd.drewN ?_ _ | with_reducible refine Upd.drew ?_ | with_reducible refine Upd.alloc ?_ _ | with_reducible refine Upd.setAt ?_ ?_ | exact Or.inl rfl | exact Or.inr (by simp) | exact Or.inr (by omega)))) (fun hHeld => ?_)
    refine tk_ 0 ?_
    try simp only [Act.put, sl1_, sl2_, sl3_]
    refine tk_ 1 ?_
    try simp only [Act.put, sl1_, sl2_, sl3_]
    refine tk_ 2 ?_
    try simp only [Act.put, sl1_, sl2_, sl3_]
    refine tk_ 3 ?_
    try simp only [Act.put, sl1_, sl2_, sl3_]
    refine tk_ 4 ?_
    try simp only [Act.put, sl1_, sl2_, sl3_]
    refine tk_ 5 ?_
    try simp only [Act.put, sl1_, sl2_, sl3_]
    refine wpAnyH_ready (rs := [6]) (by kernel_rfl) (by simp) (AllReadyH.cons (o := ?_) ?_ (fun K hK => ?_) AllReadyH.nil)
    rotate_left 1
    · (simp only [List.getElem?_toArray, List.getElem?_cons_succ, List.getElem?_cons_zero]; exact rfl)
    go_simp
    refine hK.out _ _ (by exact mm1) (fun hHeld => ?_)
    clear hK K
    try simp only [Act.put, List.setIfInBounds_toArray, List.set_cons_zero, List.set_cons_succ]
    refine tk_ 7 ?_
    try simp only [Act.put, sl1_, sl2_, sl3_]
    refine tk_ 8 ?_
    try simp only [Act.put, sl1_, sl2_, sl3_]
    refine wpAnyH_ready (rs := [9]) (by kernel_rfl) (by simp) (AllReadyH.cons (o := ?_) ?_ (fun K hK => ?_) AllReadyH.nil)
    rotate_left 1
    · (simp only [List.getElem?_toArray, List.getElem?_cons_succ, List.getElem?_cons_zero]; exact rfl)
    go_simp
    refine hK.out _ _ (by exact mm2) (fun hHeld => ?_)
    clear hK K
    try simp only [Act.put, List.setIfInBounds_toArray, List.set_cons_zero, List.set_cons_succ]
    refine wpAnyH_done (by kernel_rfl) ?_ _
    have hne2 : w.heap.size ≠ (L.cn id).p := hne
    obtain ⟨F3, h3, t3⟩ := H2.out.setConn (w' := ((w2.setCell ⟨(L.cn id).p, 1, none⟩ (.int .i64 1)).setCell ⟨(L.cn id).p, 2, none⟩ (.string (S m.t))).drew) (c' := cNm c1 m.t) HG1.out rfl ⟨rfl, rfl⟩ rfl rfl ((((Upd.refl (fun k => k = (L.cn id).p) w2).setCell (fun _ => rfl) _).setCell (fun _ => rfl) _).drew) (fun v hv => blk_setCell (o := 2) (blk_setCell (o := 1) hv (.int .i64 1)) (.string (S m.t)))
    have H3 := Asd.mk h3
    have T3 := Asd.mk t3
    have HM3 := Asd.mk (((((Upd.refl (fun k => k = (L.cn id).p) w2).setCell (p := ⟨(L.cn id).p, 1, none⟩) (fun _ => rfl) (.int .i64 1)).setCell (p := ⟨(L.cn id).p, 2, none⟩) (fun _ => rfl) (.string (S m.t))).drew).blk HM2.out (fun e => hne2 e))
    have hg3 : get (set s1 id (cNm c1 m.t)) id = some (cNm c1 m.t) := get_set_same HG1.out
    have HG3 := Asd.mk hg3
    clear h3 t3 hg3 bb1 bb2 mm1 mm2 cc2 ff2 b1 b2 bf m3 hs2
    try clear hHeld
    generalize hw3 : ((w2.setCell ⟨(L.cn id).p, 1, none⟩ (.int .i64 1)).setCell ⟨(L.cn id).p, 2, none⟩ (.string (S m.t))).drew = w3 at H3 T3 HM3 ⊢
    clear hw3
    have m1 := keepsC (o := 1) (v := .int .i64 m.a) HM3.out rfl
    have m2 := keepsC (o := 2) (v := .int .i64 m.b) HM3.out rfl
    have q8 := keepsC (o := 8) (v := .pointer (some ⟨L.lg, 0, none⟩)) H3.out.own rfl
    obtain ⟨v3, hb3⟩ := H3.out.conn HG3.out
    have hqp := H3.out.apart HG3.out
    have c7 := keepsC (o := 7) (v := v3) hb3 rfl
    have c7f := fun o => keepsF (o := o) hb3
    have hs3 : Upd (fun _ => False) w3 w3 := Upd.refl _ _
    go_wp2
    refine wp_region_held_drew (S := fun W => W.cell? ⟨w.heap.size, 1, none⟩ = some (.int .i64 m.a) ∧ W.cell? ⟨w.heap.size, 2, none⟩ = some (.int .i64 m.b) ∧ W.cell? ⟨L.q, 8, none⟩ = some (.pointer (some ⟨L.lg, 0, none⟩))) (by kernel_rfl) (by exact ⟨m1 _ (by repeat (first | assumption | with_reducible exact Upd.refl _ _ | with_reducible refine Upd.drewN ?_ _ | with_reducible refine Upd.drew ?_ | with_reducible refine Upd.alloc ?_ _ | with_reducible refine Upd.setAt ?_ ?_ | exact Or.inl rfl | exact Or.inr (by simp) | exact Or.inr (by omega))), m2 _ (by repeat (first | assumption | with_reducible exact Upd.refl _ _ | with_reducible refine Upd.drewN ?_ _ | with_reducible refine Upd.drew ?_ | with_reducible refine Upd.alloc ?_ _ | with_reducible refine Upd.setAt ?_ ?_ | exact Or.inl rfl | exact Or.inr (by simp) | exact Or.inr (by omega))), q8 _ (by repeat (first | assumption | with_reducible exact Upd.refl _ _ | with_reducible refine Upd.drewN ?_ _ | with_reducible refine Upd.drew ?_ | with_reducible refine Upd.alloc ?_ _ | with_reducible refine Upd.setAt ?_ ?_ | exact Or.inl rfl | exact Or.inr (by simp) | exact Or.inr (by omega)))⟩) (fun hHeld => ?_)
    refine tk_ 0 ?_
    try simp only [Act.put, sl1_, sl2_, sl3_]
    refine tk_ 1 ?_
    try simp only [Act.put, sl1_, sl2_, sl3_]
    refine tk_ 2 ?_
    try simp only [Act.put, sl1_, sl2_, sl3_]
    refine tk_ 3 ?_
    try simp only [Act.put, sl1_, sl2_, sl3_]
    refine tk_ 4 ?_
    try simp only [Act.put, sl1_, sl2_, sl3_]
    refine tk_ 5 ?_
    try simp only [Act.put, sl1_, sl2_, sl3_]
    refine tk_ 6 ?_
    try simp only [Act.put, sl1_, sl2_, sl3_]
    refine tk_ 7 ?_
    try simp only [Act.put, sl1_, sl2_, sl3_]
    refine tk_ 8 ?_
    try simp only [Act.put, sl1_, sl2_, sl3_]
    refine tk_ 9 ?_
    try simp only [Act.put, sl1_, sl2_, sl3_]
    refine tk_ 10 ?_
    try simp only [Act.put, sl1_, sl2_, sl3_]
    refine wpAnyH_ready (rs := [11]) (by kernel_rfl) (by simp) (AllReadyH.cons (o := ?_) ?_ (fun K hK => ?_) AllReadyH.nil)
    rotate_left 1
    · (simp only [List.getElem?_toArray, List.getElem?_cons_succ, List.getElem?_cons_zero]; exact rfl)
    (go_simp; (go_at_call 98; obtain ⟨g, hr⟩ := (H3.out.up (show Upd (fun _ => False) w3 w3.drew from (by repeat (first | assumption | with_reducible exact Upd.refl _ _ | with_reducible refine Upd.drewN ?_ _ | with_reducible refine Upd.drew ?_ | with_reducible refine Upd.alloc ?_ _ | with_reducible refine Upd.setAt ?_ ?_ | exact Or.inl rfl | exact Or.inr (by simp) | exact Or.inr (by omega))))).ring; refine (Vw.new_calls hr m.b (by omega) _).mono ?_; rintro e w4 ⟨nv, rfl, hV, hu4, hnv⟩; have h34 := (show Upd (fun _ => False) w3 w3.drew from (by repeat (first | assumption | with_reducible exact Upd.refl _ _ | with_reducible refine Upd.drewN ?_ _ | with_reducible refine Upd.drew ?_ | with_reducible refine Upd.alloc ?_ _ | with_reducible refine Upd.setAt ?_ ?_ | exact Or.inl rfl | exact Or.inr (by simp) | exact Or.inr (by omega)))).trans hu4 (fun _ _ h => h); have hb4 := h34.blk hb3 (fun h => h); obtain ⟨F5, h5, t5⟩ := H3.out.newView HG3.out h34 hV hnv; have hu5 := (h34.mono (T := fun k => k = (L.cn id).p) (fun _ _ h => h.elim)).setCell (p := ⟨(L.cn id).p, 7, none⟩) (fun _ => rfl) (.pointer (some ⟨nv, 0, none⟩)); have hm5 := hu5.blk HM3.out (fun e => hne2 e); have HC5 := Asd.mk (And.intro (keepsC (o := 1) (v := .int .i64 m.a) hm5 rfl _ (Upd.refl _ _)) (And.intro (keepsC (o := 2) (v := .int .i64 m.b) hm5 rfl _ (Upd.refl _ _)) (keepsC (o := 8) (v := .pointer (some ⟨L.lg, 0, none⟩)) h5.own rfl _ (Upd.refl _ _)))); have HM5 := Asd.mk hm5; have H5 := Asd.mk h5; have T5 := Asd.mk t5; have d7 := keepsC (o := 7) (v := v3) hb4 rfl; have d7f := fun o => keepsF (o := o) hb4; have hs4 : Upd (fun _ => False) w4 w4 := Upd.refl _ _; clear hV hr hb4 h5 t5 hm5))
    refine hK.out _ _ (by exact ⟨m1 _ h34, m2 _ h34, q8 _ h34⟩) (fun hHeld => ?_)
    clear hK K
    try simp only [Act.put, List.setIfInBounds_toArray, List.set_cons_zero, List.set_cons_succ]
    refine tk_ 12 ?_
    try simp only [Act.put, sl1_, sl2_, sl3_]
    refine tk_ 13 ?_
    try simp only [Act.put, sl1_, sl2_, sl3_]
    refine wpAnyH_ready (rs := [14]) (by kernel_rfl) (by simp) (AllReadyH.cons (o := ?_) ?_ (fun K hK => ?_) AllReadyH.nil)
    rotate_left 1
    · (simp only [List.getElem?_toArray, List.getElem?_cons_succ, List.getElem?_cons_zero]; exact rfl)
    go_simp
    refine hK.out _ _ (by exact HC5.out) (fun hHeld => ?_)
    clear hK K
    try simp only [Act.put, List.setIfInBounds_toArray, List.set_cons_zero, List.set_cons_succ]
    refine wpAnyH_done (by kernel_rfl) ?_ _
    clear m1 m2 q8 c7 c7f hs3 d7 d7f hs4 hb3 hu5 hu4 hnv h34 hqp
    try clear hHeld
    generalize hw5 : w4.setCell ⟨(L.cn id).p, 7, none⟩ (.pointer (some ⟨nv, 0, none⟩)) = w5 at H5 T5 HM5 HC5 ⊢
    clear hw5 HC5
    obtain ⟨c2, hc2⟩ : ∃ c2, c2 = cVw (cNm c1 m.t) (Vw.startN s1.log (Rg.roomN s1.cf.log) m.b (decide (m.a / 2 % 2 = 1)), 0) := ⟨_, rfl⟩
    obtain ⟨s2, hs2⟩ : ∃ s2, s2 = set s1 id c2 := ⟨_, rfl⟩
    have H5b : Asd (Bt L w5 s2 F5) := ⟨by
      have := H5.out
      rw [set_set] at this
      rw [hs2, hc2]
      exact this⟩
    clear H5
    obtain ⟨r, hr⟩ : ∃ r, r = roleOf s2 (decide (m.a % 2 = 1)) := ⟨_, rfl⟩
    obtain ⟨s3, hs3⟩ : ∃ s3, s3 = wTab s2 (Fl.join s2.tab id r) := ⟨_, rfl⟩
    obtain ⟨s4, hs4⟩ : ∃ s4, s4 = send s3 id ⟨5, id, (Vw.startN s1.log (Rg.roomN s1.cf.log) m.b (decide (m.a / 2 % 2 = 1)) : Int), wordOf r⟩ := ⟨_, rfl⟩
    obtain ⟨s5, hs5⟩ : ∃ s5, s5 = send s4 id ⟨9, s4.holder, 0, []⟩ := ⟨_, rfl⟩
    have HE : Asd (hello s id m = if s5.ended then send s5 id ⟨15, s5.code, 0, []⟩ else s5) := ⟨by
      rw [hs5, hs4, hs3, hr, hs2, hc2]
      unfold hello
      rw [if_neg (fun h => h HK.out), if_neg (fun h => h HV.out), if_neg (by rw [HN.out]; simp)]
      simp only
      rw [← HS1.out, HG1.out]
      rfl⟩
    have hrr : r = 0 ∨ r = 1 ∨ r = 2 := by rw [hr]; exact roleOf_range _ _
    have HO3 : Asd (Ok s3) := ⟨by
      rw [hs3, hs2]
      refine HO2.out.joined HG1.out ?_ (by rw [hc2]; rfl) (by rw [hc2]; rfl) r (by omega)
      obtain ⟨x, hx1, hx2, _⟩ := (sm_tell' s (note (joinT id m.t))).cn id c HG.out
      rw [← HS1.out, HG1.out] at hx1
      cases hx1
      have := HST.out
      omega⟩
    have HG5 : Asd (Fl.G s2.tab 16 0) := ⟨by rw [hs2]; exact HO2.out.g⟩
    have HGc : Asd (get s2 id = some c2) := ⟨by rw [hs2]; exact get_set_same HG1.out⟩
    have HVW : Asd (c2.vw = some (Vw.startN s1.log (Rg.roomN s1.cf.log) m.b (decide (m.a / 2 % 2 = 1)), 0)) := ⟨by rw [hc2]; rfl⟩
    obtain ⟨ln, hln⟩ : ∃ ln, ln = Vw.startN s1.log (Rg.roomN s1.cf.log) m.b (decide (m.a / 2 % 2 = 1)) := ⟨_, rfl⟩
    rw [← hln] at hs4 HVW
    have HR := Asd.mk hr
    have HS3 := Asd.mk hs3
    have HS4 := Asd.mk hs4
    have HS5 := Asd.mk hs5
    have HRR := Asd.mk hrr
    clear hr hs3 hs4 hs5 hln hc2 hs2
    have m1 := keepsC (o := 1) (v := .int .i64 m.a) HM5.out rfl
    have hs5' : Upd (fun _ => False) w5 w5 := Upd.refl _ _
    go_wp2_with fail
    refine (role_calls H5b.out HG5.out (decide (m.a % 2 = 1))).mono ?_
    rw [← HR.out]
    rintro e w6 ⟨rfl, hu6⟩
    have H6 := Asd.mk (H5b.out.up hu6)
    have HM6 := Asd.mk (hu6.blk HM5.out (fun h => h))
    have T6 := Asd.mk (((((T2.out.trans T3.out).trans T5.out)).trans (Tn.grow F5 hu6)))
    clear m1 hs5' hu6 hrr
    obtain ⟨v6, hb6⟩ := H6.out.conn HGc.out
    have q10 := keepsC (o := 10) (v := .pointer (some ⟨L.tb, 0, none⟩)) H6.out.own rfl
    have b0 := keepsC (o := 0) (v := .int .i64 id) hb6 rfl
    have hs6 : Upd (fun _ => False) w6 w6 := Upd.refl _ _
    clear hb6
    go_wp2
    refine wp_region_held_drew (S := fun W => W.cell? ⟨L.q, 10, none⟩ = some (.pointer (some ⟨L.tb, 0, none⟩)) ∧ W.cell? ⟨(L.cn id).p, 0, none⟩ = some (.int .i64 id)) (by kernel_rfl) (by exact ⟨q10 _ (by repeat (first | assumption | with_reducible exact Upd.refl _ _ | with_reducible refine Upd.drewN ?_ _ | with_reducible refine Upd.drew ?_ | with_reducible refine Upd.alloc ?_ _ | with_reducible refine Upd.setAt ?_ ?_ | exact Or.inl rfl | exact Or.inr (by simp) | exact Or.inr (by omega))), b0 _ (by repeat (first | assumption | with_reducible exact Upd.refl _ _ | with_reducible refine Upd.drewN ?_ _ | with_reducible refine Upd.drew ?_ | with_reducible refine Upd.alloc ?_ _ | with_reducible refine Upd.setAt ?_ ?_ | exact Or.inl rfl | exact Or.inr (by simp) | exact Or.inr (by omega)))⟩) (fun hHeld => ?_)
    refine tk_ 0 ?_
    try simp only [Act.put, sl1_, sl2_, sl3_]
    refine tk_ 1 ?_
    try simp only [Act.put, sl1_, sl2_, sl3_]
    refine tk_ 2 ?_
    try simp only [Act.put, sl1_, sl2_, sl3_]
    refine tk_ 3 ?_
    try simp only [Act.put, sl1_, sl2_, sl3_]
    refine tk_ 4 ?_
    try simp only [Act.put, sl1_, sl2_, sl3_]
    refine tk_ 5 ?_
    try simp only [Act.put, sl1_, sl2_, sl3_]
    refine tk_ 6 ?_
    try simp only [Act.put, sl1_, sl2_, sl3_]
    refine tk_ 7 ?_
    try simp only [Act.put, sl1_, sl2_, sl3_]
    refine tk_ 8 ?_
    try simp only [Act.put, sl1_, sl2_, sl3_]
    refine wpAnyH_ready (rs := [9]) (by kernel_rfl) (by simp) (AllReadyH.cons (o := ?_) ?_ (fun K hK => ?_) AllReadyH.nil)
    rotate_left 1
    · (simp only [List.getElem?_toArray, List.getElem?_cons_succ, List.getElem?_cons_zero]; exact rfl)
    (go_simp; (go_at_call 100; obtain ⟨Ft, hT, _, hput⟩ := (H6.out.up (show Upd (fun _ => False) w6 w6.drew from (by repeat (first | assumption | with_reducible exact Upd.refl _ _ | with_reducible refine Upd.drewN ?_ _ | with_reducible refine Upd.drew ?_ | with_reducible refine Upd.alloc ?_ _ | with_reducible refine Upd.setAt ?_ ?_ | exact Or.inl rfl | exact Or.inr (by simp) | exact Or.inr (by omega))))).table; refine (Fl.join_calls hT id r ⟨by have := HIR.out; omega, by have := HIR.out; omega⟩ (by have := HG5.out.lens.2; omega)).mono ?_; rintro e w7 ⟨rfl, Ft', hT2, hu2, hn2⟩; obtain ⟨F7, h7, t7⟩ := hput w7 _ Ft' hT2 hu2 hn2; rw [← HS3.out] at h7; have H7 := Asd.mk h7; have T7 := Asd.mk (T6.out.trans ((Tn.grow F5 (show Upd (fun _ => False) w6 w6.drew from (by repeat (first | assumption | with_reducible exact Upd.refl _ _ | with_reducible refine Upd.drewN ?_ _ | with_reducible refine Upd.drew ?_ | with_reducible refine Upd.alloc ?_ _ | with_reducible refine Upd.setAt ?_ ?_ | exact Or.inl rfl | exact Or.inr (by simp) | exact Or.inr (by omega))))).trans t7)); have hg7 : get s3 id = some c2 := (by rw [HS3.out]; exact HGc.out); have HG7 := Asd.mk hg7; obtain ⟨v7, hb7⟩ := h7.conn hg7; have HC7 := Asd.mk (And.intro (keepsC (o := 10) (v := .pointer (some ⟨L.tb, 0, none⟩)) h7.own rfl _ (Upd.refl _ _)) (keepsC (o := 0) (v := .int .i64 id) hb7 rfl _ (Upd.refl _ _))); clear hT hput hT2 hu2 hn2 h7 t7 hg7 hb7))
    refine hK.out _ _ (by exact HC7.out) (fun hHeld => ?_)
    clear hK K
    try simp only [Act.put, List.setIfInBounds_toArray, List.set_cons_zero, List.set_cons_succ]
    refine wpAnyH_done (by kernel_rfl) ?_ _
    clear q10 b0 hs6
    try clear hHeld
    obtain ⟨nv7, hb7, hV7⟩ := H7.out.view HG7.out HVW.out
    have b0 := keepsC (o := 0) (v := .int .i64 id) hb7 rfl
    have b7 := keepsC (o := 7) (v := .pointer (some ⟨nv7, 0, none⟩)) hb7 rfl
    have HV7 := Asd.mk hV7
    have hs7 : Upd (fun _ => False) w7 w7 := Upd.refl _ _
    clear hb7 hV7
    go_wp2
    refine wp_region_held_drew (S := fun W => W.cell? ⟨(L.cn id).p, 0, none⟩ = some (.int .i64 id)) (by kernel_rfl) (by exact b0 _ (by repeat (first | assumption | with_reducible exact Upd.refl _ _ | with_reducible refine Upd.drewN ?_ _ | with_reducible refine Upd.drew ?_ | with_reducible refine Upd.alloc ?_ _ | with_reducible refine Upd.setAt ?_ ?_ | exact Or.inl rfl | exact Or.inr (by simp) | exact Or.inr (by omega)))) (fun hHeld => ?_)
    refine tk_ 0 ?_
    try simp only [Act.put, sl1_, sl2_, sl3_]
    refine tk_ 1 ?_
    try simp only [Act.put, sl1_, sl2_, sl3_]
    refine tk_ 2 ?_
    try simp only [Act.put, sl1_, sl2_, sl3_]
    refine tk_ 3 ?_
    try simp only [Act.put, sl1_, sl2_, sl3_]
    refine tk_ 4 ?_
    try simp only [Act.put, sl1_, sl2_, sl3_]
    refine tk_ 5 ?_
    try simp only [Act.put, sl1_, sl2_, sl3_]
    refine tk_ 6 ?_
    try simp only [Act.put, sl1_, sl2_, sl3_]
    refine tk_ 7 ?_
    try simp only [Act.put, sl1_, sl2_, sl3_]
    refine tk_ 8 ?_
    try simp only [Act.put, sl1_, sl2_, sl3_]
    refine tk_ 11 ?_
    try simp only [Act.put, sl1_, sl2_, sl3_]
    refine wpAnyH_ready (rs := [9]) (by kernel_rfl) (by simp) (AllReadyH.cons (o := ?_) ?_ (fun K hK => ?_) AllReadyH.nil)
    rotate_left 1
    · (simp only [List.getElem?_toArray, List.getElem?_cons_succ, List.getElem?_cons_zero]; exact rfl)
    go_simp
    refine hK.out _ _ (by exact b0 _ (by repeat (first | assumption | with_reducible exact Upd.refl _ _ | with_reducible refine Upd.drewN ?_ _ | with_reducible refine Upd.drew ?_ | with_reducible refine Upd.alloc ?_ _ | with_reducible refine Upd.setAt ?_ ?_ | exact Or.inl rfl | exact Or.inr (by simp) | exact Or.inr (by omega)))) (fun hHeld => ?_)
    clear hK K
    try simp only [Act.put, List.setIfInBounds_toArray, List.set_cons_zero, List.set_cons_succ]
    refine wpAnyH_ready (rs := [10]) (by kernel_rfl) (by simp) (AllReadyH.cons (o := ?_) ?_ (fun K hK => ?_) AllReadyH.nil)
    rotate_left 1
    · (simp only [List.getElem?_toArray, List.getElem?_cons_succ, List.getElem?_cons_zero]; exact rfl)
    (go_simp; (go_at_call 77; refine (Vw.at_calls (show Vw.V w7.drew nv7 ln 0 from HV7.out)).mono ?_; rintro e w8 ⟨rfl, rfl⟩))
    refine hK.out _ _ (by exact b0 _ (by repeat (first | assumption | with_reducible exact Upd.refl _ _ | with_reducible refine Upd.drewN ?_ _ | with_reducible refine Upd.drew ?_ | with_reducible refine Upd.alloc ?_ _ | with_reducible refine Upd.setAt ?_ ?_ | exact Or.inl rfl | exact Or.inr (by simp) | exact Or.inr (by omega)))) (fun hHeld => ?_)
    clear hK K
    try simp only [Act.put, List.setIfInBounds_toArray, List.set_cons_zero, List.set_cons_succ]
    refine wpAnyH_ready (rs := [12]) (by kernel_rfl) (by simp) (AllReadyH.cons (o := ?_) ?_ (fun K hK => ?_) AllReadyH.nil)
    rotate_left 1
    · (simp only [List.getElem?_toArray, List.getElem?_cons_succ, List.getElem?_cons_zero]; exact rfl)
    (go_simp; (go_at_call 101; refine (word_calls r HRR.out _).mono ?_; rintro e w8 ⟨rfl, hu8⟩; have h78 := (show Upd (fun _ => False) w7 w7.drew from (by repeat (first | assumption | with_reducible exact Upd.refl _ _ | with_reducible refine Upd.drewN ?_ _ | with_reducible refine Upd.drew ?_ | with_reducible refine Upd.alloc ?_ _ | with_reducible refine Upd.setAt ?_ ?_ | exact Or.inl rfl | exact Or.inr (by simp) | exact Or.inr (by omega)))).trans hu8 (fun _ _ h => h)))
    refine hK.out _ _ (by exact b0 _ h78) (fun hHeld => ?_)
    clear hK K
    try simp only [Act.put, List.setIfInBounds_toArray, List.set_cons_zero, List.set_cons_succ]
    refine tk_ 13 ?_
    try simp only [Act.put, sl1_, sl2_, sl3_]
    refine wpAnyH_ready (rs := [14]) (by kernel_rfl) (by simp) (AllReadyH.cons (o := ?_) ?_ (fun K hK => ?_) AllReadyH.nil)
    rotate_left 1
    · (simp only [List.getElem?_toArray, List.getElem?_cons_succ, List.getElem?_cons_zero]; exact rfl)
    (go_simp; (go_at_call 82; refine (send_calls (H7.out.up h78) HO3.out HG7.out ⟨5, id, (ln : Int), wordOf r⟩).mono ?_; rw [← HS4.out]; rintro e w9 ⟨rfl, F9, h9, t9⟩; have H9 := Asd.mk h9; have T9 := Asd.mk (T7.out.trans ((Tn.grow F7 h78).trans t9)); obtain ⟨c9, hg9, _⟩ := (sm_send' s3 id ⟨5, id, (ln : Int), wordOf r⟩).cn id c2 HG7.out; rw [← HS4.out] at hg9; obtain ⟨v9, hb9⟩ := h9.conn hg9; have HG9 := Asd.mk hg9; have HC9 := Asd.mk (keepsC (o := 0) (v := .int .i64 id) hb9 rfl _ (Upd.refl _ _)); clear h9 t9 hg9 hb9))
    refine hK.out _ _ (by exact HC9.out) (fun hHeld => ?_)
    clear hK K
    try simp only [Act.put, List.setIfInBounds_toArray, List.set_cons_zero, List.set_cons_succ]
    refine wpAnyH_done (by kernel_rfl) ?_ _
    have HO4 : Asd (Ok s4) := ⟨by rw [HS4.out]; exact ok_send' HO3.out _ _⟩
    have q16 := keepsC (o := 16) (v := .int .i64 s4.holder) H9.out.own rfl
    have hs9 : Upd (fun _ => False) w9 w9 := Upd.refl _ _
    clear b0 b7 hs7
    try clear hHeld
    go_wp2_with fail
    refine (send_calls H9.out HO4.out HG9.out ⟨9, s4.holder, 0, []⟩).mono ?_
    rw [← HS5.out]
    rintro e w10 ⟨rfl, F10, h10, t10⟩
    have H10 := Asd.mk h10
    have T10 := Asd.mk (T9.out.trans t10)
    have HO5 : Asd (Ok s5) := ⟨by rw [HS5.out]; exact ok_send' HO4.out _ _⟩
    obtain ⟨c10, hg10, _⟩ := (sm_send' s4 id ⟨9, s4.holder, 0, []⟩).cn id c9 HG9.out
    rw [← HS5.out] at hg10
    have HG10 := Asd.mk hg10
    have q14 := keepsC (o := 14) (v := .bool s5.ended) h10.own rfl
    have q15 := keepsC (o := 15) (v := .int .i64 s5.code) h10.own rfl
    have hs10 : Upd (fun _ => False) w10 w10 := Upd.refl _ _
    clear q16 hs9 h10 t10 hg10
    cases hen : s5.ended with
    | false =>
      have HE2 : Asd (hello s id m = s5) := ⟨by rw [HE.out, hen]; rfl⟩
      rw [hen] at q14
      clear hen
      go_wp2
      go_end0
      exact ⟨rfl, F10, by rw [HE2.out]; exact H10.out, T10.out⟩
    | true =>
      have HE2 : Asd (hello s id m = send s5 id ⟨15, s5.code, 0, []⟩) := ⟨by rw [HE.out, hen]; rfl⟩
      rw [hen] at q14
      clear hen
      go_wp2_with fail
      refine (send_calls H10.out HO5.out HG10.out ⟨15, s5.code, 0, []⟩).mono ?_
      rw [← HE2.out]
      rintro e w11 ⟨rfl, F11, h11, t11⟩
      go_wp2
      go_end0
      exact ⟨rfl, F11, h11, T10.out.trans t11⟩
end
end Go.Proofs.YteepkanbiefpjaaGreatDoor.Bk
set_option linter.unusedVariables false
set_option linter.unusedSimpArgs false
namespace Go.Proofs.YteepkanbiefpjaaGreatDoor.Bk
open Go.RowKit K
open MgRow (M)
set_option maxHeartbeats 1000000 in
theorem own_calls (k : Int) (w : World) : Calls Tryz.prog 129 #[.int .i64 k] w fun e w' => e = .returned (.bool (own k)) ∧ w = w' := by
  obtain ⟨y, hy⟩ : ∃ y, y = own k := ⟨_, rfl⟩
  rw [← hy]
  rcases (by omega : k = 5 ∨ (k ≠ 5 ∧ 6 ≤ k ∧ k ≤ 9) ∨ k = 11 ∨ (k ≠ 5 ∧ k < 6 ∧ k ≠ 11) ∨ (9 < k ∧ k ≠ 11)) with rfl | ⟨h1, h2, h3⟩ | rfl | ⟨h1, h2, h3⟩ | ⟨h2, h3⟩
  · have e : y = true := by rw [hy]; rfl
    subst e
    clear hy
    go_enter Tryz.func129, Tryz.ntmps129
    go_wp2
    go_ret
    exact ⟨rfl, rfl⟩
  · have e : y = true := by rw [hy]; unfold own; simp; omega
    subst e
    clear hy
    have n1 : (k == 5) = false := beq_eq_false_iff_ne.2 h1
    go_enter Tryz.func129, Tryz.ntmps129
    go_wp2
    go_ret
    exact ⟨rfl, rfl⟩
  · have e : y = true := by rw [hy]; rfl
    subst e
    clear hy
    go_enter Tryz.func129, Tryz.ntmps129
    go_wp2
    go_ret
    exact ⟨rfl, rfl⟩
  · have e : y = false := by rw [hy]; unfold own; simp; omega
    subst e
    clear hy
    have n1 : (k == 5) = false := beq_eq_false_iff_ne.2 h1
    have n2 : ¬ 6 ≤ k := by omega
    have n3 : (k == 11) = false := beq_eq_false_iff_ne.2 h3
    go_enter Tryz.func129, Tryz.ntmps129
    go_wp2
    go_ret
    exact ⟨rfl, rfl⟩
  · have e : y = false := by rw [hy]; unfold own; simp; omega
    subst e
    clear hy
    have n1 : (k == 5) = false := beq_eq_false_iff_ne.2 (by omega)
    have n2 : ¬ k ≤ 9 := by omega
    have n3 : (k == 11) = false := beq_eq_false_iff_ne.2 h3
    have n4 : 6 ≤ k := by omega
    go_enter Tryz.func129, Tryz.ntmps129
    go_wp2
    go_ret
    exact ⟨rfl, rfl⟩
section
variable {w w' : World} {L : Lay} {s : Br} {F : Nat → Prop} {id : Int} {c : Cn}
def userV (L : Lay) (s : Br) (n : Int) : Value := match userOf s n with
  | some _ => .pointer (some ⟨(L.cn n).p, 0, none⟩)
  | none => .pointer none
set_option maxHeartbeats 2000000 in
theorem user_calls (h : Bt L w s F) (n : Int) (hn : -9223372036854775808 ≤ n ∧ n ≤ 9223372036854775807) : Calls Tryz.prog 76 #[ptr L.q, .int .i64 n] w fun e w' => e = .returned (userV L s n) ∧ w = w' := by
  obtain ⟨y, hy⟩ : ∃ y, y = userV L s n := ⟨_, rfl⟩
  rw [← hy]
  have hq := keepsC (o := 12) (v := .map (some L.m)) h.own rfl
  have hlook := h.look n hn
  have hs : Upd (fun _ => False) w w := Upd.refl _ _
  by_cases h16 : 16 < n
  · have e : y = .pointer none := by rw [hy]; unfold userV userOf; rw [if_pos h16]
    subst e
    clear hy h
    go_enter Tryz.func76, Tryz.ntmps76
    go_wp2
    go_ret
    exact ⟨rfl, rfl⟩
  cases hg : get s n with
  | none =>
    have e : y = .pointer none := by rw [hy]; unfold userV userOf; rw [if_neg h16, hg]
    subst e
    rw [hg] at hlook
    simp only at hlook
    clear hy h hg
    go_enter Tryz.func76, Tryz.ntmps76
    go_wp2
    go_ret
    exact ⟨rfl, rfl⟩
  | some c =>
    obtain ⟨v, hb⟩ := h.conn hg
    have b1 := keepsC (o := 1) (v := .int .i64 c.st) hb rfl
    rw [hg] at hlook
    simp only at hlook
    by_cases h1 : c.st = 1
    · have e : y = .pointer (some ⟨(L.cn n).p, 0, none⟩) := by rw [hy]; unfold userV userOf; rw [if_neg h16, hg]; simp only; rw [if_pos h1]
      have hb1 : (c.st == 1) = true := beq_iff_eq.2 h1
      subst e
      clear hy h hg hb h1
      go_enter Tryz.func76, Tryz.ntmps76
      go_wp2
      go_ret
      exact ⟨rfl, rfl⟩
    · have e : y = .pointer none := by rw [hy]; unfold userV userOf; rw [if_neg h16, hg]; simp only; rw [if_neg h1]
      have hb1 : (c.st == 1) = false := beq_eq_false_iff_ne.2 h1
      subst e
      clear hy h hg hb h1
      go_enter Tryz.func76, Tryz.ntmps76
      go_wp2
      go_ret
      exact ⟨rfl, rfl⟩
set_option maxHeartbeats 8000000 in
set_option maxRecDepth 100000 in
theorem toOther_calls (h : Bt L w s F) (ho : Ok s) (k n : Int) (hk : 6 ≤ k ∧ k ≤ 9) (hn : -9223372036854775808 ≤ n ∧ n ≤ 9223372036854775807) : Calls Tryz.prog 135 #[ptr L.q, .agg #[.int .i64 k, .int .i64 n]] w (Goes L (toOther s k n).1 F w (.bool (toOther s k n).2)) := by
  obtain ⟨y, hy⟩ : ∃ y, y = toOther s k n := ⟨_, rfl⟩
  rw [← hy]
  have H := Asd.mk h
  have HO := Asd.mk ho
  have HY := Asd.mk hy
  have hk1 := (Upd.refl (fun _ => False) w).alloc (.cells #[.int .i64 k, .int .i64 n] 44)
  have hm1 := heap_alloc_new w (.cells #[.int .i64 k, .int .i64 n] 44)
  have hs1 := Upd.refl (fun _ => False) (w.alloc (.cells #[.int .i64 k, .int .i64 n] 44))
  have o0 := keepsC (o := 0) (v := .int .i64 k) hm1 rfl
  have o1 := keepsC (o := 1) (v := .int .i64 n) hm1 rfl
  clear h ho hy hm1
  cases hu : userOf s n with
  | none =>
    have HU : Asd (userV L s n = .pointer none) := ⟨by unfold userV; rw [hu]⟩
    have HE : Asd (y = (s, false)) := ⟨by rw [HY.out]; unfold toOther; rw [hu]⟩
    clear hu
    go_enter Tryz.func135, Tryz.ntmps135
    go_wp2_with fail
    refine (user_calls (H.out.up hk1) n hn).mono ?_
    rw [HU.out]
    rintro e w2 ⟨rfl, rfl⟩
    go_wp2
    go_ret
    exact ⟨by rw [HE.out]; rfl, F, by rw [HE.out]; exact H.out.up hk1, Tn.grow F hk1⟩
  | some c =>
    have HU : Asd (userV L s n = .pointer (some ⟨(L.cn n).p, 0, none⟩)) := ⟨by unfold userV; rw [hu]⟩
    have hgn : get s n = some c ∧ c.st = 1 := by
      unfold userOf at hu
      split at hu
      · cases hu
      · cases hg : get s n with
        | none => rw [hg] at hu; cases hu
        | some x =>
          rw [hg] at hu
          simp only at hu
          split at hu
          · rename_i hx; cases hu; exact ⟨rfl, hx⟩
          · cases hu
    have HU2 := Asd.mk hu
    have HG := Asd.mk hgn.1
    have HIR := Asd.mk (HO.out.rng n (get_ids hgn.1))
    clear hu hgn
    obtain ⟨v, hb⟩ := (H.out.up hk1).conn HG.out
    have q10 := keepsC (o := 10) (v := .pointer (some ⟨L.tb, 0, none⟩)) (H.out.up hk1).own rfl
    have b0 := keepsC (o := 0) (v := .int .i64 n) hb rfl
    have HH := Asd.mk (H.out.up hk1)
    clear hb
    rcases (by omega : k = 6 ∨ k = 7 ∨ k = 8 ∨ k = 9) with rfl | rfl | rfl | rfl
    · have HE : Asd (y = (wTab s (Fl.give s.tab n), Fl.may s.tab n == 0)) := ⟨by rw [HY.out]; unfold toOther; rw [HU2.out]; rfl⟩
      go_enter Tryz.func135, Tryz.ntmps135
      go_wp2_with fail
      refine (user_calls HH.out n hn).mono ?_
      rw [HU.out]
      rintro e w2 ⟨rfl, rfl⟩
      go_wp2
      generalize hw1 : w.alloc (.cells #[.int .i64 6, .int .i64 n] 44) = w1 at hk1 hs1 o0 o1 q10 b0 HH ⊢
      clear hw1
      refine wp_region_held_drew (S := fun W => W.cell? ⟨L.q, 10, none⟩ = some (.pointer (some ⟨L.tb, 0, none⟩)) ∧ W.cell? ⟨(L.cn n).p, 0, none⟩ = some (.int .i64 n)) (by kernel_rfl) (by exact ⟨q10 _ (by repeat (first | assumption | with_reducible exact Upd.refl _ _ | with_reducible refine Upd.drewN ?_ _ | with_reducible refine Upd.drew ?_ | with_reducible refine Upd.alloc ?_ _ | with_reducible refine Upd.setAt ?_ ?_ | exact Or.inl rfl | exact Or.inr (by simp) | exact Or.inr (by omega))), b0 _ (by repeat (first | assumption | with_reducible exact Upd.refl _ _ | with_reducible refine Upd.drewN ?_ _ | with_reducible refine Upd.drew ?_ | with_reducible refine Upd.alloc ?_ _ | with_reducible refine Upd.setAt ?_ ?_ | exact Or.inl rfl | exact Or.inr (by simp) | exact Or.inr (by omega)))⟩) (fun hHeld => ?_)
      refine tk_ 0 ?_
      try simp only [Act.put, sl1_, sl2_, sl3_]
      refine tk_ 1 ?_
      try simp only [Act.put, sl1_, sl2_, sl3_]
      refine tk_ 2 ?_
      try simp only [Act.put, sl1_, sl2_, sl3_]
      refine tk_ 3 ?_
      try simp only [Act.put, sl1_, sl2_, sl3_]
      refine tk_ 4 ?_
      try simp only [Act.put, sl1_, sl2_, sl3_]
      refine tk_ 5 ?_
      try simp only [Act.put, sl1_, sl2_, sl3_]
      refine tk_ 6 ?_
      try simp only [Act.put, sl1_, sl2_, sl3_]
      refine tk_ 7 ?_
      try simp only [Act.put, sl1_, sl2_, sl3_]
      refine wpAnyH_ready (rs := [8]) (by kernel_rfl) (by simp) (AllReadyH.cons (o := ?_) ?_ (fun K hK => ?_) AllReadyH.nil)
      rotate_left 1
      · (simp only [List.getElem?_toArray, List.getElem?_cons_succ, List.getElem?_cons_zero]; exact rfl)
      (go_simp; (go_at_call 164; obtain ⟨Ft, hT, _, hput⟩ := (HH.out.up (show Upd (fun _ => False) w1 w1.drew from (by repeat (first | assumption | with_reducible exact Upd.refl _ _ | with_reducible refine Upd.drewN ?_ _ | with_reducible refine Upd.drew ?_ | with_reducible refine Upd.alloc ?_ _ | with_reducible refine Upd.setAt ?_ ?_ | exact Or.inl rfl | exact Or.inr (by simp) | exact Or.inr (by omega))))).table; refine (Fl.give_calls hT n ⟨by have := HIR.out; omega, by have := HIR.out; omega⟩ (by have := HO.out.g.lens; omega)).mono ?_; rintro e w9 ⟨rfl, Ft', hT2, hu2, hn2⟩; obtain ⟨F9, h9, t9⟩ := hput w9 _ Ft' hT2 hu2 hn2; have H9 := Asd.mk h9; have T9 := Asd.mk ((Tn.grow F (show Upd (fun _ => False) w1 w1.drew from (by repeat (first | assumption | with_reducible exact Upd.refl _ _ | with_reducible refine Upd.drewN ?_ _ | with_reducible refine Upd.drew ?_ | with_reducible refine Upd.alloc ?_ _ | with_reducible refine Upd.setAt ?_ ?_ | exact Or.inl rfl | exact Or.inr (by simp) | exact Or.inr (by omega))))).trans t9); obtain ⟨v9, hb9⟩ := h9.conn (show get (wTab s (Fl.give s.tab n)) n = _ from HG.out); have HC9 := Asd.mk (And.intro (keepsC (o := 10) (v := .pointer (some ⟨L.tb, 0, none⟩)) h9.own rfl _ (Upd.refl _ _)) (keepsC (o := 0) (v := .int .i64 n) hb9 rfl _ (Upd.refl _ _))); clear hT hput hT2 hu2 hn2 h9 t9 hb9))
      refine hK.out _ _ (by exact HC9.out) (fun hHeld => ?_)
      clear hK K
      try simp only [Act.put, List.setIfInBounds_toArray, List.set_cons_zero, List.set_cons_succ]
      refine tk_ 9 ?_
      try simp only [Act.put, sl1_, sl2_, sl3_]
      refine tk_ 10 ?_
      try simp only [Act.put, sl1_, sl2_, sl3_]
      refine wpAnyH_done (by kernel_rfl) ?_ _
      clear q10 b0 o0 o1 hs1
      go_wp2
      go_ret
      exact ⟨by rw [HE.out]; rfl, F9, by rw [HE.out]; exact H9.out, (Tn.grow F hk1).trans T9.out⟩
    · have HE : Asd (y = (shut s n 5, true)) := ⟨by rw [HY.out]; unfold toOther; rw [HU2.out]; rfl⟩
      go_enter Tryz.func135, Tryz.ntmps135
      go_wp2_with fail
      refine (user_calls HH.out n hn).mono ?_
      rw [HU.out]
      rintro e w2 ⟨rfl, rfl⟩
      go_wp2_with fail
      refine (shut_calls HH.out HO.out HG.out 5).mono ?_
      rintro e w3 ⟨rfl, F3, h3, t3⟩
      have H3 := Asd.mk h3
      have T3 := Asd.mk ((Tn.grow F hk1).trans t3)
      clear h3 t3
      go_wp2
      go_ret
      exact ⟨by rw [HE.out]; rfl, F3, by rw [HE.out]; exact H3.out, T3.out⟩
    · have HE : Asd (y = (wTab s (Fl.setRole s.tab n 1), Fl.sets s.tab n 1)) := ⟨by rw [HY.out]; unfold toOther; rw [HU2.out]; rfl⟩
      go_enter Tryz.func135, Tryz.ntmps135
      go_wp2_with fail
      refine (user_calls HH.out n hn).mono ?_
      rw [HU.out]
      rintro e w2 ⟨rfl, rfl⟩
      go_wp2
      generalize hw1 : w.alloc (.cells #[.int .i64 8, .int .i64 n] 44) = w1 at hk1 hs1 o0 o1 q10 b0 HH ⊢
      clear hw1
      refine wp_region_held_drew (S := fun W => W.cell? ⟨L.q, 10, none⟩ = some (.pointer (some ⟨L.tb, 0, none⟩)) ∧ W.cell? ⟨(L.cn n).p, 0, none⟩ = some (.int .i64 n)) (by kernel_rfl) (by exact ⟨q10 _ (by repeat (first | assumption | with_reducible exact Upd.refl _ _ | with_reducible refine Upd.drewN ?_ _ | with_reducible refine Upd.drew ?_ | with_reducible refine Upd.alloc ?_ _ | with_reducible refine Upd.setAt ?_ ?_ | exact Or.inl rfl | exact Or.inr (by simp) | exact Or.inr (by omega))), b0 _ (by repeat (first | assumption | with_reducible exact Upd.refl _ _ | with_reducible refine Upd.drewN ?_ _ | with_reducible refine Upd.drew ?_ | with_reducible refine Upd.alloc ?_ _ | with_reducible refine Upd.setAt ?_ ?_ | exact Or.inl rfl | exact Or.inr (by simp) | exact Or.inr (by omega)))⟩) (fun hHeld => ?_)
      refine tk_ 0 ?_
      try simp only [Act.put, sl1_, sl2_, sl3_]
      refine tk_ 1 ?_
      try simp only [Act.put, sl1_, sl2_, sl3_]
      refine tk_ 2 ?_
      try simp only [Act.put, sl1_, sl2_, sl3_]
      refine tk_ 3 ?_
      try simp only [Act.put, sl1_, sl2_, sl3_]
      refine tk_ 4 ?_
      try simp only [Act.put, sl1_, sl2_, sl3_]
      refine tk_ 5 ?_
      try simp only [Act.put, sl1_, sl2_, sl3_]
      refine tk_ 6 ?_
      try simp only [Act.put, sl1_, sl2_, sl3_]
      refine tk_ 7 ?_
      try simp only [Act.put, sl1_, sl2_, sl3_]
      refine wpAnyH_ready (rs := [8]) (by kernel_rfl) (by simp) (AllReadyH.cons (o := ?_) ?_ (fun K hK => ?_) AllReadyH.nil)
      rotate_left 1
      · (simp only [List.getElem?_toArray, List.getElem?_cons_succ, List.getElem?_cons_zero]; exact rfl)
      (go_simp; (go_at_call 165; obtain ⟨Ft, hT, _, hput⟩ := (HH.out.up (show Upd (fun _ => False) w1 w1.drew from (by repeat (first | assumption | with_reducible exact Upd.refl _ _ | with_reducible refine Upd.drewN ?_ _ | with_reducible refine Upd.drew ?_ | with_reducible refine Upd.alloc ?_ _ | with_reducible refine Upd.setAt ?_ ?_ | exact Or.inl rfl | exact Or.inr (by simp) | exact Or.inr (by omega))))).table; refine (Fl.set_calls hT n 1 ⟨by have := HIR.out; omega, by have := HIR.out; omega⟩ (by have := HO.out.g.lens; omega) (by have := HO.out.g.lens; omega)).mono ?_; rintro e w9 ⟨rfl, Ft', hT2, hu2, hn2⟩; obtain ⟨F9, h9, t9⟩ := hput w9 _ Ft' hT2 hu2 hn2; have H9 := Asd.mk h9; have T9 := Asd.mk ((Tn.grow F (show Upd (fun _ => False) w1 w1.drew from (by repeat (first | assumption | with_reducible exact Upd.refl _ _ | with_reducible refine Upd.drewN ?_ _ | with_reducible refine Upd.drew ?_ | with_reducible refine Upd.alloc ?_ _ | with_reducible refine Upd.setAt ?_ ?_ | exact Or.inl rfl | exact Or.inr (by simp) | exact Or.inr (by omega))))).trans t9); obtain ⟨v9, hb9⟩ := h9.conn (show get (wTab s (Fl.setRole s.tab n 1)) n = _ from HG.out); have HC9 := Asd.mk (And.intro (keepsC (o := 10) (v := .pointer (some ⟨L.tb, 0, none⟩)) h9.own rfl _ (Upd.refl _ _)) (keepsC (o := 0) (v := .int .i64 n) hb9 rfl _ (Upd.refl _ _))); clear hT hput hT2 hu2 hn2 h9 t9 hb9))
      refine hK.out _ _ (by exact HC9.out) (fun hHeld => ?_)
      clear hK K
      try simp only [Act.put, List.setIfInBounds_toArray, List.set_cons_zero, List.set_cons_succ]
      refine tk_ 9 ?_
      try simp only [Act.put, sl1_, sl2_, sl3_]
      refine wpAnyH_done (by kernel_rfl) ?_ _
      clear q10 b0 o0 o1 hs1
      go_wp2
      go_ret
      exact ⟨by rw [HE.out]; rfl, F9, by rw [HE.out]; exact H9.out, (Tn.grow F hk1).trans T9.out⟩
    · have HE : Asd (y = (wTab s (Fl.setRole s.tab n 0), Fl.sets s.tab n 0)) := ⟨by rw [HY.out]; unfold toOther; rw [HU2.out]; rfl⟩
      go_enter Tryz.func135, Tryz.ntmps135
      go_wp2_with fail
      refine (user_calls HH.out n hn).mono ?_
      rw [HU.out]
      rintro e w2 ⟨rfl, rfl⟩
      go_wp2
      generalize hw1 : w.alloc (.cells #[.int .i64 9, .int .i64 n] 44) = w1 at hk1 hs1 o0 o1 q10 b0 HH ⊢
      clear hw1
      refine wp_region_held_drew (S := fun W => W.cell? ⟨L.q, 10, none⟩ = some (.pointer (some ⟨L.tb, 0, none⟩)) ∧ W.cell? ⟨(L.cn n).p, 0, none⟩ = some (.int .i64 n)) (by kernel_rfl) (by exact ⟨q10 _ (by repeat (first | assumption | with_reducible exact Upd.refl _ _ | with_reducible refine Upd.drewN ?_ _ | with_reducible refine Upd.drew ?_ | with_reducible refine Upd.alloc ?_ _ | with_reducible refine Upd.setAt ?_ ?_ | exact Or.inl rfl | exact Or.inr (by simp) | exact Or.inr (by omega))), b0 _ (by repeat (first | assumption | with_reducible exact Upd.refl _ _ | with_reducible refine Upd.drewN ?_ _ | with_reducible refine Upd.drew ?_ | with_reducible refine Upd.alloc ?_ _ | with_reducible refine Upd.setAt ?_ ?_ | exact Or.inl rfl | exact Or.inr (by simp) | exact Or.inr (by omega)))⟩) (fun hHeld => ?_)
      refine tk_ 0 ?_
      try simp only [Act.put, sl1_, sl2_, sl3_]
      refine tk_ 1 ?_
      try simp only [Act.put, sl1_, sl2_, sl3_]
      refine tk_ 2 ?_
      try simp only [Act.put, sl1_, sl2_, sl3_]
      refine tk_ 3 ?_
      try simp only [Act.put, sl1_, sl2_, sl3_]
      refine tk_ 4 ?_
      try simp only [Act.put, sl1_, sl2_, sl3_]
      refine tk_ 5 ?_
      try simp only [Act.put, sl1_, sl2_, sl3_]
      refine tk_ 6 ?_
      try simp only [Act.put, sl1_, sl2_, sl3_]
      refine tk_ 7 ?_
      try simp only [Act.put, sl1_, sl2_, sl3_]
      refine wpAnyH_ready (rs := [8]) (by kernel_rfl) (by simp) (AllReadyH.cons (o := ?_) ?_ (fun K hK => ?_) AllReadyH.nil)
      rotate_left 1
      · (simp only [List.getElem?_toArray, List.getElem?_cons_succ, List.getElem?_cons_zero]; exact rfl)
      (go_simp; (go_at_call 165; obtain ⟨Ft, hT, _, hput⟩ := (HH.out.up (show Upd (fun _ => False) w1 w1.drew from (by repeat (first | assumption | with_reducible exact Upd.refl _ _ | with_reducible refine Upd.drewN ?_ _ | with_reducible refine Upd.drew ?_ | with_reducible refine Upd.alloc ?_ _ | with_reducible refine Upd.setAt ?_ ?_ | exact Or.inl rfl | exact Or.inr (by simp) | exact Or.inr (by omega))))).table; refine (Fl.set_calls hT n 0 ⟨by have := HIR.out; omega, by have := HIR.out; omega⟩ (by have := HO.out.g.lens; omega) (by have := HO.out.g.lens; omega)).mono ?_; rintro e w9 ⟨rfl, Ft', hT2, hu2, hn2⟩; obtain ⟨F9, h9, t9⟩ := hput w9 _ Ft' hT2 hu2 hn2; have H9 := Asd.mk h9; have T9 := Asd.mk ((Tn.grow F (show Upd (fun _ => False) w1 w1.drew from (by repeat (first | assumption | with_reducible exact Upd.refl _ _ | with_reducible refine Upd.drewN ?_ _ | with_reducible refine Upd.drew ?_ | with_reducible refine Upd.alloc ?_ _ | with_reducible refine Upd.setAt ?_ ?_ | exact Or.inl rfl | exact Or.inr (by simp) | exact Or.inr (by omega))))).trans t9); obtain ⟨v9, hb9⟩ := h9.conn (show get (wTab s (Fl.setRole s.tab n 0)) n = _ from HG.out); have HC9 := Asd.mk (And.intro (keepsC (o := 10) (v := .pointer (some ⟨L.tb, 0, none⟩)) h9.own rfl _ (Upd.refl _ _)) (keepsC (o := 0) (v := .int .i64 n) hb9 rfl _ (Upd.refl _ _))); clear hT hput hT2 hu2 hn2 h9 t9 hb9))
      refine hK.out _ _ (by exact HC9.out) (fun hHeld => ?_)
      clear hK K
      try simp only [Act.put, List.setIfInBounds_toArray, List.set_cons_zero, List.set_cons_succ]
      refine tk_ 9 ?_
      try simp only [Act.put, sl1_, sl2_, sl3_]
      refine wpAnyH_done (by kernel_rfl) ?_ _
      clear q10 b0 o0 o1 hs1
      go_wp2
      go_ret
      exact ⟨by rw [HE.out]; rfl, F9, by rw [HE.out]; exact H9.out, (Tn.grow F hk1).trans T9.out⟩
end
end Go.Proofs.YteepkanbiefpjaaGreatDoor.Bk
set_option linter.unusedVariables false
set_option linter.unusedSimpArgs false
namespace Go.Proofs.YteepkanbiefpjaaGreatDoor.Bk
open Go.RowKit K
open MgRow (M)
set_option maxHeartbeats 1000000 in
theorem again_calls {w : World} {q g n v a st : Nat} {l : List UInt8} (h : Rg.Ring w q g n l) (hv : Vw.V w v a st) (back : Int) (hb : -9223372036854775808 ≤ back ∧ back ≤ 9223372036854775807) :
    Calls Tryz.prog 134 #[.pointer (some ⟨v, 0, none⟩), .pointer (some ⟨q, 0, none⟩), .int .i64 back] w fun e w' => e = .returned (.tuple #[]) ∧ Vw.V w' v (Vw.startN l n back false) st ∧ Upd (fun i => i = v) w w' := by
  have HV := Asd.mk hv
  have HR := Asd.mk h
  have hb0 : w.heap[v]? = some (.cells #[.int .i64 (a : Int), .int .i64 (st : Int)] 169 (0, 0)) := hv
  clear h hv
  go_enter Tryz.func134, Tryz.ntmps134
  go_wp2_with fail
  refine (Vw.start_calls HR.out back hb false).mono ?_
  rintro e w1 ⟨rfl, hu⟩
  have hb1 := hu.blk hb0 (fun h => h)
  have c0 := keepsC (o := 0) (v := .int .i64 (a : Int)) hb1 rfl
  have cf := fun o => keepsF (o := o) hb1
  have hs : Upd (fun _ => False) w1 w1 := Upd.refl _ _
  have HU := Asd.mk hu
  have HB1 := Asd.mk hb1
  clear hb0 hb1 hu
  go_wp2
  go_end0
  exact ⟨rfl, blk_setCell (o := 0) HB1.out _, (HU.out.mono (T := fun i => i = v) (fun _ _ h => h.elim)).setCell (fun _ => rfl) _⟩
section
variable {w w' : World} {L : Lay} {s : Br} {F : Nat → Prop} {id : Int} {c : Cn}
theorem list_next {id : Int} {K : List Int} {i : Nat} {f : Br → Int → Br} (st : Br) (h : K.drop i = id :: K.drop (i + 1)) : (K.drop i).foldl f st = (K.drop (i + 1)).foldl f (f st id) := by rw [h, List.foldl_cons]
set_option maxHeartbeats 8000000 in
set_option maxRecDepth 100000 in
theorem list_calls (h : Bt L w s F) (ho : Ok s) (hg : get s id = some c) (hnm : ∀ j x, get s j = some x → x.name.length ≤ 3000) : Calls Tryz.prog 132 #[ptr L.q, ptr (L.cn id).p] w (Goes L (listN s id) F w (.tuple #[])) := by
  have H := Asd.mk h
  have HO := Asd.mk ho
  have HG := Asd.mk hg
  have HNM := Asd.mk hnm
  obtain ⟨Ft, hT, hFt, _⟩ := h.table
  have HT := Asd.mk hT
  have q10 := keepsC (o := 10) (v := .pointer (some ⟨L.tb, 0, none⟩)) h.own rfl
  have hs : Upd (fun _ => False) w w := Upd.refl _ _
  have hlen := ho.g.lens.2
  have hkl : (Fl.keys s.tab).length = s.tab.roles.length := by simp [Fl.keys]
  clear h ho hg hnm hT
  go_enter Tryz.func132, Tryz.ntmps132
  go_wp2_with fail
  refine (Fl.users_calls HT.out (by omega)).mono ?_
  rintro e w1 ⟨A, cc, G, rfl, hO, hGn, hu⟩
  obtain ⟨N, hN⟩ : ∃ N, N = (Fl.keys s.tab).length := ⟨_, rfl⟩
  have hN16 : N ≤ 16 := by omega
  have HN := Asd.mk hN
  rw [← hN]
  have HOI := Asd.mk hO
  have HGn := Asd.mk hGn
  have HU := Asd.mk hu
  obtain ⟨KK, hKK⟩ : ∃ KK, KK = Fl.keys s.tab := ⟨_, rfl⟩
  rw [← hKK] at HN HOI
  have HKK := Asd.mk hKK
  clear hO hGn hu hN hkl hlen q10 HT hs hKK
  go_wp2
  go_loopw [15] (fun v15 wr => ∃ (i : Nat) (st : Br) (F1 : Nat → Prop), v15 = .int .i64 (i : Int) ∧ i ≤ N ∧ Asd (Bt L wr st F1) ∧ Asd (Ok st) ∧ Asd (Sm s st) ∧ Asd (listN s id = (KK.drop i).foldl (fun s j => send s id (note (listT s j ((Fl.rget s.tab.roles j).getD 0)))) st) ∧ Asd (OI wr (.slice A KK.length cc) KK G ∧ ∀ g, G = some g → ¬ F1 g) ∧ Asd (Tn w F wr F1)) (fun v15 _ => N - (intOf v15).toNat)
  case atStart => exact ⟨0, s, F, rfl, Nat.zero_le _, ⟨H.out.up HU.out⟩, HO, ⟨Sm.refl s⟩, ⟨by rw [HKK.out]; rfl⟩, ⟨HOI.out, fun g hg hf => by have := HGn.out g hg; have := H.out.bk.lt g hf; omega⟩, ⟨Tn.grow F HU.out⟩⟩
  case round =>
    obtain ⟨i, st, F1, rfl, hi, HB, HO1, HSm, HL, HS, HTn⟩ := hrel
    by_cases hlt : i < N
    · obtain ⟨j, hj⟩ : ∃ j, j = KK[i]'(by rw [← HN.out]; exact hlt) := ⟨_, rfl⟩
      have hdrop : KK.drop i = j :: KK.drop (i + 1) := by rw [hj]; exact List.drop_eq_getElem_cons (by rw [← HN.out]; exact hlt)
      obtain ⟨A1, c1, he1, _, _, hrow, _⟩ := K.Own.slice HS.out.1
      obtain ⟨rfl, rfl⟩ : A = A1 ∧ cc = c1 := by injection he1 with a b c; exact ⟨a, c⟩
      obtain ⟨ad, rfl, hcell⟩ := hrow i (.int .i64 j) (by rw [I, List.getElem?_map, List.getElem?_eq_getElem (by rw [← HN.out]; exact hlt), ← hj]; rfl)
      have hjm : j ∈ KK := by rw [hj]; exact List.getElem_mem _
      obtain ⟨x0, hx0, _⟩ := HO.out.use j (keys_get (by rw [← HKK.out]; exact hjm))
      obtain ⟨x, hx, _, hxn, _⟩ := HSm.out.cn j x0 hx0
      have hnl := HNM.out j x0 hx0
      rw [← hxn] at hnl
      have HJR := Asd.mk (HO.out.rng j (get_ids hx0))
      obtain ⟨cid, hcid, _⟩ := HSm.out.cn id c HG.out
      have HCID := Asd.mk hcid
      have hstep := list_next (f := fun s j => send s id (note (listT s j ((Fl.rget s.tab.roles j).getD 0)))) st hdrop
      have HST := Asd.mk hstep
      have hcell2 : ∀ W, Upd (fun _ => False) wr W → W.cell? (ad.add i) = some (.int .i64 j) := fun W k => k.cell hcell (fun h => h)
      have q10 := keepsC (o := 10) (v := .pointer (some ⟨L.tb, 0, none⟩)) HB.out.own rfl
      have q12 := keepsC (o := 12) (v := .map (some L.m)) HB.out.own rfl
      have hlook := HB.out.look j (by have := HJR.out; omega)
      rw [hx] at hlook
      simp only at hlook
      obtain ⟨vx, hbx⟩ := HB.out.conn hx
      have x2 := keepsC (o := 2) (v := .string (S x.name)) hbx rfl
      obtain ⟨Ft, hT, _, _⟩ := HB.out.table
      have HT := Asd.mk hT
      have HX := Asd.mk hx
      obtain ⟨rr, hrr⟩ : ∃ rr, rr = Fl.rget st.tab.roles j := ⟨_, rfl⟩
      obtain ⟨r, hr⟩ : ∃ r, r = rr.getD 0 := ⟨_, rfl⟩
      have HRR : Asd (r = 0 ∨ r = 1 ∨ r = 2) := ⟨by
        rw [hr, hrr]
        cases hq : Fl.rget st.tab.roles j with
        | none => exact .inl rfl
        | some y => have := HO1.out.rls _ (Fl.rget_mem hq); simp only at this; simp only [Option.getD_some]; omega⟩
      have hil := Lib.itoa_length_le j (by have := HJR.out; omega) (by have := HJR.out; omega)
      have hwl : (wordOf r).length ≤ 8 := by unfold wordOf; split <;> (try split) <;> simp
      have hs2 : Upd (fun _ => False) wr wr := Upd.refl _ _
      obtain ⟨sp, hsp⟩ : ∃ sp : List UInt8, sp = [32] := ⟨_, rfl⟩
      have hsl : sp.length = 1 := by rw [hsp]; rfl
      have e2 : ({ data := #[32] } : ByteArray) = S sp := by rw [hsp]; rfl
      have n1 : ¬ 9223372036854775807 < (Lib.itoa j).length + sp.length := by omega
      have n2 : ¬ 9223372036854775807 < (Lib.itoa j).length + sp.length + (wordOf r).length := by omega
      have n3 : ¬ 9223372036854775807 < (Lib.itoa j).length + (sp.length + (wordOf r).length) + sp.length := by omega
      have n4 : ¬ 9223372036854775807 < (Lib.itoa j).length + (sp.length + ((wordOf r).length + sp.length)) + x.name.length := by omega
      have HR := Asd.mk hr
      have HRr := Asd.mk hrr
      have HSP := Asd.mk hsp
      have HLN := Asd.mk hnl
      clear hj hdrop hrow hcell hjm hx0 hx hxn hnl hcid hstep hbx hT hrr hr hsp hsl hil hwl
      go_wp2_with fail
      refine (Fl.role_calls HT.out j ⟨by have := HJR.out; omega, by have := HJR.out; omega⟩).mono ?_
      rw [← HRr.out, ← HR.out]
      rintro e w2 ⟨rfl, rfl⟩
      go_wp2
      refine wp_region_held_drew (S := fun W => Upd (fun _ => False) wr W) (by kernel_rfl) (by exact (by repeat (first | assumption | with_reducible exact Upd.refl _ _ | with_reducible refine Upd.drewN ?_ _ | with_reducible refine Upd.drew ?_ | with_reducible refine Upd.alloc ?_ _ | with_reducible refine Upd.setAt ?_ ?_ | exact Or.inl rfl | exact Or.inr (by simp) | exact Or.inr (by omega)))) (fun hHeld => ?_)
      refine tk_ 0 ?_
      try simp only [Act.put, sl1_, sl2_, sl3_]
      refine tk_ 3 ?_
      try simp only [Act.put, sl1_, sl2_, sl3_]
      refine tk_ 7 ?_
      try simp only [Act.put, sl1_, sl2_, sl3_]
      refine tk_ 8 ?_
      try simp only [Act.put, sl1_, sl2_, sl3_]
      refine tk_ 9 ?_
      try simp only [Act.put, sl1_, sl2_, sl3_]
      refine tk_ 10 ?_
      try simp only [Act.put, sl1_, sl2_, sl3_]
      refine tk_ 11 ?_
      try simp only [Act.put, sl1_, sl2_, sl3_]
      refine tk_ 12 ?_
      try simp only [Act.put, sl1_, sl2_, sl3_]
      refine tk_ 13 ?_
      try simp only [Act.put, sl1_, sl2_, sl3_]
      refine tk_ 14 ?_
      try simp only [Act.put, sl1_, sl2_, sl3_]
      refine tk_ 15 ?_
      try simp only [Act.put, sl1_, sl2_, sl3_]
      refine wpAnyH_ready (rs := [1]) (by kernel_rfl) (by simp) (AllReadyH.cons (o := ?_) ?_ (fun K hK => ?_) AllReadyH.nil)
      rotate_left 1
      · (simp only [List.getElem?_toArray, List.getElem?_cons_succ, List.getElem?_cons_zero]; exact rfl)
      (go_simp; (go_at_call 35; refine (itoa_calls j (by have := HJR.out; omega) (by have := HJR.out; omega) _).mono ?_; rintro e w5 ⟨rfl, rfl⟩))
      refine hK.out _ _ (by exact (by repeat (first | assumption | with_reducible exact Upd.refl _ _ | with_reducible refine Upd.drewN ?_ _ | with_reducible refine Upd.drew ?_ | with_reducible refine Upd.alloc ?_ _ | with_reducible refine Upd.setAt ?_ ?_ | exact Or.inl rfl | exact Or.inr (by simp) | exact Or.inr (by omega)))) (fun hHeld => ?_)
      clear hK K
      try simp only [Act.put, List.setIfInBounds_toArray, List.set_cons_zero, List.set_cons_succ]
      refine tk_ 2 ?_
      try simp only [Act.put, sl1_, sl2_, sl3_]
      refine wpAnyH_ready (rs := [4]) (by kernel_rfl) (by simp) (AllReadyH.cons (o := ?_) ?_ (fun K hK => ?_) AllReadyH.nil)
      rotate_left 1
      · (simp only [List.getElem?_toArray, List.getElem?_cons_succ, List.getElem?_cons_zero]; exact rfl)
      (go_simp; (go_at_call 101; refine (word_calls r HRR.out _).mono ?_; rintro e w5 ⟨rfl, hu5⟩; have h25 := (show Upd (fun _ => False) wr wr.drew from (by repeat (first | assumption | with_reducible exact Upd.refl _ _ | with_reducible refine Upd.drewN ?_ _ | with_reducible refine Upd.drew ?_ | with_reducible refine Upd.alloc ?_ _ | with_reducible refine Upd.setAt ?_ ?_ | exact Or.inl rfl | exact Or.inr (by simp) | exact Or.inr (by omega)))).trans hu5 (fun _ _ h => h)))
      refine hK.out _ _ (by exact h25) (fun hHeld => ?_)
      clear hK K
      try simp only [Act.put, List.setIfInBounds_toArray, List.set_cons_zero, List.set_cons_succ]
      refine tk_ 5 ?_
      try simp only [Act.put, sl1_, sl2_, sl3_]
      refine tk_ 6 ?_
      try simp only [Act.put, sl1_, sl2_, sl3_]
      refine tk_ 16 ?_
      try simp only [Act.put, sl1_, sl2_, sl3_]
      refine tk_ 17 ?_
      try simp only [Act.put, sl1_, sl2_, sl3_]
      refine wpAnyH_done (by kernel_rfl) ?_ _
      have HB5 := Asd.mk (HB.out.up h25)
      have HT5 := Asd.mk (HT.out.up h25)
      have q10' := keepsC (o := 10) (v := .pointer (some ⟨L.tb, 0, none⟩)) HB5.out.own rfl
      have hs5 : Upd (fun _ => False) w5 w5 := Upd.refl _ _
      have T5 := Asd.mk (HTn.out.trans (Tn.grow F1 h25))
      have HS5 : Asd (OI w5 (.slice (some ad) KK.length cc) KK G ∧ ∀ g, G = some g → ¬ F1 g) := ⟨HS.out.1.up h25, HS.out.2⟩
      clear q10 q12 hlook x2 hcell2 hs2 n1 n2 n3 n4 h25
      try clear hHeld
      obtain ⟨base, hbase⟩ : ∃ base, base = Lib.itoa j ++ (sp ++ (wordOf r ++ (sp ++ x.name))) := ⟨_, rfl⟩
      rw [← hbase]
      have hbl : base.length ≤ 4000 := by
        have h1 := Lib.itoa_length_le j (by have := HJR.out; omega) (by have := HJR.out; omega)
        have h2 : (wordOf r).length ≤ 8 := by unfold wordOf; split <;> (try split) <;> simp
        have h3 : sp.length = 1 := by rw [HSP.out]; rfl
        have h4 := HLN.out
        rw [hbase]
        simp only [List.length_append]
        omega
      have HBA := Asd.mk hbase
      clear hbase
      have hfin : ∀ (lt : List UInt8), lt = listT st j r → ∃ st2, st2 = send st id (note lt) ∧ listN s id = (KK.drop (i + 1)).foldl (fun s j => send s id (note (listT s j ((Fl.rget s.tab.roles j).getD 0)))) st2 := fun lt hlt => ⟨_, rfl, by rw [HL.out, HST.out, hlt, HR.out, HRr.out]⟩
      have HF := Asd.mk hfin
      clear hfin
      go_wp2_with fail
      refine (Fl.holder_calls HT5.out).mono ?_
      rintro e w6 ⟨rfl, rfl⟩
      by_cases hjh : j = st.tab.holder
      · have hb : (j == st.tab.holder) = true := beq_iff_eq.2 hjh
        have HLT : Asd (base ++ [32, 42] = listT st j r) := ⟨by rw [HBA.out, HSP.out]; unfold listT; rw [HX.out, if_pos hjh]; simp⟩
        obtain ⟨st2, hst2, hnx⟩ := HF.out _ HLT.out
        have e3 : S base ++ ({ data := #[32, 42] } : ByteArray) = S (base ++ [32, 42]) := by rw [← S_append]; rfl
        have n5 : ¬ 9223372036854775807 < base.length + 2 := by omega
        have HS2 := Asd.mk hst2
        have HNX := Asd.mk hnx
        clear hjh hst2 hnx
        go_wp2_with fail
        refine (send_calls HB5.out HO1.out HCID.out (note (base ++ [32, 42]))).mono ?_
        rw [← HS2.out]
        rintro e w7 ⟨rfl, F7, h7, t7⟩
        have H7 := Asd.mk h7
        have T7 := Asd.mk (T5.out.trans t7)
        have HSm7 := Asd.mk (HS2.out ▸ HSm.out.trans (sm_send' st id (note (base ++ [32, 42]))))
        have HO7 := Asd.mk (HS2.out ▸ ok_send' HO1.out id (note (base ++ [32, 42])))
        have HS7 : Asd (OI w7 (.slice (some ad) KK.length cc) KK G ∧ ∀ g, G = some g → ¬ F7 g) := ⟨HS5.out.1.upd t7.upd (fun g hg => HS5.out.2 g hg), fun g hg hf => (t7.new g hf).elim (HS5.out.2 g hg) (fun h => by have := HS5.out.1.lt g hg; omega)⟩
        clear h7 t7 q10' hs5
        go_wp2
        go_roundw
        case rel => exact ⟨i + 1, st2, F7, by go_num, by omega, H7, HO7, HSm7, HNX, HS7, T7⟩
        case measure => simp only [intOf]; omega
      · have hb : (j == st.tab.holder) = false := beq_eq_false_iff_ne.2 hjh
        have HLT : Asd (base = listT st j r) := ⟨by rw [HBA.out, HSP.out]; unfold listT; rw [HX.out, if_neg hjh]; simp⟩
        obtain ⟨st2, hst2, hnx⟩ := HF.out _ HLT.out
        have HS2 := Asd.mk hst2
        have HNX := Asd.mk hnx
        clear hjh hst2 hnx
        go_wp2_with fail
        refine (send_calls HB5.out HO1.out HCID.out (note base)).mono ?_
        rw [← HS2.out]
        rintro e w7 ⟨rfl, F7, h7, t7⟩
        have H7 := Asd.mk h7
        have T7 := Asd.mk (T5.out.trans t7)
        have HSm7 := Asd.mk (HS2.out ▸ HSm.out.trans (sm_send' st id (note base)))
        have HO7 := Asd.mk (HS2.out ▸ ok_send' HO1.out id (note base))
        have HS7 : Asd (OI w7 (.slice (some ad) KK.length cc) KK G ∧ ∀ g, G = some g → ¬ F7 g) := ⟨HS5.out.1.upd t7.upd (fun g hg => HS5.out.2 g hg), fun g hg hf => (t7.new g hf).elim (HS5.out.2 g hg) (fun h => by have := HS5.out.1.lt g hg; omega)⟩
        clear h7 t7 q10' hs5
        go_wp2
        go_roundw
        case rel => exact ⟨i + 1, st2, F7, by go_num, by omega, H7, HO7, HSm7, HNX, HS7, T7⟩
        case measure => simp only [intOf]; omega
    · have HE : Asd (listN s id = st) := ⟨by rw [HL.out, List.drop_eq_nil_of_le (by have := HN.out; omega)]; rfl⟩
      go_wp2
      go_end0
      exact ⟨rfl, F1, by rw [HE.out]; exact HB.out, HTn.out⟩
end
end Go.Proofs.YteepkanbiefpjaaGreatDoor.Bk
