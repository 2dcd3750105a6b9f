/- What these laws lean on, part Vo: contracts of the given program's functions and plain lists. No condition. -/
import Derived.Test.YteepkanbiefpjaaGreatDoorVn
import Derived.Test.YteepkanbiefpjaaGreatDoorVa
set_option linter.unusedVariables false
set_option linter.unusedSimpArgs false
namespace Go.Proofs.YteepkanbiefpjaaGreatDoor.Bk
open Go.RowKit K
open MgRow (M)
theorem lnew_calls (w : World) : Calls Tryz.prog 48 #[] w fun e w' => e = .returned (.pointer (some ⟨w.heap.size, 0, none⟩)) ∧ w' = w.alloc (.cells #[.int .i64 0, .slice none 0 0, .bool false] 145) := by
  go_enter Tryz.func48, Tryz.ntmps48
  go_wp2
  go_ret
  exact ⟨rfl, rfl⟩
def withC (L : Lay) (id : Int) (c : CP) : Lay := { L with cn := fun j => if j = id then c else L.cn j }
theorem ents_join (L : Lay) (id : Int) (c : CP) : ∀ cs : List (Int × Cn), id ∉ cs.map (·.1) → (cins (id, fresh) cs).map (fun p => (p.1, ptr ((withC L id c).cn p.1).p)) = ins (id, ptr c.p) (cs.map fun p => (p.1, ptr (L.cn p.1).p))
  | [], _ => by simp [cins, ins, withC]
  | y :: r, h => by
    have hy : ¬ y.1 = id := fun e => h (by simp [e])
    have hr : id ∉ r.map (·.1) := fun e => h (by simp only [List.map_cons, List.mem_cons]; exact .inr e)
    have hm : ∀ l : List (Int × Cn), id ∉ l.map (·.1) → l.map (fun p => (p.1, ptr ((withC L id c).cn p.1).p)) = l.map fun p => (p.1, ptr (L.cn p.1).p) := fun l hl => List.map_congr_left (fun p hp => by
      have : ¬ p.1 = id := fun e => hl (List.mem_map.2 ⟨p, hp, e⟩)
      simp [withC, this])
    unfold cins
    simp only [List.map_cons, ins]
    by_cases hlt : id < y.1
    · rw [if_pos hlt, if_pos hlt]
      simp only [List.map_cons]
      rw [hm r hr]
      simp [withC, hy]
    · rw [if_neg hlt, if_neg hlt]
      simp only [List.map_cons]
      rw [ents_join L id c r hr]
      simp [withC, hy]
theorem mdel_none {L : List Ent} {id : Int} (h : id ∉ L.map (·.1)) : mdel L id = L := List.filter_eq_self.2 (fun p hp => by
  simp only [Bool.not_eq_true', decide_eq_false_iff_not]
  exact fun e => h (List.mem_map.2 ⟨p, hp, e⟩))
def GoesL (q : Nat) (s : Br) (F : Nat → Prop) (w : World) (v : Value) (e : Ending) (w' : World) : Prop := e = .returned v ∧ ∃ L F', L.q = q ∧ Bt L w' s F' ∧ Tn w F w' F'
section
variable {w w' : World} {L : Lay} {s : Br} {F : Nat → Prop} {id : Int} {c : Cn}
theorem Goes.l {v : Value} {e : Ending} (h : Goes L s F w v e w') : GoesL L.q s F w v e w' := ⟨h.1, L, h.2.choose, rfl, h.2.choose_spec.1, h.2.choose_spec.2⟩
theorem Bt.join (h : Bt L w s F) (ho : Ok s) (hg : get s id = none) (cp : CP) {Ff Fo : Nat → Prop}
    (hm : mapV w' Tryz.prog 3 L.m (mput (ents L s) id (ptr cp.p))) (hc : w'.heap[cp.p]? = some (.cells (ccells cp id fresh (.pointer none)) 101 (0, 0)))
    (hf : Fee.Feed w' cp.pf [] 0 Ff) (hl : w'.heap[cp.pl]? = some (.cells #[.int .i64 0, .slice none 0 0, .bool false] 145 (0, 0))) (ho2 : Oq.Que w' cp.po [] s.cf.queue Fo)
    (lc : w.heap.size ≤ cp.p) (ll : w.heap.size ≤ cp.pl) (lf : ∀ k, Ff k → w.heap.size ≤ k) (lo : ∀ k, Fo k → w.heap.size ≤ k)
    (d1 : cp.p ≠ cp.pl) (d2 : ¬ Ff cp.p) (d3 : ¬ Fo cp.p) (d4 : ¬ Ff cp.pl) (d5 : ¬ Fo cp.pl) (d6 : ∀ k, Ff k → ¬ Fo k) (hu : Upd (fun k => k = L.m) w w') :
    ∃ F', Bt (withC L id cp) w' (joinC s id) F' ∧ Tn w F w' F' := by
  obtain ⟨Fm, h1, h2, h3, h4⟩ := h.bk.turns (fun j => j = .map ∨ j = .conn id ∨ j = .feed id ∨ j = .lex id ∨ j = .out id)
  have hmF : ∀ k, Fm .map k ↔ k = L.m := (h1 .map).2
  have hml : L.m < w.heap.size := h.map.lt
  have hgn : get (joinC s id) id = some fresh := by rw [get_joinC ho hg, if_pos rfl]
  have hgo : ∀ j, j ≠ id → get (joinC s id) j = get s j := fun j hj => by rw [get_joinC ho hg, if_neg hj]
  have hcn : (withC L id cp).cn id = cp := by simp [withC]
  have hcno : ∀ j, j ≠ id → (withC L id cp).cn j = L.cn j := fun j hj => by simp [withC, hj]
  have hents : ents (withC L id cp) (joinC s id) = mput (ents L s) id (ptr cp.p) := by
    unfold mput
    rw [mdel_none (by
      simp only [ents, List.map_map]
      exact get_none_ids hg)]
    exact ents_join L id cp s.cs (get_none_ids hg)
  obtain ⟨F', hbk, ht⟩ := h4 w' (withC L id cp) (joinC s id) (fun j => match j with | .map => fun k => k = L.m | .conn _ => fun k => k = cp.p | .feed _ => Ff | .lex _ => fun k => k = cp.pl | .out _ => Fo | _ => fun _ => False) (fun j hj => by
      rcases hj with rfl | rfl | rfl | rfl | rfl
      · exact ⟨by rw [hents]; exact hm, fun k => Iff.rfl⟩
      · simp only [PartAt, hgn, hcn, ConnAt, fresh]
        exact ⟨hc, fun k => trivial⟩
      · simp only [PartAt, hgn, hcn]
        exact hf
      · simp only [PartAt, hgn, hcn]
        exact ⟨none, 0, none, hl, Own.nil _ _ _, by simp, fun k => by simp⟩
      · simp only [PartAt, hgn, hcn]
        exact ho2)
    (fun i j k hi hj hne hk hk2 => by
      rcases hi with rfl | rfl | rfl | rfl | rfl <;> rcases hj with rfl | rfl | rfl | rfl | rfl <;> simp only at hk hk2 <;> first | exact hne rfl | (have e1 := hk; have e2 := hk2; first
        | (subst e1; omega)
        | (subst e2; omega)
        | (have := lf _ e1; omega)
        | (have := lo _ e1; omega)
        | (have := lf _ e2; omega)
        | (have := lo _ e2; omega)
        | (subst e1; exact d2 e2)
        | (subst e1; exact d3 e2)
        | (subst e1; exact d4 e2)
        | (subst e1; exact d5 e2)
        | (subst e2; exact d2 e1)
        | (subst e2; exact d3 e1)
        | (subst e2; exact d4 e1)
        | (subst e2; exact d5 e1)
        | exact d6 _ e1 e2
        | exact d6 _ e2 e1))
    (fun j hj k hk => by
      rcases hj with rfl | rfl | rfl | rfl | rfl
      · exact .inl ⟨.map, .inl rfl, (hmF k).2 hk⟩
      · have e : k = cp.p := hk
        exact .inr (by omega)
      · exact .inr (lf k hk)
      · have e : k = cp.pl := hk
        exact .inr (by omega)
      · exact .inr (lo k hk))
    (fun j hj W Fj hw => by
      cases j with
      | own => exact hw
      | ring => exact hw
      | spot => exact hw
      | table => exact hw
      | input => exact hw
      | map => exact absurd (.inl rfl) hj
      | conn x =>
        have hx : x ≠ id := fun e => hj (by subst e; exact .inr (.inl rfl))
        simp only [PartAt] at hw ⊢
        rw [hgo x hx, hcno x hx]; exact hw
      | feed x =>
        have hx : x ≠ id := fun e => hj (by subst e; exact .inr (.inr (.inl rfl)))
        simp only [PartAt] at hw ⊢
        rw [hgo x hx, hcno x hx]; exact hw
      | lex x =>
        have hx : x ≠ id := fun e => hj (by subst e; exact .inr (.inr (.inr (.inl rfl))))
        simp only [PartAt] at hw ⊢
        rw [hgo x hx, hcno x hx]; exact hw
      | out x =>
        have hx : x ≠ id := fun e => hj (by subst e; exact .inr (.inr (.inr (.inr rfl))))
        simp only [PartAt] at hw ⊢
        rw [hgo x hx, hcno x hx]; exact hw)
    (hu.mono (fun k _ e => ⟨.map, .inl rfl, (hmF k).2 e⟩))
  exact ⟨F', h.go hbk ht, ht⟩
set_option maxHeartbeats 8000000 in
set_option maxRecDepth 100000 in
theorem connect_calls (n : Nat) (h : Bt L w s F) (hd : Gd n s) (id : Int) (hid : -9223372036854775808 ≤ id ∧ id ≤ 9223372036854775807) : Calls Tryz.prog 18 #[ptr L.q, .int .i64 id] w (GoesL L.q (connect s id).1 F w (.int .i64 (connect s id).2)) := by
  have q12 := keepsC (o := 12) (v := .map (some L.m)) h.own rfl
  have q2 := keepsC (o := 2) (v := .int .i64 s.cf.queue) h.own rfl
  have hlook := h.look id hid
  have hs : Upd (fun _ => False) w w := Upd.refl _ _
  have H := Asd.mk h
  have HD := Asd.mk hd
  by_cases h1 : id < 1
  · have hw : connect s id = (s, 1) := by unfold connect; rw [if_pos (Or.inl h1)]
    have hb1 : decide (id < 1) = true := decide_eq_true h1
    rw [hw]
    clear h hd hw
    go_enter Tryz.func18, Tryz.ntmps18
    go_wp2
    go_ret
    exact ⟨rfl, L, F, rfl, H.out, Tn.refl _ _⟩
  have hb1 : decide (id < 1) = false := decide_eq_false h1
  by_cases h2 : 16 < id
  · have hw : connect s id = (s, 1) := by unfold connect; rw [if_pos (Or.inr h2)]
    have hb2 : decide (16 < id) = true := decide_eq_true h2
    rw [hw]
    clear h hd hw
    go_enter Tryz.func18, Tryz.ntmps18
    go_wp2
    go_ret
    exact ⟨rfl, L, F, rfl, H.out, Tn.refl _ _⟩
  have hb2 : decide (16 < id) = false := decide_eq_false h2
  cases hg : get s id with
  | some c =>
    have hw : connect s id = (s, 3) := by unfold connect; rw [if_neg (by omega), hg]; rfl
    rw [hw]
    rw [hg] at hlook
    simp only at hlook ⊢
    clear h hd hg hw h1 h2
    go_enter Tryz.func18, Tryz.ntmps18
    go_wp2
    go_ret
    exact ⟨rfl, L, F, rfl, H.out, Tn.refl _ _⟩
  | none =>
    have hw : connect s id = (joinC s id, 0) := by unfold connect; rw [if_neg (by omega), hg]; rfl
    rw [hw]
    rw [hg] at hlook
    simp only at hlook ⊢
    have HG := Asd.mk hg
    have HM := Asd.mk h.map
    have HEL : Asd ((ents L s).length < maxLen) := ⟨by have := hd.ok.few; simp only [ents, List.length_map, maxLen]; omega⟩
    have HO := Asd.mk h.own
    have HLM := Asd.mk h.map.lt
    have HNE : Asd (L.q ≠ L.m) := ⟨fun e => by
      obtain ⟨Fm, hm, hdj, _⟩ := h.bk.has
      exact hdj .own .map L.q (by simp) (((hm .own).2 _).2 rfl) (((hm .map).2 _).2 e)⟩
    have hcf := hd.cf
    unfold rightC at hcf
    simp only [decide_eq_true_eq] at hcf
    have HQ : Asd (Oq.clampSize s.cf.queue = s.cf.queue) := ⟨by unfold Oq.clampSize; split <;> (try split) <;> omega⟩
    clear h hd hg hw h1 h2 hcf
    go_enter Tryz.func18, Tryz.ntmps18
    go_upto_region 5 with fail
    refine wp_region_held_drew (S := fun W => W.cell? ⟨L.q, 12, none⟩ = some (.map (some L.m)) ∧ W.cell? ⟨L.q, 2, none⟩ = some (.int .i64 s.cf.queue)) (by kernel_rfl) (by exact ⟨q12 _ (by repeat (first | assumption | with_reducible exact Upd.refl _ _ | with_reducible refine Upd.drewN ?_ _ | with_reducible refine Upd.drew ?_ | with_reducible refine Upd.alloc ?_ _ | with_reducible refine Upd.setAt ?_ ?_ | exact Or.inl rfl | exact Or.inr (by simp) | exact Or.inr (by omega))), q2 _ (by repeat (first | assumption | with_reducible exact Upd.refl _ _ | with_reducible refine Upd.drewN ?_ _ | with_reducible refine Upd.drew ?_ | with_reducible refine Upd.alloc ?_ _ | with_reducible refine Upd.setAt ?_ ?_ | exact Or.inl rfl | exact Or.inr (by simp) | exact Or.inr (by omega)))⟩) (fun hHeld => ?_)
    refine tk_ 0 ?_
    try simp only [Act.put, sl1_, sl2_, sl3_]
    refine tk_ 1 ?_
    try simp only [Act.put, sl1_, sl2_, sl3_]
    refine tk_ 2 ?_
    try simp only [Act.put, sl1_, sl2_, sl3_]
    refine tk_ 3 ?_
    try simp only [Act.put, sl1_, sl2_, sl3_]
    refine tk_ 4 ?_
    try simp only [Act.put, sl1_, sl2_, sl3_]
    refine tk_ 5 ?_
    try simp only [Act.put, sl1_, sl2_, sl3_]
    refine tk_ 8 ?_
    try simp only [Act.put, sl1_, sl2_, sl3_]
    refine tk_ 9 ?_
    try simp only [Act.put, sl1_, sl2_, sl3_]
    refine tk_ 10 ?_
    try simp only [Act.put, sl1_, sl2_, sl3_]
    refine tk_ 11 ?_
    try simp only [Act.put, sl1_, sl2_, sl3_]
    refine tk_ 12 ?_
    try simp only [Act.put, sl1_, sl2_, sl3_]
    refine wpAnyH_ready (rs := [6]) (by kernel_rfl) (by simp) (AllReadyH.cons (o := ?_) ?_ (fun K hK => ?_) AllReadyH.nil)
    rotate_left 1
    · (simp only [List.getElem?_toArray, List.getElem?_cons_succ, List.getElem?_cons_zero]; exact rfl)
    (go_simp; (go_at_call 47; refine (Fee.new_calls _).mono ?_; rintro e w1 ⟨pf, Ff, rfl, hf1, hu1, hfl⟩; have u1 := (show Upd (fun _ => False) w w.drew from (by repeat (first | assumption | with_reducible exact Upd.refl _ _ | with_reducible refine Upd.drewN ?_ _ | with_reducible refine Upd.drew ?_ | with_reducible refine Upd.alloc ?_ _ | with_reducible refine Upd.setAt ?_ ?_ | exact Or.inl rfl | exact Or.inr (by simp) | exact Or.inr (by omega)))).trans hu1 (fun _ _ h => h); have z1 := u1.size; have F1 := Asd.mk hf1; have FL := Asd.mk (show ∀ k, Ff k → w.heap.size ≤ k from hfl); have FH := Asd.mk hf1.lt; clear hf1 hu1 hfl))
    refine hK.out _ _ (by exact ⟨q12 _ u1, q2 _ u1⟩) (fun hHeld => ?_)
    clear hK K
    try simp only [Act.put, List.setIfInBounds_toArray, List.set_cons_zero, List.set_cons_succ]
    refine wpAnyH_ready (rs := [7]) (by kernel_rfl) (by simp) (AllReadyH.cons (o := ?_) ?_ (fun K hK => ?_) AllReadyH.nil)
    rotate_left 1
    · (simp only [List.getElem?_toArray, List.getElem?_cons_succ, List.getElem?_cons_zero]; exact rfl)
    (go_simp; (go_at_call 48; refine (lnew_calls _).mono ?_; rintro e w2 ⟨rfl, hw2⟩; have u2 : Upd (fun _ => False) w w2 := (by rw [hw2]; exact u1.alloc _); have z2 : w2.heap.size = w1.heap.size + 1 := (by rw [hw2, World.size_alloc]); have L2 := Asd.mk (show w2.heap[w1.heap.size]? = some (.cells #[.int .i64 0, .slice none 0 0, .bool false] 145 (0, 0)) from (by rw [hw2]; exact heap_alloc_new w1 _)); have F2 := Asd.mk (show Fee.Feed w2 pf [] 0 Ff from (by rw [hw2]; exact F1.out.up ((Upd.refl _ _).alloc _))); clear hw2))
    refine hK.out _ _ (by exact ⟨q12 _ u2, q2 _ u2⟩) (fun hHeld => ?_)
    clear hK K
    try simp only [Act.put, List.setIfInBounds_toArray, List.set_cons_zero, List.set_cons_succ]
    refine wpAnyH_ready (rs := [13]) (by kernel_rfl) (by simp) (AllReadyH.cons (o := ?_) ?_ (fun K hK => ?_) AllReadyH.nil)
    rotate_left 1
    · (simp only [List.getElem?_toArray, List.getElem?_cons_succ, List.getElem?_cons_zero]; exact rfl)
    (go_simp; (go_at_call 49; refine (Oq.new_calls s.cf.queue _).mono ?_; rintro e w3 ⟨po, Fo, rfl, ho3, hu3, hol⟩; have u3 := u2.trans hu3 (fun _ _ h => h); have z3 := hu3.size; have L3 := Asd.mk (hu3.blk L2.out (fun h => h)); have F3 := Asd.mk (F2.out.up hu3); have O3 := Asd.mk ho3; have OL := Asd.mk hol; have OH := Asd.mk ho3.lt; clear ho3 hu3 hol))
    refine hK.out _ _ (by exact ⟨q12 _ u3, q2 _ u3⟩) (fun hHeld => ?_)
    clear hK K
    try simp only [Act.put, List.setIfInBounds_toArray, List.set_cons_zero, List.set_cons_succ]
    refine tk_ 14 ?_
    try simp only [Act.put, sl1_, sl2_, sl3_]
    refine wpAnyH_ready (rs := [15]) (by kernel_rfl) (by simp) (AllReadyH.cons (o := ?_) ?_ (fun K hK => ?_) AllReadyH.nil)
    rotate_left 1
    · (simp only [List.getElem?_toArray, List.getElem?_cons_succ, List.getElem?_cons_zero]; exact rfl)
    go_simp
    refine hK.out _ _ (by exact ⟨q12 _ (by repeat (first | assumption | with_reducible exact Upd.refl _ _ | with_reducible refine Upd.drewN ?_ _ | with_reducible refine Upd.drew ?_ | with_reducible refine Upd.alloc ?_ _ | with_reducible refine Upd.setAt ?_ ?_ | exact Or.inl rfl | exact Or.inr (by simp) | exact Or.inr (by omega))), q2 _ (by repeat (first | assumption | with_reducible exact Upd.refl _ _ | with_reducible refine Upd.drewN ?_ _ | with_reducible refine Upd.drew ?_ | with_reducible refine Upd.alloc ?_ _ | with_reducible refine Upd.setAt ?_ ?_ | exact Or.inl rfl | exact Or.inr (by simp) | exact Or.inr (by omega)))⟩) (fun hHeld => ?_)
    clear hK K
    try simp only [Act.put, List.setIfInBounds_toArray, List.set_cons_zero, List.set_cons_succ]
    refine wpAnyH_ready (rs := [16]) (by kernel_rfl) (by simp) (AllReadyH.cons (o := ?_) ?_ (fun K hK => ?_) AllReadyH.nil)
    rotate_left 1
    · (simp only [List.getElem?_toArray, List.getElem?_cons_succ, List.getElem?_cons_zero]; exact rfl)
    (have hk4 := (Upd.refl (fun _ => False) w3).alloc (.cells (ccells ⟨w3.heap.size, pf, w1.heap.size, po⟩ id fresh (.pointer none)) 101); obtain ⟨w5, hr5, hm5, hu5⟩ := (HM.out.upd (u3.trans hk4 (fun _ _ h => h)) (fun h => h)).store Tryz.underlying3 Tryz.underlying89 HEL.out id hid (ptr w3.heap.size); have hr5' : (Instr.mapUpdate 89 (.map (some L.m)) (.int .i64 id) (.pointer (some ⟨w3.heap.size, 0, none⟩))).run Tryz.prog (w3.alloc (.cells #[.int .i64 id, .int .i64 0, .string { data := #[] }, .int .i64 0, .pointer (some ⟨pf, 0, none⟩), .pointer (some ⟨w1.heap.size, 0, none⟩), .pointer (some ⟨po, 0, none⟩), .pointer none] 101)) = .ok () w5 := hr5; have HB5 := hu5.blk ((u3.trans hk4 (fun _ _ h => h)).blk HO.out (fun h => h)) HNE.out; have HC5 := Asd.mk (And.intro (keepsC (o := 12) (v := .map (some L.m)) HB5 rfl _ (Upd.refl _ _)) (keepsC (o := 2) (v := .int .i64 s.cf.queue) HB5 rfl _ (Upd.refl _ _))); have HM5 := Asd.mk hm5; have HU5 := Asd.mk hu5; have HK4 := Asd.mk hk4; have HR5 := Asd.mk hr5; clear HB5 hm5 hu5; go_simp)
    refine hK.out _ _ (by exact HC5.out) (fun hHeld => ?_)
    clear hK K
    try simp only [Act.put, List.setIfInBounds_toArray, List.set_cons_zero, List.set_cons_succ]
    refine wpAnyH_done (by kernel_rfl) ?_ _
    have hk5 : Upd (fun k => k = L.m) w3 w5 := (HK4.out.mono (T := fun k => k = L.m) (fun _ _ h => h.elim)).trans HU5.out (fun _ _ h => h)
    have hLM := HLM.out
    have hu3 := u3.size
    obtain ⟨F6, h6, t6⟩ := H.out.join HD.out.ok HG.out ⟨w3.heap.size, pf, w1.heap.size, po⟩ (Ff := Ff) (Fo := Fo) HM5.out (HU5.out.blk (heap_alloc_new w3 _) (fun e => by have e : w3.heap.size = L.m := e; omega)) (F3.out.upd hk5 (fun k hk e => by have := FL.out k hk; omega)) (hk5.blk L3.out (fun e => by have e : w1.heap.size = L.m := e; omega)) (by rw [← HQ.out]; exact O3.out.upd hk5 (fun k hk e => by have := OL.out k hk; omega)) hu3 z1 FL.out (fun k hk => by have := OL.out k hk; omega) (by simp only; omega) (fun hf => by have := FH.out _ hf; simp only at this; omega) (fun hf => by have := OH.out _ hf; simp only at this; omega) (fun hf => by have := FH.out _ hf; simp only at this; omega) (fun hf => by have := OL.out _ hf; simp only at this; omega) (fun k hf ho => by have := FH.out _ hf; have := OL.out _ ho; omega) (((u3.trans HK4.out (fun _ _ h => h)).mono (T := fun k => k = L.m) (fun _ _ h => h.elim)).trans HU5.out (fun _ _ h => h))
    have H6 := Asd.mk h6
    have T6 := Asd.mk t6
    clear h6 t6 hk5 hLM hu3
    go_wp2
    go_ret
    exact ⟨rfl, withC L id ⟨w3.heap.size, pf, w1.heap.size, po⟩, F6, rfl, H6.out, T6.out⟩
set_option maxHeartbeats 1000000 in
theorem conns_calls (h : Bt L w s F) (hd : Ok s) : Calls Tryz.prog 30 #[ptr L.q] w (NewI (ids s) w) := by
  have H := Asd.mk h
  have HD := Asd.mk hd
  clear h hd
  go_enter Tryz.func30, Tryz.ntmps30
  go_wp2_with fail
  refine (ids_calls H.out.bk (by have := HD.out.few; omega)).mono ?_
  rintro e w4 ⟨A, cc, G, rfl, hO, hGn, hu⟩
  have HO := Asd.mk hO
  have HG := Asd.mk hGn
  have HU := Asd.mk hu
  clear hO hGn hu
  go_wp2
  go_ret
  exact ⟨A, cc, G, rfl, HO.out, HG.out, HU.out⟩
set_option maxHeartbeats 1000000 in
theorem users_calls (h : Bt L w s F) (hd : Ok s) : Calls Tryz.prog 28 #[ptr L.q] w (NewI (Fl.keys s.tab) w) := by
  obtain ⟨Ft, hT, _, _⟩ := h.table
  have HT := Asd.mk hT
  have HL := Asd.mk hd.g.lens
  have q10 := keepsC (o := 10) (v := .pointer (some ⟨L.tb, 0, none⟩)) h.own rfl
  have hs : Upd (fun _ => False) w w := Upd.refl _ _
  clear h hd hT
  go_enter Tryz.func28, Tryz.ntmps28
  go_wp2_with fail
  refine (Fl.users_calls HT.out (by have := HL.out; omega)).mono ?_
  rintro e w4 ⟨A, cc, G, rfl, hO, hGn, hu⟩
  have HO := Asd.mk hO
  have HG := Asd.mk hGn
  have HU := Asd.mk hu
  clear hO hGn hu
  go_wp2
  go_ret
  exact ⟨A, cc, G, rfl, HO.out, HG.out, HU.out⟩
set_option maxHeartbeats 1000000 in
theorem holder_calls (h : Bt L w s F) : Calls Tryz.prog 27 #[ptr L.q] w fun e w' => e = .returned (.int .i64 s.tab.holder) ∧ w = w' := by
  obtain ⟨Ft, hT, _, _⟩ := h.table
  have HT := Asd.mk hT
  have q10 := keepsC (o := 10) (v := .pointer (some ⟨L.tb, 0, none⟩)) h.own rfl
  have hs : Upd (fun _ => False) w w := Upd.refl _ _
  clear h hT
  go_enter Tryz.func27, Tryz.ntmps27
  go_wp2_with fail
  refine (Fl.holder_calls HT.out).mono ?_
  rintro e w4 ⟨rfl, rfl⟩
  go_wp2
  go_ret
  exact ⟨rfl, rfl⟩
set_option maxHeartbeats 1000000 in
theorem role_of_calls (h : Bt L w s F) (x : Int) (hx : -9223372036854775808 ≤ x ∧ x ≤ 9223372036854775807) : Calls Tryz.prog 26 #[ptr L.q, .int .i64 x] w fun e w' => e = .returned (.tuple #[.int .i64 ((Fl.rget s.tab.roles x).getD 0), .bool (Fl.rget s.tab.roles x).isSome]) ∧ w = w' := by
  obtain ⟨Ft, hT, _, _⟩ := h.table
  have HT := Asd.mk hT
  have q10 := keepsC (o := 10) (v := .pointer (some ⟨L.tb, 0, none⟩)) h.own rfl
  have hs : Upd (fun _ => False) w w := Upd.refl _ _
  clear h hT
  go_enter Tryz.func26, Tryz.ntmps26
  go_wp2_with fail
  refine (Fl.role_calls HT.out x hx).mono ?_
  rintro e w4 ⟨rfl, rfl⟩
  go_wp2
  go_ret2
  exact ⟨rfl, rfl⟩
def waitN (s : Br) (id : Int) : Nat := match get s id with | some c => c.out.length | none => 0
set_option maxHeartbeats 1000000 in
theorem waiting_calls (h : Bt L w s F) (id : Int) (hid : -9223372036854775808 ≤ id ∧ id ≤ 9223372036854775807) : Calls Tryz.prog 41 #[ptr L.q, .int .i64 id] w fun e w' => e = .returned (.int .i64 (waitN s id : Int)) ∧ w = w' := by
  have q12 := keepsC (o := 12) (v := .map (some L.m)) h.own rfl
  have hlook := h.look id hid
  have hs : Upd (fun _ => False) w w := Upd.refl _ _
  have H := Asd.mk h
  cases hg : get s id with
  | none =>
    have hw : waitN s id = 0 := by unfold waitN; rw [hg]
    rw [hw]
    rw [hg] at hlook
    simp only at hlook
    clear h hg hw
    go_enter Tryz.func41, Tryz.ntmps41
    go_wp2
    go_ret
    exact ⟨rfl, rfl⟩
  | some c =>
    have hw : waitN s id = c.out.length := by unfold waitN; rw [hg]
    rw [hw]
    rw [hg] at hlook
    simp only at hlook
    obtain ⟨vx, hbx⟩ := h.conn hg
    have x6 := keepsC (o := 6) (v := ptr (L.cn id).po) hbx rfl
    obtain ⟨Fo, hq, _, _⟩ := h.out hg
    have HQ := Asd.mk hq
    clear h hg hw hbx hq
    go_enter Tryz.func41, Tryz.ntmps41
    go_wp2_with fail
    refine (Oq.len_calls HQ.out).mono ?_
    rintro e w4 ⟨rfl, rfl⟩
    go_wp2
    go_ret
    exact ⟨rfl, rfl⟩
def seenO (s : Br) (id : Int) : Option Nat := match userOf s id with | some c => some ((c.vw.map (·.1)).getD 0) | none => none
set_option maxHeartbeats 1000000 in
theorem seen_calls (h : Bt L w s F) (ho : Ok s) (id : Int) (hid : -9223372036854775808 ≤ id ∧ id ≤ 9223372036854775807) : Calls Tryz.prog 40 #[ptr L.q, .int .i64 id] w fun e w' => e = .returned (.tuple #[.int .i64 (((seenO s id).getD 0 : Nat) : Int), .bool (seenO s id).isSome]) ∧ w = w' := by
  have hs : Upd (fun _ => False) w w := Upd.refl _ _
  have H := Asd.mk h
  have HU := Asd.mk (user_calls h id hid)
  cases hg : userOf s id with
  | none =>
    have hw : seenO s id = none := by unfold seenO; rw [hg]
    have hv : userV L s id = .pointer none := by unfold userV; rw [hg]
    rw [hw]
    have HV := Asd.mk hv
    clear h hg hw hv ho
    go_enter Tryz.func40, Tryz.ntmps40
    go_wp2_with fail
    refine HU.out.mono ?_
    rw [HV.out]
    rintro e w4 ⟨rfl, rfl⟩
    go_wp2
    go_ret2
    exact ⟨rfl, rfl⟩
  | some c =>
    have hgs : get s id = some c ∧ c.st = 1 := by
      unfold userOf at hg
      split at hg
      · cases hg
      · cases hx : get s id with
        | none => rw [hx] at hg; cases hg
        | some y =>
          rw [hx] at hg
          simp only at hg
          split at hg
          · cases hg; rename_i h1; exact ⟨rfl, h1⟩
          · cases hg
    obtain ⟨a, b, hvw⟩ : ∃ a b, c.vw = some (a, b) := by
      have := (ho.opn id c hgs.1 hgs.2).1
      cases e : c.vw with
      | none => rw [e] at this; cases this
      | some q => exact ⟨q.1, q.2, rfl⟩
    have hw : seenO s id = some a := by unfold seenO; rw [hg]; simp only; rw [hvw]; rfl
    have hv : userV L s id = .pointer (some ⟨(L.cn id).p, 0, none⟩) := by unfold userV; rw [hg]
    obtain ⟨v, hbv, hV⟩ := h.view hgs.1 hvw
    have x7 := keepsC (o := 7) (v := .pointer (some ⟨v, 0, none⟩)) hbv rfl
    have HVw := Asd.mk hV
    rw [hw]
    have HV := Asd.mk hv
    clear h hg hw hv ho hgs hvw hbv hV
    go_enter Tryz.func40, Tryz.ntmps40
    go_wp2_with fail
    refine HU.out.mono ?_
    rw [HV.out]
    rintro e w4 ⟨rfl, rfl⟩
    go_wp2_with fail
    refine (Vw.at_calls HVw.out).mono ?_
    rintro e w4 ⟨rfl, rfl⟩
    go_wp2
    go_ret2
    exact ⟨rfl, rfl⟩
end
end Go.Proofs.YteepkanbiefpjaaGreatDoor.Bk
set_option linter.unusedVariables false
set_option linter.unusedSimpArgs false
namespace Go.Proofs.YteepkanbiefpjaaGreatDoor.Bk
open Go.RowKit K
open MgRow (M)
def cfV (c : Cf) : Array Value := #[.int .i64 c.log, .int .i64 c.data, .int .i64 c.queue, .int .i64 c.input, .int .i64 c.strikes, .int .i64 c.lease, .int .i64 c.idle, .int .i64 c.width]
def inb (n a b : Int) : Bool := decide (a ≤ n) && decide (n ≤ b)
theorem rightC_eq (c : Cf) : rightC c = (inb c.log 1 65536 && (inb c.data 1 2042 && (inb c.queue 220 65536 && (inb c.input 1 65536 && (inb c.strikes 0 9 && (inb c.lease 1 1000 && (inb c.idle 0 1000 && (inb c.width 1 500)))))))) := by
  unfold rightC inb
  rw [Bool.eq_iff_iff]
  simp only [decide_eq_true_eq, Bool.and_eq_true]
  constructor
  · intro h; refine ⟨?_, ?_, ?_, ?_, ?_, ?_, ?_, ?_⟩ <;> omega
  · intro h; omega
set_option maxHeartbeats 1000000 in
theorem in_calls (n a b : Int) (w : World) : Calls Tryz.prog 79 #[.int .i64 n, .int .i64 a, .int .i64 b] w fun e w' => e = .returned (.bool (inb n a b)) ∧ w = w' := by
  by_cases h1 : a ≤ n
  · have e1 : decide (a ≤ n) = true := decide_eq_true h1
    by_cases h2 : n ≤ b
    · have e2 : decide (n ≤ b) = true := decide_eq_true h2
      have hv : inb n a b = true := by unfold inb; rw [e1, e2]; rfl
      rw [hv]
      clear hv h1 h2
      go_enter Tryz.func79, Tryz.ntmps79
      go_wp2
      go_ret
      exact ⟨rfl, rfl⟩
    · have e2 : decide (n ≤ b) = false := decide_eq_false h2
      have hv : inb n a b = false := by unfold inb; rw [e1, e2]; rfl
      rw [hv]
      clear hv h1 h2
      go_enter Tryz.func79, Tryz.ntmps79
      go_wp2
      go_ret
      exact ⟨rfl, rfl⟩
  · have e1 : decide (a ≤ n) = false := decide_eq_false h1
    have hv : inb n a b = false := by unfold inb; rw [e1]; rfl
    rw [hv]
    clear hv h1
    go_enter Tryz.func79, Tryz.ntmps79
    go_wp2
    go_ret
    exact ⟨rfl, rfl⟩
set_option maxHeartbeats 8000000 in
set_option maxRecDepth 100000 in
theorem right_calls (c : Cf) (w : World) : Calls Tryz.prog 42 #[.agg (cfV c)] w fun e w' => e = .returned (.bool (rightC c)) ∧ Upd (fun _ => False) w w' := by
  have hm := heap_alloc_new w (.cells (cfV c) 26)
  have hk := (Upd.refl (fun _ => False) w).alloc (.cells (cfV c) 26)
  have hs := Upd.refl (fun _ => False) (w.alloc (.cells (cfV c) 26))
  have m0 := keepsC (o := 0) (v := .int .i64 c.log) hm rfl
  have m1 := keepsC (o := 1) (v := .int .i64 c.data) hm rfl
  have m2 := keepsC (o := 2) (v := .int .i64 c.queue) hm rfl
  have m3 := keepsC (o := 3) (v := .int .i64 c.input) hm rfl
  have m4 := keepsC (o := 4) (v := .int .i64 c.strikes) hm rfl
  have m5 := keepsC (o := 5) (v := .int .i64 c.lease) hm rfl
  have m6 := keepsC (o := 6) (v := .int .i64 c.idle) hm rfl
  have m7 := keepsC (o := 7) (v := .int .i64 c.width) hm rfl
  have HI := Asd.mk (fun n a b w => in_calls n a b w)
  have HK := Asd.mk hk
  unfold cfV at hs hk m0 m1 m2 m3 m4 m5 m6 m7 ⊢
  clear hm
  cases h0 : inb c.log 1 65536 with
  | false =>
    have hv : rightC c = false := by rw [rightC_eq, h0]; rfl
    go_enter Tryz.func42, Tryz.ntmps42
    go_wp2_with fail
    refine (HI.out c.log 1 65536 _).mono ?_
    rw [h0]
    rintro e w2 ⟨rfl, rfl⟩
    go_wp2
    go_ret
    refine ⟨?_, HK.out⟩
    rw [hv]
    rfl
  | true =>
    cases h1 : inb c.data 1 2042 with
    | false =>
      have hv : rightC c = false := by rw [rightC_eq, h0, h1]; rfl
      go_enter Tryz.func42, Tryz.ntmps42
      go_wp2_with fail
      refine (HI.out c.log 1 65536 _).mono ?_
      rw [h0]
      rintro e w2 ⟨rfl, rfl⟩
      go_wp2_with fail
      refine (HI.out c.data 1 2042 _).mono ?_
      rw [h1]
      rintro e w2 ⟨rfl, rfl⟩
      go_wp2
      go_ret
      refine ⟨?_, HK.out⟩
      rw [hv]
      rfl
    | true =>
      cases h2 : inb c.queue 220 65536 with
      | false =>
        have hv : rightC c = false := by rw [rightC_eq, h0, h1, h2]; rfl
        go_enter Tryz.func42, Tryz.ntmps42
        go_wp2_with fail
        refine (HI.out c.log 1 65536 _).mono ?_
        rw [h0]
        rintro e w2 ⟨rfl, rfl⟩
        go_wp2_with fail
        refine (HI.out c.data 1 2042 _).mono ?_
        rw [h1]
        rintro e w2 ⟨rfl, rfl⟩
        go_wp2_with fail
        refine (HI.out c.queue 220 65536 _).mono ?_
        rw [h2]
        rintro e w2 ⟨rfl, rfl⟩
        go_wp2
        go_ret
        refine ⟨?_, HK.out⟩
        rw [hv]
        rfl
      | true =>
        cases h3 : inb c.input 1 65536 with
        | false =>
          have hv : rightC c = false := by rw [rightC_eq, h0, h1, h2, h3]; rfl
          go_enter Tryz.func42, Tryz.ntmps42
          go_wp2_with fail
          refine (HI.out c.log 1 65536 _).mono ?_
          rw [h0]
          rintro e w2 ⟨rfl, rfl⟩
          go_wp2_with fail
          refine (HI.out c.data 1 2042 _).mono ?_
          rw [h1]
          rintro e w2 ⟨rfl, rfl⟩
          go_wp2_with fail
          refine (HI.out c.queue 220 65536 _).mono ?_
          rw [h2]
          rintro e w2 ⟨rfl, rfl⟩
          go_wp2_with fail
          refine (HI.out c.input 1 65536 _).mono ?_
          rw [h3]
          rintro e w2 ⟨rfl, rfl⟩
          go_wp2
          go_ret
          refine ⟨?_, HK.out⟩
          rw [hv]
          rfl
        | true =>
          cases h4 : inb c.strikes 0 9 with
          | false =>
            have hv : rightC c = false := by rw [rightC_eq, h0, h1, h2, h3, h4]; rfl
            go_enter Tryz.func42, Tryz.ntmps42
            go_wp2_with fail
            refine (HI.out c.log 1 65536 _).mono ?_
            rw [h0]
            rintro e w2 ⟨rfl, rfl⟩
            go_wp2_with fail
            refine (HI.out c.data 1 2042 _).mono ?_
            rw [h1]
            rintro e w2 ⟨rfl, rfl⟩
            go_wp2_with fail
            refine (HI.out c.queue 220 65536 _).mono ?_
            rw [h2]
            rintro e w2 ⟨rfl, rfl⟩
            go_wp2_with fail
            refine (HI.out c.input 1 65536 _).mono ?_
            rw [h3]
            rintro e w2 ⟨rfl, rfl⟩
            go_wp2_with fail
            refine (HI.out c.strikes 0 9 _).mono ?_
            rw [h4]
            rintro e w2 ⟨rfl, rfl⟩
            go_wp2
            go_ret
            refine ⟨?_, HK.out⟩
            rw [hv]
            rfl
          | true =>
            cases h5 : inb c.lease 1 1000 with
            | false =>
              have hv : rightC c = false := by rw [rightC_eq, h0, h1, h2, h3, h4, h5]; rfl
              go_enter Tryz.func42, Tryz.ntmps42
              go_wp2_with fail
              refine (HI.out c.log 1 65536 _).mono ?_
              rw [h0]
              rintro e w2 ⟨rfl, rfl⟩
              go_wp2_with fail
              refine (HI.out c.data 1 2042 _).mono ?_
              rw [h1]
              rintro e w2 ⟨rfl, rfl⟩
              go_wp2_with fail
              refine (HI.out c.queue 220 65536 _).mono ?_
              rw [h2]
              rintro e w2 ⟨rfl, rfl⟩
              go_wp2_with fail
              refine (HI.out c.input 1 65536 _).mono ?_
              rw [h3]
              rintro e w2 ⟨rfl, rfl⟩
              go_wp2_with fail
              refine (HI.out c.strikes 0 9 _).mono ?_
              rw [h4]
              rintro e w2 ⟨rfl, rfl⟩
              go_wp2_with fail
              refine (HI.out c.lease 1 1000 _).mono ?_
              rw [h5]
              rintro e w2 ⟨rfl, rfl⟩
              go_wp2
              go_ret
              refine ⟨?_, HK.out⟩
              rw [hv]
              rfl
            | true =>
              cases h6 : inb c.idle 0 1000 with
              | false =>
                have hv : rightC c = false := by rw [rightC_eq, h0, h1, h2, h3, h4, h5, h6]; rfl
                go_enter Tryz.func42, Tryz.ntmps42
                go_wp2_with fail
                refine (HI.out c.log 1 65536 _).mono ?_
                rw [h0]
                rintro e w2 ⟨rfl, rfl⟩
                go_wp2_with fail
                refine (HI.out c.data 1 2042 _).mono ?_
                rw [h1]
                rintro e w2 ⟨rfl, rfl⟩
                go_wp2_with fail
                refine (HI.out c.queue 220 65536 _).mono ?_
                rw [h2]
                rintro e w2 ⟨rfl, rfl⟩
                go_wp2_with fail
                refine (HI.out c.input 1 65536 _).mono ?_
                rw [h3]
                rintro e w2 ⟨rfl, rfl⟩
                go_wp2_with fail
                refine (HI.out c.strikes 0 9 _).mono ?_
                rw [h4]
                rintro e w2 ⟨rfl, rfl⟩
                go_wp2_with fail
                refine (HI.out c.lease 1 1000 _).mono ?_
                rw [h5]
                rintro e w2 ⟨rfl, rfl⟩
                go_wp2_with fail
                refine (HI.out c.idle 0 1000 _).mono ?_
                rw [h6]
                rintro e w2 ⟨rfl, rfl⟩
                go_wp2
                go_ret
                refine ⟨?_, HK.out⟩
                rw [hv]
                rfl
              | true =>
                cases h7 : inb c.width 1 500 with
                | false =>
                  have hv : rightC c = false := by rw [rightC_eq, h0, h1, h2, h3, h4, h5, h6, h7]; rfl
                  go_enter Tryz.func42, Tryz.ntmps42
                  go_wp2_with fail
                  refine (HI.out c.log 1 65536 _).mono ?_
                  rw [h0]
                  rintro e w2 ⟨rfl, rfl⟩
                  go_wp2_with fail
                  refine (HI.out c.data 1 2042 _).mono ?_
                  rw [h1]
                  rintro e w2 ⟨rfl, rfl⟩
                  go_wp2_with fail
                  refine (HI.out c.queue 220 65536 _).mono ?_
                  rw [h2]
                  rintro e w2 ⟨rfl, rfl⟩
                  go_wp2_with fail
                  refine (HI.out c.input 1 65536 _).mono ?_
                  rw [h3]
                  rintro e w2 ⟨rfl, rfl⟩
                  go_wp2_with fail
                  refine (HI.out c.strikes 0 9 _).mono ?_
                  rw [h4]
                  rintro e w2 ⟨rfl, rfl⟩
                  go_wp2_with fail
                  refine (HI.out c.lease 1 1000 _).mono ?_
                  rw [h5]
                  rintro e w2 ⟨rfl, rfl⟩
                  go_wp2_with fail
                  refine (HI.out c.idle 0 1000 _).mono ?_
                  rw [h6]
                  rintro e w2 ⟨rfl, rfl⟩
                  go_wp2_with fail
                  refine (HI.out c.width 1 500 _).mono ?_
                  rw [h7]
                  rintro e w2 ⟨rfl, rfl⟩
                  go_wp2
                  go_ret
                  refine ⟨?_, HK.out⟩
                  rw [hv]
                  rfl
                | true =>
                  have hv : rightC c = true := by rw [rightC_eq, h0, h1, h2, h3, h4, h5, h6, h7]; rfl
                  go_enter Tryz.func42, Tryz.ntmps42
                  go_wp2_with fail
                  refine (HI.out c.log 1 65536 _).mono ?_
                  rw [h0]
                  rintro e w2 ⟨rfl, rfl⟩
                  go_wp2_with fail
                  refine (HI.out c.data 1 2042 _).mono ?_
                  rw [h1]
                  rintro e w2 ⟨rfl, rfl⟩
                  go_wp2_with fail
                  refine (HI.out c.queue 220 65536 _).mono ?_
                  rw [h2]
                  rintro e w2 ⟨rfl, rfl⟩
                  go_wp2_with fail
                  refine (HI.out c.input 1 65536 _).mono ?_
                  rw [h3]
                  rintro e w2 ⟨rfl, rfl⟩
                  go_wp2_with fail
                  refine (HI.out c.strikes 0 9 _).mono ?_
                  rw [h4]
                  rintro e w2 ⟨rfl, rfl⟩
                  go_wp2_with fail
                  refine (HI.out c.lease 1 1000 _).mono ?_
                  rw [h5]
                  rintro e w2 ⟨rfl, rfl⟩
                  go_wp2_with fail
                  refine (HI.out c.idle 0 1000 _).mono ?_
                  rw [h6]
                  rintro e w2 ⟨rfl, rfl⟩
                  go_wp2_with fail
                  refine (HI.out c.width 1 500 _).mono ?_
                  rw [h7]
                  rintro e w2 ⟨rfl, rfl⟩
                  go_wp2
                  go_ret
                  refine ⟨?_, HK.out⟩
                  rw [hv]
                  rfl
set_option maxHeartbeats 8000000 in
theorem new_bk {w : World} {L : Lay} {c : Cf} {g : Nat} {Ft Fi : Nat → Prop} (hown : w.heap[L.q]? = some (.cells (bcells L (new c)) 91 (0, 0))) (hr : Rg.Ring w L.lg g (Rg.roomN c.log) []) (hs : Sp.SpAt w L.sp c.width.toNat ⟨0, 0, 0⟩) (ht : Fl.TB w L.tb Ft (Fl.new c.lease)) (hi : Iq.QI w L.ip Fi ⟨[], Oq.clampSize c.input, false, 0⟩) (hm : mapV w Tryz.prog 3 L.m [])
    (a1 b1 a2 b2 a3 b3 : Nat) (r1 : ∀ k, Rg.Its L.lg g k → a1 ≤ k ∧ k < b1) (r2 : ∀ k, Ft k → a2 ≤ k ∧ k < b2) (r3 : ∀ k, Fi k → a3 ≤ k ∧ k < b3)
    (d : (b1 ≤ a2 ∨ b2 ≤ a1) ∧ (b1 ≤ a3 ∨ b3 ≤ a1) ∧ (b2 ≤ a3 ∨ b3 ≤ a2) ∧ (L.q < a1 ∨ b1 ≤ L.q) ∧ (L.q < a2 ∨ b2 ≤ L.q) ∧ (L.q < a3 ∨ b3 ≤ L.q) ∧ (L.sp < a1 ∨ b1 ≤ L.sp) ∧ (L.sp < a2 ∨ b2 ≤ L.sp) ∧ (L.sp < a3 ∨ b3 ≤ L.sp) ∧ (L.m < a1 ∨ b1 ≤ L.m) ∧ (L.m < a2 ∨ b2 ≤ L.m) ∧ (L.m < a3 ∨ b3 ≤ L.m) ∧ L.q ≠ L.sp ∧ L.q ≠ L.m ∧ L.sp ≠ L.m)
    (lo : Nat) (hlo : lo ≤ a1 ∧ lo ≤ a2 ∧ lo ≤ a3 ∧ lo ≤ L.q ∧ lo ≤ L.sp ∧ lo ≤ L.m) : ∃ F, BkAt L w (new c) F ∧ ∀ k, F k → lo ≤ k := by
  have hg : ∀ id, get (new c) id = none := fun id => rfl
  refine ⟨fun k => ∃ i : Part, (match i with | .own => k = L.q | .ring => Rg.Its L.lg g k | .spot => k = L.sp | .table => Ft k | .input => Fi k | .map => k = L.m | _ => False), ⟨fun i k => match i with | .own => k = L.q | .ring => Rg.Its L.lg g k | .spot => k = L.sp | .table => Ft k | .input => Fi k | .map => k = L.m | _ => False, fun i => ?_, fun i j k hne h1 h2 => ?_, fun k => Iff.rfl⟩, fun k hk => ?_⟩
  · cases i with
    | own => exact ⟨hown, fun k => Iff.rfl⟩
    | ring => exact ⟨g, hr, fun k => Iff.rfl⟩
    | spot => exact ⟨hs, fun k => Iff.rfl⟩
    | table => exact ht
    | input => exact hi
    | map => exact ⟨hm, fun k => Iff.rfl⟩
    | conn id => exact fun k hk => hk
    | feed id => exact fun k hk => hk
    | lex id => exact fun k hk => hk
    | out id => exact fun k hk => hk
  · cases i <;> cases j <;> simp only at h1 h2 <;> first
      | exact hne rfl
      | exact h1
      | exact h2
      | (have e1 := r1 _ h1; have e2 := r2 _ h2; omega)
      | (have e1 := r1 _ h1; have e2 := r3 _ h2; omega)
      | (have e1 := r2 _ h1; have e2 := r1 _ h2; omega)
      | (have e1 := r2 _ h1; have e2 := r3 _ h2; omega)
      | (have e1 := r3 _ h1; have e2 := r1 _ h2; omega)
      | (have e1 := r3 _ h1; have e2 := r2 _ h2; omega)
      | (have e1 := r1 _ h1; omega)
      | (have e1 := r2 _ h1; omega)
      | (have e1 := r3 _ h1; omega)
      | (have e2 := r1 _ h2; omega)
      | (have e2 := r2 _ h2; omega)
      | (have e2 := r3 _ h2; omega)
      | omega
  · obtain ⟨i, hi⟩ := hk
    cases i <;> simp only at hi <;> first
      | exact hi.elim
      | (have e1 := r1 _ hi; omega)
      | (have e1 := r2 _ hi; omega)
      | (have e1 := r3 _ hi; omega)
      | omega
def NewB (s : Br) (w : World) (e : Ending) (w' : World) : Prop := ∃ L F, e = .returned (.pointer (some ⟨L.q, 0, none⟩)) ∧ Bt L w' s F ∧ (∀ k, F k → w.heap.size ≤ k) ∧ Upd (fun _ => False) w w'
set_option maxHeartbeats 16000000 in
set_option maxRecDepth 100000 in
theorem new_calls (c : Cf) (hc : rightC c = true) (w : World) (henv : Or.Env w) : Calls Tryz.prog 16 #[.agg (cfV c)] w (NewB (new c) w) := by
  have hm := heap_alloc_new w (.cells (cfV c) 26)
  have hk := (Upd.refl (fun _ => False) w).alloc (.cells (cfV c) 26)
  have hs := Upd.refl (fun _ => False) (w.alloc (.cells (cfV c) 26))
  have m0 := keepsC (o := 0) (v := .int .i64 c.log) hm rfl
  have m1 := keepsC (o := 1) (v := .int .i64 c.data) hm rfl
  have m2 := keepsC (o := 2) (v := .int .i64 c.queue) hm rfl
  have m3 := keepsC (o := 3) (v := .int .i64 c.input) hm rfl
  have m4 := keepsC (o := 4) (v := .int .i64 c.strikes) hm rfl
  have m5 := keepsC (o := 5) (v := .int .i64 c.lease) hm rfl
  have m6 := keepsC (o := 6) (v := .int .i64 c.idle) hm rfl
  have m7 := keepsC (o := 7) (v := .int .i64 c.width) hm rfl
  have HI := Asd.mk (fun w => right_calls c w)
  have HC := Asd.mk hc
  have HK := Asd.mk hk
  have HM := Asd.mk hm
  have HENV := Asd.mk henv
  have hcf := hc
  unfold rightC at hcf
  simp only [decide_eq_true_eq] at hcf
  have HWD : Asd (1 ≤ c.width ∧ c.width ≤ 500) := ⟨by omega⟩
  unfold cfV at hs hk m0 m1 m2 m3 m4 m5 m6 m7 HI ⊢
  clear hm hc hcf henv
  go_enter Tryz.func16, Tryz.ntmps16
  go_wp2_with fail
  refine (HI.out _).mono ?_
  rw [HC.out]
  rintro e w2 ⟨rfl, hu2⟩
  have HU2 := Asd.mk (HK.out.trans hu2 (fun _ _ h => h))
  have hm2 := hu2.blk HM.out (fun h => h)
  clear hu2 m0 m1 m2 m3 m4 m5 m6 m7 hs hk
  have n0 := keepsC (o := 0) (v := .int .i64 c.log) hm2 rfl
  have n1 := keepsC (o := 1) (v := .int .i64 c.data) hm2 rfl
  have n2 := keepsC (o := 2) (v := .int .i64 c.queue) hm2 rfl
  have n3 := keepsC (o := 3) (v := .int .i64 c.input) hm2 rfl
  have n4 := keepsC (o := 4) (v := .int .i64 c.strikes) hm2 rfl
  have n5 := keepsC (o := 5) (v := .int .i64 c.lease) hm2 rfl
  have n6 := keepsC (o := 6) (v := .int .i64 c.idle) hm2 rfl
  have n7 := keepsC (o := 7) (v := .int .i64 c.width) hm2 rfl
  have hs2 : Upd (fun _ => False) w2 w2 := Upd.refl _ _
  clear hm2
  go_upto_region 3 with fail
  refine wp_region_held_drew (S := fun W => Upd (fun _ => False) w2 W) (by kernel_rfl) (by exact (by repeat (first | assumption | with_reducible exact Upd.refl _ _ | with_reducible refine Upd.drewN ?_ _ | with_reducible refine Upd.drew ?_ | with_reducible refine Upd.alloc ?_ _ | with_reducible refine Upd.setAt ?_ ?_ | exact Or.inl rfl | exact Or.inr (by simp) | exact Or.inr (by omega)))) (fun hHeld => ?_)
  refine tk_ 0 ?_
  try simp only [Act.put, sl1_, sl2_, sl3_]
  refine tk_ 1 ?_
  try simp only [Act.put, sl1_, sl2_, sl3_]
  refine tk_ 2 ?_
  try simp only [Act.put, sl1_, sl2_, sl3_]
  refine tk_ 4 ?_
  try simp only [Act.put, sl1_, sl2_, sl3_]
  refine tk_ 5 ?_
  try simp only [Act.put, sl1_, sl2_, sl3_]
  refine tk_ 7 ?_
  try simp only [Act.put, sl1_, sl2_, sl3_]
  refine tk_ 8 ?_
  try simp only [Act.put, sl1_, sl2_, sl3_]
  refine tk_ 10 ?_
  try simp only [Act.put, sl1_, sl2_, sl3_]
  refine tk_ 11 ?_
  try simp only [Act.put, sl1_, sl2_, sl3_]
  refine tk_ 14 ?_
  try simp only [Act.put, sl1_, sl2_, sl3_]
  refine tk_ 15 ?_
  try simp only [Act.put, sl1_, sl2_, sl3_]
  refine wpAnyH_ready (rs := [3, 13]) (by kernel_rfl) (by simp) (AllReadyH.cons (o := ?o1_0) ?l1_0 (fun K hK => ?s1_0) (AllReadyH.cons (o := ?o1_1) ?l1_1 (fun K hK => ?s1_1) AllReadyH.nil))
  case l1_0 => (simp only [List.getElem?_toArray, List.getElem?_cons_succ, List.getElem?_cons_zero]; exact rfl)
  case l1_1 => (simp only [List.getElem?_toArray, List.getElem?_cons_succ, List.getElem?_cons_zero]; exact rfl)
  case s1_0 =>
    (go_simp; (go_at_call 43; have hX := (show Upd (fun _ => False) w2 w2.drew from (by repeat (first | assumption | with_reducible exact Upd.refl _ _ | with_reducible refine Upd.drewN ?_ _ | with_reducible refine Upd.drew ?_ | with_reducible refine Upd.alloc ?_ _ | with_reducible refine Upd.setAt ?_ ?_ | exact Or.inl rfl | exact Or.inr (by simp) | exact Or.inr (by omega)))); have zz3 := (show w2.heap.size ≤ w2.drew.heap.size from hX.size); refine (Rg.new_calls c.log _).mono ?_; rintro e w3 ⟨lg, rg, rfl, hr, HH, hl1, hl2⟩; have HH := (show Upd (fun _ => False) w2.drew w3 from HH); have zw3 : w2.drew.heap.size ≤ w3.heap.size := HH.size; have u3 := hX.trans HH (fun _ _ h => h); have PR := Asd.mk hr; have R1 := Asd.mk (show ∀ k, Rg.Its lg rg k → w2.drew.heap.size ≤ k ∧ k < w3.heap.size from fun k hk => ⟨hk.elim (fun e => by rw [e]; exact hl1) (fun e => by rw [e]; exact hl2), Rg.Bare.lt hr k hk⟩); have u3a := Asd.mk hX.size; clear hr HH hl1 hl2 hX))
    refine hK.out _ _ (by exact u3) (fun hHeld => ?_)
    clear hK K
    try simp only [Act.put, List.setIfInBounds_toArray, List.set_cons_zero, List.set_cons_succ]
    refine wpAnyH_ready (rs := [6, 13]) (by kernel_rfl) (by simp) (AllReadyH.cons (o := ?o2_0) ?l2_0 (fun K hK => ?s2_0) (AllReadyH.cons (o := ?o2_1) ?l2_1 (fun K hK => ?s2_1) AllReadyH.nil))
    case l2_0 => (simp only [List.getElem?_toArray, List.getElem?_cons_succ, List.getElem?_cons_zero]; exact rfl)
    case l2_1 => (simp only [List.getElem?_toArray, List.getElem?_cons_succ, List.getElem?_cons_zero]; exact rfl)
    case s2_0 =>
      (go_simp; (go_at_call 44; have hX := (show Upd (fun _ => False) w2 w3 from u3); have zz4 := (show w2.heap.size ≤ w3.heap.size from hX.size); refine (Sp.new_calls c.width HWD.out _).mono ?_; rintro e w4 ⟨sp, rfl, hr, HH, hl1⟩; have HH := (show Upd (fun _ => False) w3 w4 from HH); have zw4 : w3.heap.size ≤ w4.heap.size := HH.size; have PR := Asd.mk (PR.out.up HH); have u4 := hX.trans HH (fun _ _ h => h); have PS := Asd.mk hr; have R2 := Asd.mk (show w3.heap.size ≤ sp ∧ sp < w4.heap.size from ⟨hl1, blk_lt hr⟩); clear hr HH hl1 hX))
      refine hK.out _ _ (by exact u4) (fun hHeld => ?_)
      clear hK K
      try simp only [Act.put, List.setIfInBounds_toArray, List.set_cons_zero, List.set_cons_succ]
      refine wpAnyH_ready (rs := [9, 13]) (by kernel_rfl) (by simp) (AllReadyH.cons (o := ?o3_0) ?l3_0 (fun K hK => ?s3_0) (AllReadyH.cons (o := ?o3_1) ?l3_1 (fun K hK => ?s3_1) AllReadyH.nil))
      case l3_0 => (simp only [List.getElem?_toArray, List.getElem?_cons_succ, List.getElem?_cons_zero]; exact rfl)
      case l3_1 => (simp only [List.getElem?_toArray, List.getElem?_cons_succ, List.getElem?_cons_zero]; exact rfl)
      case s3_0 =>
        (go_simp; (go_at_call 45; have hX := (show Upd (fun _ => False) w2 w4 from u4); have zz5 := (show w2.heap.size ≤ w4.heap.size from hX.size); refine (Fl.new_calls c.lease _).mono ?_; rintro e w5 ⟨tb, Ft, rfl, hr, HH, hl1⟩; have HH := (show Upd (fun _ => False) w4 w5 from HH); have zw5 : w4.heap.size ≤ w5.heap.size := HH.size; have PR := Asd.mk (PR.out.up HH); have PS := Asd.mk (Sp.SpAt.upd PS.out HH (fun h => h)); have u5 := hX.trans HH (fun _ _ h => h); have PT := Asd.mk hr; have R3 := Asd.mk (show ∀ k, Ft k → w4.heap.size ≤ k ∧ k < w5.heap.size from fun k hk => ⟨hl1 k hk, Fl.TB.lt hr k hk⟩); clear hr HH hl1 hX))
        refine hK.out _ _ (by exact u5) (fun hHeld => ?_)
        clear hK K
        try simp only [Act.put, List.setIfInBounds_toArray, List.set_cons_zero, List.set_cons_succ]
        refine wpAnyH_ready (rs := [12, 13]) (by kernel_rfl) (by simp) (AllReadyH.cons (o := ?o4_0) ?l4_0 (fun K hK => ?s4_0) (AllReadyH.cons (o := ?o4_1) ?l4_1 (fun K hK => ?s4_1) AllReadyH.nil))
        case l4_0 => (simp only [List.getElem?_toArray, List.getElem?_cons_succ, List.getElem?_cons_zero]; exact rfl)
        case l4_1 => (simp only [List.getElem?_toArray, List.getElem?_cons_succ, List.getElem?_cons_zero]; exact rfl)
        case s4_0 =>
          (go_simp; (go_at_call 46; have hX := (show Upd (fun _ => False) w2 w5 from u5); have zz6 := (show w2.heap.size ≤ w5.heap.size from hX.size); refine (Iq.new_calls c.input _).mono ?_; rintro e w6 ⟨ip, Fi, rfl, hr, HH, hl1⟩; have HH := (show Upd (fun _ => False) w5 w6 from HH); have zw6 : w5.heap.size ≤ w6.heap.size := HH.size; have PR := Asd.mk (PR.out.up HH); have PS := Asd.mk (Sp.SpAt.upd PS.out HH (fun h => h)); have PT := Asd.mk (PT.out.upd HH (fun _ _ h => h)); have u6 := hX.trans HH (fun _ _ h => h); have PI := Asd.mk hr; have R4 := Asd.mk (show ∀ k, Fi k → w5.heap.size ≤ k ∧ k < w6.heap.size from fun k hk => ⟨hl1 k hk, Iq.QI.lt hr k hk⟩); clear hr HH hl1 hX))
          refine hK.out _ _ (by exact u6) (fun hHeld => ?_)
          clear hK K
          try simp only [Act.put, List.setIfInBounds_toArray, List.set_cons_zero, List.set_cons_succ]
          refine wpAnyH_ready (rs := [13]) (by kernel_rfl) (by simp) (AllReadyH.cons (o := ?o5_0) ?l5_0 (fun K hK => ?s5_0) AllReadyH.nil)
          case l5_0 => (simp only [List.getElem?_toArray, List.getElem?_cons_succ, List.getElem?_cons_zero]; exact rfl)
          case s5_0 =>
            go_simp
            refine hK.out _ _ (by exact (show Upd (fun _ => False) w2 (w6.alloc (.map #[] 0)) from (show Upd (fun _ => False) w2 w6 from u6).alloc _)) (fun hHeld => ?_)
            clear hK K
            try simp only [Act.put, List.setIfInBounds_toArray, List.set_cons_zero, List.set_cons_succ]
            have HH := (Upd.refl (fun _ => False) w6).alloc (.map #[] 0)
            have PR := Asd.mk (PR.out.up HH)
            have PS := Asd.mk (Sp.SpAt.upd PS.out HH (fun h => h))
            have PT := Asd.mk (PT.out.upd HH (fun _ _ h => h))
            have PI := Asd.mk (PI.out.upd HH (fun _ _ h => h))
            have PM := Asd.mk (mapV.made w6 Tryz.prog 3)
            have zm : (w6.alloc (.map #[] 0)).heap.size = w6.heap.size + 1 := World.size_alloc _ _
            have um := (show Upd (fun _ => False) w2 w6 from u6).alloc (.map #[] 0)
            have zo := (show w2.heap.size ≤ w6.heap.size from (show Upd (fun _ => False) w2 w6 from u6).size)
            clear HH
            refine tk_ 16 ?_
            try simp only [Act.put, sl1_, sl2_, sl3_]
            refine wpAnyH_ready (rs := [17]) (by kernel_rfl) (by simp) (AllReadyH.cons (o := ?_) ?_ (fun K hK => ?_) AllReadyH.nil)
            rotate_left 1
            · (simp only [List.getElem?_toArray, List.getElem?_cons_succ, List.getElem?_cons_zero]; exact rfl)
            go_simp
            refine hK.out _ _ (by exact ((show Upd (fun _ => False) w2 (w6.alloc (.map #[] 0)) from um).alloc _)) (fun hHeld => ?_)
            clear hK K
            try simp only [Act.put, List.setIfInBounds_toArray, List.set_cons_zero, List.set_cons_succ]
            refine tk_ 18 ?_
            try simp only [Act.put, sl1_, sl2_, sl3_]
            refine wpAnyH_done (by kernel_rfl) ?_ _
            have hkq := (Upd.refl (fun _ => False) (w6.alloc (.map #[] 0))).alloc (.cells (bcells ⟨w6.heap.size + 1, lg, sp, tb, ip, w6.heap.size, fun _ => ⟨0, 0, 0, 0⟩⟩ (new c)) 91)
            have q1 := R1.out; have q2 := R2.out; have q3 := R3.out; have q4 := R4.out
            obtain ⟨F, hF, hFl⟩ := new_bk (w := (w6.alloc (.map #[] 0)).alloc (.cells (bcells ⟨w6.heap.size + 1, lg, sp, tb, ip, w6.heap.size, fun _ => ⟨0, 0, 0, 0⟩⟩ (new c)) 91)) (L := ⟨w6.heap.size + 1, lg, sp, tb, ip, w6.heap.size, fun _ => ⟨0, 0, 0, 0⟩⟩) (c := c) (by have hh := heap_alloc_new (w6.alloc (.map #[] 0)) (.cells (bcells ⟨w6.heap.size + 1, lg, sp, tb, ip, w6.heap.size, fun _ => ⟨0, 0, 0, 0⟩⟩ (new c)) 91); rw [World.size_alloc] at hh; exact hh) (PR.out.up hkq) (Sp.SpAt.upd PS.out hkq (fun h => h)) (PT.out.upd hkq (fun _ _ h => h)) (PI.out.upd hkq (fun _ _ h => h)) (PM.out.upd hkq (fun h => h)) _ _ _ _ _ _ q1 q3 q4 (by simp only; omega) w2.heap.size (by simp only; omega)
            have HF := Asd.mk hF
            have HFL := Asd.mk hFl
            have UW := Asd.mk ((HU2.out.trans (show Upd (fun _ => False) w2 (w6.alloc (.map #[] 0)) from um) (fun _ _ h => h)).alloc (.cells (bcells ⟨w6.heap.size + 1, lg, sp, tb, ip, w6.heap.size, fun _ => ⟨0, 0, 0, 0⟩⟩ (new c)) 91))
            clear hF hFl hkq q1 q2 q3 q4
            go_wp2
            go_ret
            exact ⟨⟨w6.heap.size + 1, lg, sp, tb, ip, w6.heap.size, fun _ => ⟨0, 0, 0, 0⟩⟩, F, rfl, ⟨HF.out, fun k hk => Nat.le_trans (env_size HENV.out) (Nat.le_trans HU2.out.size (HFL.out k hk)), env_upd HENV.out UW.out (fun _ h => h.elim)⟩, fun k hk => Nat.le_trans HU2.out.size (HFL.out k hk), UW.out⟩
        case s4_1 =>
          go_simp
          refine hK.out _ _ (by exact (show Upd (fun _ => False) w2 (w5.alloc (.map #[] 0)) from (show Upd (fun _ => False) w2 w5 from u5).alloc _)) (fun hHeld => ?_)
          clear hK K
          try simp only [Act.put, List.setIfInBounds_toArray, List.set_cons_zero, List.set_cons_succ]
          have HH := (Upd.refl (fun _ => False) w5).alloc (.map #[] 0)
          have PR := Asd.mk (PR.out.up HH)
          have PS := Asd.mk (Sp.SpAt.upd PS.out HH (fun h => h))
          have PT := Asd.mk (PT.out.upd HH (fun _ _ h => h))
          have PM := Asd.mk (mapV.made w5 Tryz.prog 3)
          have zm : (w5.alloc (.map #[] 0)).heap.size = w5.heap.size + 1 := World.size_alloc _ _
          have um := (show Upd (fun _ => False) w2 w5 from u5).alloc (.map #[] 0)
          have zo := (show w2.heap.size ≤ w5.heap.size from (show Upd (fun _ => False) w2 w5 from u5).size)
          clear HH
          refine wpAnyH_ready (rs := [12]) (by kernel_rfl) (by simp) (AllReadyH.cons (o := ?o6_0) ?l6_0 (fun K hK => ?s6_0) AllReadyH.nil)
          case l6_0 => (simp only [List.getElem?_toArray, List.getElem?_cons_succ, List.getElem?_cons_zero]; exact rfl)
          case s6_0 =>
            (go_simp; (go_at_call 46; have hX := (show Upd (fun _ => False) w2 (w5.alloc (.map #[] 0)) from um); have zz7 := (show w2.heap.size ≤ (w5.alloc (.map #[] 0)).heap.size from hX.size); refine (Iq.new_calls c.input _).mono ?_; rintro e w7 ⟨ip, Fi, rfl, hr, HH, hl1⟩; have HH := (show Upd (fun _ => False) (w5.alloc (.map #[] 0)) w7 from HH); have zw7 : (w5.alloc (.map #[] 0)).heap.size ≤ w7.heap.size := HH.size; have PR := Asd.mk (PR.out.up HH); have PS := Asd.mk (Sp.SpAt.upd PS.out HH (fun h => h)); have PT := Asd.mk (PT.out.upd HH (fun _ _ h => h)); have PM := Asd.mk (PM.out.upd HH (fun h => h)); have u7 := hX.trans HH (fun _ _ h => h); have PI := Asd.mk hr; have R4 := Asd.mk (show ∀ k, Fi k → (w5.alloc (.map #[] 0)).heap.size ≤ k ∧ k < w7.heap.size from fun k hk => ⟨hl1 k hk, Iq.QI.lt hr k hk⟩); clear hr HH hl1 hX))
            refine hK.out _ _ (by exact u7) (fun hHeld => ?_)
            clear hK K
            try simp only [Act.put, List.setIfInBounds_toArray, List.set_cons_zero, List.set_cons_succ]
            refine tk_ 16 ?_
            try simp only [Act.put, sl1_, sl2_, sl3_]
            refine wpAnyH_ready (rs := [17]) (by kernel_rfl) (by simp) (AllReadyH.cons (o := ?_) ?_ (fun K hK => ?_) AllReadyH.nil)
            rotate_left 1
            · (simp only [List.getElem?_toArray, List.getElem?_cons_succ, List.getElem?_cons_zero]; exact rfl)
            go_simp
            refine hK.out _ _ (by exact ((show Upd (fun _ => False) w2 w7 from u7).alloc _)) (fun hHeld => ?_)
            clear hK K
            try simp only [Act.put, List.setIfInBounds_toArray, List.set_cons_zero, List.set_cons_succ]
            refine tk_ 18 ?_
            try simp only [Act.put, sl1_, sl2_, sl3_]
            refine wpAnyH_done (by kernel_rfl) ?_ _
            have hkq := (Upd.refl (fun _ => False) w7).alloc (.cells (bcells ⟨w7.heap.size, lg, sp, tb, ip, w5.heap.size, fun _ => ⟨0, 0, 0, 0⟩⟩ (new c)) 91)
            have q1 := R1.out; have q2 := R2.out; have q3 := R3.out; have q4 := R4.out
            obtain ⟨F, hF, hFl⟩ := new_bk (w := w7.alloc (.cells (bcells ⟨w7.heap.size, lg, sp, tb, ip, w5.heap.size, fun _ => ⟨0, 0, 0, 0⟩⟩ (new c)) 91)) (L := ⟨w7.heap.size, lg, sp, tb, ip, w5.heap.size, fun _ => ⟨0, 0, 0, 0⟩⟩) (c := c) (heap_alloc_new w7 _) (PR.out.up hkq) (Sp.SpAt.upd PS.out hkq (fun h => h)) (PT.out.upd hkq (fun _ _ h => h)) (PI.out.upd hkq (fun _ _ h => h)) (PM.out.upd hkq (fun h => h)) _ _ _ _ _ _ q1 q3 q4 (by simp only; omega) w2.heap.size (by simp only; omega)
            have HF := Asd.mk hF
            have HFL := Asd.mk hFl
            have UW := Asd.mk ((HU2.out.trans (show Upd (fun _ => False) w2 w7 from u7) (fun _ _ h => h)).alloc (.cells (bcells ⟨w7.heap.size, lg, sp, tb, ip, w5.heap.size, fun _ => ⟨0, 0, 0, 0⟩⟩ (new c)) 91))
            clear hF hFl hkq q1 q2 q3 q4
            go_wp2
            go_ret
            exact ⟨⟨w7.heap.size, lg, sp, tb, ip, w5.heap.size, fun _ => ⟨0, 0, 0, 0⟩⟩, F, rfl, ⟨HF.out, fun k hk => Nat.le_trans (env_size HENV.out) (Nat.le_trans HU2.out.size (HFL.out k hk)), env_upd HENV.out UW.out (fun _ h => h.elim)⟩, fun k hk => Nat.le_trans HU2.out.size (HFL.out k hk), UW.out⟩
      case s3_1 =>
        go_simp
        refine hK.out _ _ (by exact (show Upd (fun _ => False) w2 (w4.alloc (.map #[] 0)) from (show Upd (fun _ => False) w2 w4 from u4).alloc _)) (fun hHeld => ?_)
        clear hK K
        try simp only [Act.put, List.setIfInBounds_toArray, List.set_cons_zero, List.set_cons_succ]
        have HH := (Upd.refl (fun _ => False) w4).alloc (.map #[] 0)
        have PR := Asd.mk (PR.out.up HH)
        have PS := Asd.mk (Sp.SpAt.upd PS.out HH (fun h => h))
        have PM := Asd.mk (mapV.made w4 Tryz.prog 3)
        have zm : (w4.alloc (.map #[] 0)).heap.size = w4.heap.size + 1 := World.size_alloc _ _
        have um := (show Upd (fun _ => False) w2 w4 from u4).alloc (.map #[] 0)
        have zo := (show w2.heap.size ≤ w4.heap.size from (show Upd (fun _ => False) w2 w4 from u4).size)
        clear HH
        refine wpAnyH_ready (rs := [9]) (by kernel_rfl) (by simp) (AllReadyH.cons (o := ?o7_0) ?l7_0 (fun K hK => ?s7_0) AllReadyH.nil)
        case l7_0 => (simp only [List.getElem?_toArray, List.getElem?_cons_succ, List.getElem?_cons_zero]; exact rfl)
        case s7_0 =>
          (go_simp; (go_at_call 45; have hX := (show Upd (fun _ => False) w2 (w4.alloc (.map #[] 0)) from um); have zz6 := (show w2.heap.size ≤ (w4.alloc (.map #[] 0)).heap.size from hX.size); refine (Fl.new_calls c.lease _).mono ?_; rintro e w6 ⟨tb, Ft, rfl, hr, HH, hl1⟩; have HH := (show Upd (fun _ => False) (w4.alloc (.map #[] 0)) w6 from HH); have zw6 : (w4.alloc (.map #[] 0)).heap.size ≤ w6.heap.size := HH.size; have PR := Asd.mk (PR.out.up HH); have PS := Asd.mk (Sp.SpAt.upd PS.out HH (fun h => h)); have PM := Asd.mk (PM.out.upd HH (fun h => h)); have u6 := hX.trans HH (fun _ _ h => h); have PT := Asd.mk hr; have R3 := Asd.mk (show ∀ k, Ft k → (w4.alloc (.map #[] 0)).heap.size ≤ k ∧ k < w6.heap.size from fun k hk => ⟨hl1 k hk, Fl.TB.lt hr k hk⟩); clear hr HH hl1 hX))
          refine hK.out _ _ (by exact u6) (fun hHeld => ?_)
          clear hK K
          try simp only [Act.put, List.setIfInBounds_toArray, List.set_cons_zero, List.set_cons_succ]
          refine wpAnyH_ready (rs := [12]) (by kernel_rfl) (by simp) (AllReadyH.cons (o := ?o8_0) ?l8_0 (fun K hK => ?s8_0) AllReadyH.nil)
          case l8_0 => (simp only [List.getElem?_toArray, List.getElem?_cons_succ, List.getElem?_cons_zero]; exact rfl)
          case s8_0 =>
            (go_simp; (go_at_call 46; have hX := (show Upd (fun _ => False) w2 w6 from u6); have zz7 := (show w2.heap.size ≤ w6.heap.size from hX.size); refine (Iq.new_calls c.input _).mono ?_; rintro e w7 ⟨ip, Fi, rfl, hr, HH, hl1⟩; have HH := (show Upd (fun _ => False) w6 w7 from HH); have zw7 : w6.heap.size ≤ w7.heap.size := HH.size; have PR := Asd.mk (PR.out.up HH); have PS := Asd.mk (Sp.SpAt.upd PS.out HH (fun h => h)); have PM := Asd.mk (PM.out.upd HH (fun h => h)); have PT := Asd.mk (PT.out.upd HH (fun _ _ h => h)); have u7 := hX.trans HH (fun _ _ h => h); have PI := Asd.mk hr; have R4 := Asd.mk (show ∀ k, Fi k → w6.heap.size ≤ k ∧ k < w7.heap.size from fun k hk => ⟨hl1 k hk, Iq.QI.lt hr k hk⟩); clear hr HH hl1 hX))
            refine hK.out _ _ (by exact u7) (fun hHeld => ?_)
            clear hK K
            try simp only [Act.put, List.setIfInBounds_toArray, List.set_cons_zero, List.set_cons_succ]
            refine tk_ 16 ?_
            try simp only [Act.put, sl1_, sl2_, sl3_]
            refine wpAnyH_ready (rs := [17]) (by kernel_rfl) (by simp) (AllReadyH.cons (o := ?_) ?_ (fun K hK => ?_) AllReadyH.nil)
            rotate_left 1
            · (simp only [List.getElem?_toArray, List.getElem?_cons_succ, List.getElem?_cons_zero]; exact rfl)
            go_simp
            refine hK.out _ _ (by exact ((show Upd (fun _ => False) w2 w7 from u7).alloc _)) (fun hHeld => ?_)
            clear hK K
            try simp only [Act.put, List.setIfInBounds_toArray, List.set_cons_zero, List.set_cons_succ]
            refine tk_ 18 ?_
            try simp only [Act.put, sl1_, sl2_, sl3_]
            refine wpAnyH_done (by kernel_rfl) ?_ _
            have hkq := (Upd.refl (fun _ => False) w7).alloc (.cells (bcells ⟨w7.heap.size, lg, sp, tb, ip, w4.heap.size, fun _ => ⟨0, 0, 0, 0⟩⟩ (new c)) 91)
            have q1 := R1.out; have q2 := R2.out; have q3 := R3.out; have q4 := R4.out
            obtain ⟨F, hF, hFl⟩ := new_bk (w := w7.alloc (.cells (bcells ⟨w7.heap.size, lg, sp, tb, ip, w4.heap.size, fun _ => ⟨0, 0, 0, 0⟩⟩ (new c)) 91)) (L := ⟨w7.heap.size, lg, sp, tb, ip, w4.heap.size, fun _ => ⟨0, 0, 0, 0⟩⟩) (c := c) (heap_alloc_new w7 _) (PR.out.up hkq) (Sp.SpAt.upd PS.out hkq (fun h => h)) (PT.out.upd hkq (fun _ _ h => h)) (PI.out.upd hkq (fun _ _ h => h)) (PM.out.upd hkq (fun h => h)) _ _ _ _ _ _ q1 q3 q4 (by simp only; omega) w2.heap.size (by simp only; omega)
            have HF := Asd.mk hF
            have HFL := Asd.mk hFl
            have UW := Asd.mk ((HU2.out.trans (show Upd (fun _ => False) w2 w7 from u7) (fun _ _ h => h)).alloc (.cells (bcells ⟨w7.heap.size, lg, sp, tb, ip, w4.heap.size, fun _ => ⟨0, 0, 0, 0⟩⟩ (new c)) 91))
            clear hF hFl hkq q1 q2 q3 q4
            go_wp2
            go_ret
            exact ⟨⟨w7.heap.size, lg, sp, tb, ip, w4.heap.size, fun _ => ⟨0, 0, 0, 0⟩⟩, F, rfl, ⟨HF.out, fun k hk => Nat.le_trans (env_size HENV.out) (Nat.le_trans HU2.out.size (HFL.out k hk)), env_upd HENV.out UW.out (fun _ h => h.elim)⟩, fun k hk => Nat.le_trans HU2.out.size (HFL.out k hk), UW.out⟩
    case s2_1 =>
      go_simp
      refine hK.out _ _ (by exact (show Upd (fun _ => False) w2 (w3.alloc (.map #[] 0)) from (show Upd (fun _ => False) w2 w3 from u3).alloc _)) (fun hHeld => ?_)
      clear hK K
      try simp only [Act.put, List.setIfInBounds_toArray, List.set_cons_zero, List.set_cons_succ]
      have HH := (Upd.refl (fun _ => False) w3).alloc (.map #[] 0)
      have PR := Asd.mk (PR.out.up HH)
      have PM := Asd.mk (mapV.made w3 Tryz.prog 3)
      have zm : (w3.alloc (.map #[] 0)).heap.size = w3.heap.size + 1 := World.size_alloc _ _
      have um := (show Upd (fun _ => False) w2 w3 from u3).alloc (.map #[] 0)
      have zo := (show w2.heap.size ≤ w3.heap.size from (show Upd (fun _ => False) w2 w3 from u3).size)
      clear HH
      refine wpAnyH_ready (rs := [6]) (by kernel_rfl) (by simp) (AllReadyH.cons (o := ?o9_0) ?l9_0 (fun K hK => ?s9_0) AllReadyH.nil)
      case l9_0 => (simp only [List.getElem?_toArray, List.getElem?_cons_succ, List.getElem?_cons_zero]; exact rfl)
      case s9_0 =>
        (go_simp; (go_at_call 44; have hX := (show Upd (fun _ => False) w2 (w3.alloc (.map #[] 0)) from um); have zz5 := (show w2.heap.size ≤ (w3.alloc (.map #[] 0)).heap.size from hX.size); refine (Sp.new_calls c.width HWD.out _).mono ?_; rintro e w5 ⟨sp, rfl, hr, HH, hl1⟩; have HH := (show Upd (fun _ => False) (w3.alloc (.map #[] 0)) w5 from HH); have zw5 : (w3.alloc (.map #[] 0)).heap.size ≤ w5.heap.size := HH.size; have PR := Asd.mk (PR.out.up HH); have PM := Asd.mk (PM.out.upd HH (fun h => h)); have u5 := hX.trans HH (fun _ _ h => h); have PS := Asd.mk hr; have R2 := Asd.mk (show (w3.alloc (.map #[] 0)).heap.size ≤ sp ∧ sp < w5.heap.size from ⟨hl1, blk_lt hr⟩); clear hr HH hl1 hX))
        refine hK.out _ _ (by exact u5) (fun hHeld => ?_)
        clear hK K
        try simp only [Act.put, List.setIfInBounds_toArray, List.set_cons_zero, List.set_cons_succ]
        refine wpAnyH_ready (rs := [9]) (by kernel_rfl) (by simp) (AllReadyH.cons (o := ?o10_0) ?l10_0 (fun K hK => ?s10_0) AllReadyH.nil)
        case l10_0 => (simp only [List.getElem?_toArray, List.getElem?_cons_succ, List.getElem?_cons_zero]; exact rfl)
        case s10_0 =>
          (go_simp; (go_at_call 45; have hX := (show Upd (fun _ => False) w2 w5 from u5); have zz6 := (show w2.heap.size ≤ w5.heap.size from hX.size); refine (Fl.new_calls c.lease _).mono ?_; rintro e w6 ⟨tb, Ft, rfl, hr, HH, hl1⟩; have HH := (show Upd (fun _ => False) w5 w6 from HH); have zw6 : w5.heap.size ≤ w6.heap.size := HH.size; have PR := Asd.mk (PR.out.up HH); have PM := Asd.mk (PM.out.upd HH (fun h => h)); have PS := Asd.mk (Sp.SpAt.upd PS.out HH (fun h => h)); have u6 := hX.trans HH (fun _ _ h => h); have PT := Asd.mk hr; have R3 := Asd.mk (show ∀ k, Ft k → w5.heap.size ≤ k ∧ k < w6.heap.size from fun k hk => ⟨hl1 k hk, Fl.TB.lt hr k hk⟩); clear hr HH hl1 hX))
          refine hK.out _ _ (by exact u6) (fun hHeld => ?_)
          clear hK K
          try simp only [Act.put, List.setIfInBounds_toArray, List.set_cons_zero, List.set_cons_succ]
          refine wpAnyH_ready (rs := [12]) (by kernel_rfl) (by simp) (AllReadyH.cons (o := ?o11_0) ?l11_0 (fun K hK => ?s11_0) AllReadyH.nil)
          case l11_0 => (simp only [List.getElem?_toArray, List.getElem?_cons_succ, List.getElem?_cons_zero]; exact rfl)
          case s11_0 =>
            (go_simp; (go_at_call 46; have hX := (show Upd (fun _ => False) w2 w6 from u6); have zz7 := (show w2.heap.size ≤ w6.heap.size from hX.size); refine (Iq.new_calls c.input _).mono ?_; rintro e w7 ⟨ip, Fi, rfl, hr, HH, hl1⟩; have HH := (show Upd (fun _ => False) w6 w7 from HH); have zw7 : w6.heap.size ≤ w7.heap.size := HH.size; have PR := Asd.mk (PR.out.up HH); have PM := Asd.mk (PM.out.upd HH (fun h => h)); have PS := Asd.mk (Sp.SpAt.upd PS.out HH (fun h => h)); have PT := Asd.mk (PT.out.upd HH (fun _ _ h => h)); have u7 := hX.trans HH (fun _ _ h => h); have PI := Asd.mk hr; have R4 := Asd.mk (show ∀ k, Fi k → w6.heap.size ≤ k ∧ k < w7.heap.size from fun k hk => ⟨hl1 k hk, Iq.QI.lt hr k hk⟩); clear hr HH hl1 hX))
            refine hK.out _ _ (by exact u7) (fun hHeld => ?_)
            clear hK K
            try simp only [Act.put, List.setIfInBounds_toArray, List.set_cons_zero, List.set_cons_succ]
            refine tk_ 16 ?_
            try simp only [Act.put, sl1_, sl2_, sl3_]
            refine wpAnyH_ready (rs := [17]) (by kernel_rfl) (by simp) (AllReadyH.cons (o := ?_) ?_ (fun K hK => ?_) AllReadyH.nil)
            rotate_left 1
            · (simp only [List.getElem?_toArray, List.getElem?_cons_succ, List.getElem?_cons_zero]; exact rfl)
            go_simp
            refine hK.out _ _ (by exact ((show Upd (fun _ => False) w2 w7 from u7).alloc _)) (fun hHeld => ?_)
            clear hK K
            try simp only [Act.put, List.setIfInBounds_toArray, List.set_cons_zero, List.set_cons_succ]
            refine tk_ 18 ?_
            try simp only [Act.put, sl1_, sl2_, sl3_]
            refine wpAnyH_done (by kernel_rfl) ?_ _
            have hkq := (Upd.refl (fun _ => False) w7).alloc (.cells (bcells ⟨w7.heap.size, lg, sp, tb, ip, w3.heap.size, fun _ => ⟨0, 0, 0, 0⟩⟩ (new c)) 91)
            have q1 := R1.out; have q2 := R2.out; have q3 := R3.out; have q4 := R4.out
            obtain ⟨F, hF, hFl⟩ := new_bk (w := w7.alloc (.cells (bcells ⟨w7.heap.size, lg, sp, tb, ip, w3.heap.size, fun _ => ⟨0, 0, 0, 0⟩⟩ (new c)) 91)) (L := ⟨w7.heap.size, lg, sp, tb, ip, w3.heap.size, fun _ => ⟨0, 0, 0, 0⟩⟩) (c := c) (heap_alloc_new w7 _) (PR.out.up hkq) (Sp.SpAt.upd PS.out hkq (fun h => h)) (PT.out.upd hkq (fun _ _ h => h)) (PI.out.upd hkq (fun _ _ h => h)) (PM.out.upd hkq (fun h => h)) _ _ _ _ _ _ q1 q3 q4 (by simp only; omega) w2.heap.size (by simp only; omega)
            have HF := Asd.mk hF
            have HFL := Asd.mk hFl
            have UW := Asd.mk ((HU2.out.trans (show Upd (fun _ => False) w2 w7 from u7) (fun _ _ h => h)).alloc (.cells (bcells ⟨w7.heap.size, lg, sp, tb, ip, w3.heap.size, fun _ => ⟨0, 0, 0, 0⟩⟩ (new c)) 91))
            clear hF hFl hkq q1 q2 q3 q4
            go_wp2
            go_ret
            exact ⟨⟨w7.heap.size, lg, sp, tb, ip, w3.heap.size, fun _ => ⟨0, 0, 0, 0⟩⟩, F, rfl, ⟨HF.out, fun k hk => Nat.le_trans (env_size HENV.out) (Nat.le_trans HU2.out.size (HFL.out k hk)), env_upd HENV.out UW.out (fun _ h => h.elim)⟩, fun k hk => Nat.le_trans HU2.out.size (HFL.out k hk), UW.out⟩
  case s1_1 =>
    go_simp
    refine hK.out _ _ (by exact (show Upd (fun _ => False) w2 (w2.drew.alloc (.map #[] 0)) from (show Upd (fun _ => False) w2 w2.drew from (by repeat (first | assumption | with_reducible exact Upd.refl _ _ | with_reducible refine Upd.drewN ?_ _ | with_reducible refine Upd.drew ?_ | with_reducible refine Upd.alloc ?_ _ | with_reducible refine Upd.setAt ?_ ?_ | exact Or.inl rfl | exact Or.inr (by simp) | exact Or.inr (by omega)))).alloc _)) (fun hHeld => ?_)
    clear hK K
    try simp only [Act.put, List.setIfInBounds_toArray, List.set_cons_zero, List.set_cons_succ]
    have HH := (Upd.refl (fun _ => False) w2.drew).alloc (.map #[] 0)
    have PM := Asd.mk (mapV.made w2.drew Tryz.prog 3)
    have zm : (w2.drew.alloc (.map #[] 0)).heap.size = w2.drew.heap.size + 1 := World.size_alloc _ _
    have um := (show Upd (fun _ => False) w2 w2.drew from (by repeat (first | assumption | with_reducible exact Upd.refl _ _ | with_reducible refine Upd.drewN ?_ _ | with_reducible refine Upd.drew ?_ | with_reducible refine Upd.alloc ?_ _ | with_reducible refine Upd.setAt ?_ ?_ | exact Or.inl rfl | exact Or.inr (by simp) | exact Or.inr (by omega)))).alloc (.map #[] 0)
    have zo := (show w2.heap.size ≤ w2.drew.heap.size from (show Upd (fun _ => False) w2 w2.drew from (by repeat (first | assumption | with_reducible exact Upd.refl _ _ | with_reducible refine Upd.drewN ?_ _ | with_reducible refine Upd.drew ?_ | with_reducible refine Upd.alloc ?_ _ | with_reducible refine Upd.setAt ?_ ?_ | exact Or.inl rfl | exact Or.inr (by simp) | exact Or.inr (by omega)))).size)
    clear HH
    refine wpAnyH_ready (rs := [3]) (by kernel_rfl) (by simp) (AllReadyH.cons (o := ?o12_0) ?l12_0 (fun K hK => ?s12_0) AllReadyH.nil)
    case l12_0 => (simp only [List.getElem?_toArray, List.getElem?_cons_succ, List.getElem?_cons_zero]; exact rfl)
    case s12_0 =>
      (go_simp; (go_at_call 43; have hX := (show Upd (fun _ => False) w2 (w2.drew.alloc (.map #[] 0)) from um); have zz4 := (show w2.heap.size ≤ (w2.drew.alloc (.map #[] 0)).heap.size from hX.size); refine (Rg.new_calls c.log _).mono ?_; rintro e w4 ⟨lg, rg, rfl, hr, HH, hl1, hl2⟩; have HH := (show Upd (fun _ => False) (w2.drew.alloc (.map #[] 0)) w4 from HH); have zw4 : (w2.drew.alloc (.map #[] 0)).heap.size ≤ w4.heap.size := HH.size; have PM := Asd.mk (PM.out.upd HH (fun h => h)); have u4 := hX.trans HH (fun _ _ h => h); have PR := Asd.mk hr; have R1 := Asd.mk (show ∀ k, Rg.Its lg rg k → (w2.drew.alloc (.map #[] 0)).heap.size ≤ k ∧ k < w4.heap.size from fun k hk => ⟨hk.elim (fun e => by rw [e]; exact hl1) (fun e => by rw [e]; exact hl2), Rg.Bare.lt hr k hk⟩); have u4a := Asd.mk hX.size; clear hr HH hl1 hl2 hX))
      refine hK.out _ _ (by exact u4) (fun hHeld => ?_)
      clear hK K
      try simp only [Act.put, List.setIfInBounds_toArray, List.set_cons_zero, List.set_cons_succ]
      refine wpAnyH_ready (rs := [6]) (by kernel_rfl) (by simp) (AllReadyH.cons (o := ?o13_0) ?l13_0 (fun K hK => ?s13_0) AllReadyH.nil)
      case l13_0 => (simp only [List.getElem?_toArray, List.getElem?_cons_succ, List.getElem?_cons_zero]; exact rfl)
      case s13_0 =>
        (go_simp; (go_at_call 44; have hX := (show Upd (fun _ => False) w2 w4 from u4); have zz5 := (show w2.heap.size ≤ w4.heap.size from hX.size); refine (Sp.new_calls c.width HWD.out _).mono ?_; rintro e w5 ⟨sp, rfl, hr, HH, hl1⟩; have HH := (show Upd (fun _ => False) w4 w5 from HH); have zw5 : w4.heap.size ≤ w5.heap.size := HH.size; have PM := Asd.mk (PM.out.upd HH (fun h => h)); have PR := Asd.mk (PR.out.up HH); have u5 := hX.trans HH (fun _ _ h => h); have PS := Asd.mk hr; have R2 := Asd.mk (show w4.heap.size ≤ sp ∧ sp < w5.heap.size from ⟨hl1, blk_lt hr⟩); clear hr HH hl1 hX))
        refine hK.out _ _ (by exact u5) (fun hHeld => ?_)
        clear hK K
        try simp only [Act.put, List.setIfInBounds_toArray, List.set_cons_zero, List.set_cons_succ]
        refine wpAnyH_ready (rs := [9]) (by kernel_rfl) (by simp) (AllReadyH.cons (o := ?o14_0) ?l14_0 (fun K hK => ?s14_0) AllReadyH.nil)
        case l14_0 => (simp only [List.getElem?_toArray, List.getElem?_cons_succ, List.getElem?_cons_zero]; exact rfl)
        case s14_0 =>
          (go_simp; (go_at_call 45; have hX := (show Upd (fun _ => False) w2 w5 from u5); have zz6 := (show w2.heap.size ≤ w5.heap.size from hX.size); refine (Fl.new_calls c.lease _).mono ?_; rintro e w6 ⟨tb, Ft, rfl, hr, HH, hl1⟩; have HH := (show Upd (fun _ => False) w5 w6 from HH); have zw6 : w5.heap.size ≤ w6.heap.size := HH.size; have PM := Asd.mk (PM.out.upd HH (fun h => h)); have PR := Asd.mk (PR.out.up HH); have PS := Asd.mk (Sp.SpAt.upd PS.out HH (fun h => h)); have u6 := hX.trans HH (fun _ _ h => h); have PT := Asd.mk hr; have R3 := Asd.mk (show ∀ k, Ft k → w5.heap.size ≤ k ∧ k < w6.heap.size from fun k hk => ⟨hl1 k hk, Fl.TB.lt hr k hk⟩); clear hr HH hl1 hX))
          refine hK.out _ _ (by exact u6) (fun hHeld => ?_)
          clear hK K
          try simp only [Act.put, List.setIfInBounds_toArray, List.set_cons_zero, List.set_cons_succ]
          refine wpAnyH_ready (rs := [12]) (by kernel_rfl) (by simp) (AllReadyH.cons (o := ?o15_0) ?l15_0 (fun K hK => ?s15_0) AllReadyH.nil)
          case l15_0 => (simp only [List.getElem?_toArray, List.getElem?_cons_succ, List.getElem?_cons_zero]; exact rfl)
          case s15_0 =>
            (go_simp; (go_at_call 46; have hX := (show Upd (fun _ => False) w2 w6 from u6); have zz7 := (show w2.heap.size ≤ w6.heap.size from hX.size); refine (Iq.new_calls c.input _).mono ?_; rintro e w7 ⟨ip, Fi, rfl, hr, HH, hl1⟩; have HH := (show Upd (fun _ => False) w6 w7 from HH); have zw7 : w6.heap.size ≤ w7.heap.size := HH.size; have PM := Asd.mk (PM.out.upd HH (fun h => h)); have PR := Asd.mk (PR.out.up HH); have PS := Asd.mk (Sp.SpAt.upd PS.out HH (fun h => h)); have PT := Asd.mk (PT.out.upd HH (fun _ _ h => h)); have u7 := hX.trans HH (fun _ _ h => h); have PI := Asd.mk hr; have R4 := Asd.mk (show ∀ k, Fi k → w6.heap.size ≤ k ∧ k < w7.heap.size from fun k hk => ⟨hl1 k hk, Iq.QI.lt hr k hk⟩); clear hr HH hl1 hX))
            refine hK.out _ _ (by exact u7) (fun hHeld => ?_)
            clear hK K
            try simp only [Act.put, List.setIfInBounds_toArray, List.set_cons_zero, List.set_cons_succ]
            refine tk_ 16 ?_
            try simp only [Act.put, sl1_, sl2_, sl3_]
            refine wpAnyH_ready (rs := [17]) (by kernel_rfl) (by simp) (AllReadyH.cons (o := ?_) ?_ (fun K hK => ?_) AllReadyH.nil)
            rotate_left 1
            · (simp only [List.getElem?_toArray, List.getElem?_cons_succ, List.getElem?_cons_zero]; exact rfl)
            go_simp
            refine hK.out _ _ (by exact ((show Upd (fun _ => False) w2 w7 from u7).alloc _)) (fun hHeld => ?_)
            clear hK K
            try simp only [Act.put, List.setIfInBounds_toArray, List.set_cons_zero, List.set_cons_succ]
            refine tk_ 18 ?_
            try simp only [Act.put, sl1_, sl2_, sl3_]
            refine wpAnyH_done (by kernel_rfl) ?_ _
            have hkq := (Upd.refl (fun _ => False) w7).alloc (.cells (bcells ⟨w7.heap.size, lg, sp, tb, ip, w2.heap.size, fun _ => ⟨0, 0, 0, 0⟩⟩ (new c)) 91)
            have q1 := R1.out; have q2 := R2.out; have q3 := R3.out; have q4 := R4.out
            obtain ⟨F, hF, hFl⟩ := new_bk (w := w7.alloc (.cells (bcells ⟨w7.heap.size, lg, sp, tb, ip, w2.heap.size, fun _ => ⟨0, 0, 0, 0⟩⟩ (new c)) 91)) (L := ⟨w7.heap.size, lg, sp, tb, ip, w2.heap.size, fun _ => ⟨0, 0, 0, 0⟩⟩) (c := c) (heap_alloc_new w7 _) (PR.out.up hkq) (Sp.SpAt.upd PS.out hkq (fun h => h)) (PT.out.upd hkq (fun _ _ h => h)) (PI.out.upd hkq (fun _ _ h => h)) (PM.out.upd hkq (fun h => h)) _ _ _ _ _ _ q1 q3 q4 (by simp only; omega) w2.heap.size (by simp only; omega)
            have HF := Asd.mk hF
            have HFL := Asd.mk hFl
            have UW := Asd.mk ((HU2.out.trans (show Upd (fun _ => False) w2 w7 from u7) (fun _ _ h => h)).alloc (.cells (bcells ⟨w7.heap.size, lg, sp, tb, ip, w2.heap.size, fun _ => ⟨0, 0, 0, 0⟩⟩ (new c)) 91))
            clear hF hFl hkq q1 q2 q3 q4
            go_wp2
            go_ret
            exact ⟨⟨w7.heap.size, lg, sp, tb, ip, w2.heap.size, fun _ => ⟨0, 0, 0, 0⟩⟩, F, rfl, ⟨HF.out, fun k hk => Nat.le_trans (env_size HENV.out) (Nat.le_trans HU2.out.size (HFL.out k hk)), env_upd HENV.out UW.out (fun _ h => h.elim)⟩, fun k hk => Nat.le_trans HU2.out.size (HFL.out k hk), UW.out⟩
end Go.Proofs.YteepkanbiefpjaaGreatDoor.Bk
set_option linter.unusedVariables false
set_option linter.unusedSimpArgs false
namespace Go.Proofs.YteepkanbiefpjaaGreatDoor.Bk
open Go.RowKit K
open MgRow (M mC Ms)
def msgOf (k : UInt8) (body : List UInt8) : M := ⟨(k.toNat : Int), (MgOf.numA (Mg.nums (k.toNat : Int)) body : Int), (MgOf.numB (Mg.nums (k.toNat : Int)) body : Int), body.drop (6 * Mg.nums (k.toNat : Int))⟩
def msgsN : Nat → List UInt8 → List M × Bool
  | 0, _ => ([], true)
  | k + 1, b => if b = [] then ([], true) else
    if (Fr.fget b).2.2.2 ≠ 0 ∨ MgOf.isMsg ((Fr.fget b).1.toNat : Int) (Fr.fget b).2.1 = false then ([], false)
    else (msgOf (Fr.fget b).1 (Fr.fget b).2.1 :: (msgsN k (b.drop (Fr.fget b).2.2.1)).1, (msgsN k (b.drop (Fr.fget b).2.2.1)).2)
def msgs (b : List UInt8) : List M × Bool := msgsN (b.length + 1) b
theorem msgsN_fuel : ∀ (n m : Nat) (b : List UInt8), b.length < n → b.length < m → msgsN n b = msgsN m b
  | 0, _, _, h, _ => absurd h (Nat.not_lt_zero _)
  | _, 0, _, _, h => absurd h (Nat.not_lt_zero _)
  | n + 1, m + 1, b, hn, hm => by
    unfold msgsN
    by_cases hb : b = []
    · rw [if_pos hb, if_pos hb]
    rw [if_neg hb, if_neg hb]
    by_cases h : (Fr.fget b).2.2.2 ≠ 0 ∨ MgOf.isMsg ((Fr.fget b).1.toNat : Int) (Fr.fget b).2.1 = false
    · rw [if_pos h, if_pos h]
    · rw [if_neg h, if_neg h]
      have h0 : (Fr.fget b).2.2.2 = 0 := by
        rcases Classical.em ((Fr.fget b).2.2.2 = 0) with e | e
        · exact e
        · exact absurd (.inl e) h
      have hl := FdMath.drop_lt b h0
      rw [msgsN_fuel n m _ (by omega) (by omega)]
theorem msgs_nil : msgs [] = ([], true) := rfl
theorem msgs_bad {b : List UInt8} (hb : b ≠ []) (h : (Fr.fget b).2.2.2 ≠ 0 ∨ MgOf.isMsg ((Fr.fget b).1.toNat : Int) (Fr.fget b).2.1 = false) : msgs b = ([], false) := by
  unfold msgs msgsN
  rw [if_neg hb, if_pos h]
theorem msgs_cons {b : List UInt8} (hb : b ≠ []) (h0 : (Fr.fget b).2.2.2 = 0) (h1 : MgOf.isMsg ((Fr.fget b).1.toNat : Int) (Fr.fget b).2.1 = true) : msgs b = (msgOf (Fr.fget b).1 (Fr.fget b).2.1 :: (msgs (b.drop (Fr.fget b).2.2.1)).1, (msgs (b.drop (Fr.fget b).2.2.1)).2) := by
  have hl := FdMath.drop_lt b h0
  conv => lhs; unfold msgs msgsN
  rw [if_neg hb, if_neg (fun h => h.elim (fun h => h h0) (fun h => by rw [h1] at h; cases h))]
  unfold msgs
  rw [msgsN_fuel b.length ((b.drop (Fr.fget b).2.2.1).length + 1) _ (by omega) (by omega)]
theorem info64 : (Tryz.prog.info? 36).map (fun i => (i.zero, i.size, i.bytes)) = some (some (.agg #[.int .i64 0, .int .i64 0, .int .i64 0, .string { data := #[] }]), 4, 40) := by kernel_rfl
theorem mC_len (L : List M) : (L.flatMap mC).length = L.length * 4 := by
  induction L with
  | nil => rfl
  | cons x L ih => rw [List.flatMap_cons, List.length_append, ih]; simp [mC]; omega
theorem mC_one (L : List M) : ∀ u ∈ L.flatMap mC, u.oneCell' = true := by
  intro u hu
  simp only [List.mem_flatMap] at hu
  obtain ⟨x, _, hx⟩ := hu
  simp only [mC, List.mem_cons, List.not_mem_nil, or_false] at hx
  rcases hx with rfl | rfl | rfl | rfl <;> rfl
theorem mC_at : ∀ (L : List M) (i j : Nat) (h : i < L.length) (u : Value), (mC L[i])[j]? = some u → (L.flatMap mC)[i * 4 + j]? = some u
  | x :: L, 0, j, h, u, hu => by
    rw [List.flatMap_cons]
    have hj : j < (mC x).length := by
      rcases Nat.lt_or_ge j (mC x).length with h | h
      · exact h
      · rw [List.getElem_cons_zero, List.getElem?_eq_none h] at hu; cases hu
    rw [Nat.zero_mul, Nat.zero_add, List.getElem?_append_left hj]
    exact hu
  | x :: L, i + 1, j, h, u, hu => by
    rw [List.flatMap_cons]
    have h4 : (mC x).length = 4 := rfl
    rw [List.getElem?_append_right (by rw [h4]; omega), h4, show (i + 1) * 4 + j - 4 = i * 4 + j by omega]
    exact mC_at L i j (by simpa using h) u (by simpa using hu)
def OwnM (w : World) (A : Option Addr) (c : Nat) (L : List M) (G : Option Nat) : Prop := K.Own w 36 4 (.slice A L.length c) L.length (L.flatMap mC) G
theorem OwnM.ms {w : World} {A : Option Addr} {c : Nat} {L : List M} {G : Option Nat} (h : OwnM w A c L G) (hl : L.length ≤ 9223372036854775807) : Ms w A L.length L := by
  obtain ⟨A1, c1, he1, _, _, hrow, _⟩ := K.Own.slice h
  obtain ⟨rfl, rfl⟩ : A = A1 ∧ c = c1 := by injection he1 with a b c; exact ⟨a, c⟩
  refine ⟨rfl, hl, fun i hi => ?_⟩
  obtain ⟨ad, e, _⟩ := hrow _ _ (mC_at L i 0 hi _ rfl)
  refine ⟨ad, e, fun j u hu => ?_⟩
  obtain ⟨ad2, e2, hc⟩ := hrow _ _ (mC_at L i j hi u hu)
  obtain rfl := Option.some.inj (e.symm.trans e2)
  exact hc
def MsgsPost (r : List M × Bool) (w : World) (e : Ending) (w' : World) : Prop := ∃ A c G, e = .returned (.tuple #[.slice A r.1.length c, .bool r.2]) ∧ OwnM w' A c r.1 G ∧ (∀ g, G = some g → w.heap.size ≤ g) ∧ Upd (fun _ => False) w w' ∧ r.1.length ≤ 1073741824
set_option maxHeartbeats 8000000 in
set_option maxRecDepth 100000 in
theorem messages_calls (A : Option Addr) (n c : Nat) (b : List UInt8) (w : World) (hr : Rd w A n b) (hc : n ≤ c) (hN : n ≤ 1073741824) : Calls Tryz.prog 25 #[.slice A n c] w (MsgsPost (msgs b) w) := by
  have HR := Asd.mk hr
  obtain rfl := hr.len
  clear hr
  go_enter Tryz.func25, Tryz.ntmps25
  go_wp2
  go_loopw [0, 4] (fun v0 v4 wr => ∃ (A0 : Option Addr) (c0 : Nat) (rest : List UInt8) (A4 : Option Addr) (c4 : Nat) (L : List M) (G4 : Option Nat), v0 = .slice A0 rest.length c0 ∧ v4 = .slice A4 L.length c4 ∧ rest.length ≤ c0 ∧ L.length + rest.length ≤ b.length ∧ Asd (Rd w A0 rest.length rest) ∧ Asd (OwnM wr A4 c4 L G4) ∧ Asd (msgs b = (L ++ (msgs rest).1, (msgs rest).2)) ∧ Asd (∀ g, G4 = some g → w.heap.size ≤ g) ∧ Asd (Upd (fun _ => False) w wr)) (fun v0 _ _ => match v0 with | .slice _ n _ => n | _ => 0)
  case atStart => exact ⟨A, c, b, some ⟨w.heap.size, 0, none⟩, 0, [], some w.heap.size, rfl, rfl, hc, by simp, HR, ⟨Own.lit w _ 4 0 #[] (by simp [maxLen]) rfl⟩, ⟨rfl⟩, ⟨fun g e => by obtain rfl := Option.some.inj e; exact Nat.le_refl _⟩, ⟨(Upd.refl _ _).alloc _⟩⟩
  case round =>
    obtain ⟨A0, c0, rest, A4, c4, L, G4, rfl, rfl, hc0, hlen, HRr, HOL, HT, HG, HU⟩ := hrel
    by_cases hre : rest = []
    · have hb0 : decide (0 < (rest.length : Int)) = false := by rw [hre]; rfl
      have hb1 : ¬ 0 < rest.length := by rw [hre]; simp
      have HE : Asd (msgs b = (L, true)) := ⟨by rw [HT.out, hre, msgs_nil, List.append_nil]⟩
      clear hre
      go_wp2
      go_ret2
      rw [HE.out]
      exact ⟨A4, c4, G4, rfl, HOL.out, HG.out, HU.out, by show L.length ≤ _; omega⟩
    have hl0 : 0 < rest.length := List.length_pos_iff.2 hre
    have hb0 : decide (0 < (rest.length : Int)) = true := decide_eq_true (by omega)
    have hcs := FdMath.fget_cases rest
    have HMC := Asd.mk (fun h0 h1 => msgs_cons hre h0 h1)
    have HMB := Asd.mk (fun h => msgs_bad hre h)
    have HGT := Asd.mk (Fr.get_calls A0 rest.length c0 rest wr (HRr.out.up HU.out) hc0)
    obtain ⟨⟨kind, body, nn, er⟩, hrr⟩ : ∃ r, r = Fr.fget rest := ⟨_, rfl⟩
    rw [← hrr] at hcs HMC HMB HGT
    clear hrr hre
    simp only at hcs HMC HMB HGT
    have hbl : body.length ≤ 2048 := by
      rcases hcs with ⟨_, _, _, h, _⟩ | e | e | e
      · exact h
      all_goals (injection e with e1 e2; injection e2 with e2 e3; rw [e2]; simp)
    have HCS := Asd.mk hcs
    clear hcs
    go_wp2_with fail
    refine HGT.out.mono ?_
    rintro e w2 ⟨A2, c2, G2, rfl, ho2, hb2, hc2, hm2, hu2⟩
    simp only at ho2 hc2
    have HRD := Asd.mk ho2.rd
    have HOL2 := Asd.mk (Own.upd HOL.out hu2 (fun _ _ h => h))
    have HV2 := Asd.mk (HU.out.trans hu2 (fun _ _ h => h))
    have HC2 := Asd.mk hc2
    clear hu2 ho2 hb2 hm2 hc2 HOL HGT
    go_upto_region 4 with fail
    have hk1 := (Upd.refl (fun _ => False) w2).alloc (.cells #[.int .u8 (kind.toNat : Int), .slice A2 body.length c2] 105)
    have hm1 := heap_alloc_new w2 (.cells #[.int .u8 (kind.toNat : Int), .slice A2 body.length c2] 105)
    generalize hw3 : w2.alloc (.cells #[.int .u8 (kind.toNat : Int), .slice A2 body.length c2] 105) = w3 at hk1 hm1 ⊢
    have f0 := keepsC (o := 0) (v := .int .u8 (kind.toNat : Int)) hm1 rfl
    have f1 := keepsC (o := 1) (v := .slice A2 body.length c2) hm1 rfl
    have hs3 : Upd (fun _ => False) w3 w3 := Upd.refl _ _
    have HRD3 := Asd.mk (HRD.out.up hk1)
    have HOL3 := Asd.mk (Own.upd HOL2.out hk1 (fun _ _ h => h))
    have HV3 := Asd.mk (HV2.out.trans hk1 (fun _ _ h => h))
    clear hk1 hm1 hw3 HOL2 HRD
    obtain ⟨k, hk⟩ : ∃ k : Int, k = (kind.toNat : Int) := ⟨_, rfl⟩
    have HK := Asd.mk hk
    go_wp2_with fail
    refine (MgOf.of_calls kind A2 c2 body _ HRD3.out HC2.out (by omega)).mono ?_
    rw [← HK.out]
    rintro e w4 ⟨hu4, he⟩
    have HOL4 := Asd.mk (Own.upd HOL3.out hu4 (fun _ _ h => h))
    have HV4 := Asd.mk (HV3.out.trans hu4 (fun _ _ h => h))
    by_cases h0 : er = 0
    case neg =>
      have hbe : (er != 0) = true := bne_iff_ne.2 h0
      have HE : Asd (msgs b = (L, false)) := ⟨by rw [HT.out, HMB.out (.inl h0), List.append_nil]⟩
      cases hi : MgOf.isMsg k body with
      | true =>
        rw [hi, if_pos rfl] at he
        subst he
        clear h0 hi hu4 f0 f1 hs3 hk
        go_wp2
        go_ret2
        rw [HE.out]
        exact ⟨A4, c4, G4, rfl, Own.upd HOL4.out ((Upd.refl _ _).alloc _) (fun _ _ h => h), HG.out, HV4.out.alloc _, by show L.length ≤ _; omega⟩
      | false =>
        rw [hi, if_neg (by decide)] at he
        subst he
        clear h0 hi hu4 f0 f1 hs3 hk
        go_wp2
        go_ret2
        rw [HE.out]
        exact ⟨A4, c4, G4, rfl, Own.upd HOL4.out ((Upd.refl _ _).alloc _) (fun _ _ h => h), HG.out, HV4.out.alloc _, by show L.length ≤ _; omega⟩
    have hbe : (er != 0) = false := by rw [h0]; rfl
    cases hi : MgOf.isMsg k body with
    | false =>
      rw [hi, if_neg (by decide)] at he
      subst he
      have HE : Asd (msgs b = (L, false)) := ⟨by rw [HT.out, HMB.out (.inr (by rw [← hk]; exact hi)), List.append_nil]⟩
      clear h0 hi hu4 f0 f1 hs3 hk
      go_wp2
      go_ret2
      rw [HE.out]
      exact ⟨A4, c4, G4, rfl, Own.upd HOL4.out ((Upd.refl _ _).alloc _) (fun _ _ h => h), HG.out, HV4.out.alloc _, by show L.length ≤ _; omega⟩
    | true =>
      rw [hi, if_pos rfl] at he
      subst he
      obtain ⟨m, hm⟩ : ∃ m : M, m = msgOf kind body := ⟨_, rfl⟩
      have hmk : m = ⟨k, (MgOf.numA (Mg.nums k) body : Int), (MgOf.numB (Mg.nums k) body : Int), body.drop (6 * Mg.nums k)⟩ := by rw [hm, hk]; rfl
      have e1 : k = m.k := by rw [hmk]
      have e2 : (MgOf.numA (Mg.nums k) body : Int) = m.a := by rw [hmk]
      have e3 : (MgOf.numB (Mg.nums k) body : Int) = m.b := by rw [hmk]
      have e4 : body.drop (6 * Mg.nums k) = m.t := by rw [hmk]
      rw [e2, e3, e4, e1]
      have HMT := Asd.mk (HMC.out h0 (by rw [← hk]; exact hi))
      have hnn : 5 ≤ nn ∧ nn ≤ rest.length := by
        rcases HCS.out with ⟨_, h1, h2, _⟩ | e | e | e
        · exact ⟨by omega, h2⟩
        all_goals (injection e with x1 x2; injection x2 with x2 x3; injection x3 with x3 x4; omega)
      have HE : Asd (msgs b = (L ++ [m] ++ (msgs (rest.drop nn)).1, (msgs (rest.drop nn)).2)) := ⟨by rw [HT.out, HMT.out, ← hm]; simp⟩
      clear h0 hi hu4 f0 f1 hs3 hk hm hmk e1 e2 e3 e4 HMT HMB HMC HCS
      have hka := ((Upd.refl (fun _ => False) w4).alloc (.cells #[.int .i64 m.k, .int .i64 m.a, .int .i64 m.b, .string (S m.t)] 36)).alloc (.cells #[.int .i64 m.k, .int .i64 m.a, .int .i64 m.b, .string (S m.t)] 36)
      have HKA := Asd.mk hka
      clear hka
      go_wp2_with (first | (with_reducible refine stop_append _ _ _ _ rfl ?_) | (with_reducible refine stop_copy _ _ _ _ rfl ?_) | (with_reducible refine stop_make _ _ _ rfl ?_) | (with_reducible refine stop_conv 31 9 _ rfl ?_))
      refine wp_append rfl (.tmp 32) (.tmp 34) 46 36 (.agg #[.int .i64 0, .int .i64 0, .int .i64 0, .string { data := #[] }]) 4 40 rfl Tryz.underlying46 info64 rfl (by omega) _ L.length (L.flatMap mC) G4 (some ⟨w4.heap.size + 1, 0, none⟩) 1 1 (mC m) rfl rfl (Own.upd HOL4.out HKA.out (fun _ _ h => h)) (Fee.Row.litg _ _ (by rw [World.size_alloc]) _ #[.int .i64 m.k, .int .i64 m.a, .int .i64 m.b, .string (S m.t)]) rfl (by intro u hu; simp only [mC, List.mem_cons, List.not_mem_nil, or_false] at hu; rcases hu with rfl | rfl | rfl | rfl <;> rfl) (by simp only [maxLen]; omega) (by omega) ?_
      intro v1 w5 G5 hO5 hU5 hG5
      rw [show L.flatMap mC ++ mC m = (L ++ [m]).flatMap mC by simp, show L.length + 1 = (L ++ [m]).length by simp] at hO5
      obtain ⟨A5, c5, rfl, _⟩ := hO5.slice
      have hO6 : OwnM w5 A5 c5 (L ++ [m]) G5 := hO5
      have hs4 := HV4.out.size
      have hlt5 : ∀ i, i < w.heap.size → ¬ some i = G4 := fun i hi e => by have := HG.out i e.symm; omega
      have HG5 : Asd (∀ g, G5 = some g → w.heap.size ≤ g) := ⟨fun g e => by
        rcases hG5 with e2 | ⟨g', e2, h5, h6⟩
        · exact HG.out g (e2 ▸ e)
        · rw [e2] at e; obtain rfl := Option.some.inj e; simp at h5; omega⟩
      have HU5 : Asd (Upd (fun _ => False) w w5) := ⟨(HV4.out.trans HKA.out (fun _ _ h => h)).trans hU5 (fun i hi h => (hlt5 i hi h).elim)⟩
      have HO6 := Asd.mk hO6
      obtain ⟨L3, hL3⟩ : ∃ L3, L3 = L ++ [m] := ⟨_, rfl⟩
      rw [← hL3] at HO6 HE ⊢
      have hl3 : L3.length = L.length + 1 := by rw [hL3, List.length_append]; rfl
      have HL3 := Asd.mk hl3
      clear hO5 hU5 hG5 hO6 hs4 hlt5 hL3 HKA HOL4 HOL3 hl3
      obtain ⟨A6, hcut, _, hrd, _⟩ := cut_from' (P := Tryz.prog) 31 5 .i64 (sz := 1) Tryz.underlying31 (by kernel_rfl) A0 rest.length c0 nn nn rfl hnn.2 hc0
      have HR6 := Asd.mk (hrd rfl _ _ HRr.out)
      clear hrd
      go_wp2
      go_roundw
      case rel => exact ⟨A6, c0 - nn, rest.drop nn, A5, c5, L3, G5, by rw [List.length_drop], rfl, by rw [List.length_drop]; omega, by rw [HL3.out, List.length_drop]; omega, ⟨by rw [List.length_drop]; exact HR6.out⟩, HO6, HE, HG5, HU5⟩
      case measure => show rest.length - nn < rest.length; omega
end Go.Proofs.YteepkanbiefpjaaGreatDoor.Bk
set_option linter.unusedVariables false
set_option linter.unusedSimpArgs false
namespace Go.Proofs.YteepkanbiefpjaaGreatDoor.Bk
open Go.RowKit K
open MgRow (M mC Ms)
def dflt : Cf := ⟨4096, 512, 2048, 256, 3, 100, 0, 80⟩
def helloB (t : List UInt8) : List UInt8 := mb ⟨1, 5, 0, t⟩
def typedB (q : Int) (t : List UInt8) : List UInt8 := mb ⟨2, q, 0, t⟩
def cFloor : List UInt8 := [29, 58, 102, 108, 111, 111, 114, 10]
theorem dflt_ok : rightC dflt = true := by decide +kernel
theorem default_calls (w : World) : Calls Tryz.prog 17 #[] w fun e w' => e = .returned (.agg (cfV dflt)) ∧ Upd (fun _ => False) w w' := by
  go_enter Tryz.func17, Tryz.ntmps17
  go_wp2
  have hu := (Upd.refl (fun _ => False) w).alloc (.cells #[.int .i64 4096, .int .i64 512, .int .i64 2048, .int .i64 256, .int .i64 3, .int .i64 100, .int .i64 0, .int .i64 80] 26)
  have hm := heap_alloc_new w (.cells #[.int .i64 4096, .int .i64 512, .int .i64 2048, .int .i64 256, .int .i64 3, .int .i64 100, .int .i64 0, .int .i64 80] 26)
  generalize w.alloc (.cells #[.int .i64 4096, .int .i64 512, .int .i64 2048, .int .i64 256, .int .i64 3, .int .i64 100, .int .i64 0, .int .i64 80] 26) = W at hu hm ⊢
  have c0 : W.cell? ⟨w.heap.size, 0, none⟩ = some (.int .i64 4096) := by simp [World.cell?, hm]
  have c1 : W.cell? ⟨w.heap.size, 1, none⟩ = some (.int .i64 512) := by simp [World.cell?, hm]
  have c2 : W.cell? ⟨w.heap.size, 2, none⟩ = some (.int .i64 2048) := by simp [World.cell?, hm]
  have c3 : W.cell? ⟨w.heap.size, 3, none⟩ = some (.int .i64 256) := by simp [World.cell?, hm]
  have c4 : W.cell? ⟨w.heap.size, 4, none⟩ = some (.int .i64 3) := by simp [World.cell?, hm]
  have c5 : W.cell? ⟨w.heap.size, 5, none⟩ = some (.int .i64 100) := by simp [World.cell?, hm]
  have c6 : W.cell? ⟨w.heap.size, 6, none⟩ = some (.int .i64 0) := by simp [World.cell?, hm]
  have c7 : W.cell? ⟨w.heap.size, 7, none⟩ = some (.int .i64 80) := by simp [World.cell?, hm]
  refine bodyPost_ret (v := .agg (cfV dflt)) ?_ rfl ⟨rfl, hu⟩
  clear hm hu
  simp [results, Tryz.results17, go_sem, c0, c1, c2, c3, c4, c5, c6, c7, cfV, dflt]
theorem hello_law_calls (t : List UInt8) (w : World) : Calls Tryz.prog 20 #[.string (S t)] w (MPost ⟨1, 5, 0, t⟩ w) := by
  have HP := Asd.mk (fun w => mput_calls ⟨1, 5, 0, t⟩ w)
  unfold Vw.msgV at HP
  go_enter Tryz.func20, Tryz.ntmps20
  go_wp2_with fail
  refine (HP.out _).mono ?_
  rintro e w2 ⟨A, c, rfl, h1, h2, h3, h4⟩
  have H1 := Asd.mk h1
  have H2 := Asd.mk (And.intro h2 (And.intro h3 h4))
  clear h1 h2 h3 h4
  go_wp2
  go_ret
  exact ⟨A, c, rfl, H1.out, H2.out.1, H2.out.2.1, H2.out.2.2⟩
theorem typed_law_calls (q : Int) (t : List UInt8) (w : World) : Calls Tryz.prog 22 #[.int .i64 q, .string (S t)] w (MPost ⟨2, q, 0, t⟩ w) := by
  have HP := Asd.mk (fun w => mput_calls ⟨2, q, 0, t⟩ w)
  unfold Vw.msgV at HP
  go_enter Tryz.func22, Tryz.ntmps22
  go_wp2_with fail
  refine (HP.out _).mono ?_
  rintro e w2 ⟨A, c, rfl, h1, h2, h3, h4⟩
  have H1 := Asd.mk h1
  have H2 := Asd.mk (And.intro h2 (And.intro h3 h4))
  clear h1 h2 h3 h4
  go_wp2
  go_ret
  exact ⟨A, c, rfl, H1.out, H2.out.1, H2.out.2.1, H2.out.2.2⟩
end Go.Proofs.YteepkanbiefpjaaGreatDoor.Bk
