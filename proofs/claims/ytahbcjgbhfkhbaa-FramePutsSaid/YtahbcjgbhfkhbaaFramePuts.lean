/- The law FramePuts: what its call comes to, for every input. -/
import Derived.Test.YtahbcjgbhfkhbaaFrameLaws
import Derived.Test.YtahbcjgbhfkhbaaLawGet
import Derived.Test.YtahbcjgbhfkhbaaK3
import Derived.Deep.RegionHeld3
set_option linter.unusedVariables false
set_option linter.unusedSimpArgs false
namespace Go.Proofs.Ytahbcjgbhfkhbaa.FrPuts
open Go.RowKit K Crc Sm Fr FrMath LGet

set_option maxHeartbeats 4000000 in
set_option maxRecDepth 100000 in
theorem puts_walk (w : World) (A : Option Addr) (n c : Nat) (b : List UInt8) (hr : Rd w A n b) (hc : n ≤ c) (hm : c ≤ maxLen) (j : Int) (wj : (Lit.int .u8 j).wf = true) (A2 : Option Addr) (n2 c2 : Nat) (body0 : List UInt8) (hr2 : Rd w A2 n2 body0) (hc2 : n2 ≤ c2) (hm2 : c2 ≤ maxLen) (long : Int) (wl : (Lit.int .i64 long).wf = true) :
    Calls Try.prog 6 #[.slice A n c, .int .u8 j, .slice A2 n2 c2, .int .i64 long] w fun e w' => e = .returned (.bool true) ∧ Upd (fun _ => False) w w' := by
  obtain ⟨j, rfl⟩ := FrLaws.u8_exists j wj
  have hlim := hr.lim
  have hlim2 := hr2.lim
  obtain rfl := hr.len
  obtain rfl := hr2.len
  have HB := Asd.mk hr
  have HX := Asd.mk hr2
  clear hr hr2 wj wl hm hm2
  go_enter Try.func6, Try.ntmps6
  go_wp2_with fail
  refine (FrLaws.head_calls _).mono ?_
  rintro e w1 ⟨rfl, hu⟩
  have HU := Asd.mk hu
  clear hu
  by_cases h3 : 100 < b.length
  · go_wp2
    go_ret
    exact ⟨rfl, HU.out⟩
  by_cases h4 : 300 < body0.length
  · go_wp2
    go_ret
    exact ⟨rfl, HU.out⟩
  cases ht : (Go.bits .and .i64 long 7 == 7) with
  | true =>
    go_wp2_with fail
    have HX1 := Asd.mk (HX.out.up HU.out)
    obtain ⟨k1, hk1, hk2, hk3⟩ : ∃ k1 : Nat, mn (body0.length : Int) 1 = (k1 : Int) ∧ k1 ≤ 1 ∧ k1 ≤ body0.length := ⟨min body0.length 1, by unfold mn; split <;> omega, by omega, by omega⟩
    have hk4 : (k1 : Int) ≤ (c2 : Int) := by omega
    obtain ⟨k, hk, hand⟩ := and15 (long / 8)
    obtain ⟨N, hN⟩ : ∃ N : Nat, N = 2040 + k := ⟨_, rfl⟩
    obtain ⟨body, hbd⟩ : ∃ x, x = List.replicate N (0 : UInt8) ++ body0.take k1 := ⟨_, rfl⟩
    have hbl : body.length = N + k1 := by rw [hbd, List.length_append, List.length_replicate, List.length_take]; omega
    have hbound : body.length ≤ 2056 := by omega
    obtain ⟨cs, hmk, HOm⟩ := make_rule (P := Try.prog) N 23 5 Try.underlying23 info8 (by omega)
    have hwN : IntKind.i64.wrap (2040 + Go.bits .and .i64 (long / 8) 15) = (N : Int) := by rw [hand]; rw [w64i _ (by omega) (by omega)]; omega
    have HOm := Asd.mk HOm
    have HK := Asd.mk (HX1.out.take k1 hk3)
    have hl1 : body.length ≤ 140737488355328 := by omega
    have HBD := Asd.mk hbd
    have HBL := Asd.mk hbl
    clear hand hN hbd hbl
    go_region_law (with_reducible refine gate_app (.tmp 31) (.tmp 36) 23 rfl ?_; refine step_appendF (S := fun _ => False) (w0 := w1) (by repeat (first | exact Upd.refl _ _ | refine Upd.drew ?_ | refine Upd.alloc ?_ _)) body.length 5 (List.replicate N 0) (body0.take k1) (some w1.heap.size) (some ⟨w1.heap.size, 0, none⟩) N N A2 k1 c2 (by rfl) (.tmp 31) (.tmp 36) 23 (by rfl) Try.underlying23 info8 (by simp [Act.eval, Act.put]) (by simp [Act.eval, Act.put]) ((HOm.out w1).upd (S := fun _ => False) ((Upd.refl _ _).drew) (fun _ _ h => h)) (fun g e => by obtain rfl := Option.some.inj e; exact Nat.le_refl _) (HK.out.up (by repeat (first | exact Upd.refl _ _ | refine Upd.drew ?_ | refine Upd.alloc ?_ _))) HBL.out hl1 ?_; intro A3 c3 w3 G3 hc3 hm3 hO3 hG3 hu3 hU3 _; rw [← HBD.out] at hO3; have HU3 := Asd.mk hu3; have HO3 := Asd.mk hO3.rd; clear hO3 hG3 hu3 hU3)
    all_goals
      have HU := Asd.mk (HU.out.trans HU3.out (fun _ _ h => h))
      have HX1 := HO3
      clear HU3 HO3 HK HBD HBL HOm hmk hwN hk1 hk2 hk3 hk4 hk hl1 HX
      by_cases hlong : 2048 < body.length
      · have hd8 : decide (body.length ≤ 2048) = false := decide_eq_false (by omega)
        go_wp2_with fail
        refine (put_long _ _ _ _ _ _ _ _ hlong).mono ?_
        rintro e w5 ⟨rfl, hu⟩
        have hb5 := hu.blk (heap_alloc_new w3 _) (fun h => h)
        have hx0 : w5.cell? ⟨w3.heap.size, 0, none⟩ = some (.int .u8 (j.toNat : Int)) := by simp [World.cell?, hb5]
        have hx1 : w5.cell? ⟨w3.heap.size, 1, none⟩ = some (.slice A3 body.length c3) := by simp [World.cell?, hb5]
        have HU5 := Asd.mk ((HU.out.trans ((Upd.refl _ _).alloc _) (fun _ _ h => h)).trans hu (fun _ _ h => h))
        clear hu hb5
        go_wp2_with fail
        refine (right_calls _ _ _ _ _).mono ?_
        rw [hd8]
        rintro e w6 ⟨rfl, hu⟩
        have HU6 := Asd.mk (HU5.out.trans hu (fun _ _ h => h))
        have hsB := run_str (P := Try.prog) (c := c) Try.underlying23 Try.underlying5 Try.underlying9 (HB.out.up HU6.out)
        clear hu
        go_wp2
        go_ret
        exact ⟨by simp, HU6.out⟩
      · go_wp2_with fail
        refine (put_ok A b.length c b j A3 c3 body _ (HB.out.up (by exact (by repeat (first | exact HU.out | refine Upd.drew ?_ | refine Upd.drewN ?_ _ | refine Upd.alloc ?_ _)))) (HX1.out.up ((Upd.refl (fun _ => False) _).alloc _)) (by omega) (by omega)).mono ?_
        have hl5 : (b ++ fbytes j body).length = b.length + body.length + 5 := by rw [List.length_append, fbytes_length]; omega
        unfold PutPost
        rw [hl5]
        rintro e w5 ⟨A5, c5, G5, rfl, ho, hg, hc5, hm5, hu⟩
        have hb5 := hu.blk (heap_alloc_new w3 _) (fun h => h)
        have hx0 : w5.cell? ⟨w3.heap.size, 0, none⟩ = some (.int .u8 (j.toNat : Int)) := by simp [World.cell?, hb5]
        have hx1 : w5.cell? ⟨w3.heap.size, 1, none⟩ = some (.slice A3 body.length c3) := by simp [World.cell?, hb5]
        have hV : Upd (fun _ => False) w3 w5 := ((Upd.refl _ _).alloc _).trans hu (fun _ _ h => h)
        have HU5 := Asd.mk (HU.out.trans hV (fun _ _ h => h))
        have HX5 := Asd.mk (HX1.out.up hV)
        have HR5 := Asd.mk ho.rd
        have HL5 := Asd.mk hl5
        have HB5 := Asd.mk (HB.out.up HU5.out)
        have hN1 : w3.heap.size < w5.heap.size := blk_lt hb5
        clear ho hg hu hl5 hV HX1 HU hb5
        go_wp2_with fail
        have hd8 : decide (body.length ≤ 2048) = true := decide_eq_true (by omega)
        have hfl := fbytes_length j body
        have hbl : body.length ≤ 140737488351232 := by omega
        obtain ⟨hw5, hw6, hw5', hw6', hadd⟩ := And.intro (w64i ((b.length : Int) + (body.length : Int)) (by omega) (by omega)) (And.intro (w64i ((b.length : Int) + (body.length : Int) + 5) (by omega) (by omega)) (And.intro (w64 ((b.length : Int) + (body.length : Int)) (by omega) (by omega)) (And.intro (w64 ((b.length : Int) + (body.length : Int) + 5) (by omega) (by omega)) (str_add b (fbytes j body) (by omega)))))
        clear hfl
        have hst : ∀ W, Upd (fun _ => False) w5 W → Asd (W.cell? ⟨w3.heap.size, 0, none⟩ = some (.int .u8 (j.toNat : Int)) ∧ W.cell? ⟨w3.heap.size, 1, none⟩ = some (.slice A3 body.length c3) ∧ (convert 23 9 (.slice A5 (b.length + body.length + 5) c5)).run Try.prog W = .ok (.string (S (b ++ fbytes j body))) W ∧ (convert 23 9 (.slice A b.length c)).run Try.prog W = .ok (.string (S b)) W) := fun W h => ⟨h.cell hx0 (fun h => h), h.cell hx1 (fun h => h), run_str Try.underlying23 Try.underlying5 Try.underlying9 (HR5.out.up h), run_str Try.underlying23 Try.underlying5 Try.underlying9 (HB5.out.up h)⟩
        have HST := Asd.mk hst
        clear hst
        refine wp_region_held_drew (S := (fun W => W.cell? ⟨w3.heap.size, 0, none⟩ = some (.int .u8 (j.toNat : Int)) ∧ W.cell? ⟨w3.heap.size, 1, none⟩ = some (.slice A3 body.length c3) ∧ (convert 23 9 (.slice A5 (b.length + body.length + 5) c5)).run Try.prog W = .ok (.string (S (b ++ fbytes j body))) W ∧ (convert 23 9 (.slice A b.length c)).run Try.prog W = .ok (.string (S b)) W)) (by kernel_rfl) (by (first | exact (HST.out _ HU7.out).out | exact (HST.out _ HU6.out).out | exact (HST.out _ (Upd.refl _ _).drew).out)) (fun hHeld => ?_)
        refine wpAnyH_take (i := 0) (oi := ?_) (v := ?_) ?_ (by kernel_rfl) (by kernel_rfl) (by kernel_rfl) ?_ (Or.inl ⟨?_, ?_⟩) (by assumption) ?_
        rotate_left 2
        · (simp only [List.getElem?_toArray, List.getElem?_cons_succ, List.getElem?_cons_zero]; exact rfl)
        · exact (fun _ _ _ h => h)
        · rfl
        · (intro w hSw; (try dsimp only at hSw); go_simp; (try with_reducible rfl))
        try simp only [Act.put, List.setIfInBounds_toArray, List.set_cons_zero, List.set_cons_succ]
        refine wpAnyH_ready (rs := [1]) (by kernel_rfl) (by simp) (AllReadyH.cons (o := ?_) ?_ (fun K hK => ?_) AllReadyH.nil)
        rotate_left 1
        · (simp only [List.getElem?_toArray, List.getElem?_cons_succ, List.getElem?_cons_zero]; exact rfl)
        (go_simp; go_at_call 21; refine (right_calls _ _ _ _ _).mono ?_; rintro e w6 ⟨rfl, hu⟩; have HU6 : Asd (Upd (fun _ => False) w5 w6) := ⟨Upd.trans (by repeat (first | exact Upd.refl _ _ | refine Upd.drewN ?_ _ | refine Upd.drew ?_ | refine Upd.alloc ?_ _)) hu (fun _ _ h => h)⟩; have HX6 := Asd.mk (HX5.out.up HU6.out); rw [hd8]; clear hu)
        refine hK.out _ _ (by (first | exact (HST.out _ HU7.out).out | exact (HST.out _ HU6.out).out | exact (HST.out _ (Upd.refl _ _).drew).out)) (fun hHeld => ?_)
        clear hK K
        try simp only [Act.put, List.setIfInBounds_toArray, List.set_cons_zero, List.set_cons_succ]
        refine wpAnyH_take (i := 2) (oi := ?_) (v := ?_) ?_ (by kernel_rfl) (by kernel_rfl) (by kernel_rfl) ?_ (Or.inl ⟨?_, ?_⟩) (by assumption) ?_
        rotate_left 2
        · (simp only [List.getElem?_toArray, List.getElem?_cons_succ, List.getElem?_cons_zero]; exact rfl)
        · exact (fun _ _ _ h => h)
        · rfl
        · (intro w hSw; (try dsimp only at hSw); go_simp; (try with_reducible rfl))
        try simp only [Act.put, List.setIfInBounds_toArray, List.set_cons_zero, List.set_cons_succ]
        refine wpAnyH_take (i := 3) (oi := ?_) (v := ?_) ?_ (by kernel_rfl) (by kernel_rfl) (by kernel_rfl) ?_ (Or.inl ⟨?_, ?_⟩) (by assumption) ?_
        rotate_left 2
        · (simp only [List.getElem?_toArray, List.getElem?_cons_succ, List.getElem?_cons_zero]; exact rfl)
        · exact (fun _ _ _ h => h)
        · rfl
        · (intro w hSw; (try dsimp only at hSw); go_simp; (try with_reducible rfl))
        try simp only [Act.put, List.setIfInBounds_toArray, List.set_cons_zero, List.set_cons_succ]
        refine wpAnyH_take (i := 4) (oi := ?_) (v := ?_) ?_ (by kernel_rfl) (by kernel_rfl) (by kernel_rfl) ?_ (Or.inl ⟨?_, ?_⟩) (by assumption) ?_
        rotate_left 2
        · (simp only [List.getElem?_toArray, List.getElem?_cons_succ, List.getElem?_cons_zero]; exact rfl)
        · exact (fun _ _ _ h => h)
        · rfl
        · (intro w hSw; (try dsimp only at hSw); go_simp; (try with_reducible rfl))
        try simp only [Act.put, List.setIfInBounds_toArray, List.set_cons_zero, List.set_cons_succ]
        refine wpAnyH_take (i := 5) (oi := ?_) (v := ?_) ?_ (by kernel_rfl) (by kernel_rfl) (by kernel_rfl) ?_ (Or.inl ⟨?_, ?_⟩) (by assumption) ?_
        rotate_left 2
        · (simp only [List.getElem?_toArray, List.getElem?_cons_succ, List.getElem?_cons_zero]; exact rfl)
        · exact (fun _ _ _ h => h)
        · rfl
        · (intro w hSw; (try dsimp only at hSw); go_simp; (try with_reducible rfl))
        try simp only [Act.put, List.setIfInBounds_toArray, List.set_cons_zero, List.set_cons_succ]
        refine wpAnyH_take (i := 6) (oi := ?_) (v := ?_) ?_ (by kernel_rfl) (by kernel_rfl) (by kernel_rfl) ?_ (Or.inl ⟨?_, ?_⟩) (by assumption) ?_
        rotate_left 2
        · (simp only [List.getElem?_toArray, List.getElem?_cons_succ, List.getElem?_cons_zero]; exact rfl)
        · exact (fun _ _ _ h => h)
        · rfl
        · (intro w hSw; (try dsimp only at hSw); go_simp; (try with_reducible rfl))
        try simp only [Act.put, List.setIfInBounds_toArray, List.set_cons_zero, List.set_cons_succ]
        refine wpAnyH_take (i := 7) (oi := ?_) (v := ?_) ?_ (by kernel_rfl) (by kernel_rfl) (by kernel_rfl) ?_ (Or.inl ⟨?_, ?_⟩) (by assumption) ?_
        rotate_left 2
        · (simp only [List.getElem?_toArray, List.getElem?_cons_succ, List.getElem?_cons_zero]; exact rfl)
        · exact (fun _ _ _ h => h)
        · rfl
        · (intro w hSw; (try dsimp only at hSw); go_simp; (try with_reducible rfl))
        try simp only [Act.put, List.setIfInBounds_toArray, List.set_cons_zero, List.set_cons_succ]
        refine wpAnyH_take (i := 8) (oi := ?_) (v := ?_) ?_ (by kernel_rfl) (by kernel_rfl) (by kernel_rfl) ?_ (Or.inl ⟨?_, ?_⟩) (by assumption) ?_
        rotate_left 2
        · (simp only [List.getElem?_toArray, List.getElem?_cons_succ, List.getElem?_cons_zero]; exact rfl)
        · exact (fun _ _ _ h => h)
        · rfl
        · (intro w hSw; (try dsimp only at hSw); go_simp; (try with_reducible rfl))
        try simp only [Act.put, List.setIfInBounds_toArray, List.set_cons_zero, List.set_cons_succ]
        refine wpAnyH_take (i := 9) (oi := ?_) (v := ?_) ?_ (by kernel_rfl) (by kernel_rfl) (by kernel_rfl) ?_ (Or.inl ⟨?_, ?_⟩) (by assumption) ?_
        rotate_left 2
        · (simp only [List.getElem?_toArray, List.getElem?_cons_succ, List.getElem?_cons_zero]; exact rfl)
        · exact (fun _ _ _ h => h)
        · rfl
        · (intro w hSw; (try dsimp only at hSw); go_simp; (try with_reducible rfl))
        try simp only [Act.put, List.setIfInBounds_toArray, List.set_cons_zero, List.set_cons_succ]
        refine wpAnyH_ready (rs := [10]) (by kernel_rfl) (by simp) (AllReadyH.cons (o := ?_) ?_ (fun K hK => ?_) AllReadyH.nil)
        rotate_left 1
        · (simp only [List.getElem?_toArray, List.getElem?_cons_succ, List.getElem?_cons_zero]; exact rfl)
        (go_simp; go_at_call 22; refine (bytes_calls j A3 c3 body _ HX6.out hbl).mono ?_; rintro e w7 ⟨A7, c7, G7, rfl, ho, hg, hc7, hm7, hu⟩; have HU7 : Asd (Upd (fun _ => False) w5 w7) := ⟨HU6.out.trans hu (fun _ _ h => h)⟩; have hsR7 := run_str (P := Try.prog) (c := c7) Try.underlying23 Try.underlying5 Try.underlying9 ho.rd; clear ho hg hu)
        refine hK.out _ _ (by (first | exact (HST.out _ HU7.out).out | exact (HST.out _ HU6.out).out | exact (HST.out _ (Upd.refl _ _).drew).out)) (fun hHeld => ?_)
        clear hK K
        try simp only [Act.put, List.setIfInBounds_toArray, List.set_cons_zero, List.set_cons_succ]
        refine wpAnyH_ready (rs := [11]) (by kernel_rfl) (by simp) (AllReadyH.cons (o := ?_) ?_ (fun K hK => ?_) AllReadyH.nil)
        rotate_left 1
        · (simp only [List.getElem?_toArray, List.getElem?_cons_succ, List.getElem?_cons_zero]; exact rfl)
        go_simp
        refine hK.out _ _ (by (first | exact (HST.out _ HU7.out).out | exact (HST.out _ HU6.out).out | exact (HST.out _ (Upd.refl _ _).drew).out)) (fun hHeld => ?_)
        clear hK K
        try simp only [Act.put, List.setIfInBounds_toArray, List.set_cons_zero, List.set_cons_succ]
        refine wpAnyH_take (i := 12) (oi := ?_) (v := ?_) ?_ (by kernel_rfl) (by kernel_rfl) (by kernel_rfl) ?_ (Or.inl ⟨?_, ?_⟩) (by assumption) ?_
        rotate_left 2
        · (simp only [List.getElem?_toArray, List.getElem?_cons_succ, List.getElem?_cons_zero]; exact rfl)
        · exact (fun _ _ _ h => h)
        · rfl
        · (intro w hSw; (try dsimp only at hSw); go_simp; (try with_reducible rfl))
        try simp only [Act.put, List.setIfInBounds_toArray, List.set_cons_zero, List.set_cons_succ]
        refine wpAnyH_take (i := 13) (oi := ?_) (v := ?_) ?_ (by kernel_rfl) (by kernel_rfl) (by kernel_rfl) ?_ (Or.inl ⟨?_, ?_⟩) (by assumption) ?_
        rotate_left 2
        · (simp only [List.getElem?_toArray, List.getElem?_cons_succ, List.getElem?_cons_zero]; exact rfl)
        · exact (fun _ _ _ h => h)
        · rfl
        · (intro w hSw; (try dsimp only at hSw); go_simp; (try with_reducible rfl))
        try simp only [Act.put, List.setIfInBounds_toArray, List.set_cons_zero, List.set_cons_succ]
        refine wpAnyH_take (i := 14) (oi := ?_) (v := ?_) ?_ (by kernel_rfl) (by kernel_rfl) (by kernel_rfl) ?_ (Or.inl ⟨?_, ?_⟩) (by assumption) ?_
        rotate_left 2
        · (simp only [List.getElem?_toArray, List.getElem?_cons_succ, List.getElem?_cons_zero]; exact rfl)
        · exact (fun _ _ _ h => h)
        · rfl
        · (intro w hSw; (try dsimp only at hSw); go_simp; (try with_reducible rfl))
        try simp only [Act.put, List.setIfInBounds_toArray, List.set_cons_zero, List.set_cons_succ]
        refine wpAnyH_take (i := 15) (oi := ?_) (v := ?_) ?_ (by kernel_rfl) (by kernel_rfl) (by kernel_rfl) ?_ (Or.inl ⟨?_, ?_⟩) (by assumption) ?_
        rotate_left 2
        · (simp only [List.getElem?_toArray, List.getElem?_cons_succ, List.getElem?_cons_zero]; exact rfl)
        · exact (fun _ _ _ h => h)
        · rfl
        · (intro w hSw; (try dsimp only at hSw); go_simp; (try with_reducible rfl))
        try simp only [Act.put, List.setIfInBounds_toArray, List.set_cons_zero, List.set_cons_succ]
        refine wpAnyH_take (i := 16) (oi := ?_) (v := ?_) ?_ (by kernel_rfl) (by kernel_rfl) (by kernel_rfl) ?_ (Or.inl ⟨?_, ?_⟩) (by assumption) ?_
        rotate_left 2
        · (simp only [List.getElem?_toArray, List.getElem?_cons_succ, List.getElem?_cons_zero]; exact rfl)
        · exact (fun _ _ _ h => h)
        · rfl
        · (intro w hSw; (try dsimp only at hSw); go_simp; (try with_reducible rfl))
        try simp only [Act.put, List.setIfInBounds_toArray, List.set_cons_zero, List.set_cons_succ]
        refine wpAnyH_take (i := 17) (oi := ?_) (v := ?_) ?_ (by kernel_rfl) (by kernel_rfl) (by kernel_rfl) ?_ (Or.inl ⟨?_, ?_⟩) (by assumption) ?_
        rotate_left 2
        · (simp only [List.getElem?_toArray, List.getElem?_cons_succ, List.getElem?_cons_zero]; exact rfl)
        · exact (fun _ _ _ h => h)
        · rfl
        · (intro w hSw; (try dsimp only at hSw); go_simp; (try with_reducible rfl))
        try simp only [Act.put, List.setIfInBounds_toArray, List.set_cons_zero, List.set_cons_succ]
        refine wpAnyH_take (i := 18) (oi := ?_) (v := ?_) ?_ (by kernel_rfl) (by kernel_rfl) (by kernel_rfl) ?_ (Or.inl ⟨?_, ?_⟩) (by assumption) ?_
        rotate_left 2
        · (simp only [List.getElem?_toArray, List.getElem?_cons_succ, List.getElem?_cons_zero]; exact rfl)
        · exact (fun _ _ _ h => h)
        · rfl
        · (intro w hSw; (try dsimp only at hSw); go_simp; (try with_reducible rfl))
        try simp only [Act.put, List.setIfInBounds_toArray, List.set_cons_zero, List.set_cons_succ]
        refine wpAnyH_take (i := 19) (oi := ?_) (v := ?_) ?_ (by kernel_rfl) (by kernel_rfl) (by kernel_rfl) ?_ (Or.inl ⟨?_, ?_⟩) (by assumption) ?_
        rotate_left 2
        · (simp only [List.getElem?_toArray, List.getElem?_cons_succ, List.getElem?_cons_zero]; exact rfl)
        · exact (fun _ _ _ h => h)
        · rfl
        · (intro w hSw; (try dsimp only at hSw); go_simp; (try with_reducible rfl))
        try simp only [Act.put, List.setIfInBounds_toArray, List.set_cons_zero, List.set_cons_succ]
        refine wpAnyH_take (i := 20) (oi := ?_) (v := ?_) ?_ (by kernel_rfl) (by kernel_rfl) (by kernel_rfl) ?_ (Or.inl ⟨?_, ?_⟩) (by assumption) ?_
        rotate_left 2
        · (simp only [List.getElem?_toArray, List.getElem?_cons_succ, List.getElem?_cons_zero]; exact rfl)
        · exact (fun _ _ _ h => h)
        · rfl
        · (intro w hSw; (try dsimp only at hSw); go_simp; (try with_reducible rfl))
        try simp only [Act.put, List.setIfInBounds_toArray, List.set_cons_zero, List.set_cons_succ]
        refine wpAnyH_take (i := 21) (oi := ?_) (v := ?_) ?_ (by kernel_rfl) (by kernel_rfl) (by kernel_rfl) ?_ (Or.inl ⟨?_, ?_⟩) (by assumption) ?_
        rotate_left 2
        · (simp only [List.getElem?_toArray, List.getElem?_cons_succ, List.getElem?_cons_zero]; exact rfl)
        · exact (fun _ _ _ h => h)
        · rfl
        · (intro w hSw; (try dsimp only at hSw); go_simp; (try with_reducible rfl))
        try simp only [Act.put, List.setIfInBounds_toArray, List.set_cons_zero, List.set_cons_succ]
        refine wpAnyH_take (i := 22) (oi := ?_) (v := ?_) ?_ (by kernel_rfl) (by kernel_rfl) (by kernel_rfl) ?_ (Or.inl ⟨?_, ?_⟩) (by assumption) ?_
        rotate_left 2
        · (simp only [List.getElem?_toArray, List.getElem?_cons_succ, List.getElem?_cons_zero]; exact rfl)
        · exact (fun _ _ _ h => h)
        · rfl
        · (intro w hSw; (try dsimp only at hSw); go_simp; (try with_reducible rfl))
        try simp only [Act.put, List.setIfInBounds_toArray, List.set_cons_zero, List.set_cons_succ]
        refine wpAnyH_take (i := 23) (oi := ?_) (v := ?_) ?_ (by kernel_rfl) (by kernel_rfl) (by kernel_rfl) ?_ (Or.inl ⟨?_, ?_⟩) (by assumption) ?_
        rotate_left 2
        · (simp only [List.getElem?_toArray, List.getElem?_cons_succ, List.getElem?_cons_zero]; exact rfl)
        · exact (fun _ _ _ h => h)
        · rfl
        · (intro w hSw; (try dsimp only at hSw); go_simp; (try with_reducible rfl))
        try simp only [Act.put, List.setIfInBounds_toArray, List.set_cons_zero, List.set_cons_succ]
        refine wpAnyH_take (i := 24) (oi := ?_) (v := ?_) ?_ (by kernel_rfl) (by kernel_rfl) (by kernel_rfl) ?_ (Or.inl ⟨?_, ?_⟩) (by assumption) ?_
        rotate_left 2
        · (simp only [List.getElem?_toArray, List.getElem?_cons_succ, List.getElem?_cons_zero]; exact rfl)
        · exact (fun _ _ _ h => h)
        · rfl
        · (intro w hSw; (try dsimp only at hSw); go_simp; (try with_reducible rfl))
        try simp only [Act.put, List.setIfInBounds_toArray, List.set_cons_zero, List.set_cons_succ]
        refine wpAnyH_take (i := 25) (oi := ?_) (v := ?_) ?_ (by kernel_rfl) (by kernel_rfl) (by kernel_rfl) ?_ (Or.inl ⟨?_, ?_⟩) (by assumption) ?_
        rotate_left 2
        · (simp only [List.getElem?_toArray, List.getElem?_cons_succ, List.getElem?_cons_zero]; exact rfl)
        · exact (fun _ _ _ h => h)
        · rfl
        · (intro w hSw; (try dsimp only at hSw); go_simp; (try with_reducible rfl))
        try simp only [Act.put, List.setIfInBounds_toArray, List.set_cons_zero, List.set_cons_succ]
        refine wpAnyH_done (by kernel_rfl) ?_ _
        clear hw5 hw6 hw5' hw6' hadd HST hsR7 hbl hd8 HX6
        have HX7 := Asd.mk (HX5.out.up HU7.out)
        have HV7 := Asd.mk (HU5.out.trans HU7.out (fun _ _ h => h))
        have HR7 := Asd.mk (HR5.out.up HU7.out)
        clear HX5 HR5 HU5 HU7 HU6 HB5
        obtain ⟨A8, hcut, _, hA8, _⟩ := cut_from' (P := Try.prog) 23 5 .i64 (sz := 1) Try.underlying23 (by kernel_rfl) A5 (b.length + body.length + 5) c5 b.length b.length rfl (by omega) hc5
        have hr8 := hA8 rfl _ _ HR7.out
        rw [List.drop_left] at hr8
        have hn8 : b.length + body.length + 5 - b.length = body.length + 5 := by omega
        rw [hn8] at hr8 hcut
        have HR8 := Asd.mk hr8
        clear hA8 hr8 hn8 HR7
        go_wp2_with fail
        refine (get_calls A8 (body.length + 5) (c5 - b.length) (fbytes j body) w7 HR8.out (by omega)).mono ?_
        have hgp := get_put j body [] (by omega)
        rw [List.append_nil] at hgp
        rw [hgp]
        rintro e w9 ⟨A9, c9, G9, rfl, ho, hg, hc9, hm9, hu⟩
        have hv9 := hu.alloc (.cells #[.int .u8 (j.toNat : Int), .slice A9 body.length c9] 32)
        have hsF := run_str (P := Try.prog) (c := c9) Try.underlying23 Try.underlying5 Try.underlying9 (ho.rd.up ((Upd.refl (fun _ => False) w9).alloc (.cells #[.int .u8 (j.toNat : Int), .slice A9 body.length c9] 32)))
        have hsB := run_str (P := Try.prog) (c := c3) Try.underlying23 Try.underlying5 Try.underlying9 (HX7.out.up hv9)
        have HU9 := Asd.mk (HV7.out.trans hv9 (fun _ _ h => h))
        clear ho hg hu hv9 hgp HV7 HX7 HR8 hcut hc9
        go_wp2
        go_ret
        exact ⟨by simp, HU9.out⟩
  | false =>
    have HX1 := Asd.mk (HX.out.up HU.out)
    obtain ⟨body, hbd⟩ : ∃ x, x = body0 := ⟨_, rfl⟩
    subst hbd
    have hbound : body.length ≤ 300 := by omega
    clear HX
    go_wp2_with fail
    refine (put_ok A b.length c b j A2 c2 body _ (HB.out.up (by exact (by repeat (first | exact HU.out | refine Upd.drew ?_ | refine Upd.drewN ?_ _ | refine Upd.alloc ?_ _)))) (HX1.out.up ((Upd.refl (fun _ => False) _).alloc _)) (by omega) (by omega)).mono ?_
    have hl5 : (b ++ fbytes j body).length = b.length + body.length + 5 := by rw [List.length_append, fbytes_length]; omega
    unfold PutPost
    rw [hl5]
    rintro e w5 ⟨A5, c5, G5, rfl, ho, hg, hc5, hm5, hu⟩
    have hb5 := hu.blk (heap_alloc_new w1 _) (fun h => h)
    have hx0 : w5.cell? ⟨w1.heap.size, 0, none⟩ = some (.int .u8 (j.toNat : Int)) := by simp [World.cell?, hb5]
    have hx1 : w5.cell? ⟨w1.heap.size, 1, none⟩ = some (.slice A2 body.length c2) := by simp [World.cell?, hb5]
    have hV : Upd (fun _ => False) w1 w5 := ((Upd.refl _ _).alloc _).trans hu (fun _ _ h => h)
    have HU5 := Asd.mk (HU.out.trans hV (fun _ _ h => h))
    have HX5 := Asd.mk (HX1.out.up hV)
    have HR5 := Asd.mk ho.rd
    have HL5 := Asd.mk hl5
    have HB5 := Asd.mk (HB.out.up HU5.out)
    have hN1 : w1.heap.size < w5.heap.size := blk_lt hb5
    clear ho hg hu hl5 hV HX1 HU hb5
    go_wp2_with fail
    have hd8 : decide (body.length ≤ 2048) = true := decide_eq_true (by omega)
    have hfl := fbytes_length j body
    have hbl : body.length ≤ 140737488351232 := by omega
    obtain ⟨hw5, hw6, hw5', hw6', hadd⟩ := And.intro (w64i ((b.length : Int) + (body.length : Int)) (by omega) (by omega)) (And.intro (w64i ((b.length : Int) + (body.length : Int) + 5) (by omega) (by omega)) (And.intro (w64 ((b.length : Int) + (body.length : Int)) (by omega) (by omega)) (And.intro (w64 ((b.length : Int) + (body.length : Int) + 5) (by omega) (by omega)) (str_add b (fbytes j body) (by omega)))))
    clear hfl
    have hst : ∀ W, Upd (fun _ => False) w5 W → Asd (W.cell? ⟨w1.heap.size, 0, none⟩ = some (.int .u8 (j.toNat : Int)) ∧ W.cell? ⟨w1.heap.size, 1, none⟩ = some (.slice A2 body.length c2) ∧ (convert 23 9 (.slice A5 (b.length + body.length + 5) c5)).run Try.prog W = .ok (.string (S (b ++ fbytes j body))) W ∧ (convert 23 9 (.slice A b.length c)).run Try.prog W = .ok (.string (S b)) W) := fun W h => ⟨h.cell hx0 (fun h => h), h.cell hx1 (fun h => h), run_str Try.underlying23 Try.underlying5 Try.underlying9 (HR5.out.up h), run_str Try.underlying23 Try.underlying5 Try.underlying9 (HB5.out.up h)⟩
    have HST := Asd.mk hst
    clear hst
    refine wp_region_held_drew (S := (fun W => W.cell? ⟨w1.heap.size, 0, none⟩ = some (.int .u8 (j.toNat : Int)) ∧ W.cell? ⟨w1.heap.size, 1, none⟩ = some (.slice A2 body.length c2) ∧ (convert 23 9 (.slice A5 (b.length + body.length + 5) c5)).run Try.prog W = .ok (.string (S (b ++ fbytes j body))) W ∧ (convert 23 9 (.slice A b.length c)).run Try.prog W = .ok (.string (S b)) W)) (by kernel_rfl) (by (first | exact (HST.out _ HU7.out).out | exact (HST.out _ HU6.out).out | exact (HST.out _ (Upd.refl _ _).drew).out)) (fun hHeld => ?_)
    refine wpAnyH_take (i := 0) (oi := ?_) (v := ?_) ?_ (by kernel_rfl) (by kernel_rfl) (by kernel_rfl) ?_ (Or.inl ⟨?_, ?_⟩) (by assumption) ?_
    rotate_left 2
    · (simp only [List.getElem?_toArray, List.getElem?_cons_succ, List.getElem?_cons_zero]; exact rfl)
    · exact (fun _ _ _ h => h)
    · rfl
    · (intro w hSw; (try dsimp only at hSw); go_simp; (try with_reducible rfl))
    try simp only [Act.put, List.setIfInBounds_toArray, List.set_cons_zero, List.set_cons_succ]
    refine wpAnyH_ready (rs := [1]) (by kernel_rfl) (by simp) (AllReadyH.cons (o := ?_) ?_ (fun K hK => ?_) AllReadyH.nil)
    rotate_left 1
    · (simp only [List.getElem?_toArray, List.getElem?_cons_succ, List.getElem?_cons_zero]; exact rfl)
    (go_simp; go_at_call 21; refine (right_calls _ _ _ _ _).mono ?_; rintro e w6 ⟨rfl, hu⟩; have HU6 : Asd (Upd (fun _ => False) w5 w6) := ⟨Upd.trans (by repeat (first | exact Upd.refl _ _ | refine Upd.drewN ?_ _ | refine Upd.drew ?_ | refine Upd.alloc ?_ _)) hu (fun _ _ h => h)⟩; have HX6 := Asd.mk (HX5.out.up HU6.out); rw [hd8]; clear hu)
    refine hK.out _ _ (by (first | exact (HST.out _ HU7.out).out | exact (HST.out _ HU6.out).out | exact (HST.out _ (Upd.refl _ _).drew).out)) (fun hHeld => ?_)
    clear hK K
    try simp only [Act.put, List.setIfInBounds_toArray, List.set_cons_zero, List.set_cons_succ]
    refine wpAnyH_take (i := 2) (oi := ?_) (v := ?_) ?_ (by kernel_rfl) (by kernel_rfl) (by kernel_rfl) ?_ (Or.inl ⟨?_, ?_⟩) (by assumption) ?_
    rotate_left 2
    · (simp only [List.getElem?_toArray, List.getElem?_cons_succ, List.getElem?_cons_zero]; exact rfl)
    · exact (fun _ _ _ h => h)
    · rfl
    · (intro w hSw; (try dsimp only at hSw); go_simp; (try with_reducible rfl))
    try simp only [Act.put, List.setIfInBounds_toArray, List.set_cons_zero, List.set_cons_succ]
    refine wpAnyH_take (i := 3) (oi := ?_) (v := ?_) ?_ (by kernel_rfl) (by kernel_rfl) (by kernel_rfl) ?_ (Or.inl ⟨?_, ?_⟩) (by assumption) ?_
    rotate_left 2
    · (simp only [List.getElem?_toArray, List.getElem?_cons_succ, List.getElem?_cons_zero]; exact rfl)
    · exact (fun _ _ _ h => h)
    · rfl
    · (intro w hSw; (try dsimp only at hSw); go_simp; (try with_reducible rfl))
    try simp only [Act.put, List.setIfInBounds_toArray, List.set_cons_zero, List.set_cons_succ]
    refine wpAnyH_take (i := 4) (oi := ?_) (v := ?_) ?_ (by kernel_rfl) (by kernel_rfl) (by kernel_rfl) ?_ (Or.inl ⟨?_, ?_⟩) (by assumption) ?_
    rotate_left 2
    · (simp only [List.getElem?_toArray, List.getElem?_cons_succ, List.getElem?_cons_zero]; exact rfl)
    · exact (fun _ _ _ h => h)
    · rfl
    · (intro w hSw; (try dsimp only at hSw); go_simp; (try with_reducible rfl))
    try simp only [Act.put, List.setIfInBounds_toArray, List.set_cons_zero, List.set_cons_succ]
    refine wpAnyH_take (i := 5) (oi := ?_) (v := ?_) ?_ (by kernel_rfl) (by kernel_rfl) (by kernel_rfl) ?_ (Or.inl ⟨?_, ?_⟩) (by assumption) ?_
    rotate_left 2
    · (simp only [List.getElem?_toArray, List.getElem?_cons_succ, List.getElem?_cons_zero]; exact rfl)
    · exact (fun _ _ _ h => h)
    · rfl
    · (intro w hSw; (try dsimp only at hSw); go_simp; (try with_reducible rfl))
    try simp only [Act.put, List.setIfInBounds_toArray, List.set_cons_zero, List.set_cons_succ]
    refine wpAnyH_take (i := 6) (oi := ?_) (v := ?_) ?_ (by kernel_rfl) (by kernel_rfl) (by kernel_rfl) ?_ (Or.inl ⟨?_, ?_⟩) (by assumption) ?_
    rotate_left 2
    · (simp only [List.getElem?_toArray, List.getElem?_cons_succ, List.getElem?_cons_zero]; exact rfl)
    · exact (fun _ _ _ h => h)
    · rfl
    · (intro w hSw; (try dsimp only at hSw); go_simp; (try with_reducible rfl))
    try simp only [Act.put, List.setIfInBounds_toArray, List.set_cons_zero, List.set_cons_succ]
    refine wpAnyH_take (i := 7) (oi := ?_) (v := ?_) ?_ (by kernel_rfl) (by kernel_rfl) (by kernel_rfl) ?_ (Or.inl ⟨?_, ?_⟩) (by assumption) ?_
    rotate_left 2
    · (simp only [List.getElem?_toArray, List.getElem?_cons_succ, List.getElem?_cons_zero]; exact rfl)
    · exact (fun _ _ _ h => h)
    · rfl
    · (intro w hSw; (try dsimp only at hSw); go_simp; (try with_reducible rfl))
    try simp only [Act.put, List.setIfInBounds_toArray, List.set_cons_zero, List.set_cons_succ]
    refine wpAnyH_take (i := 8) (oi := ?_) (v := ?_) ?_ (by kernel_rfl) (by kernel_rfl) (by kernel_rfl) ?_ (Or.inl ⟨?_, ?_⟩) (by assumption) ?_
    rotate_left 2
    · (simp only [List.getElem?_toArray, List.getElem?_cons_succ, List.getElem?_cons_zero]; exact rfl)
    · exact (fun _ _ _ h => h)
    · rfl
    · (intro w hSw; (try dsimp only at hSw); go_simp; (try with_reducible rfl))
    try simp only [Act.put, List.setIfInBounds_toArray, List.set_cons_zero, List.set_cons_succ]
    refine wpAnyH_take (i := 9) (oi := ?_) (v := ?_) ?_ (by kernel_rfl) (by kernel_rfl) (by kernel_rfl) ?_ (Or.inl ⟨?_, ?_⟩) (by assumption) ?_
    rotate_left 2
    · (simp only [List.getElem?_toArray, List.getElem?_cons_succ, List.getElem?_cons_zero]; exact rfl)
    · exact (fun _ _ _ h => h)
    · rfl
    · (intro w hSw; (try dsimp only at hSw); go_simp; (try with_reducible rfl))
    try simp only [Act.put, List.setIfInBounds_toArray, List.set_cons_zero, List.set_cons_succ]
    refine wpAnyH_ready (rs := [10]) (by kernel_rfl) (by simp) (AllReadyH.cons (o := ?_) ?_ (fun K hK => ?_) AllReadyH.nil)
    rotate_left 1
    · (simp only [List.getElem?_toArray, List.getElem?_cons_succ, List.getElem?_cons_zero]; exact rfl)
    (go_simp; go_at_call 22; refine (bytes_calls j A2 c2 body _ HX6.out hbl).mono ?_; rintro e w7 ⟨A7, c7, G7, rfl, ho, hg, hc7, hm7, hu⟩; have HU7 : Asd (Upd (fun _ => False) w5 w7) := ⟨HU6.out.trans hu (fun _ _ h => h)⟩; have hsR7 := run_str (P := Try.prog) (c := c7) Try.underlying23 Try.underlying5 Try.underlying9 ho.rd; clear ho hg hu)
    refine hK.out _ _ (by (first | exact (HST.out _ HU7.out).out | exact (HST.out _ HU6.out).out | exact (HST.out _ (Upd.refl _ _).drew).out)) (fun hHeld => ?_)
    clear hK K
    try simp only [Act.put, List.setIfInBounds_toArray, List.set_cons_zero, List.set_cons_succ]
    refine wpAnyH_ready (rs := [11]) (by kernel_rfl) (by simp) (AllReadyH.cons (o := ?_) ?_ (fun K hK => ?_) AllReadyH.nil)
    rotate_left 1
    · (simp only [List.getElem?_toArray, List.getElem?_cons_succ, List.getElem?_cons_zero]; exact rfl)
    go_simp
    refine hK.out _ _ (by (first | exact (HST.out _ HU7.out).out | exact (HST.out _ HU6.out).out | exact (HST.out _ (Upd.refl _ _).drew).out)) (fun hHeld => ?_)
    clear hK K
    try simp only [Act.put, List.setIfInBounds_toArray, List.set_cons_zero, List.set_cons_succ]
    refine wpAnyH_take (i := 12) (oi := ?_) (v := ?_) ?_ (by kernel_rfl) (by kernel_rfl) (by kernel_rfl) ?_ (Or.inl ⟨?_, ?_⟩) (by assumption) ?_
    rotate_left 2
    · (simp only [List.getElem?_toArray, List.getElem?_cons_succ, List.getElem?_cons_zero]; exact rfl)
    · exact (fun _ _ _ h => h)
    · rfl
    · (intro w hSw; (try dsimp only at hSw); go_simp; (try with_reducible rfl))
    try simp only [Act.put, List.setIfInBounds_toArray, List.set_cons_zero, List.set_cons_succ]
    refine wpAnyH_take (i := 13) (oi := ?_) (v := ?_) ?_ (by kernel_rfl) (by kernel_rfl) (by kernel_rfl) ?_ (Or.inl ⟨?_, ?_⟩) (by assumption) ?_
    rotate_left 2
    · (simp only [List.getElem?_toArray, List.getElem?_cons_succ, List.getElem?_cons_zero]; exact rfl)
    · exact (fun _ _ _ h => h)
    · rfl
    · (intro w hSw; (try dsimp only at hSw); go_simp; (try with_reducible rfl))
    try simp only [Act.put, List.setIfInBounds_toArray, List.set_cons_zero, List.set_cons_succ]
    refine wpAnyH_take (i := 14) (oi := ?_) (v := ?_) ?_ (by kernel_rfl) (by kernel_rfl) (by kernel_rfl) ?_ (Or.inl ⟨?_, ?_⟩) (by assumption) ?_
    rotate_left 2
    · (simp only [List.getElem?_toArray, List.getElem?_cons_succ, List.getElem?_cons_zero]; exact rfl)
    · exact (fun _ _ _ h => h)
    · rfl
    · (intro w hSw; (try dsimp only at hSw); go_simp; (try with_reducible rfl))
    try simp only [Act.put, List.setIfInBounds_toArray, List.set_cons_zero, List.set_cons_succ]
    refine wpAnyH_take (i := 15) (oi := ?_) (v := ?_) ?_ (by kernel_rfl) (by kernel_rfl) (by kernel_rfl) ?_ (Or.inl ⟨?_, ?_⟩) (by assumption) ?_
    rotate_left 2
    · (simp only [List.getElem?_toArray, List.getElem?_cons_succ, List.getElem?_cons_zero]; exact rfl)
    · exact (fun _ _ _ h => h)
    · rfl
    · (intro w hSw; (try dsimp only at hSw); go_simp; (try with_reducible rfl))
    try simp only [Act.put, List.setIfInBounds_toArray, List.set_cons_zero, List.set_cons_succ]
    refine wpAnyH_take (i := 16) (oi := ?_) (v := ?_) ?_ (by kernel_rfl) (by kernel_rfl) (by kernel_rfl) ?_ (Or.inl ⟨?_, ?_⟩) (by assumption) ?_
    rotate_left 2
    · (simp only [List.getElem?_toArray, List.getElem?_cons_succ, List.getElem?_cons_zero]; exact rfl)
    · exact (fun _ _ _ h => h)
    · rfl
    · (intro w hSw; (try dsimp only at hSw); go_simp; (try with_reducible rfl))
    try simp only [Act.put, List.setIfInBounds_toArray, List.set_cons_zero, List.set_cons_succ]
    refine wpAnyH_take (i := 17) (oi := ?_) (v := ?_) ?_ (by kernel_rfl) (by kernel_rfl) (by kernel_rfl) ?_ (Or.inl ⟨?_, ?_⟩) (by assumption) ?_
    rotate_left 2
    · (simp only [List.getElem?_toArray, List.getElem?_cons_succ, List.getElem?_cons_zero]; exact rfl)
    · exact (fun _ _ _ h => h)
    · rfl
    · (intro w hSw; (try dsimp only at hSw); go_simp; (try with_reducible rfl))
    try simp only [Act.put, List.setIfInBounds_toArray, List.set_cons_zero, List.set_cons_succ]
    refine wpAnyH_take (i := 18) (oi := ?_) (v := ?_) ?_ (by kernel_rfl) (by kernel_rfl) (by kernel_rfl) ?_ (Or.inl ⟨?_, ?_⟩) (by assumption) ?_
    rotate_left 2
    · (simp only [List.getElem?_toArray, List.getElem?_cons_succ, List.getElem?_cons_zero]; exact rfl)
    · exact (fun _ _ _ h => h)
    · rfl
    · (intro w hSw; (try dsimp only at hSw); go_simp; (try with_reducible rfl))
    try simp only [Act.put, List.setIfInBounds_toArray, List.set_cons_zero, List.set_cons_succ]
    refine wpAnyH_take (i := 19) (oi := ?_) (v := ?_) ?_ (by kernel_rfl) (by kernel_rfl) (by kernel_rfl) ?_ (Or.inl ⟨?_, ?_⟩) (by assumption) ?_
    rotate_left 2
    · (simp only [List.getElem?_toArray, List.getElem?_cons_succ, List.getElem?_cons_zero]; exact rfl)
    · exact (fun _ _ _ h => h)
    · rfl
    · (intro w hSw; (try dsimp only at hSw); go_simp; (try with_reducible rfl))
    try simp only [Act.put, List.setIfInBounds_toArray, List.set_cons_zero, List.set_cons_succ]
    refine wpAnyH_take (i := 20) (oi := ?_) (v := ?_) ?_ (by kernel_rfl) (by kernel_rfl) (by kernel_rfl) ?_ (Or.inl ⟨?_, ?_⟩) (by assumption) ?_
    rotate_left 2
    · (simp only [List.getElem?_toArray, List.getElem?_cons_succ, List.getElem?_cons_zero]; exact rfl)
    · exact (fun _ _ _ h => h)
    · rfl
    · (intro w hSw; (try dsimp only at hSw); go_simp; (try with_reducible rfl))
    try simp only [Act.put, List.setIfInBounds_toArray, List.set_cons_zero, List.set_cons_succ]
    refine wpAnyH_take (i := 21) (oi := ?_) (v := ?_) ?_ (by kernel_rfl) (by kernel_rfl) (by kernel_rfl) ?_ (Or.inl ⟨?_, ?_⟩) (by assumption) ?_
    rotate_left 2
    · (simp only [List.getElem?_toArray, List.getElem?_cons_succ, List.getElem?_cons_zero]; exact rfl)
    · exact (fun _ _ _ h => h)
    · rfl
    · (intro w hSw; (try dsimp only at hSw); go_simp; (try with_reducible rfl))
    try simp only [Act.put, List.setIfInBounds_toArray, List.set_cons_zero, List.set_cons_succ]
    refine wpAnyH_take (i := 22) (oi := ?_) (v := ?_) ?_ (by kernel_rfl) (by kernel_rfl) (by kernel_rfl) ?_ (Or.inl ⟨?_, ?_⟩) (by assumption) ?_
    rotate_left 2
    · (simp only [List.getElem?_toArray, List.getElem?_cons_succ, List.getElem?_cons_zero]; exact rfl)
    · exact (fun _ _ _ h => h)
    · rfl
    · (intro w hSw; (try dsimp only at hSw); go_simp; (try with_reducible rfl))
    try simp only [Act.put, List.setIfInBounds_toArray, List.set_cons_zero, List.set_cons_succ]
    refine wpAnyH_take (i := 23) (oi := ?_) (v := ?_) ?_ (by kernel_rfl) (by kernel_rfl) (by kernel_rfl) ?_ (Or.inl ⟨?_, ?_⟩) (by assumption) ?_
    rotate_left 2
    · (simp only [List.getElem?_toArray, List.getElem?_cons_succ, List.getElem?_cons_zero]; exact rfl)
    · exact (fun _ _ _ h => h)
    · rfl
    · (intro w hSw; (try dsimp only at hSw); go_simp; (try with_reducible rfl))
    try simp only [Act.put, List.setIfInBounds_toArray, List.set_cons_zero, List.set_cons_succ]
    refine wpAnyH_take (i := 24) (oi := ?_) (v := ?_) ?_ (by kernel_rfl) (by kernel_rfl) (by kernel_rfl) ?_ (Or.inl ⟨?_, ?_⟩) (by assumption) ?_
    rotate_left 2
    · (simp only [List.getElem?_toArray, List.getElem?_cons_succ, List.getElem?_cons_zero]; exact rfl)
    · exact (fun _ _ _ h => h)
    · rfl
    · (intro w hSw; (try dsimp only at hSw); go_simp; (try with_reducible rfl))
    try simp only [Act.put, List.setIfInBounds_toArray, List.set_cons_zero, List.set_cons_succ]
    refine wpAnyH_take (i := 25) (oi := ?_) (v := ?_) ?_ (by kernel_rfl) (by kernel_rfl) (by kernel_rfl) ?_ (Or.inl ⟨?_, ?_⟩) (by assumption) ?_
    rotate_left 2
    · (simp only [List.getElem?_toArray, List.getElem?_cons_succ, List.getElem?_cons_zero]; exact rfl)
    · exact (fun _ _ _ h => h)
    · rfl
    · (intro w hSw; (try dsimp only at hSw); go_simp; (try with_reducible rfl))
    try simp only [Act.put, List.setIfInBounds_toArray, List.set_cons_zero, List.set_cons_succ]
    refine wpAnyH_done (by kernel_rfl) ?_ _
    clear hw5 hw6 hw5' hw6' hadd HST hsR7 hbl hd8 HX6
    have HX7 := Asd.mk (HX5.out.up HU7.out)
    have HV7 := Asd.mk (HU5.out.trans HU7.out (fun _ _ h => h))
    have HR7 := Asd.mk (HR5.out.up HU7.out)
    clear HX5 HR5 HU5 HU7 HU6 HB5
    obtain ⟨A8, hcut, _, hA8, _⟩ := cut_from' (P := Try.prog) 23 5 .i64 (sz := 1) Try.underlying23 (by kernel_rfl) A5 (b.length + body.length + 5) c5 b.length b.length rfl (by omega) hc5
    have hr8 := hA8 rfl _ _ HR7.out
    rw [List.drop_left] at hr8
    have hn8 : b.length + body.length + 5 - b.length = body.length + 5 := by omega
    rw [hn8] at hr8 hcut
    have HR8 := Asd.mk hr8
    clear hA8 hr8 hn8 HR7
    go_wp2_with fail
    refine (get_calls A8 (body.length + 5) (c5 - b.length) (fbytes j body) w7 HR8.out (by omega)).mono ?_
    have hgp := get_put j body [] (by omega)
    rw [List.append_nil] at hgp
    rw [hgp]
    rintro e w9 ⟨A9, c9, G9, rfl, ho, hg, hc9, hm9, hu⟩
    have hv9 := hu.alloc (.cells #[.int .u8 (j.toNat : Int), .slice A9 body.length c9] 32)
    have hsF := run_str (P := Try.prog) (c := c9) Try.underlying23 Try.underlying5 Try.underlying9 (ho.rd.up ((Upd.refl (fun _ => False) w9).alloc (.cells #[.int .u8 (j.toNat : Int), .slice A9 body.length c9] 32)))
    have hsB := run_str (P := Try.prog) (c := c2) Try.underlying23 Try.underlying5 Try.underlying9 (HX7.out.up hv9)
    have HU9 := Asd.mk (HV7.out.trans hv9 (fun _ _ h => h))
    clear ho hg hu hv9 hgp HV7 HX7 HR8 hcut hc9
    go_wp2
    go_ret
    exact ⟨by simp, HU9.out⟩
end Go.Proofs.Ytahbcjgbhfkhbaa.FrPuts
