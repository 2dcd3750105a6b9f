/- The law ViewTiles: what its call comes to, for every input. -/
import Derived.Test.YtpphejjdgplalaaViewLaws
import Derived.Deep.RegionHeld3
set_option linter.unusedVariables false
set_option linter.unusedSimpArgs false
namespace Go.Proofs.Ytpphejjdgplalaa.Vw
open Go.RowKit K Rg MgRow Mg MgTwo
set_option maxHeartbeats 4000000 in
set_option maxRecDepth 100000 in
theorem tiles_walk (w : World) (size : Int) (ws : (Lit.int .i64 size).wf = true) (A : Option Addr) (n c : Nat) (LL : List (List UInt8)) (hL : RSlice RBytes 1 w [.slice A n c] LL) (back : Int) (wb : (Lit.int .i64 back).wf = true) (AR : Option Addr) (nr cr : Nat) (RL : List Int) (hR : RdI w .i64 AR nr RL) (hcr : nr ≤ cr) (hmr : cr ≤ maxLen) :
    Calls Try.prog 9 #[.int .i64 size, .slice A n c, .int .i64 back, .slice AR nr cr] w fun e w' => e = .returned (.bool true) ∧ Upd (fun _ => False) w w' := by
  obtain ⟨A', c', he, hE, hc, hm, _⟩ := hL
  simp only [List.cons.injEq, Value.slice.injEq, and_true] at he
  obtain ⟨rfl, rfl, rfl⟩ := he
  obtain ⟨n, hn⟩ : ∃ n, n = LL.length := ⟨_, rfl⟩
  rw [← hn] at hc hE
  rw [← hn]
  have HE := Asd.mk hE
  have hlim := hE.lim
  have hlimr := hR.lim
  have HR0 := Asd.mk hR
  obtain ⟨s, hs, hs1, hs2⟩ := size_exists size 200 (by omega) (by omega)
  have hs := (show wrap64 (1 + wrap64 ((IntKind.u64.wrap size).tmod 200)) = (s : Int) from hs)
  have hbk : -9223372036854775808 ≤ back ∧ back ≤ 9223372036854775807 := by
    simp only [Lit.wf, Bool.and_eq_true, decide_eq_true_eq] at wb
    exact wb
  have HN := Asd.mk hn
  clear hE wb ws hm hmr hR hn
  go_enter Try.func9, Try.ntmps9
  go_wp2_with fail
  refine (head_calls _).mono ?_
  rintro e w1 ⟨rfl, hu⟩
  by_cases hb1 : 40 < n
  · go_wp2
    go_ret
    exact ⟨rfl, hu⟩
  by_cases hb2 : 40 < nr
  · go_wp2
    go_ret
    exact ⟨rfl, hu⟩
  have HU := Asd.mk hu
  clear hu
  go_wp2_with fail
  refine (Rg.new_calls (s : Int) w1).mono ?_
  rw [RgLasts.roomN_eq s hs1 (by omega)]
  rintro e w2 ⟨q, g, rfl, hq, hu, h1, h2⟩
  have HQ := Asd.mk hq
  have HU2 := Asd.mk (HU.out.trans hu (fun _ _ h => h))
  have h1 : w.heap.size ≤ q := Nat.le_trans HU.out.size h1
  have h2 : w.heap.size ≤ g := Nat.le_trans HU.out.size h2
  clear hq hu HU
  go_wp2_with fail
  refine (new_calls HQ.out back hbk false).mono ?_
  have hst0 : startN [] s back false = 0 := by
    simp only [startN, startA, mx, Bool.false_eq_true, if_false, List.length_nil]
    split <;> split <;> omega
  rw [hst0]
  rintro e w4 ⟨v, rfl, hv, hu, hv1⟩
  have hl3 := Bare.lt HQ.out q (.inl rfl)
  have hl4 := Bare.lt HQ.out g (.inr rfl)
  have hne : ¬ Its q g v := fun h => by rcases h with rfl | rfl <;> omega
  have hvw : w.heap.size ≤ v := Nat.le_trans HU2.out.size hv1
  have HNE := Asd.mk hne
  have HV := Asd.mk hv
  have HR := Asd.mk (HQ.out.up hu)
  have HU := Asd.mk (HU2.out.trans hu (fun _ _ h => h))
  clear hv hu hl3 hl4 hne HQ HU2 hv1 hst0
  go_wp2_with fail
  refine (at_calls HV.out).mono ?_
  rintro e w5 ⟨rfl, rfl⟩
  go_wp2
  go_loopw [11, 12, 13, 45] (fun v11 v12 v13 v45 wr => ∃ (i p st : Nat) (L : List UInt8), v11 = .string (S L) ∧ v12 = .int .i64 (p : Int) ∧ v13 = .int .i64 (st : Int) ∧ v45 = .int .i64 (i : Int) ∧ i ≤ n ∧ p ≤ L.length ∧ st ≤ 3 * i ∧ L.length ≤ 300 * i ∧ Asd (V wr v p st) ∧ Asd (Ring wr q g s L) ∧ Asd (Upd (fun _ => False) w wr)) (fun _ _ _ v45 _ => n - (intOf v45).toNat)
  case atStart => exact ⟨0, 0, 0, [], rfl, rfl, rfl, rfl, by omega, by simp, by omega, by simp, HV, HR, HU⟩
  case round =>
    clear HV HR HU
    obtain ⟨i, p, st, l, rfl, rfl, rfl, rfl, hi, hp, hst, hll, HV, HR, HU⟩ := hrel
    by_cases hlt : i < n
    · obtain ⟨ad, cs, e, hlen, hr, hcell⟩ := HE.out.at_ i hlt
      subst e
      obtain ⟨b, hb⟩ : ∃ b, b = LL[i]'(by rw [← HN.out]; exact hlt) := ⟨_, rfl⟩
      rw [← hb] at hr
      obtain ⟨Ab, cb, hcs, hrd, hcb1, hcb2, _⟩ := hr
      subst hcs
      have hcb : wr.cell? (ad.add i) = some (.slice Ab b.length cb) := by have := hcell 0 _ rfl; rw [Nat.mul_one, Nat.add_zero] at this; exact HU.out.cell this (fun h => h)
      have hblim := hrd.lim
      clear hcell hlen hb
      by_cases hbig : 300 < b.length
      · go_wp2
        go_ret
        exact ⟨rfl, HU.out⟩
      have HRD := Asd.mk hrd
      have HLT : Asd (∀ ad, Ab = some ad → 0 < b.length → ad.block < w.heap.size) := ⟨fun ad e hp => by
        obtain ⟨ad', e', hcc⟩ := hrd.at 0 hp
        obtain rfl := Option.some.inj (e.symm.trans e')
        have := World.block_lt_of_cell? w _ hcc
        rwa [add_block] at this⟩
      clear hrd
      go_wp2_with fail
      have hstl : ∀ W, Upd (Its q g) wr W → Rd W Ab b.length b := fun W k => by
        rcases Nat.eq_zero_or_pos b.length with h0 | h0
        · have : b = [] := List.eq_nil_of_length_eq_zero h0
          subst this
          exact ⟨rfl, by simp, Row.nil _ _⟩
        · refine (HRD.out.up HU.out).upd k (fun ad e h => ?_)
          have := HLT.out ad e h0
          rcases h with rfl | rfl <;> omega
      refine (append_still HR.out Ab b.length cb b hstl (by omega)).mono ?_
      rintro e w5 ⟨rfl, hr5, hu5⟩
      have HR5 := Asd.mk hr5
      have HV5 := Asd.mk (HV.out.up hu5 HNE.out)
      have HU5 : Asd (Upd (fun _ => False) w w5) := ⟨HU.out.trans hu5 (fun i hi h => by rcases h with rfl | rfl <;> omega)⟩
      have hcv : ∀ W, Upd (fun _ => False) w W → (convert 27 9 (.slice Ab b.length cb)).run Try.prog W = .ok (.string (S b)) W := fun W k => run_str Try.underlying27 Try.underlying5 Try.underlying9 (HRD.out.up k)
      have hu6 := HU5.out
      have hstr := str_add l b (by omega)
      obtain ⟨L, hL⟩ : ∃ L, L = l ++ b := ⟨_, rfl⟩
      rw [← hL] at hstr HR5
      have hLl : L.length = l.length + b.length := by rw [hL, List.length_append]
      have hpL : p ≤ L.length := by omega
      have hL300 : L.length ≤ 300 * (i + 1) := by omega
      have hL12 : L.length ≤ 12000 := by omega
      clear hr5 hu5 hstl HR HV HU hcb hL hLl
      by_cases hir : i < nr
      · obtain ⟨adr, rfl, hcr⟩ := (HR0.out.up HU5.out).at_ i hir
        obtain ⟨x, hx⟩ : ∃ x, x = RL[i]'(by rw [HR0.out.len]; exact hir) := ⟨_, rfl⟩
        rw [← hx] at hcr
        obtain ⟨rm, hrm, hand0⟩ := and_le x 127 (by omega)
        have hand : Go.bits .and .i64 x 127 = (rm : Int) := hand0
        clear hx hand0
        obtain ⟨wo, rfl⟩ : ∃ wo : World, wo = w5 := ⟨_, rfl⟩
        go_wp2
        go_loopw [12, 13, 17] (fun v12 v13 v17 wr => ∃ (p st k : Nat), v12 = .int .i64 (p : Int) ∧ v13 = .int .i64 (st : Int) ∧ v17 = .int .i64 (k : Int) ∧ k ≤ 3 ∧ p ≤ L.length ∧ st ≤ 3 * i + k ∧ Asd (V wr v p st) ∧ Asd (Ring wr q g s L) ∧ Asd (Upd (fun _ => False) w wr)) (fun _ _ v17 _ => 3 - (intOf v17).toNat)
        case atStart => exact ⟨p, st, 0, rfl, rfl, rfl, by omega, hpL, by omega, HV5, HR5, HU5⟩
        case round =>
          clear HV5 HR5 HU5 hp hst
          obtain ⟨p, st, k, rfl, rfl, rfl, hk, hp, hst, HV, HR, HU⟩ := hrel
          by_cases hk3 : k < 3
          · go_wp2_with fail
            refine (next_calls HR.out HV.out HNE.out hp (by omega) (rm : Int) 30 1000 (by omega) (by omega)).mono ?_
            obtain ⟨y, hy⟩ : ∃ y, y = next L s p st (rm : Int) 30 1000 := ⟨_, rfl⟩
            rw [← hy]
            unfold next at hy
            obtain ⟨base, hbase⟩ : ∃ base, base = L.length - s := ⟨_, rfl⟩
            rw [← hbase] at hy
            have HBS := Asd.mk hbase
            have hn1000 : ¬ ((1000 : Int) ≤ (st : Int)) := by omega
            clear hbase
            have HPOST : ∀ (p' st' : Nat) (w6 : World), V w6 v p' st' → Upd (fun i => i = v) wr w6 → Asd (V w6 v p' st') ∧ Asd (Ring w6 q g s L) ∧ Asd (Upd (fun _ => False) w w6) ∧ v < w6.heap.size := fun p' st' w6 hv hu => ⟨⟨hv⟩, ⟨HR.out.upd hu (fun i h e => HNE.out (e ▸ h))⟩, ⟨HU.out.trans hu (fun i hi e => by omega)⟩, blk_lt hv⟩
            replace HPOST := Asd.mk HPOST
            by_cases hgap : p < base
            · rw [if_pos hgap] at hy
              by_cases hr17 : (rm : Int) < 17
              · rw [if_pos (.inr hr17)] at hy
                subst hy
                rintro e w6 ⟨rfl, hv, hu⟩
                obtain ⟨HVn, HRn, HUn, hvs⟩ := HPOST.out _ _ _ hv hu
                clear hv hu HPOST HR HV HU
                simp only [msgV]
                have hS0 : (S [] : ByteArray) = { data := #[] } := rfl
                rw [hS0]
                go_wp2_with fail
                refine (base_calls (HRn.out.up ((Upd.refl (fun _ => False) _).alloc _))).mono ?_
                rw [← HBS.out]
                rintro e w7 ⟨rfl, rfl⟩
                go_wp2
                go_ret
                exact ⟨by first | (simp; done) | (simp; omega), HUn.out.alloc _⟩
              · rw [if_neg (by omega)] at hy
                subst hy
                rintro e w6 ⟨rfl, hv, hu⟩
                obtain ⟨HVn, HRn, HUn, hvs⟩ := HPOST.out _ _ _ hv hu
                clear hv hu HPOST HR HV HU
                simp only [msgV]
                have hq1 : ¬ ((base : Int) ≤ (p : Int)) := by omega
                have hn17 : (nums 7 : Nat) = 2 := by decide
                have HN17 := Asd.mk hn17
                clear hn17
                go_wp2_with fail
                refine (size_calls 7 (p : Int) (base : Int) [] _ (by simp)).mono ?_
                rw [HN17.out]
                rintro e w7 ⟨rfl, hu⟩
                have hx17 : ((5 + 6 * 2 + ([] : List UInt8).length : Nat) : Int) = 17 := rfl
                rw [hx17]
                have hb7 := hu.blk (blk_new rfl) (fun h => h)
                have z0 := keepsC (o := 0) hb7 rfl
                have z1 := keepsC (o := 1) hb7 rfl
                have z2 := keepsC (o := 2) hb7 rfl
                have z3 := keepsC (o := 3) hb7 rfl
                have HR7 := Asd.mk ((HRn.out.up ((Upd.refl (fun _ => False) _).alloc _)).up hu)
                have HV7 := Asd.mk ((HVn.out.up ((Upd.refl (fun _ => False) _).alloc _) (fun h => h)).up hu (fun h => h))
                have HU7 := Asd.mk ((HUn.out.alloc _).trans hu (fun _ _ h => h))
                have HUk : Upd (fun _ => False) w7 w7 := Upd.refl _ _
                have hself : ((base : Int) != (base : Int)) = false := bne_self_eq_false _
                have hq2 : decide ((base : Int) ≤ (p : Int)) = false := decide_eq_false (by omega)
                have hq3 : decide ((p : Int) ≥ (base : Int)) = false := decide_eq_false (by omega)
                have hq4 : decide (base ≤ p) = false := decide_eq_false (by omega)
                have hbl2 : base ≤ L.length := by have := HBS.out; omega
                clear hu hb7 hx17 HVn HRn HUn
                go_wp2_with fail
                refine wp_region_held_drew (S := fun W => Upd (fun _ => False) w7 W) (by kernel_rfl) (by exact (by repeat (first | assumption | with_reducible exact Upd.refl _ _ | with_reducible refine Upd.drewN ?_ _ | with_reducible refine Upd.drew ?_ | with_reducible refine Upd.alloc ?_ _ | with_reducible refine Upd.setAt ?_ ?_ | exact Or.inl rfl | exact Or.inr (by simp) | exact Or.inr (by omega)))) (fun hHeld => ?_)
                refine wpAnyH_take (i := 0) (oi := ?_) (v := ?_) ?_ (by kernel_rfl) (by kernel_rfl) (by kernel_rfl) ?_ (Or.inl ⟨?_, ?_⟩) (by assumption) ?_
                rotate_left 2
                · (simp only [List.getElem?_toArray, List.getElem?_cons_succ, List.getElem?_cons_zero]; exact rfl)
                · exact (fun _ _ _ h => h)
                · rfl
                · (intro w hSw; (try dsimp only at hSw); go_simp; (try with_reducible rfl))
                try simp only [Act.put, List.setIfInBounds_toArray, List.set_cons_zero, List.set_cons_succ]
                refine wpAnyH_take (i := 1) (oi := ?_) (v := ?_) ?_ (by kernel_rfl) (by kernel_rfl) (by kernel_rfl) ?_ (Or.inl ⟨?_, ?_⟩) (by assumption) ?_
                rotate_left 2
                · (simp only [List.getElem?_toArray, List.getElem?_cons_succ, List.getElem?_cons_zero]; exact rfl)
                · exact (fun _ _ _ h => h)
                · rfl
                · (intro w hSw; (try dsimp only at hSw); go_simp; (try with_reducible rfl))
                try simp only [Act.put, List.setIfInBounds_toArray, List.set_cons_zero, List.set_cons_succ]
                refine wpAnyH_take (i := 2) (oi := ?_) (v := ?_) ?_ (by kernel_rfl) (by kernel_rfl) (by kernel_rfl) ?_ (Or.inl ⟨?_, ?_⟩) (by assumption) ?_
                rotate_left 2
                · (simp only [List.getElem?_toArray, List.getElem?_cons_succ, List.getElem?_cons_zero]; exact rfl)
                · exact (fun _ _ _ h => h)
                · rfl
                · (intro w hSw; (try dsimp only at hSw); go_simp; (try with_reducible rfl))
                try simp only [Act.put, List.setIfInBounds_toArray, List.set_cons_zero, List.set_cons_succ]
                refine wpAnyH_take (i := 3) (oi := ?_) (v := ?_) ?_ (by kernel_rfl) (by kernel_rfl) (by kernel_rfl) ?_ (Or.inl ⟨?_, ?_⟩) (by assumption) ?_
                rotate_left 2
                · (simp only [List.getElem?_toArray, List.getElem?_cons_succ, List.getElem?_cons_zero]; exact rfl)
                · exact (fun _ _ _ h => h)
                · rfl
                · (intro w hSw; (try dsimp only at hSw); go_simp; (try with_reducible rfl))
                try simp only [Act.put, List.setIfInBounds_toArray, List.set_cons_zero, List.set_cons_succ]
                refine wpAnyH_take (i := 4) (oi := ?_) (v := ?_) ?_ (by kernel_rfl) (by kernel_rfl) (by kernel_rfl) ?_ (Or.inl ⟨?_, ?_⟩) (by assumption) ?_
                rotate_left 2
                · (simp only [List.getElem?_toArray, List.getElem?_cons_succ, List.getElem?_cons_zero]; exact rfl)
                · exact (fun _ _ _ h => h)
                · rfl
                · (intro w hSw; (try dsimp only at hSw); go_simp; (try with_reducible rfl))
                try simp only [Act.put, List.setIfInBounds_toArray, List.set_cons_zero, List.set_cons_succ]
                refine wpAnyH_take (i := 5) (oi := ?_) (v := ?_) ?_ (by kernel_rfl) (by kernel_rfl) (by kernel_rfl) ?_ (Or.inl ⟨?_, ?_⟩) (by assumption) ?_
                rotate_left 2
                · (simp only [List.getElem?_toArray, List.getElem?_cons_succ, List.getElem?_cons_zero]; exact rfl)
                · exact (fun _ _ _ h => h)
                · rfl
                · (intro w hSw; (try dsimp only at hSw); go_simp; (try with_reducible rfl))
                try simp only [Act.put, List.setIfInBounds_toArray, List.set_cons_zero, List.set_cons_succ]
                refine wpAnyH_take (i := 6) (oi := ?_) (v := ?_) ?_ (by kernel_rfl) (by kernel_rfl) (by kernel_rfl) ?_ (Or.inl ⟨?_, ?_⟩) (by assumption) ?_
                rotate_left 2
                · (simp only [List.getElem?_toArray, List.getElem?_cons_succ, List.getElem?_cons_zero]; exact rfl)
                · exact (fun _ _ _ h => h)
                · rfl
                · (intro w hSw; (try dsimp only at hSw); go_simp; (try with_reducible rfl))
                try simp only [Act.put, List.setIfInBounds_toArray, List.set_cons_zero, List.set_cons_succ]
                refine wpAnyH_take (i := 7) (oi := ?_) (v := ?_) ?_ (by kernel_rfl) (by kernel_rfl) (by kernel_rfl) ?_ (Or.inl ⟨?_, ?_⟩) (by assumption) ?_
                rotate_left 2
                · (simp only [List.getElem?_toArray, List.getElem?_cons_succ, List.getElem?_cons_zero]; exact rfl)
                · exact (fun _ _ _ h => h)
                · rfl
                · (intro w hSw; (try dsimp only at hSw); go_simp; (try with_reducible rfl))
                try simp only [Act.put, List.setIfInBounds_toArray, List.set_cons_zero, List.set_cons_succ]
                refine wpAnyH_take (i := 8) (oi := ?_) (v := ?_) ?_ (by kernel_rfl) (by kernel_rfl) (by kernel_rfl) ?_ (Or.inl ⟨?_, ?_⟩) (by assumption) ?_
                rotate_left 2
                · (simp only [List.getElem?_toArray, List.getElem?_cons_succ, List.getElem?_cons_zero]; exact rfl)
                · exact (fun _ _ _ h => h)
                · rfl
                · (intro w hSw; (try dsimp only at hSw); go_simp; (try with_reducible rfl))
                try simp only [Act.put, List.setIfInBounds_toArray, List.set_cons_zero, List.set_cons_succ]
                refine wpAnyH_ready (rs := [9]) (by kernel_rfl) (by simp) (AllReadyH.cons (o := ?_) ?_ (fun K hK => ?_) AllReadyH.nil)
                rotate_left 1
                · (simp only [List.getElem?_toArray, List.getElem?_cons_succ, List.getElem?_cons_zero]; exact rfl)
                (go_simp; (go_at_call 19; refine (base_calls (HR7.out.up (by repeat (first | assumption | with_reducible exact Upd.refl _ _ | with_reducible refine Upd.drewN ?_ _ | with_reducible refine Upd.drew ?_ | with_reducible refine Upd.alloc ?_ _ | with_reducible refine Upd.setAt ?_ ?_ | exact Or.inl rfl | exact Or.inr (by simp) | exact Or.inr (by omega))))).mono ?_; rw [← HBS.out]; rintro e wn ⟨rfl, rfl⟩))
                refine hK.out _ _ (by exact (by repeat (first | assumption | with_reducible exact Upd.refl _ _ | with_reducible refine Upd.drewN ?_ _ | with_reducible refine Upd.drew ?_ | with_reducible refine Upd.alloc ?_ _ | with_reducible refine Upd.setAt ?_ ?_ | exact Or.inl rfl | exact Or.inr (by simp) | exact Or.inr (by omega)))) (fun hHeld => ?_)
                clear hK K
                try simp only [Act.put, List.setIfInBounds_toArray, List.set_cons_zero, List.set_cons_succ]
                refine wpAnyH_take (i := 10) (oi := ?_) (v := ?_) ?_ (by kernel_rfl) (by kernel_rfl) (by kernel_rfl) ?_ (Or.inl ⟨?_, ?_⟩) (by assumption) ?_
                rotate_left 2
                · (simp only [List.getElem?_toArray, List.getElem?_cons_succ, List.getElem?_cons_zero]; exact rfl)
                · exact (fun _ _ _ h => h)
                · rfl
                · (intro w hSw; (try dsimp only at hSw); go_simp; (try with_reducible rfl))
                try simp only [Act.put, List.setIfInBounds_toArray, List.set_cons_zero, List.set_cons_succ]
                refine wpAnyH_take (i := 11) (oi := ?_) (v := ?_) ?_ (by kernel_rfl) (by kernel_rfl) (by kernel_rfl) ?_ (Or.inl ⟨?_, ?_⟩) (by assumption) ?_
                rotate_left 2
                · (simp only [List.getElem?_toArray, List.getElem?_cons_succ, List.getElem?_cons_zero]; exact rfl)
                · exact (fun _ _ _ h => h)
                · rfl
                · (intro w hSw; (try dsimp only at hSw); go_simp; (try with_reducible rfl))
                try simp only [Act.put, List.setIfInBounds_toArray, List.set_cons_zero, List.set_cons_succ]
                refine wpAnyH_done (by kernel_rfl) ?_ _
                go_wp2
                go_roundw
                case rel => exact ⟨base, st + 1, k + 1, rfl, by go_num, by go_num, by omega, hbl2, by omega, ⟨by first | exact HV7.out | exact HV7.out.up ((Upd.refl (fun _ => False) _).drew) (fun h => h)⟩, ⟨by first | exact HR7.out | exact HR7.out.up ((Upd.refl _ _).drew)⟩, ⟨by first | exact HU7.out | exact HU7.out.drew⟩⟩
                case measure => simp only [intOf]; omega
            · rw [if_neg hgap] at hy
              obtain ⟨bs, hbs⟩ : ∃ bs, bs = (L.drop p).take (roomOf (rm : Int) 30).toNat := ⟨_, rfl⟩
              rw [← hbs] at hy
              by_cases hb0 : bs = []
              · rw [if_pos hb0] at hy
                subst hy
                rintro e w6 ⟨rfl, hv, hu⟩
                obtain ⟨HVn, HRn, HUn, hvs⟩ := HPOST.out _ _ _ hv hu
                clear hv hu HPOST HR HV HU hbs hb0
                simp only [msgV]
                go_wp2
                go_roundw
                case rel => exact ⟨i + 1, p, st, L, rfl, rfl, rfl, by go_num, by omega, hp, by omega, hL300, ⟨HVn.out.up ((Upd.refl (fun _ => False) _).alloc _) (fun h => h)⟩, ⟨HRn.out.up ((Upd.refl _ _).alloc _)⟩, ⟨HUn.out.alloc _⟩⟩
                case measure => simp only [intOf]; omega
              · rw [if_neg hb0] at hy
                subst hy
                have hbl : bs.length = min (roomOf (rm : Int) 30).toNat (L.length - p) := by rw [hbs, List.length_take, List.length_drop]
                have hb1 : 1 ≤ bs.length := Nat.pos_of_ne_zero (fun e => hb0 (List.eq_nil_of_length_eq_zero e))
                have hrl : ((11 + bs.length : Nat) : Int) ≤ (rm : Int) := by
                  have h1 : bs.length ≤ (roomOf (rm : Int) 30).toNat := by omega
                  have h2 : roomOf (rm : Int) 30 ≤ mx (rm : Int) 0 - 11 := by unfold roomOf mn; split <;> split <;> omega
                  have h3 : mx (rm : Int) 0 = (rm : Int) := by unfold mx; split <;> omega
                  omega
                have hpe : p + bs.length ≤ L.length := by omega
                have hdt : (L.drop p).take (L.length - p) = L.drop p := List.take_of_length_le (by rw [List.length_drop]; exact Nat.le_refl _)
                have hcut : (L.drop p).take bs.length = bs := by
                  rw [hbl, ← List.take_take, hdt]
                  exact hbs.symm
                clear hdt
                rintro e w6 ⟨rfl, hv, hu⟩
                obtain ⟨HVn, HRn, HUn, hvs⟩ := HPOST.out _ _ _ hv hu
                clear hv hu HPOST HR HV HU hbs hbl
                simp only [msgV]
                have hn6 : (nums 6 : Nat) = 1 := by decide
                have HN6 := Asd.mk hn6
                have HB0 := Asd.mk hb0
                clear hn6 hb0
                go_wp2_with fail
                refine (size_calls 6 (p : Int) 0 bs _ (by omega)).mono ?_
                rw [HN6.out]
                rintro e w7 ⟨rfl, hu⟩
                have hx11 : ((5 + 6 * 1 + bs.length : Nat) : Int) = ((11 + bs.length : Nat) : Int) := rfl
                rw [hx11]
                have hb7 := hu.blk (blk_new rfl) (fun h => h)
                have z0 := keepsC (o := 0) hb7 rfl
                have z1 := keepsC (o := 1) hb7 rfl
                have z2 := keepsC (o := 2) hb7 rfl
                have z3 := keepsC (o := 3) hb7 rfl
                have HR7 := Asd.mk ((HRn.out.up ((Upd.refl (fun _ => False) _).alloc _)).up hu)
                have HV7 := Asd.mk ((HVn.out.up ((Upd.refl (fun _ => False) _).alloc _) (fun h => h)).up hu (fun h => h))
                have HU7 := Asd.mk ((HUn.out.alloc _).trans hu (fun _ _ h => h))
                have HUk : Upd (fun _ => False) w7 w7 := Upd.refl _ _
                have hnr : ¬ ((rm : Int) < ((11 + bs.length : Nat) : Int)) := by omega
                have hsl : ∀ wx, (Instr.slice 9 (.string (S L)) (some (.int .i64 (p : Int))) (some (.int .i64 ((p : Int) + (bs.length : Int)))) none).run Try.prog wx = .ok (.string (S bs)) wx := fun wx => by
                  rw [run_slice_string wx 9 (S L) .i64 .i64 (p : Int) ((p : Int) + (bs.length : Int)) Try.underlying9 (by omega) (by omega) (by rw [S_size]; omega), S_extract]
                  rw [show ((p : Int) + (bs.length : Int)).toNat - (p : Int).toNat = bs.length by omega, Int.toNat_natCast, hcut]
                have hgt : decide ((p : Int) + (bs.length : Int) > (L.length : Int)) = false := decide_eq_false (by omega)
                have hgt2 : decide ((L.length : Int) < (p : Int) + (bs.length : Int)) = false := decide_eq_false (by omega)
                have hft : (bs == []) = false := beq_eq_false_iff_ne.2 HB0.out
                have hself : (bs != bs) = false := bne_self_eq_false _
                have hempty : ({ data := #[] } : ByteArray).toList = [] := by rw [ByteArray.toList_eq]
                clear hu hb7 hx11 HVn HRn HUn hcut
                go_wp2
                go_quiet (fail)
                go_wp2
                go_roundw
                case rel => exact ⟨p + bs.length, st, k + 1, by go_num, rfl, by go_num, by omega, hpe, by omega, ⟨by first | exact HV7.out | exact HV7.out.up ((Upd.refl (fun _ => False) _).drew) (fun h => h) | exact HV7.out.up ((Upd.refl (fun _ => False) _).drewN _) (fun h => h)⟩, ⟨by first | exact HR7.out | exact HR7.out.up ((Upd.refl _ _).drew) | exact HR7.out.up ((Upd.refl _ _).drewN _)⟩, ⟨by first | exact HU7.out | exact HU7.out.drew | exact HU7.out.drewN _⟩⟩
                case measure => simp only [intOf]; omega
          · have hk2 : k = 3 := by omega
            subst hk2
            go_wp2
            go_roundw
            case rel => exact ⟨i + 1, p, st, L, rfl, rfl, rfl, by go_num, by omega, hp, by omega, hL300, HV, HR, HU⟩
            case measure => simp only [intOf]; omega
      · 
        obtain ⟨wo, rfl⟩ : ∃ wo : World, wo = w5 := ⟨_, rfl⟩
        go_wp2
        go_loopw [12, 13, 17] (fun v12 v13 v17 wr => ∃ (p st k : Nat), v12 = .int .i64 (p : Int) ∧ v13 = .int .i64 (st : Int) ∧ v17 = .int .i64 (k : Int) ∧ k ≤ 3 ∧ p ≤ L.length ∧ st ≤ 3 * i + k ∧ Asd (V wr v p st) ∧ Asd (Ring wr q g s L) ∧ Asd (Upd (fun _ => False) w wr)) (fun _ _ v17 _ => 3 - (intOf v17).toNat)
        case atStart => exact ⟨p, st, 0, rfl, rfl, rfl, by omega, hpL, by omega, HV5, HR5, HU5⟩
        case round =>
          clear HV5 HR5 HU5 hp hst
          obtain ⟨p, st, k, rfl, rfl, rfl, hk, hp, hst, HV, HR, HU⟩ := hrel
          by_cases hk3 : k < 3
          · go_wp2_with fail
            refine (next_calls HR.out HV.out HNE.out hp (by omega) (40 : Int) 30 1000 (by omega) (by omega)).mono ?_
            obtain ⟨y, hy⟩ : ∃ y, y = next L s p st (40 : Int) 30 1000 := ⟨_, rfl⟩
            rw [← hy]
            unfold next at hy
            obtain ⟨base, hbase⟩ : ∃ base, base = L.length - s := ⟨_, rfl⟩
            rw [← hbase] at hy
            have HBS := Asd.mk hbase
            have hn1000 : ¬ ((1000 : Int) ≤ (st : Int)) := by omega
            clear hbase
            have HPOST : ∀ (p' st' : Nat) (w6 : World), V w6 v p' st' → Upd (fun i => i = v) wr w6 → Asd (V w6 v p' st') ∧ Asd (Ring w6 q g s L) ∧ Asd (Upd (fun _ => False) w w6) ∧ v < w6.heap.size := fun p' st' w6 hv hu => ⟨⟨hv⟩, ⟨HR.out.upd hu (fun i h e => HNE.out (e ▸ h))⟩, ⟨HU.out.trans hu (fun i hi e => by omega)⟩, blk_lt hv⟩
            replace HPOST := Asd.mk HPOST
            by_cases hgap : p < base
            · rw [if_pos hgap] at hy
              by_cases hr17 : (40 : Int) < 17
              · exact absurd hr17 (by omega)
              · rw [if_neg (by omega)] at hy
                subst hy
                rintro e w6 ⟨rfl, hv, hu⟩
                obtain ⟨HVn, HRn, HUn, hvs⟩ := HPOST.out _ _ _ hv hu
                clear hv hu HPOST HR HV HU
                simp only [msgV]
                have hq1 : ¬ ((base : Int) ≤ (p : Int)) := by omega
                have hn17 : (nums 7 : Nat) = 2 := by decide
                have HN17 := Asd.mk hn17
                clear hn17
                go_wp2_with fail
                refine (size_calls 7 (p : Int) (base : Int) [] _ (by simp)).mono ?_
                rw [HN17.out]
                rintro e w7 ⟨rfl, hu⟩
                have hx17 : ((5 + 6 * 2 + ([] : List UInt8).length : Nat) : Int) = 17 := rfl
                rw [hx17]
                have hb7 := hu.blk (blk_new rfl) (fun h => h)
                have z0 := keepsC (o := 0) hb7 rfl
                have z1 := keepsC (o := 1) hb7 rfl
                have z2 := keepsC (o := 2) hb7 rfl
                have z3 := keepsC (o := 3) hb7 rfl
                have HR7 := Asd.mk ((HRn.out.up ((Upd.refl (fun _ => False) _).alloc _)).up hu)
                have HV7 := Asd.mk ((HVn.out.up ((Upd.refl (fun _ => False) _).alloc _) (fun h => h)).up hu (fun h => h))
                have HU7 := Asd.mk ((HUn.out.alloc _).trans hu (fun _ _ h => h))
                have HUk : Upd (fun _ => False) w7 w7 := Upd.refl _ _
                have hself : ((base : Int) != (base : Int)) = false := bne_self_eq_false _
                have hq2 : decide ((base : Int) ≤ (p : Int)) = false := decide_eq_false (by omega)
                have hq3 : decide ((p : Int) ≥ (base : Int)) = false := decide_eq_false (by omega)
                have hq4 : decide (base ≤ p) = false := decide_eq_false (by omega)
                have hbl2 : base ≤ L.length := by have := HBS.out; omega
                clear hu hb7 hx17 HVn HRn HUn
                go_wp2_with fail
                refine wp_region_held_drew (S := fun W => Upd (fun _ => False) w7 W) (by kernel_rfl) (by exact (by repeat (first | assumption | with_reducible exact Upd.refl _ _ | with_reducible refine Upd.drewN ?_ _ | with_reducible refine Upd.drew ?_ | with_reducible refine Upd.alloc ?_ _ | with_reducible refine Upd.setAt ?_ ?_ | exact Or.inl rfl | exact Or.inr (by simp) | exact Or.inr (by omega)))) (fun hHeld => ?_)
                refine wpAnyH_take (i := 0) (oi := ?_) (v := ?_) ?_ (by kernel_rfl) (by kernel_rfl) (by kernel_rfl) ?_ (Or.inl ⟨?_, ?_⟩) (by assumption) ?_
                rotate_left 2
                · (simp only [List.getElem?_toArray, List.getElem?_cons_succ, List.getElem?_cons_zero]; exact rfl)
                · exact (fun _ _ _ h => h)
                · rfl
                · (intro w hSw; (try dsimp only at hSw); go_simp; (try with_reducible rfl))
                try simp only [Act.put, List.setIfInBounds_toArray, List.set_cons_zero, List.set_cons_succ]
                refine wpAnyH_take (i := 1) (oi := ?_) (v := ?_) ?_ (by kernel_rfl) (by kernel_rfl) (by kernel_rfl) ?_ (Or.inl ⟨?_, ?_⟩) (by assumption) ?_
                rotate_left 2
                · (simp only [List.getElem?_toArray, List.getElem?_cons_succ, List.getElem?_cons_zero]; exact rfl)
                · exact (fun _ _ _ h => h)
                · rfl
                · (intro w hSw; (try dsimp only at hSw); go_simp; (try with_reducible rfl))
                try simp only [Act.put, List.setIfInBounds_toArray, List.set_cons_zero, List.set_cons_succ]
                refine wpAnyH_take (i := 2) (oi := ?_) (v := ?_) ?_ (by kernel_rfl) (by kernel_rfl) (by kernel_rfl) ?_ (Or.inl ⟨?_, ?_⟩) (by assumption) ?_
                rotate_left 2
                · (simp only [List.getElem?_toArray, List.getElem?_cons_succ, List.getElem?_cons_zero]; exact rfl)
                · exact (fun _ _ _ h => h)
                · rfl
                · (intro w hSw; (try dsimp only at hSw); go_simp; (try with_reducible rfl))
                try simp only [Act.put, List.setIfInBounds_toArray, List.set_cons_zero, List.set_cons_succ]
                refine wpAnyH_take (i := 3) (oi := ?_) (v := ?_) ?_ (by kernel_rfl) (by kernel_rfl) (by kernel_rfl) ?_ (Or.inl ⟨?_, ?_⟩) (by assumption) ?_
                rotate_left 2
                · (simp only [List.getElem?_toArray, List.getElem?_cons_succ, List.getElem?_cons_zero]; exact rfl)
                · exact (fun _ _ _ h => h)
                · rfl
                · (intro w hSw; (try dsimp only at hSw); go_simp; (try with_reducible rfl))
                try simp only [Act.put, List.setIfInBounds_toArray, List.set_cons_zero, List.set_cons_succ]
                refine wpAnyH_take (i := 4) (oi := ?_) (v := ?_) ?_ (by kernel_rfl) (by kernel_rfl) (by kernel_rfl) ?_ (Or.inl ⟨?_, ?_⟩) (by assumption) ?_
                rotate_left 2
                · (simp only [List.getElem?_toArray, List.getElem?_cons_succ, List.getElem?_cons_zero]; exact rfl)
                · exact (fun _ _ _ h => h)
                · rfl
                · (intro w hSw; (try dsimp only at hSw); go_simp; (try with_reducible rfl))
                try simp only [Act.put, List.setIfInBounds_toArray, List.set_cons_zero, List.set_cons_succ]
                refine wpAnyH_take (i := 5) (oi := ?_) (v := ?_) ?_ (by kernel_rfl) (by kernel_rfl) (by kernel_rfl) ?_ (Or.inl ⟨?_, ?_⟩) (by assumption) ?_
                rotate_left 2
                · (simp only [List.getElem?_toArray, List.getElem?_cons_succ, List.getElem?_cons_zero]; exact rfl)
                · exact (fun _ _ _ h => h)
                · rfl
                · (intro w hSw; (try dsimp only at hSw); go_simp; (try with_reducible rfl))
                try simp only [Act.put, List.setIfInBounds_toArray, List.set_cons_zero, List.set_cons_succ]
                refine wpAnyH_take (i := 6) (oi := ?_) (v := ?_) ?_ (by kernel_rfl) (by kernel_rfl) (by kernel_rfl) ?_ (Or.inl ⟨?_, ?_⟩) (by assumption) ?_
                rotate_left 2
                · (simp only [List.getElem?_toArray, List.getElem?_cons_succ, List.getElem?_cons_zero]; exact rfl)
                · exact (fun _ _ _ h => h)
                · rfl
                · (intro w hSw; (try dsimp only at hSw); go_simp; (try with_reducible rfl))
                try simp only [Act.put, List.setIfInBounds_toArray, List.set_cons_zero, List.set_cons_succ]
                refine wpAnyH_take (i := 7) (oi := ?_) (v := ?_) ?_ (by kernel_rfl) (by kernel_rfl) (by kernel_rfl) ?_ (Or.inl ⟨?_, ?_⟩) (by assumption) ?_
                rotate_left 2
                · (simp only [List.getElem?_toArray, List.getElem?_cons_succ, List.getElem?_cons_zero]; exact rfl)
                · exact (fun _ _ _ h => h)
                · rfl
                · (intro w hSw; (try dsimp only at hSw); go_simp; (try with_reducible rfl))
                try simp only [Act.put, List.setIfInBounds_toArray, List.set_cons_zero, List.set_cons_succ]
                refine wpAnyH_take (i := 8) (oi := ?_) (v := ?_) ?_ (by kernel_rfl) (by kernel_rfl) (by kernel_rfl) ?_ (Or.inl ⟨?_, ?_⟩) (by assumption) ?_
                rotate_left 2
                · (simp only [List.getElem?_toArray, List.getElem?_cons_succ, List.getElem?_cons_zero]; exact rfl)
                · exact (fun _ _ _ h => h)
                · rfl
                · (intro w hSw; (try dsimp only at hSw); go_simp; (try with_reducible rfl))
                try simp only [Act.put, List.setIfInBounds_toArray, List.set_cons_zero, List.set_cons_succ]
                refine wpAnyH_ready (rs := [9]) (by kernel_rfl) (by simp) (AllReadyH.cons (o := ?_) ?_ (fun K hK => ?_) AllReadyH.nil)
                rotate_left 1
                · (simp only [List.getElem?_toArray, List.getElem?_cons_succ, List.getElem?_cons_zero]; exact rfl)
                (go_simp; (go_at_call 19; refine (base_calls (HR7.out.up (by repeat (first | assumption | with_reducible exact Upd.refl _ _ | with_reducible refine Upd.drewN ?_ _ | with_reducible refine Upd.drew ?_ | with_reducible refine Upd.alloc ?_ _ | with_reducible refine Upd.setAt ?_ ?_ | exact Or.inl rfl | exact Or.inr (by simp) | exact Or.inr (by omega))))).mono ?_; rw [← HBS.out]; rintro e wn ⟨rfl, rfl⟩))
                refine hK.out _ _ (by exact (by repeat (first | assumption | with_reducible exact Upd.refl _ _ | with_reducible refine Upd.drewN ?_ _ | with_reducible refine Upd.drew ?_ | with_reducible refine Upd.alloc ?_ _ | with_reducible refine Upd.setAt ?_ ?_ | exact Or.inl rfl | exact Or.inr (by simp) | exact Or.inr (by omega)))) (fun hHeld => ?_)
                clear hK K
                try simp only [Act.put, List.setIfInBounds_toArray, List.set_cons_zero, List.set_cons_succ]
                refine wpAnyH_take (i := 10) (oi := ?_) (v := ?_) ?_ (by kernel_rfl) (by kernel_rfl) (by kernel_rfl) ?_ (Or.inl ⟨?_, ?_⟩) (by assumption) ?_
                rotate_left 2
                · (simp only [List.getElem?_toArray, List.getElem?_cons_succ, List.getElem?_cons_zero]; exact rfl)
                · exact (fun _ _ _ h => h)
                · rfl
                · (intro w hSw; (try dsimp only at hSw); go_simp; (try with_reducible rfl))
                try simp only [Act.put, List.setIfInBounds_toArray, List.set_cons_zero, List.set_cons_succ]
                refine wpAnyH_take (i := 11) (oi := ?_) (v := ?_) ?_ (by kernel_rfl) (by kernel_rfl) (by kernel_rfl) ?_ (Or.inl ⟨?_, ?_⟩) (by assumption) ?_
                rotate_left 2
                · (simp only [List.getElem?_toArray, List.getElem?_cons_succ, List.getElem?_cons_zero]; exact rfl)
                · exact (fun _ _ _ h => h)
                · rfl
                · (intro w hSw; (try dsimp only at hSw); go_simp; (try with_reducible rfl))
                try simp only [Act.put, List.setIfInBounds_toArray, List.set_cons_zero, List.set_cons_succ]
                refine wpAnyH_done (by kernel_rfl) ?_ _
                go_wp2
                go_roundw
                case rel => exact ⟨base, st + 1, k + 1, rfl, by go_num, by go_num, by omega, hbl2, by omega, ⟨by first | exact HV7.out | exact HV7.out.up ((Upd.refl (fun _ => False) _).drew) (fun h => h)⟩, ⟨by first | exact HR7.out | exact HR7.out.up ((Upd.refl _ _).drew)⟩, ⟨by first | exact HU7.out | exact HU7.out.drew⟩⟩
                case measure => simp only [intOf]; omega
            · rw [if_neg hgap] at hy
              obtain ⟨bs, hbs⟩ : ∃ bs, bs = (L.drop p).take (roomOf (40 : Int) 30).toNat := ⟨_, rfl⟩
              rw [← hbs] at hy
              by_cases hb0 : bs = []
              · rw [if_pos hb0] at hy
                subst hy
                rintro e w6 ⟨rfl, hv, hu⟩
                obtain ⟨HVn, HRn, HUn, hvs⟩ := HPOST.out _ _ _ hv hu
                clear hv hu HPOST HR HV HU hbs hb0
                simp only [msgV]
                go_wp2
                go_roundw
                case rel => exact ⟨i + 1, p, st, L, rfl, rfl, rfl, by go_num, by omega, hp, by omega, hL300, ⟨HVn.out.up ((Upd.refl (fun _ => False) _).alloc _) (fun h => h)⟩, ⟨HRn.out.up ((Upd.refl _ _).alloc _)⟩, ⟨HUn.out.alloc _⟩⟩
                case measure => simp only [intOf]; omega
              · rw [if_neg hb0] at hy
                subst hy
                have hbl : bs.length = min (roomOf (40 : Int) 30).toNat (L.length - p) := by rw [hbs, List.length_take, List.length_drop]
                have hb1 : 1 ≤ bs.length := Nat.pos_of_ne_zero (fun e => hb0 (List.eq_nil_of_length_eq_zero e))
                have hrl : ((11 + bs.length : Nat) : Int) ≤ (40 : Int) := by
                  have h1 : bs.length ≤ (roomOf (40 : Int) 30).toNat := by omega
                  have h2 : roomOf (40 : Int) 30 ≤ mx (40 : Int) 0 - 11 := by unfold roomOf mn; split <;> split <;> omega
                  have h3 : mx (40 : Int) 0 = (40 : Int) := by unfold mx; split <;> omega
                  omega
                have hpe : p + bs.length ≤ L.length := by omega
                have hdt : (L.drop p).take (L.length - p) = L.drop p := List.take_of_length_le (by rw [List.length_drop]; exact Nat.le_refl _)
                have hcut : (L.drop p).take bs.length = bs := by
                  rw [hbl, ← List.take_take, hdt]
                  exact hbs.symm
                clear hdt
                rintro e w6 ⟨rfl, hv, hu⟩
                obtain ⟨HVn, HRn, HUn, hvs⟩ := HPOST.out _ _ _ hv hu
                clear hv hu HPOST HR HV HU hbs hbl
                simp only [msgV]
                have hn6 : (nums 6 : Nat) = 1 := by decide
                have HN6 := Asd.mk hn6
                have HB0 := Asd.mk hb0
                clear hn6 hb0
                go_wp2_with fail
                refine (size_calls 6 (p : Int) 0 bs _ (by omega)).mono ?_
                rw [HN6.out]
                rintro e w7 ⟨rfl, hu⟩
                have hx11 : ((5 + 6 * 1 + bs.length : Nat) : Int) = ((11 + bs.length : Nat) : Int) := rfl
                rw [hx11]
                have hb7 := hu.blk (blk_new rfl) (fun h => h)
                have z0 := keepsC (o := 0) hb7 rfl
                have z1 := keepsC (o := 1) hb7 rfl
                have z2 := keepsC (o := 2) hb7 rfl
                have z3 := keepsC (o := 3) hb7 rfl
                have HR7 := Asd.mk ((HRn.out.up ((Upd.refl (fun _ => False) _).alloc _)).up hu)
                have HV7 := Asd.mk ((HVn.out.up ((Upd.refl (fun _ => False) _).alloc _) (fun h => h)).up hu (fun h => h))
                have HU7 := Asd.mk ((HUn.out.alloc _).trans hu (fun _ _ h => h))
                have HUk : Upd (fun _ => False) w7 w7 := Upd.refl _ _
                have hnr : ¬ ((40 : Int) < ((11 + bs.length : Nat) : Int)) := by omega
                have hsl : ∀ wx, (Instr.slice 9 (.string (S L)) (some (.int .i64 (p : Int))) (some (.int .i64 ((p : Int) + (bs.length : Int)))) none).run Try.prog wx = .ok (.string (S bs)) wx := fun wx => by
                  rw [run_slice_string wx 9 (S L) .i64 .i64 (p : Int) ((p : Int) + (bs.length : Int)) Try.underlying9 (by omega) (by omega) (by rw [S_size]; omega), S_extract]
                  rw [show ((p : Int) + (bs.length : Int)).toNat - (p : Int).toNat = bs.length by omega, Int.toNat_natCast, hcut]
                have hgt : decide ((p : Int) + (bs.length : Int) > (L.length : Int)) = false := decide_eq_false (by omega)
                have hgt2 : decide ((L.length : Int) < (p : Int) + (bs.length : Int)) = false := decide_eq_false (by omega)
                have hft : (bs == []) = false := beq_eq_false_iff_ne.2 HB0.out
                have hself : (bs != bs) = false := bne_self_eq_false _
                have hempty : ({ data := #[] } : ByteArray).toList = [] := by rw [ByteArray.toList_eq]
                clear hu hb7 hx11 HVn HRn HUn hcut
                go_wp2
                go_quiet (fail)
                go_wp2
                go_roundw
                case rel => exact ⟨p + bs.length, st, k + 1, by go_num, rfl, by go_num, by omega, hpe, by omega, ⟨by first | exact HV7.out | exact HV7.out.up ((Upd.refl (fun _ => False) _).drew) (fun h => h) | exact HV7.out.up ((Upd.refl (fun _ => False) _).drewN _) (fun h => h)⟩, ⟨by first | exact HR7.out | exact HR7.out.up ((Upd.refl _ _).drew) | exact HR7.out.up ((Upd.refl _ _).drewN _)⟩, ⟨by first | exact HU7.out | exact HU7.out.drew | exact HU7.out.drewN _⟩⟩
                case measure => simp only [intOf]; omega
          · have hk2 : k = 3 := by omega
            subst hk2
            go_wp2
            go_roundw
            case rel => exact ⟨i + 1, p, st, L, rfl, rfl, rfl, by go_num, by omega, hp, by omega, hL300, HV, HR, HU⟩
            case measure => simp only [intOf]; omega

    · go_wp2_with fail
      refine (at_calls HV.out).mono ?_
      rintro e w5 ⟨rfl, rfl⟩
      go_wp2_with fail
      refine (strikes_calls HV.out).mono ?_
      rintro e w5 ⟨rfl, rfl⟩
      go_wp2
      go_ret
      exact ⟨by simp, HU.out⟩
end Go.Proofs.Ytpphejjdgplalaa.Vw
