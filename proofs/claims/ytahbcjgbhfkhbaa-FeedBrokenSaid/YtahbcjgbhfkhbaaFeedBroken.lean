/- The law FeedBroken: what its call comes to, for every input. -/
import Derived.Test.YtahbcjgbhfkhbaaFeedTwo
set_option linter.unusedVariables false
set_option linter.unusedSimpArgs false
namespace Go.Proofs.Ytahbcjgbhfkhbaa.FdBroken
open Go.RowKit K Crc Sm Fr FrMath LGet FdMath Fee FdAll FdLaws FdTwo

set_option maxHeartbeats 4000000 in
set_option maxRecDepth 100000 in
theorem broken_walk (w : World) (A : Option Addr) (n c : Nat) (L : List (Int × List UInt8)) (hL : RSlice (R2 (RInt .u8) RBytes) 2 w [.slice A n c] L) (A2 : Option Addr) (n2 c2 : Nat) (L2 : List (List UInt8)) (hL2 : RSlice RBytes 1 w [.slice A2 n2 c2] L2) :
    Calls Try.prog 12 #[.slice A n c, .slice A2 n2 c2] w fun e w' => e = .returned (.bool true) ∧ Upd (fun _ => False) w w' := by
  obtain ⟨LF, rfl, hrow, hfr, hc, hm, hlim⟩ := frs_of hL
  obtain ⟨A', c', he, hE2, hc2, hm2, _⟩ := hL2
  simp only [List.cons.injEq, Value.slice.injEq, and_true] at he
  obtain ⟨rfl, rfl, rfl⟩ := he
  clear hL
  have HROW := Asd.mk hrow
  have HFR := Asd.mk hfr
  have HE2 := Asd.mk hE2
  have hlim2 := hE2.lim
  clear hrow hfr hm hm2 hE2
  go_enter Try.func12, Try.ntmps12
  go_wp2_with fail
  refine (FdLaws.head_calls _).mono ?_
  rintro e w1 ⟨rfl, hu⟩
  have HU := Asd.mk hu
  clear hu
  by_cases h3 : 20 < LF.length
  · go_wp2
    go_ret
    exact ⟨rfl, HU.out⟩
  by_cases h4 : 20 < L2.length
  · go_wp2
    go_ret
    exact ⟨rfl, HU.out⟩
  go_wp2
  go_loopw [5, 25] (fun vb vi wr => ∃ (i pl : Nat) (Ab : Option Addr) (cb : Nat) (Gb : Option Nat), i ≤ LF.length ∧ vi = .int .i64 i ∧ vb = .slice Ab pl cb ∧ pl ≤ i * 105 ∧ pl ≤ cb ∧ cb ≤ maxLen ∧ Asd (pl = (joined (abs (LF.take i))).length) ∧ Asd (∀ x ∈ LF.take i, x.body.length ≤ 100) ∧ Asd (Own wr 5 1 (.slice Ab pl cb) pl (B (joined (abs (LF.take i)))) Gb) ∧ Asd (∀ g, Gb = some g → w.heap.size ≤ g) ∧ Asd (Upd (fun _ => False) w wr)) (fun _ vi _ => LF.length - (intOf vi).toNat)
  case atStart => exact ⟨0, 0, some ⟨w1.heap.size, 0, none⟩, 0, some w1.heap.size, by omega, rfl, rfl, by omega, by omega, by simp [maxLen], ⟨rfl⟩, ⟨fun x hx => by simp at hx⟩, ⟨Own.lit w1 _ 1 0 #[] (by simp [maxLen]) rfl⟩, ⟨fun g e => by obtain rfl := Option.some.inj e; exact HU.out.size⟩, ⟨HU.out.alloc _⟩⟩
  case round =>
    obtain ⟨i, pl, Ab, cb, Gb, hi, rfl, rfl, hpl, hplc, hcm, HPL, HB, HO, HG, HW⟩ := hrel
    by_cases hlt : i < LF.length
    · obtain ⟨ad, rfl, hc0, hc1⟩ := row_at HROW.out i hlt
      obtain ⟨hx1, hx2, hx3, _⟩ := HFR.out LF[i] (List.getElem_mem hlt)
      obtain ⟨x, hx⟩ : ∃ x, x = LF[i] := ⟨_, rfl⟩
      have HN := Asd.mk (by rw [hx]; exact joined_next LF i hlt : joined (abs (LF.take (i + 1))) = joined (abs (LF.take i)) ++ fbytes x.kind x.body)
      have HT := Asd.mk (show ∀ y ∈ LF.take (i + 1), y ∈ LF.take i ∨ y = x from fun y hy => by
        rw [List.take_succ_eq_append_getElem hlt, List.mem_append, List.mem_singleton, ← hx] at hy
        exact hy)
      rw [← hx] at hc0 hc1 hx1 hx2 hx3
      have HX1 := Asd.mk hx1
      clear hx hx1
      obtain ⟨k, xA, xc, xb⟩ := x
      have hc0 := HW.out.cell hc0 (fun h => h)
      have hc1 := HW.out.cell hc1 (fun h => h)
      rw [add_succ] at hc1
      simp only at hc0 hc1 hx2 hx3 HN HT HX1
      by_cases hbig : 100 < xb.length
      · go_wp2
        go_ret
        exact ⟨rfl, by repeat (first | exact HW.out | refine Upd.alloc ?_ _)⟩
      have hwi : IntKind.i64.wrap ((i : Int) + 1) = ((i + 1 : Nat) : Int) := by rw [w64i _ (by omega) (by omega)]; rfl
      go_wp2_with fail
      refine (put_ok Ab pl cb _ k xA xc xb _ ((HO.out.rd.up ((Upd.refl (fun _ => False) _).alloc _))) (HX1.out.up (HW.out.alloc _)) (by omega) (by omega)).mono ?_
      unfold Fr.PutPost
      rw [← HN.out]
      obtain ⟨p2, hp2⟩ : ∃ p2, p2 = joined (abs (LF.take (i + 1))) := ⟨_, rfl⟩
      have hl2 : p2.length = pl + (xb.length + 5) := by rw [hp2, HN.out, List.length_append, fbytes_length, HPL.out]
      rw [← hp2, hl2]
      have HP2 := Asd.mk hp2
      have HL2 := Asd.mk hl2
      clear hp2 hl2
      rintro e w5 ⟨A5, c5, G5, rfl, ho, hg, hc5, hm5, hu⟩
      have HO5 := Asd.mk ho
      have HB5 : Asd (∀ y ∈ LF.take (i + 1), y.body.length ≤ 100) := ⟨fun y hy => (HT.out y hy).elim (HB.out y) (fun e => by rw [e]; show xb.length ≤ 100; omega)⟩
      have HW5 : Asd (Upd (fun _ => False) w w5) := ⟨(HW.out.alloc _).trans hu (fun _ _ h => h)⟩
      have HG5 : Asd (∀ g, G5 = some g → w.heap.size ≤ g) := ⟨fun g e => by have := hg g e; have := HW.out.size; simp at *; omega⟩
      clear ho hg hu HO HG HW HB HPL HN HT HX1
      go_wp2
      go_roundw
      case rel => exact ⟨i + 1, pl + (xb.length + 5), A5, c5, G5, by omega, rfl, rfl, by omega, hc5, hm5, ⟨by rw [← HP2.out, HL2.out]⟩, HB5, by rw [← HP2.out]; exact HO5, HG5, HW5⟩
      case measure => simp only [intOf]; omega
    · have hi : i = LF.length := by omega
      subst hi
      rw [List.take_length] at HPL HB HO
      obtain ⟨p, hp⟩ : ∃ p, p = joined (abs LF) := ⟨_, rfl⟩
      rw [← hp] at HPL HO
      have hpl2 := HPL.out
      have HALL := Asd.mk (show all (p ++ [0, 0]) = (abs LF, [], 6) by rw [hp, all_of LF HB.out, all_zero]; simp)
      clear hp
      go_wp2_with fail
      refine (new_calls _).mono ?_
      rintro e w2 ⟨q, F, rfl, hq, hu, hf⟩
      have HQ2 := Asd.mk hq
      have HO2 := Asd.mk (HO.out.upd hu (fun _ _ h => h))
      have HGF : Asd (∀ g, Gb = some g → ¬ F g) := ⟨fun g e h => by have := HO.out.lt g e; have := hf g h; omega⟩
      have HF2 : Asd (∀ k, F k → w.heap.size ≤ k) := ⟨fun k hk => by have := hf k hk; have := HW.out.size; omega⟩
      have HW2 : Asd (Upd (fun _ => False) w w2) := ⟨HW.out.trans hu (fun _ _ h => h)⟩
      have HZ : Asd (#[Value.int .u8 0, .int .u8 0] = (B [0, 0]).toArray) := ⟨rfl⟩
      clear hq hu hf HU HO HW hpl2
      go_wp2_with (first | (with_reducible refine stop_append _ _ _ _ rfl ?_) | (with_reducible refine stop_copy _ _ _ _ rfl ?_) | (with_reducible refine stop_make _ _ _ rfl ?_) | (with_reducible refine stop_conv 23 9 _ rfl ?_))
      refine wp_appendB (pl + 2) 5 p [0, 0] Gb Ab pl cb (some ⟨w2.heap.size, 0, none⟩) 2 2 rfl _ _ 23 rfl Try.underlying23 info8 rfl rfl (HO2.out.upd ((Upd.refl (fun _ => False) _).alloc _) (fun _ _ h => h)) (Rd.lit w2 _ _ _ 2 _ HZ.out rfl (by omega)) rfl (by omega) ?_
      intro A3 c3 w3 G3 hc3 hm3 hO3 hU3 hg3
      have hlb := HO2.out.lt
      have HQ3 := Asd.mk ((HQ2.out.up ((Upd.refl (fun _ => False) _).alloc _)).upd hU3 (fun i h e => HGF.out i e.symm h))
      have HW3 : Asd (Upd (fun _ => False) w w3) := ⟨(HW2.out.alloc _).trans hU3 (fun i hi e => by have := HG.out i e.symm; omega)⟩
      have HO3 := Asd.mk hO3.rd
      clear hO3 hU3 hg3 hlb HW2 HQ2 HO2
      go_wp2_with fail
      refine (push_live HQ3.out A3 (pl + 2) c3 _ HO3.out (by simp only [List.length_nil]; omega)).mono ?_
      rw [List.nil_append, HALL.out]
      rintro e w5 ⟨A5, c5, L5, G5, F5, rfl, ha5, hc5, hm5, ho5, hf5, hq5, hu5, hF5, hG5⟩
      have HF5 : Asd (∀ k, F5 k → w.heap.size ≤ k) := ⟨fun k hk => (hF5 k hk).elim (HF2.out k) (fun h => by have := HW3.out.size; omega)⟩
      have HW5 : Asd (Upd (fun _ => False) w w5) := ⟨HW3.out.trans hu5 (fun i hi a => by have := HF2.out i a; omega)⟩
      have HQ5 := Asd.mk hq5
      have HFL5 := Asd.mk hf5
      obtain ⟨_, _, hv, _, _, hrow, _⟩ := Own.slice ho5
      injection hv with e1 e2 e3
      subst e1
      clear e2 e3
      have HROW5 := Asd.mk hrow
      have hL5 : L5.length ≤ 20 := by rw [← abs_length, ha5, abs_length]; omega
      have hsame : decide (abs L5 = abs LF) = true := decide_eq_true ha5
      clear ha5 ho5 hf5 hq5 hu5 hF5 hG5 hrow HW3 HF2 HQ3 HO3
      go_wp2_with fail
      refine (same_calls A5 c5 L5 A c LF _ HROW5.out HFL5.out (HROW.out.upd HW5.out (fun _ _ h => h)) (HFR.out.up HW5.out) (by omega)).mono ?_
      rw [hsame]
      rintro e w6 ⟨rfl, hu6⟩
      have HQ6 := Asd.mk (HQ5.out.up hu6)
      have HW6 : Asd (Upd (fun _ => False) w w6) := ⟨HW5.out.trans hu6 (fun _ _ h => h)⟩
      clear hsame hu6 HQ5 HW5 HFL5 HROW5
      go_wp2_with fail
      refine (err_calls HQ6.out).mono ?_
      rintro e w7 ⟨rfl, rfl⟩
      go_wp2
      go_loopw [54] (fun v54 wr => ∃ (i : Nat) (F : Nat → Prop), i ≤ L2.length ∧ v54 = .int .i64 i ∧ Asd (Feed wr q [] 6 F) ∧ Asd (∀ k, F k → w.heap.size ≤ k) ∧ Asd (Upd (fun _ => False) w wr)) (fun v54 _ => L2.length - (intOf v54).toNat)
      case atStart => exact ⟨0, F5, by omega, rfl, HQ6, HF5, HW6⟩
      case round =>
        obtain ⟨i, F, hi, rfl, HQ, HF, HW⟩ := hrel
        by_cases hlt : i < L2.length
        · obtain ⟨ad2, cs, e, hlen, hr, hcell⟩ := HE2.out.at_ i hlt
          subst e
          obtain ⟨l, hx⟩ : ∃ x, x = L2[i] := ⟨_, rfl⟩
          rw [← hx] at hr
          obtain ⟨a1, k1, rfl, hrd, hk1, hk2, hk3⟩ := hr
          have hc0 := HW.out.cell (hcell 0 _ rfl) (fun h => h)
          simp only [Nat.mul_one, Nat.add_zero] at hc0
          have hwi : IntKind.i64.wrap ((i : Int) + 1) = ((i + 1 : Nat) : Int) := by rw [w64i _ (by omega) (by omega)]; rfl
          clear hcell hlen hrd hx hk3
          go_wp2_with fail
          refine (push_dead HQ.out (by decide) a1 l.length k1).mono ?_
          rintro e w8 ⟨A8, c8, L8, G8, F8, rfl, ha8, hc8, hm8, ho8, hf8, hq8, hu8, hF8, hG8⟩
          have hl8 : L8 = [] := List.eq_nil_of_length_eq_zero (by rw [← abs_length, ha8]; rfl)
          subst hl8
          have HQ8 := Asd.mk hq8
          have HF8 : Asd (∀ k, F8 k → w.heap.size ≤ k) := ⟨fun k hk => (hF8 k hk).elim (HF.out k) (fun h => by have := HW.out.size; omega)⟩
          have HW8 : Asd (Upd (fun _ => False) w w8) := ⟨HW.out.trans hu8 (fun i hi a => by have := HF.out i a; omega)⟩
          clear ha8 ho8 hf8 hq8 hu8 hF8 hG8 HQ HF HW
          go_wp2_with fail
          refine (err_calls HQ8.out).mono ?_
          rintro e w10 ⟨rfl, rfl⟩
          go_wp2_with fail
          refine (len_calls HQ8.out).mono ?_
          rintro e w10 ⟨rfl, rfl⟩
          go_wp2
          go_roundw
          case rel => exact ⟨i + 1, F8, by omega, rfl, HQ8, HF8, HW8⟩
          case measure => simp only [intOf]; omega
        · go_wp2
          go_ret
          exact ⟨rfl, HW.out⟩
end Go.Proofs.Ytahbcjgbhfkhbaa.FdBroken
