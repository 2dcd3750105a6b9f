/- The law FeedFrames: what its call comes to, for every input. -/
import Derived.Test.YtahbcjgbhfkhbaaFeedTwo
set_option linter.unusedVariables false
set_option linter.unusedSimpArgs false
namespace Go.Proofs.Ytahbcjgbhfkhbaa.FdFrames
open Go.RowKit K Crc Sm Fr FrMath LGet FdMath Fee FdAll FdLaws FdTwo

/-- Of the bytes bt the first k were pushed; the rest lies at Ab. -/
structure Live (w wr : World) (q : Nat) (bt : List UInt8) (k : Nat) (Ab : Option Addr) (Ag : Option Addr) (cg : Nat) (M : List FRec) (Gg : Option Nat) (F : Nat → Prop) : Prop where
  rd : Rd wr Ab (bt.length - k) (bt.drop k)
  blk : ∀ ad, Ab = some ad → ad.block < wr.heap.size ∧ ¬ F ad.block ∧ some ad.block ≠ Gg
  ownF : OwnF wr Ag cg M Gg
  frs : Frs wr (fun k => k < wr.heap.size ∧ ¬ F k ∧ some k ≠ Gg) M
  same : abs M = (all (bt.take k)).1
  feed : Feed wr q (all (bt.take k)).2.1 0 F
  g : ∀ g, Gg = some g → w.heap.size ≤ g ∧ ¬ F g
  f : ∀ k, F k → w.heap.size ≤ k
  upd : Upd (fun _ => False) w wr
theorem Live.step {w wr w5 w6 : World} {q k m : Nat} {bt : List UInt8} {Ab Ab' Ag A6 : Option Addr} {cg c6 : Nat} {M L5 : List FRec} {Gg G6 : Option Nat} {F F5 : Nat → Prop}
    (h : Live w wr q bt k Ab Ag cg M Gg F) (h0 : (all bt).2.2 = 0) (hf5 : Frs w5 (fun k => wr.heap.size ≤ k ∧ k < w5.heap.size ∧ ¬ F5 k) L5) (ha : abs L5 = (all ((all (bt.take k)).2.1 ++ (bt.drop k).take m)).1) (hq5 : Feed w5 q (all ((all (bt.take k)).2.1 ++ (bt.drop k).take m)).2.1 (all ((all (bt.take k)).2.1 ++ (bt.drop k).take m)).2.2 F5) (hu5 : Upd F wr w5) (hF5 : ∀ k, F5 k → F k ∨ wr.heap.size ≤ k)
    (ho6 : OwnF w6 A6 c6 (M ++ L5) G6) (hu6 : Upd (fun k => some k = Gg) w5 w6) (hg6 : G6 = Gg ∨ ∃ g, G6 = some g ∧ w5.heap.size ≤ g ∧ g < w6.heap.size)
    (hrd : ∀ W, Rd W Ab (bt.length - k) (bt.drop k) → Rd W Ab' (bt.length - (k + m)) (bt.drop (k + m))) (hb : ∀ ad, Ab' = some ad → ∃ ad', Ab = some ad' ∧ ad.block = ad'.block) : Live w w6 q bt (k + m) Ab' A6 c6 (M ++ L5) G6 F5 := by
  have s5 := hu5.size
  have s6 := hu6.size
  have sw := h.upd.size
  have lg := Own.lt h.ownF
  have lf := hq5.lt
  have f5 : ∀ k, k < wr.heap.size → ¬ F k → ¬ F5 k := fun k hk hn h5 => (hF5 k h5).elim hn (by omega)
  have n6 : ∀ g, G6 = some g → Gg = some g ∨ (w5.heap.size ≤ g ∧ g < w6.heap.size) := fun g e => by
    rcases hg6 with e2 | ⟨g', e2, h5, h6⟩
    · exact .inl (e2 ▸ e)
    · rw [e2] at e; obtain rfl := Option.some.inj e; exact .inr ⟨h5, h6⟩
  have hne : ∀ k, F5 k → ¬ some k = Gg := fun k hk e => by
    have := lg k e.symm
    exact f5 k (by omega) (h.g k e.symm).2 hk
  have hp := all_push (bt.take k) ((bt.drop k).take m) (all_prefix bt k h0)
  rw [← List.take_add] at hp
  have hok := all_prefix bt (k + m) h0
  rw [← hp.1, hok] at hq5
  have frM : Frs w6 (fun k => k < wr.heap.size ∧ ¬ F k ∧ some k ≠ Gg) M := (h.frs.upd hu5 (fun i a b => a.2.1 b)).upd hu6 (fun i a b => a.2.2 b)
  have frL : Frs w6 (fun k => wr.heap.size ≤ k ∧ k < w5.heap.size ∧ ¬ F5 k) L5 := hf5.upd hu6 (fun i a b => by have := lg i b.symm; omega)
  refine ⟨hrd _ ((h.rd.upd hu5 (fun ad e => (h.blk ad e).2.1)).upd hu6 (fun ad e => (h.blk ad e).2.2)), ?_, ho6, Frs.append (frM.mono ?_) (frL.mono ?_), ?_, hq5.upd hu6 hne, ?_, ?_, ?_⟩
  · intro ad e
    obtain ⟨ad', e', hx⟩ := hb ad e
    rw [hx]
    obtain ⟨h1, h2, h3⟩ := h.blk ad' e'
    exact ⟨by omega, f5 _ h1 h2, fun e => (n6 _ e.symm).elim (fun e => h3 e.symm) (by omega)⟩
  · rintro k ⟨h1, h2, h4⟩
    exact ⟨by omega, f5 k h1 h2, fun e => (n6 k e.symm).elim (fun e => h4 e.symm) (by omega)⟩
  · rintro k ⟨h1, h2, h3⟩
    exact ⟨by omega, h3, fun e => (n6 k e.symm).elim (fun e => by have := lg k e; omega) (by omega)⟩
  · rw [abs_append, h.same, ha, hp.2]
  · intro g e
    rcases n6 g e with e | e
    · have := lg g e
      exact ⟨(h.g g e).1, f5 g this (h.g g e).2⟩
    · exact ⟨by omega, fun h5 => by have := lf g h5; omega⟩
  · intro k hk
    exact (hF5 k hk).elim (h.f k) (by omega)
  · exact (h.upd.trans hu5 (fun i hi a => by have := h.f i a; omega)).trans hu6 (fun i hi a => by have := (h.g i a.symm).1; omega)

set_option maxHeartbeats 4000000 in
set_option maxRecDepth 100000 in
theorem frames_walk (w : World) (A : Option Addr) (n c : Nat) (L : List (Int × List UInt8)) (hL : RSlice (R2 (RInt .u8) RBytes) 2 w [.slice A n c] L) (A2 : Option Addr) (n2 c2 : Nat) (T : List Int) (hT : RdI w .i64 A2 n2 T) (hc2 : n2 ≤ c2) (hm2 : c2 ≤ maxLen) :
    Calls Try.prog 11 #[.slice A n c, .slice A2 n2 c2] w fun e w' => e = .returned (.bool true) ∧ Upd (fun _ => False) w w' := by
  obtain ⟨LF, rfl, hrow, hfr, hc, hm, hlim⟩ := frs_of hL
  clear hL
  have HROW := Asd.mk hrow
  have HFR := Asd.mk hfr
  have HT2 := Asd.mk hT
  have hlim2 := hT.lim
  clear hrow hfr hm hm2 hT
  go_enter Try.func11, Try.ntmps11
  go_wp2_with fail
  refine (FdLaws.head_calls _).mono ?_
  rintro e w1 ⟨rfl, hu⟩
  have HU := Asd.mk hu
  clear hu
  by_cases h3 : 20 < LF.length
  · go_wp2
    go_ret
    exact ⟨rfl, HU.out⟩
  by_cases h4 : n2 = 0
  · subst h4
    go_wp2
    go_ret
    exact ⟨rfl, HU.out⟩
  have h4b : ((n2 : Int) == 0) = false := beq_eq_false_iff_ne.2 (by omega)
  have h4c : 0 < n2 := by omega
  by_cases h5 : 200 < n2
  · go_wp2
    go_ret
    exact ⟨rfl, HU.out⟩
  clear h4
  go_wp2
  go_loopw [5, 30] (fun vb vi wr => ∃ (i pl : Nat) (Ab : Option Addr) (cb : Nat) (Gb : Option Nat), i ≤ LF.length ∧ vi = .int .i64 i ∧ vb = .slice Ab pl cb ∧ pl ≤ i * 105 ∧ pl ≤ cb ∧ cb ≤ maxLen ∧ Asd (pl = (joined (abs (LF.take i))).length) ∧ Asd (∀ x ∈ LF.take i, x.body.length ≤ 100) ∧ Asd (Own wr 5 1 (.slice Ab pl cb) pl (B (joined (abs (LF.take i)))) Gb) ∧ Asd (∀ g, Gb = some g → w.heap.size ≤ g) ∧ Asd (Upd (fun _ => False) w wr)) (fun _ vi _ => LF.length - (intOf vi).toNat)
  case atStart => exact ⟨0, 0, some ⟨w1.heap.size, 0, none⟩, 0, some w1.heap.size, by omega, rfl, rfl, by omega, by omega, by simp [maxLen], ⟨rfl⟩, ⟨fun x hx => by simp at hx⟩, ⟨Own.lit w1 _ 1 0 #[] (by simp [maxLen]) rfl⟩, ⟨fun g e => by obtain rfl := Option.some.inj e; exact HU.out.size⟩, ⟨HU.out.alloc _⟩⟩
  case round =>
    obtain ⟨i, pl, Ab, cb, Gb, hi, rfl, rfl, hpl, hplc, hcm, HPL, HB, HO, HG, HW⟩ := hrel
    by_cases hlt : i < LF.length
    · obtain ⟨ad, rfl, hc0, hc1⟩ := row_at HROW.out i hlt
      obtain ⟨hx1, hx2, hx3, _⟩ := HFR.out LF[i] (List.getElem_mem hlt)
      obtain ⟨x, hx⟩ : ∃ x, x = LF[i] := ⟨_, rfl⟩
      have HN := Asd.mk (by rw [hx]; exact joined_next LF i hlt : joined (abs (LF.take (i + 1))) = joined (abs (LF.take i)) ++ fbytes x.kind x.body)
      have HT := Asd.mk (show ∀ y ∈ LF.take (i + 1), y ∈ LF.take i ∨ y = x from fun y hy => by
        rw [List.take_succ_eq_append_getElem hlt, List.mem_append, List.mem_singleton, ← hx] at hy
        exact hy)
      rw [← hx] at hc0 hc1 hx1 hx2 hx3
      have HX1 := Asd.mk hx1
      clear hx hx1
      obtain ⟨k, xA, xc, xb⟩ := x
      have hc0 := HW.out.cell hc0 (fun h => h)
      have hc1 := HW.out.cell hc1 (fun h => h)
      rw [add_succ] at hc1
      simp only at hc0 hc1 hx2 hx3 HN HT HX1
      by_cases hbig : 100 < xb.length
      · go_wp2
        go_ret
        exact ⟨rfl, by repeat (first | exact HW.out | refine Upd.alloc ?_ _)⟩
      have hwi : IntKind.i64.wrap ((i : Int) + 1) = ((i + 1 : Nat) : Int) := by rw [w64i _ (by omega) (by omega)]; rfl
      go_wp2_with fail
      refine (put_ok Ab pl cb _ k xA xc xb _ ((HO.out.rd.up ((Upd.refl (fun _ => False) _).alloc _))) (HX1.out.up (HW.out.alloc _)) (by omega) (by omega)).mono ?_
      unfold Fr.PutPost
      rw [← HN.out]
      obtain ⟨p2, hp2⟩ : ∃ p2, p2 = joined (abs (LF.take (i + 1))) := ⟨_, rfl⟩
      have hl2 : p2.length = pl + (xb.length + 5) := by rw [hp2, HN.out, List.length_append, fbytes_length, HPL.out]
      rw [← hp2, hl2]
      have HP2 := Asd.mk hp2
      have HL2 := Asd.mk hl2
      clear hp2 hl2
      rintro e w5 ⟨A5, c5, G5, rfl, ho, hg, hc5, hm5, hu⟩
      have HO5 := Asd.mk ho
      have HB5 : Asd (∀ y ∈ LF.take (i + 1), y.body.length ≤ 100) := ⟨fun y hy => (HT.out y hy).elim (HB.out y) (fun e => by rw [e]; show xb.length ≤ 100; omega)⟩
      have HW5 : Asd (Upd (fun _ => False) w w5) := ⟨(HW.out.alloc _).trans hu (fun _ _ h => h)⟩
      have HG5 : Asd (∀ g, G5 = some g → w.heap.size ≤ g) := ⟨fun g e => by have := hg g e; have := HW.out.size; simp at *; omega⟩
      clear ho hg hu HO HG HW HB HPL HN HT HX1
      go_wp2
      go_roundw
      case rel => exact ⟨i + 1, pl + (xb.length + 5), A5, c5, G5, by omega, rfl, rfl, by omega, hc5, hm5, ⟨by rw [← HP2.out, HL2.out]⟩, HB5, by rw [← HP2.out]; exact HO5, HG5, HW5⟩
      case measure => simp only [intOf]; omega
    · have hi : i = LF.length := by omega
      subst hi
      rw [List.take_length] at HPL HB HO
      obtain ⟨bt, hp⟩ : ∃ p, p = joined (abs LF) := ⟨_, rfl⟩
      rw [← hp] at HPL HO
      have hpl2 := HPL.out
      have HALL := Asd.mk (show all bt = (abs LF, [], 0) by
        have := all_of LF HB.out []
        rw [all_nil, List.append_nil, ← hp] at this
        simpa using this)
      clear hp
      go_wp2_with fail
      refine (new_calls _).mono ?_
      rintro e w2 ⟨q, F, rfl, hq, hu, hf⟩
      have HL2 : Asd (Live w (w2.alloc (.cells #[] 32)) q bt 0 Ab (some ⟨w2.heap.size, 0, none⟩) 0 [] (some w2.heap.size) F) := ⟨by
        have hV := (Upd.refl (fun _ => False) w2).alloc (.cells #[] 32)
        have hs := HW.out.size
        have hs2 := hu.size
        obtain ⟨_, _, hv, _, _, _, hG⟩ := HO.out.slice
        injection hv with e1 e2 e3
        subst e1
        refine ⟨?_, ?_, Own.lit w2 _ 2 0 #[] (by simp [maxLen]) rfl, Frs.nil _ _, by rw [List.take_zero, all_nil]; rfl, by rw [List.take_zero, all_nil]; exact hq.up hV, fun g e => ?_, fun k hk => ?_, (HW.out.trans hu (fun _ _ h => h)).trans hV (fun _ _ h => h)⟩
        · have h1 := (HO.out.rd.up hu).up hV
          rw [hpl2] at h1
          simpa using h1
        · intro ad e
          have := HO.out.lt _ (hG ad e)
          have := hV.size
          exact ⟨by omega, fun h => by have := hf _ h; omega, fun e => by have := Option.some.inj e; omega⟩
        · obtain rfl := Option.some.inj e
          exact ⟨by omega, fun h => by have := hq.lt _ h; omega⟩
        · have := hf k hk; omega⟩
      have HLE : Asd (pl = bt.length) := ⟨hpl2⟩
      clear hq hu hf HU HO HW hpl2 HPL HG
      go_wp2
      go_loopw [5, 9, 10] (fun v5 v9 v10 wr => ∃ (i k sl : Nat) (Ab : Option Addr) (cb : Nat) (Ag : Option Addr) (cg : Nat) (M : List FRec) (Gg : Option Nat) (F : Nat → Prop), v5 = .slice Ab sl cb ∧ v9 = .slice Ag M.length cg ∧ v10 = .int .i64 i ∧ i ≤ k ∧ k + sl = pl ∧ sl ≤ cb ∧ cb ≤ maxLen ∧ Asd (Live w wr q bt k Ab Ag cg M Gg F)) (fun v5 _ _ _ => match v5 with | .slice _ n _ => n | _ => 0)
      case atStart => exact ⟨0, 0, pl, Ab, cb, _, 0, [], _, F, rfl, rfl, rfl, by omega, by omega, hplc, hcm, HL2⟩
      case round =>
        obtain ⟨i, k, sl, Ab, cb, Ag, cg, M, Gg, F, rfl, rfl, rfl, hik, hks, hsc, hcm, HL⟩ := hrel
        clear HL2
        have HKS := Asd.mk hks
        have hkp : k ≤ pl := by omega
        clear hks
        by_cases hlt : 0 < sl
        · have hmod : i % n2 < n2 := Nat.mod_lt _ h4c
          obtain ⟨ad, rfl, hcell⟩ := HT2.out.at_ (i % n2) hmod
          obtain ⟨t, ht⟩ : ∃ t, t = T[i % n2]'(by rw [HT2.out.len]; exact hmod) := ⟨_, rfl⟩
          rw [← ht] at hcell
          have hc0 := HL.out.upd.cell hcell (fun h => h)
          clear ht hcell
          obtain ⟨m, hm, hand⟩ := and63 t
          obtain ⟨kk, hkk, hk1, hk2, hk64⟩ : ∃ kk : Nat, mn (1 + (m : Int)) (sl : Int) = (kk : Int) ∧ 1 ≤ kk ∧ kk ≤ sl ∧ kk ≤ 64 := ⟨min (1 + m) sl, by unfold mn; split <;> omega, by omega, by omega, by omega⟩
          have hw1 : IntKind.i64.wrap (1 + (m : Int)) = 1 + (m : Int) := w64i _ (by omega) (by omega)
          have hb1 : (kk : Int) ≤ (cb : Int) := by omega
          have hwi : IntKind.i64.wrap ((i : Int) + 1) = ((i + 1 : Nat) : Int) := by rw [w64i _ (by omega) (by omega)]; rfl
          go_wp2_with fail
          have hml : M.length ≤ 2100 := by rw [← abs_length, HL.out.same]; have := all_len (bt.take k); rw [List.length_take] at this; omega
          have hbl : (all (bt.take k)).2.1.length ≤ 2100 := by have := all_len (bt.take k); rw [List.length_take] at this; omega
          have hskk : kk ≤ bt.length - k := by have := HLE.out; have := HKS.out; omega
          have hpl9 : pl ≤ 2100 := by omega
          refine (push_live HL.out.feed Ab kk cb ((bt.drop k).take kk) (HL.out.rd.take kk hskk) (by omega)).mono ?_
          rintro e w5 ⟨A5, c5, L5, G5, F5, rfl, ha5, hc5, hm5, ho5, hf5, hq5, hu5, hF5, hG5⟩
          have hL5 : L5.length ≤ 5000 := by
            rw [← abs_length, ha5]
            have := all_len ((all (bt.take k)).2.1 ++ (bt.drop k).take kk)
            rw [List.length_append, List.length_take] at this
            omega
          have HFL5 := Asd.mk hf5
          have HAB5 := Asd.mk ha5
          have HQ5 := Asd.mk hq5
          have HU5 := Asd.mk hu5
          have HF5 := Asd.mk hF5
          have HOF5 := Asd.mk (Own.upd HL.out.ownF hu5 (fun g e => (HL.out.g g e).2))
          obtain ⟨_, _, hv, _, _, hrow, hG⟩ := Own.slice ho5
          injection hv with e1 e2 e3
          subst e1
          clear e2 e3
          have HROW5 := Asd.mk hrow
          clear hf5 ha5 hq5 hu5 hF5 ho5 hG5 hrow hG hbl
          go_wp2_with (first | (with_reducible refine stop_append _ _ _ _ rfl ?_) | (with_reducible refine stop_copy _ _ _ _ rfl ?_) | (with_reducible refine stop_make _ _ _ rfl ?_) | (with_reducible refine stop_conv 23 9 _ rfl ?_))
          refine wp_appendL M L5 Gg Ag cg A5 c5 rfl _ _ rfl rfl rfl HOF5.out HROW5.out (by omega) ?_
          intro A6 c6 w6 G6 hc6 hm6 hO6 hU6 hg6
          obtain ⟨M2, hM2⟩ : ∃ M2, M2 = M ++ L5 := ⟨_, rfl⟩
          rw [← hM2] at hc6 hO6
          rw [← hM2]
          have HM2 := Asd.mk hM2
          clear hM2
          obtain ⟨A7, hcut, _, hrd, hAb⟩ := cut_from' (P := Try.prog) 23 5 .i64 (sz := 1) Try.underlying23 (by kernel_rfl) Ab sl cb kk kk rfl hk2 hsc
          have hsl : sl = bt.length - k := by have := HLE.out; have := HKS.out; omega
          have hst := HL.out.step (m := kk) (Ab' := A7) (by rw [HALL.out]) HFL5.out HAB5.out HQ5.out HU5.out HF5.out (by rw [← HM2.out]; exact hO6) hU6 hg6 (fun W h => by
            have h1 := hrd rfl W _ (by rw [hsl]; exact h)
            rw [List.drop_drop, hsl, Nat.sub_sub] at h1
            exact h1) hAb
          rw [← HM2.out] at hst
          have HST := Asd.mk hst
          clear hst hsl hO6 hU6 hg6 hAb hrd hskk HL HFL5 HAB5 HQ5 HU5 HF5 HOF5 HROW5
          go_wp2
          go_roundw
          case rel => exact ⟨i + 1, k + kk, sl - kk, A7, cb - kk, A6, c6, M2, G6, F5, rfl, rfl, rfl, by omega, by have := HKS.out; omega, by omega, by omega, HST⟩
          case measure => show sl - kk < sl; omega
        · have hk : k = bt.length := by have := HLE.out; have := HKS.out; omega
          have hsame0 : abs M = abs LF := by have := HL.out.same; rw [hk, List.take_length, HALL.out] at this; exact this
          have hsame : decide (abs M = abs LF) = true := decide_eq_true hsame0
          have hml : M.length ≤ 20 := by rw [← abs_length, hsame0, abs_length]; omega
          have HQ := Asd.mk (show Feed wr q [] 0 F by have := HL.out.feed; rw [hk, List.take_length, HALL.out] at this; exact this)
          obtain ⟨_, _, hv, _, _, hrow, _⟩ := Own.slice HL.out.ownF
          injection hv with e1 e2 e3
          subst e1
          clear e2 e3
          have HR := Asd.mk hrow
          have hs0 : sl = 0 := by omega
          subst hs0
          clear hk hsame0 hrow
          go_wp2_with fail
          refine (same_calls _ cg M A c LF _ HR.out HL.out.frs (HROW.out.upd HL.out.upd (fun _ _ h => h)) (HFR.out.up HL.out.upd) (by omega)).mono ?_
          rw [hsame]
          rintro e w6 ⟨rfl, hu6⟩
          have HQ6 := Asd.mk (HQ.out.up hu6)
          have HW6 : Asd (Upd (fun _ => False) w w6) := ⟨HL.out.upd.trans hu6 (fun _ _ h => h)⟩
          clear hsame hu6 HQ HR
          go_wp2_with fail
          refine (len_calls HQ6.out).mono ?_
          rintro e w7 ⟨rfl, rfl⟩
          go_wp2_with fail
          refine (err_calls HQ6.out).mono ?_
          rintro e w7 ⟨rfl, rfl⟩
          go_wp2
          go_ret
          exact ⟨rfl, HW6.out⟩
end Go.Proofs.Ytahbcjgbhfkhbaa.FdFrames
