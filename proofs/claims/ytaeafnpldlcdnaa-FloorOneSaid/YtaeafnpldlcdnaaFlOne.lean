/- The law FloorOne: what its call comes to, for every input. -/
import Derived.Test.YtaeafnpldlcdnaaFlInv
import Derived.Deep.DeepCutAuto
import Derived.Deep.CutBlock
set_option linter.unusedVariables false
set_option linter.unusedSimpArgs false
namespace Go.Proofs.Ytaeafnpldlcdnaa.Fl
open Go.RowKit K
abbrev RAct := R3 (RInt .i64) (RInt .i64) (RInt .i64)
theorem RAct.stays : Stays RAct := R3.stays (RInt.stays _) (RInt.stays _) (RInt.stays _)
theorem wf_ok {x : Int} (h : (Lit.int .i64 x).wf = true) : idOk x := by
  simp only [Lit.wf, Bool.and_eq_true, decide_eq_true_eq] at h
  exact h
theorem zbool : ∀ w, (zeroValue 4).run Try.prog w = .ok (.bool false) w := fun w => by kernel_rfl
theorem mget_put_other (M : List Ent) (x y : Int) (v : Value) (h : y ≠ x) : mget (mput M x v) y = mget M y := by
  have h1 : ∀ R : List Ent, mget (ins (x, v) R) y = mget R y := by
    intro R
    induction R with
    | nil => simp [ins, mget, Ne.symm h]
    | cons p R ih =>
      simp only [ins]
      split
      · unfold mget
        rw [List.find?_cons_of_neg (by simpa using Ne.symm h)]
      · unfold mget at ih ⊢
        by_cases e : p.1 = y
        · rw [List.find?_cons_of_pos (by simpa using e), List.find?_cons_of_pos (by simpa using e)]
        · rw [List.find?_cons_of_neg (by simpa using e), List.find?_cons_of_neg (by simpa using e)]
          exact ih
  unfold mput
  rw [h1]
  induction M with
  | nil => rfl
  | cons p R ih =>
    unfold mdel mget at *
    by_cases e : p.1 = x
    · rw [List.filter_cons_of_neg (by simpa using e), List.find?_cons_of_neg (by rw [e]; simpa using Ne.symm h)]
      exact ih
    · rw [List.filter_cons_of_pos (by simpa using e)]
      by_cases e2 : p.1 = y
      · rw [List.find?_cons_of_pos (by simpa using e2), List.find?_cons_of_pos (by simpa using e2)]
      · rw [List.find?_cons_of_neg (by simpa using e2), List.find?_cons_of_neg (by simpa using e2)]
        exact ih
theorem mput_length (M : List Ent) (x : Int) (v : Value) : (mput M x v).length ≤ M.length + 1 := by
  unfold mput
  rw [ins_length]
  have := List.length_filter_le (fun p : Ent => !decide (p.1 = x)) M
  unfold mdel
  omega
theorem OI1 (w : World) (x : Int) : OI (w.alloc (.cells #[.int .i64 x] 3)) (.slice (some ⟨w.heap.size, 0, none⟩) [x].length 1) [x] (some w.heap.size) := by
  have := Own.lit w 3 1 1 #[.int .i64 x] (by simp [maxLen]) rfl
  exact this
set_option maxHeartbeats 4000000 in
set_option maxRecDepth 100000 in
theorem one_walk (w : World) (lease : Int) (wl : (Lit.int .i64 lease).wf = true) (A : Option Addr) (n c : Nat) (X : List (Int × Int × Int)) (hX : RSlice RAct 3 w [.slice A n c] X) :
    Calls Try.prog 5 #[.int .i64 lease, .slice A n c] w fun e w' => e = .returned (.bool true) ∧ Upd (fun _ => False) w w' := by
  obtain ⟨A', c', he, hE, hc, hm, _⟩ := hX
  simp only [List.cons.injEq, Value.slice.injEq, and_true] at he
  obtain ⟨rfl, rfl, rfl⟩ := he
  obtain ⟨n, hn⟩ : ∃ n, n = X.length := ⟨_, rfl⟩
  rw [← hn] at hc hE
  rw [← hn]
  have HE := Asd.mk hE
  have hlim := hE.lim
  have HNX := Asd.mk hn
  have hmm := @run_makeMap Try.prog
  clear hE hm wl hn
  go_enter Try.func5, Try.ntmps5
  go_wp2_with fail
  refine (head_calls _).mono ?_
  rintro e w1 ⟨rfl, hu⟩
  by_cases hbig : 150 < n
  · go_wp2
    go_ret
    exact ⟨rfl, hu⟩
  have HU := Asd.mk hu
  clear hu
  go_wp2_with fail
  refine (new_at lease HU.out).mono ?_
  rintro e w2 ⟨t, rfl, h⟩
  have HA := Asd.mk h
  clear h HU
  go_wp2
  go_loopw [23] (fun v23 wr => ∃ (i : Nat) (s : T), v23 = .int .i64 (i : Int) ∧ i ≤ n ∧ Asd (G s i 0) ∧ Asd (At w wr t s)) (fun v23 _ => n - (intOf v23).toNat)
  case atStart => exact ⟨0, new lease, rfl, by omega, ⟨G.new lease⟩, HA⟩
  case round =>
    clear HA
    obtain ⟨i, s, rfl, hi, HG, HA⟩ := hrel
    by_cases hlt : i < n
    · obtain ⟨ad, cs, e, hlen, hr, hcell⟩ := (HE.out.up RAct.stays HA.out.out).at_ i hlt
      subst e
      obtain ⟨x, hx⟩ : ∃ x, x = X[i]'(by rw [← HNX.out]; exact hlt) := ⟨_, rfl⟩
      rw [← hx] at hr
      obtain ⟨k, id, r⟩ := x
      obtain ⟨c0, c1, c2, rfl, ⟨h0, _⟩, ⟨h1, w1d⟩, ⟨h2, w2d⟩⟩ := hr
      simp only [List.cons.injEq, and_true] at h0 h1 h2
      subst h0; subst h1; subst h2
      have HC := Asd.mk hcell
      have hid := wf_ok w1d
      have HID := Asd.mk hid
      obtain ⟨rm, hrm, hand0⟩ := and_le k 15 (by omega)
      have hand : Go.bits .and .i64 k 15 = (rm : Int) := hand0
      have hql : s.queue.length ≤ 1000000 := by have := HG.out.lens; omega
      have hrl : s.roles.length ≤ 1000000 := by have := HG.out.lens; omega
      have hll : -1000 ≤ s.left ∧ s.left ≤ 1000000 := by have := HG.out.left; have := HG.out.lease; omega
      clear hcell hlen hx hand0 w1d w2d hid
      go_wp2_with (with_reducible refine stop_load 39 _ rfl ?_)
      refine wp_loadAgg _ (ad.add (i * 3)) 3 rfl _ _ rfl rfl Try.underlying39 rfl (by kernel_rfl) rfl (fun j u hj => by rw [add_add]; exact HC.out j u hj) ?_
      go_upto_block 2 with fail
      have hb := heap_alloc_new wr (.cells #[.int .i64 k, .int .i64 id, .int .i64 r] 39)
      have HA0 := Asd.mk (HA.out.up ((Upd.refl (fun _ => False) _).alloc (.cells #[.int .i64 k, .int .i64 id, .int .i64 r] 39)))
      go_cut [] (fun wx => ∃ s2, Asd (G s2 (i + 1) 0) ∧ Asd (At w wx t s2))
      case first =>
        have b1 := keepsC (o := 1) hb rfl
        have b2 := keepsC (o := 2) hb rfl
        clear hb HA
        rcases (by omega : rm = 0 ∨ rm = 1 ∨ rm = 2 ∨ rm = 3 ∨ rm = 4 ∨ rm = 5 ∨ rm = 6 ∨ rm = 7 ∨ rm = 8 ∨ rm = 9 ∨ rm = 10 ∨ rm = 11 ∨ rm = 12 ∨ rm = 13 ∨ rm = 14 ∨ rm = 15) with rfl | rfl | rfl | rfl | rfl | rfl | rfl | rfl | rfl | rfl | rfl | rfl | rfl | rfl | rfl | rfl
        · go_wp2_with fail
          refine (HA0.out.turn (fun F h => join_calls h id r HID.out hrl)).mono ?_
          rintro e w4 ⟨rfl, h⟩
          have H4 := Asd.mk h
          clear h HA0
          go_wp2
          go_meet
          exact ⟨_, ⟨HG.out.join id r HID.out.2⟩, H4⟩
        · go_wp2_with fail
          refine (HA0.out.turn (fun F h => join_calls h id r HID.out hrl)).mono ?_
          rintro e w4 ⟨rfl, h⟩
          have H4 := Asd.mk h
          clear h HA0
          go_wp2
          go_meet
          exact ⟨_, ⟨HG.out.join id r HID.out.2⟩, H4⟩
        · go_wp2_with fail
          refine (HA0.out.turn (fun F h => leave_calls h id HID.out hql)).mono ?_
          rintro e w4 ⟨rfl, h⟩
          have H4 := Asd.mk h
          clear h HA0
          go_wp2
          go_meet
          exact ⟨_, ⟨(HG.out.leave id).mono (Nat.le_succ _)⟩, H4⟩
        · go_wp2_with fail
          refine (HA0.out.turn (fun F h => set_calls h id r HID.out hql hrl)).mono ?_
          rintro e w4 ⟨rfl, h⟩
          have H4 := Asd.mk h
          clear h HA0
          go_wp2
          go_meet
          exact ⟨_, ⟨HG.out.setRole id r⟩, H4⟩
        · go_wp2_with fail
          refine (HA0.out.turn (fun F h => ask_calls h id HID.out hql)).mono ?_
          rintro e w4 ⟨rfl, h⟩
          have H4 := Asd.mk h
          clear h HA0
          go_wp2
          go_meet
          exact ⟨_, ⟨HG.out.ask id⟩, H4⟩
        · go_wp2_with fail
          refine (HA0.out.turn (fun F h => ask_calls h id HID.out hql)).mono ?_
          rintro e w4 ⟨rfl, h⟩
          have H4 := Asd.mk h
          clear h HA0
          go_wp2
          go_meet
          exact ⟨_, ⟨HG.out.ask id⟩, H4⟩
        · go_wp2_with fail
          refine (HA0.out.turn (fun F h => ask_calls h id HID.out hql)).mono ?_
          rintro e w4 ⟨rfl, h⟩
          have H4 := Asd.mk h
          clear h HA0
          go_wp2
          go_meet
          exact ⟨_, ⟨HG.out.ask id⟩, H4⟩
        · go_wp2_with fail
          refine (HA0.out.turn (fun F h => drop_calls h id HID.out hql)).mono ?_
          rintro e w4 ⟨rfl, h⟩
          have H4 := Asd.mk h
          clear h HA0
          go_wp2
          go_meet
          exact ⟨_, ⟨(HG.out.drop id).mono (Nat.le_succ _)⟩, H4⟩
        · go_wp2_with fail
          refine (HA0.out.turn (fun F h => give_calls h id HID.out hql)).mono ?_
          rintro e w4 ⟨rfl, h⟩
          have H4 := Asd.mk h
          clear h HA0
          go_wp2
          go_meet
          exact ⟨_, ⟨(HG.out.give id).mono (Nat.le_succ _)⟩, H4⟩
        · go_wp2_with fail
          refine (HA0.out.turn (fun F h => revoke_calls h hql)).mono ?_
          rintro e w4 ⟨rfl, h⟩
          have H4 := Asd.mk h
          clear h HA0
          go_wp2
          go_meet
          exact ⟨_, ⟨HG.out.revoke.mono (Nat.le_succ _)⟩, H4⟩
        · go_wp2_with fail
          refine (HA0.out.turn (fun F h => tick_calls h hql hll)).mono ?_
          rintro e w4 ⟨rfl, h⟩
          have H4 := Asd.mk h
          clear h HA0
          go_wp2
          go_meet
          exact ⟨_, ⟨HG.out.tick.mono (Nat.le_succ _)⟩, H4⟩
        · go_wp2_with fail
          refine (HA0.out.turn (fun F h => tick_calls h hql hll)).mono ?_
          rintro e w4 ⟨rfl, h⟩
          have H4 := Asd.mk h
          clear h HA0
          go_wp2
          go_meet
          exact ⟨_, ⟨HG.out.tick.mono (Nat.le_succ _)⟩, H4⟩
        · go_wp2_with fail
          refine (HA0.out.turn (fun F h => tick_calls h hql hll)).mono ?_
          rintro e w4 ⟨rfl, h⟩
          have H4 := Asd.mk h
          clear h HA0
          go_wp2
          go_meet
          exact ⟨_, ⟨HG.out.tick.mono (Nat.le_succ _)⟩, H4⟩
        · go_wp2_with fail
          refine (HA0.out.turn (fun F h => tick_calls h hql hll)).mono ?_
          rintro e w4 ⟨rfl, h⟩
          have H4 := Asd.mk h
          clear h HA0
          go_wp2
          go_meet
          exact ⟨_, ⟨HG.out.tick.mono (Nat.le_succ _)⟩, H4⟩
        · go_wp2_with fail
          refine (HA0.out.turn (fun F h => tick_calls h hql hll)).mono ?_
          rintro e w4 ⟨rfl, h⟩
          have H4 := Asd.mk h
          clear h HA0
          go_wp2
          go_meet
          exact ⟨_, ⟨HG.out.tick.mono (Nat.le_succ _)⟩, H4⟩
        · go_wp2_with fail
          refine (HA0.out.turn (fun F h => tick_calls h hql hll)).mono ?_
          rintro e w4 ⟨rfl, h⟩
          have H4 := Asd.mk h
          clear h HA0
          go_wp2
          go_meet
          exact ⟨_, ⟨HG.out.tick.mono (Nat.le_succ _)⟩, H4⟩
      case rest =>
        obtain ⟨s2, HG2, HA2⟩ := hcut
        have hAc := HA2.out
        obtain ⟨F, ht, hu, hf⟩ := hAc
        have HT := Asd.mk ht
        have HUF := Asd.mk (And.intro hu hf)
        have hq2 : s2.queue.length ≤ 1000000 := by have := HG2.out.lens; omega
        obtain ⟨mB, hmB⟩ : ∃ mB, mB = wc.heap.size := ⟨_, rfl⟩
        have hwm := mapV.made wc Try.prog 3
        have hkm := (Upd.refl (fun _ => False) wc).alloc (.map #[] 0)
        have hsm : (wc.alloc (.map #[] 0)).heap.size = mB + 1 := by rw [hmB]; simp
        rw [← hmB] at hwm
        clear HA2 ht hu hf HG HA HA0 hb hql hrl hll
        have hmge : wc.heap.size ≤ mB := by omega
        go_wp2_with fail
        rw [← hmB]
        clear hmB
        refine (queue_calls (HT.out.up hkm) hq2).mono ?_
        rintro e w4 ⟨A3, c3, G3, rfl, ho3, hg3, hu3⟩
        have HO3 := Asd.mk ho3
        have HG3 : Asd (∀ g, G3 = some g → mB < g) := ⟨fun g e => by have := hg3 g e; omega⟩
        have HM4 := Asd.mk (hwm.upd hu3 (fun h => h))
        have HK4 := Asd.mk (hkm.trans hu3 (fun _ _ h => h))
        have hm4 : mB < w4.heap.size := HM4.out.lt
        clear ho3 hg3 hu3 hwm hkm hsm
        by_cases hh : s2.holder = 0
        · obtain ⟨hq0, hl0⟩ := HG2.out.free hh
          obtain ⟨ln, hln⟩ : ∃ ln, ln = s2.queue := ⟨_, rfl⟩
          have HLN : Asd (ln.Nodup ∧ (∀ y ∈ ln, Wr s2.roles y) ∧ ∀ y ∈ ln, idOk y) := ⟨by rw [hln, hq0]; simp⟩
          have hlz : ln.length = 0 := by rw [hln, hq0]; rfl
          have HO9 := HO3
          rw [← hln] at HO9
          rw [← hln]
          have hhb : ((0 : Int) != 0) = false := rfl
          have HH := Asd.mk hh
          have HL0 := Asd.mk hl0
          clear hln hq0 hl0 hh
          go_wp2_with fail
          refine (holder_calls (HT.out.up HK4.out)).mono ?_
          rw [HH.out]
          rintro e w5 ⟨rfl, rfl⟩
          have HMP := HM4
          have HK9 := HK4
          have HGB : Asd (∀ g, G3 = some g → ¬ g = mB) := ⟨fun g e e2 => by have := HG3.out g e; omega⟩
          obtain ⟨A9, hA9⟩ : ∃ A9, A9 = A3 := ⟨_, rfl⟩
          obtain ⟨c9, hc9⟩ : ∃ c9, c9 = c3 := ⟨_, rfl⟩
          obtain ⟨G9, hG9⟩ : ∃ G9, G9 = G3 := ⟨_, rfl⟩
          rw [← hA9, ← hc9] at HO9
          rw [← hG9] at HO9 HGB
          rw [← hA9, ← hc9]
          clear hA9 hc9 hG9 HM4 HK4 HO3 HG3
          go_wp2
          go_loopw [95] (fun v95 wr => ∃ (j : Nat) (M : List Ent), v95 = .int .i64 (j : Int) ∧ j ≤ ln.length ∧ Asd (mapV wr Try.prog 3 mB M) ∧ Asd (∀ y ∈ ln.drop j, mget M y = none) ∧ M.length ≤ j ∧ Asd (Upd (fun _ => False) wc wr) ∧ Asd (OI wr (.slice A9 ln.length c9) ln G9)) (fun v95 _ => ln.length - (intOf v95).toNat)
          case atStart => exact ⟨0, [], rfl, by omega, HMP, ⟨fun y hy => rfl⟩, by simp, HK9, HO9⟩
          case round =>
            clear HMP HK9 HO9
            obtain ⟨j, M, rfl, hj, HMP, HNO, hMl, HK, HO⟩ := hrel
            by_cases hjl : j < ln.length
            · exact absurd hjl (by omega)
            · go_wp2_with fail
              refine (left_calls (HT.out.up HK.out)).mono ?_
              rintro e w7 ⟨rfl, rfl⟩
              go_wp2_with fail
              refine (holder_calls (HT.out.up HK.out)).mono ?_
              rintro e w7 ⟨rfl, rfl⟩
              rw [HL0.out, HH.out]
              go_wp2
              go_roundw
              case rel => exact ⟨i + 1, s2, by go_num, by omega, HG2, ⟨F, HT.out.up HK.out, HUF.out.1.trans HK.out (fun _ _ h => h), HUF.out.2⟩⟩
              case measure => simp only [intOf]; omega
        · have hhb : (s2.holder != 0) = true := bne_iff_ne.2 hh
          obtain ⟨h, hhd⟩ : ∃ h, h = s2.holder := ⟨_, rfl⟩
          have hbz := HG2.out.busy hh
          have HW := Asd.mk (HG2.out.hold hh hh)
          have HP := Asd.mk (Wr.pos HG2.out HW.out)
          have HH := Asd.mk hhd
          rw [← hhd] at hhb
          clear hh hhd
          go_wp2_with fail
          refine (holder_calls (HT.out.up HK4.out)).mono ?_
          rw [← HH.out]
          rintro e w5 ⟨rfl, rfl⟩
          go_wp2_with fail
          refine (holder_calls (HT.out.up HK4.out)).mono ?_
          rw [← HH.out]
          rintro e w5 ⟨rfl, rfl⟩
          go_wp2_with (with_reducible refine stop_append _ _ _ _ rfl ?_)
          refine wp_appendI (S := fun _ => False) (w0 := w4) ((Upd.refl _ _).alloc _) rfl _ _ 31 3 rfl Try.underlying31 rfl infoI rfl rfl (OI1 _ h) (fun g e => by obtain rfl := Option.some.inj e; exact Nat.le_refl _) (HO3.out.up ((Upd.refl (fun _ => False) _).alloc _)).row rfl (by simp; omega) ?_
          intro A9 c9 w9 G9 hO9 hc9 hG9 hU9 _
          obtain ⟨ln, hln⟩ : ∃ ln, ln = [h] ++ s2.queue := ⟨_, rfl⟩
          rw [← hln] at hO9 hc9
          rw [← hln]
          have HLN : Asd (ln.Nodup ∧ (∀ y ∈ ln, Wr s2.roles y) ∧ ∀ y ∈ ln, idOk y) := ⟨by
            rw [hln, HH.out]
            have hg := HG2.out
            refine ⟨List.nodup_cons.2 ⟨hg.apart, hg.nodup⟩, fun y hy => ?_, fun y hy => ?_⟩
            · rcases List.mem_cons.1 hy with rfl | hy
              · exact HW.out
              · exact hg.wait y hy (by have := hg.qpos y hy; omega)
            · rcases List.mem_cons.1 hy with rfl | hy
              · exact ⟨by have := HP.out; omega, HP.out.2⟩
              · exact ⟨by have := hg.qpos y hy; omega, (hg.qpos y hy).2⟩⟩
          have hlz : ln.length ≤ 151 := by rw [hln]; have := HG2.out.lens; simp; omega
          have HO9 := Asd.mk hO9
          have HMP := Asd.mk (HM4.out.upd hU9 (fun h => h))
          have HK9 := Asd.mk (HK4.out.trans hU9 (fun _ _ h => h))
          have HGB : Asd (∀ g, G9 = some g → ¬ g = mB) := ⟨fun g e e2 => by have := hG9 g e; omega⟩
          clear hln hO9 hG9 hU9 HO3 HG3 HM4 HK4 hq2
          go_wp2
          go_loopw [95] (fun v95 wr => ∃ (j : Nat) (M : List Ent), v95 = .int .i64 (j : Int) ∧ j ≤ ln.length ∧ Asd (mapV wr Try.prog 3 mB M) ∧ Asd (∀ y ∈ ln.drop j, mget M y = none) ∧ M.length ≤ j ∧ Asd (Upd (fun _ => False) wc wr) ∧ Asd (OI wr (.slice A9 ln.length c9) ln G9)) (fun v95 _ => ln.length - (intOf v95).toNat)
          case atStart => exact ⟨0, [], rfl, by omega, HMP, ⟨fun y hy => rfl⟩, by simp, HK9, HO9⟩
          case round =>
            clear HMP HK9 HO9
            obtain ⟨j, M, rfl, hj, HMP, HNO, hMl, HK, HO⟩ := hrel
            by_cases hjl : j < ln.length
            · obtain ⟨ad9, rfl, hc9⟩ := HO.out.at j hjl
              obtain ⟨y, hy⟩ : ∃ y, y = ln[j] := ⟨_, rfl⟩
              rw [← hy] at hc9
              have hym : y ∈ ln := by rw [hy]; exact List.getElem_mem _
              obtain ⟨ry, hry, hry0⟩ := HLN.out.2.1 y hym
              have hyok := HLN.out.2.2 y hym
              have hyd : y ∈ ln.drop j := by rw [List.drop_eq_getElem_cons hjl, ← hy]; simp
              have hM0 := HNO.out y hyd
              have hlook : ∀ W, Upd (fun _ => False) wr W → (Instr.lookup 40 (.map (some mB)) (.int .i64 y) false).run Try.prog W = .ok (.bool false) W := fun W k => by
                rw [(HMP.out.upd k (fun h => h)).look1 Try.underlying3 Try.underlying40 zbool y hyok, hM0]
                rfl
              have HNO2 : Asd (∀ z ∈ ln.drop (j + 1), mget (mput M y (.bool true)) z = none) := ⟨fun z hz => by
                have hnd := HLN.out.1
                rw [← List.take_append_drop j ln, List.drop_eq_getElem_cons hjl] at hnd
                have h2 := (List.nodup_cons.1 (List.nodup_append.1 hnd).2.1).1
                have hzy : z ≠ y := fun e => h2 (by rw [← hy, ← e]; exact hz)
                rw [mget_put_other _ _ _ _ hzy]
                exact HNO.out z (by rw [List.drop_eq_getElem_cons hjl]; exact List.mem_cons_of_mem _ hz)⟩
              have hrb : (ry == 0) = false := beq_eq_false_iff_ne.2 hry0
              have hid9 : idOk y := hyok
              have HY := Asd.mk hyok
              have HRY := Asd.mk hry
              have hkr : Upd (fun _ => False) wr wr := Upd.refl _ _
              clear hy hym hyd hM0 hry hry0 hyok HNO
              go_wp2_with fail
              refine (role_calls (HT.out.up HK.out) y HY.out).mono ?_
              rw [HRY.out]
              simp only [Option.getD_some, Option.isSome_some]
              rintro e w7 ⟨rfl, rfl⟩
              go_wp2_with (with_reducible refine stop_mapUpdate 40 _ _ _ rfl ?_)
              refine wp_mapUpdate rfl 40 _ _ _ rfl HMP.out Try.underlying3 Try.underlying40 (by simp only [maxLen]; omega) y (.bool true) (by rfl) (by rfl) (by rfl) hid9 ?_
              intro w7 hm7 hu7
              have HM7 := Asd.mk hm7
              have HK7 : Asd (Upd (fun _ => False) wc w7) := ⟨HK.out.trans hu7 (fun i hi e => by omega)⟩
              have HO7 := Asd.mk (HO.out.upd hu7 (fun g e e2 => HGB.out g e e2))
              have hml : (mput M y (.bool true)).length ≤ j + 1 := by have := mput_length M y (.bool true); omega
              clear hm7 hu7 hlook hkr HK HO HMP hc9
              go_frame
              go_wp2
              go_roundw
              case rel => exact ⟨j + 1, mput M y (.bool true), by go_num, by omega, HM7, HNO2, hml, HK7, HO7⟩
              case measure => simp only [intOf]; omega
            · go_wp2_with fail
              refine (left_calls (HT.out.up HK.out)).mono ?_
              rintro e w7 ⟨rfl, rfl⟩
              go_wp2_with fail
              refine (holder_calls (HT.out.up HK.out)).mono ?_
              rintro e w7 ⟨rfl, rfl⟩
              rw [← HH.out]
              have hhb2 : ((decide ((0 : Int) < s2.left)) != true) = false := by simp; omega
              have hl3 : (0 : Int) < s2.left := by omega
              go_wp2
              go_roundw
              case rel => exact ⟨i + 1, s2, by go_num, by omega, HG2, ⟨F, HT.out.up HK.out, HUF.out.1.trans HK.out (fun _ _ h => h), HUF.out.2⟩⟩
              case measure => simp only [intOf]; omega
    · go_wp2
      go_ret
      exact ⟨rfl, HA.out.out⟩
end Go.Proofs.Ytaeafnpldlcdnaa.Fl
