/- The law FrameCuts: what its call comes to, for every input. -/
import Derived.Test.YtahbcjgbhfkhbaaFrameLaws
set_option linter.unusedVariables false
set_option linter.unusedSimpArgs false
namespace Go.Proofs.Ytahbcjgbhfkhbaa.FrCuts
open Go.RowKit K Crc Sm Fr FrMath FrLaws

theorem place (a : Int) (n : Nat) (h : 0 < n) (hn : n ≤ 3000) : ∃ p : Nat, wrap64 ((IntKind.u64.wrap a).tmod (n : Int)) = (p : Int) ∧ p < n := by
  have h0 : 0 ≤ IntKind.u64.wrap a := by
    simp only [IntKind.wrap, IntKind.bits, IntKind.signed]
    simp
    omega
  rw [Int.tmod_eq_emod_of_nonneg h0]
  have h1 := Int.emod_nonneg (IntKind.u64.wrap a) (show (n : Int) ≠ 0 by omega)
  have h2 := Int.emod_lt_of_pos (IntKind.u64.wrap a) (show 0 < (n : Int) by omega)
  refine ⟨((IntKind.u64.wrap a) % (n : Int)).toNat, ?_, by omega⟩
  unfold wrap64
  omega
theorem xor8 (a b : UInt8) : Go.bits .xor .u8 (a.toNat : Int) (b.toNat : Int) = ((a ^^^ b).toNat : Int) := by
  show IntKind.u8.wrap (((BitVec.ofInt 8 (a.toNat : Int) ^^^ BitVec.ofInt 8 (b.toNat : Int)).toNat : Nat) : Int) = _
  have e : ∀ c : UInt8, BitVec.ofInt 8 (c.toNat : Int) = c.toBitVec := fun c => by
    apply BitVec.eq_of_toNat_eq
    have := c.toNat_lt
    simp
  rw [e, e]
  have h := (a ^^^ b).toNat_lt
  have : (a.toBitVec ^^^ b.toBitVec).toNat = (a ^^^ b).toNat := rfl
  rw [this]
  generalize (a ^^^ b).toNat = n at h
  simp only [IntKind.wrap, IntKind.bits, IntKind.signed]
  simp
  omega
set_option maxHeartbeats 4000000 in
set_option maxRecDepth 100000 in
theorem cuts_walk (w : World) (j : Int) (wj : (Lit.int .u8 j).wf = true) (A : Option Addr) (n c : Nat) (a : List UInt8) (hr : Rd w A n a) (hc : n ≤ c) (hm : c ≤ maxLen) (A2 : Option Addr) (n2 c2 : Nat) (b : List UInt8) (hr2 : Rd w A2 n2 b) (hc2 : n2 ≤ c2) (hm2 : c2 ≤ maxLen)
    (cut : Int) (wc : (Lit.int .i64 cut).wf = true) (at_ : Int) (wa : (Lit.int .i64 at_).wf = true) (y : Int) (wy : (Lit.int .u8 y).wf = true) :
    Calls Try.prog 8 #[.int .u8 j, .slice A n c, .slice A2 n2 c2, .int .i64 cut, .int .i64 at_, .int .u8 y] w fun e w' => e = .returned (.bool true) ∧ Upd (fun _ => False) w w' := by
  obtain ⟨j, rfl⟩ := u8_exists j wj
  obtain ⟨y, rfl⟩ := u8_exists y wy
  have hlim := hr.lim
  have hlim2 := hr2.lim
  obtain rfl := hr.len
  obtain rfl := hr2.len
  have HA := Asd.mk hr
  have HB := Asd.mk hr2
  clear hr hr2 wj wy wc wa hm hm2
  go_enter Try.func8, Try.ntmps8
  go_wp2_with fail
  refine (FrLaws.head_calls _).mono ?_
  rintro e w1 ⟨rfl, hu⟩
  have HU := Asd.mk hu
  clear hu
  by_cases h3 : 300 < a.length
  · go_wp2
    go_ret
    exact ⟨rfl, HU.out⟩
  by_cases h4 : 300 < b.length
  · go_wp2
    go_ret
    exact ⟨rfl, HU.out⟩
  go_wp2_with fail
  refine (put_ok none 0 0 [] j A c a w1 (Rd.nil _ _) (HA.out.up HU.out) (by omega) (by omega)).mono ?_
  rintro e w2 ⟨A3, c3, G3, rfl, ho, hg, hc3, hm3, hu⟩
  rw [List.nil_append] at ho hc3 ⊢
  have hl3 : (fbytes j a).length = a.length + 5 := fbytes_length j a
  have HL3 := Asd.mk hl3
  rw [hl3] at ho hc3 ⊢
  have HX2 := Asd.mk ho.rd
  have HU2 := Asd.mk (HU.out.trans hu (fun _ _ h => h))
  obtain ⟨p, hp, hp5⟩ := place cut (a.length + 5) (by omega) (by omega)
  have hp : wrap64 ((IntKind.u64.wrap cut).tmod ((a.length : Int) + 5)) = (p : Int) := hp
  obtain ⟨q, hq, hq3⟩ := place at_ (a.length + 3) (by omega) (by omega)
  have hq : wrap64 ((IntKind.u64.wrap at_).tmod ((a.length : Int) + 5 - 2)) = (q : Int) := by rw [show (a.length : Int) + 5 - 2 = ((a.length + 3 : Nat) : Int) by omega]; exact hq
  clear ho hg hu HU hl3
  have hpc : (p : Int) ≤ (c3 : Int) := by omega
  go_wp2_with fail
  refine (get_calls A3 p c3 ((fbytes j a).take p) w2 (HX2.out.take p (by omega)) (by omega)).mono ?_
  rw [get_cut j a p (by omega) hp5]
  rintro e w3 ⟨A4, c4, G4, rfl, _, _, _, _, hu⟩
  obtain ⟨W3, hW3⟩ : ∃ W3, W3 = w3.alloc (.cells #[.int .u8 0, .slice A4 0 c4] 32) := ⟨_, rfl⟩
  have hv := hu.alloc (.cells #[.int .u8 0, .slice A4 0 c4] 32)
  rw [← hW3] at hv
  have HX3 := Asd.mk (HX2.out.up hv)
  have HU3 := Asd.mk (HU2.out.trans hv (fun _ _ h => h))
  have HW3 := Asd.mk hW3
  clear hu hv HU2 HX2 hp hW3
  go_wp2_with (first | (with_reducible refine stop_append _ _ _ _ rfl ?_) | (with_reducible refine stop_copy _ _ _ _ rfl ?_) | (with_reducible refine stop_make _ _ _ rfl ?_) | (with_reducible refine stop_conv 23 9 _ rfl ?_))
  rw [← HW3.out]
  refine wp_appendF (S := fun _ => False) (w0 := W3) ((Upd.refl _ W3).alloc _) (a.length + 5) 5 [] (fbytes j a) (some (w3.heap.size + 1)) _ 0 0 A3 (a.length + 5) c3 rfl _ _ 23 rfl Try.underlying23 info8 rfl rfl (Own.litg W3 (w3.heap.size + 1) (by rw [HW3.out]; simp) 5 1 0 #[] (by simp [maxLen]) rfl) (fun g e => by obtain rfl := Option.some.inj e; rw [HW3.out]; simp) (HX3.out.up ((Upd.refl _ _).alloc _)) (by omega) (by omega) ?_
  intro A5 c5 w5 G5 hc5 hm5 hO hG hu _ _
  simp only [List.nil_append] at hO
  have HV5 := Asd.mk hu
  have HU5 := Asd.mk (HU3.out.trans hu (fun _ _ h => h))
  have HO5 := Asd.mk hO
  have HG5 := Asd.mk hG
  clear hO hG hu
  go_wp2_with (first | (with_reducible refine stop_append _ _ _ _ rfl ?_) | (with_reducible refine stop_copy _ _ _ _ rfl ?_) | (with_reducible refine stop_make _ _ _ rfl ?_) | (with_reducible refine stop_conv 23 9 _ rfl ?_))
  refine wp_appendF (S := fun _ => False) (w0 := W3) HV5.out (a.length + 5 + b.length) 5 (fbytes j a) b G5 A5 (a.length + 5) c5 A2 b.length c2 rfl _ _ 23 rfl Try.underlying23 info8 rfl rfl HO5.out HG5.out (HB.out.up HU5.out) rfl (by omega) ?_
  intro A6 c6 w6 G6 hc6 hm6 hO hG hu hU _
  have HX6 := Asd.mk (HX3.out.up hu)
  have HU6 := Asd.mk (HU3.out.trans hu (fun _ _ h => h))
  have HR6 := Asd.mk hO.rd
  clear hO hG hu hU HU5 HX3 HO5 HG5 HU3 HV5 HW3
  go_wp2_with fail
  refine (get_calls A6 (a.length + 5 + b.length) c6 (fbytes j a ++ b) w6 HR6.out hc6).mono ?_
  rw [get_put j a b (by omega)]
  rintro e w7 ⟨A7, c7, G7, rfl, ho, hg, hc7, hm7, hu⟩
  obtain ⟨W7, hW7⟩ : ∃ W7, W7 = w7.alloc (.cells #[.int .u8 (j.toNat : Int), .slice A7 a.length c7] 32) := ⟨_, rfl⟩
  have hv7 := (Upd.refl (fun _ => False) w7).alloc (.cells #[.int .u8 (j.toNat : Int), .slice A7 a.length c7] 32)
  have hu7 := HU6.out.trans hu (fun _ _ h => h)
  have HF7 := Asd.mk (ho.rd.up hv7)
  have HA7 := Asd.mk ((HA.out.up hu7).up hv7)
  have HX7 := Asd.mk ((HX6.out.up hu).up hv7)
  have HU7 := Asd.mk (hu7.trans hv7 (fun _ _ h => h))
  have hsF := run_str (P := Try.prog) (c := c7) Try.underlying23 Try.underlying5 Try.underlying9 HF7.out
  have hsA := run_str (P := Try.prog) (c := c) Try.underlying23 Try.underlying5 Try.underlying9 HA7.out
  have HW7 := Asd.mk hW7
  rw [← hW7] at HX7 HU7
  clear ho hg hu hv7 hu7 HU6 HR6 HX6 HF7 HA7 hW7
  go_wp2_with (with_reducible refine stop_append _ _ _ _ rfl ?_)
  rw [← HW7.out]
  refine wp_appendF (S := fun _ => False) (w0 := W7) ((Upd.refl _ W7).alloc _) (a.length + 5) 5 [] (fbytes j a) (some (w7.heap.size + 1)) _ 0 0 A3 (a.length + 5) c3 rfl _ _ 23 rfl Try.underlying23 info8 rfl rfl (Own.litg W7 (w7.heap.size + 1) (by rw [HW7.out]; simp) 5 1 0 #[] (by simp [maxLen]) rfl) (fun g e => by obtain rfl := Option.some.inj e; rw [HW7.out]; simp) (HX7.out.up ((Upd.refl _ _).alloc _)) (by omega) (by omega) ?_
  intro A8 c8 w8 G8 hc8 hm8 hO hG hu _ _
  simp only [List.nil_append] at hO
  obtain ⟨g8, o8, c8', hv, rfl⟩ := hO.byteAt (show 0 < a.length + 5 by omega)
  injection hv with e1 _ e3
  subst e1
  subst e3
  have hx : 2 + q < a.length + 5 := by omega
  obtain ⟨hcell, hfz⟩ := hO.cellB (2 + q) hx
  obtain ⟨x, hxv⟩ : ∃ x : UInt8, x = (fbytes j a)[2 + q]'(by rw [hO.llen]; exact hx) := ⟨_, rfl⟩
  rw [← hxv] at hcell
  have HO9 := Asd.mk (hO.setB (2 + q) hx (x ^^^ y))
  have HXV : Asd ((fbytes j a).set (2 + q) (x ^^^ y) = turn (fbytes j a) (2 + q) y) := ⟨by unfold turn; rw [hxv, List.getD_eq_getElem?_getD, List.getElem?_eq_getElem (by rw [HL3.out]; exact hx)]; rfl⟩
  have hG8 : W7.heap.size ≤ g8 := hG g8 rfl
  have HU9 := Asd.mk ((HU7.out.trans hu (fun _ _ h => h)).setCell (p := ⟨g8, o8 + (2 + q), none⟩) (fun h => by have := HU7.out.size; simp at h; omega) (.int .u8 ((x ^^^ y).toNat : Int)))
  have hxy : Go.bits .xor .u8 (x.toNat : Int) (y.toNat : Int) = ((x ^^^ y).toNat : Int) := xor8 x y
  clear hO hG hu hxv HX7 HU7 hG8
  by_cases hy : y = 0
  · have hy0 : ((y.toNat : Int) == 0) = true := by rw [hy]; rfl
    have hy1 : ((y.toNat : Int) != 0) = false := by rw [hy]; rfl
    have HT : Asd (turn (fbytes j a) (2 + q) y = fbytes j a ++ []) := ⟨by
      unfold turn
      rw [hy, List.append_nil, UInt8.xor_zero, List.getD_eq_getElem?_getD, List.getElem?_eq_getElem (by rw [HL3.out]; exact hx)]
      exact List.set_getElem_self _⟩
    clear hy
    go_wp2_with fail
    refine (get_calls _ (a.length + 5) c8 ((fbytes j a).set (2 + q) (x ^^^ y)) _ HO9.out.rd hc8).mono ?_
    rw [HXV.out, HT.out, get_put j a [] (by omega)]
    rintro e w10 ⟨A10, c10, G10, rfl, _, _, _, _, hu⟩
    have HU10 := Asd.mk (HU9.out.trans hu (fun _ _ h => h))
    clear hu
    go_wp2
    go_ret
    exact ⟨rfl, HU10.out.alloc _⟩
  · have hy0 : ((y.toNat : Int) == 0) = false := by rw [beq_eq_false_iff_ne]; intro e; exact hy (UInt8.toNat_inj.1 (by simpa using e))
    have hy1 : ((y.toNat : Int) != 0) = true := by rw [bne_iff_ne]; intro e; exact hy (UInt8.toNat_inj.1 (by simpa using e))
    have HT : Asd (fget (turn (fbytes j a) (2 + q) y) = (0, [], 0, 7)) := ⟨get_turn j a q y (by omega) hq3 hy⟩
    clear hy
    go_wp2_with fail
    refine (get_calls _ (a.length + 5) c8 ((fbytes j a).set (2 + q) (x ^^^ y)) _ HO9.out.rd hc8).mono ?_
    rw [HXV.out, HT.out]
    rintro e w10 ⟨A10, c10, G10, rfl, _, _, _, _, hu⟩
    have HU10 := Asd.mk (HU9.out.trans hu (fun _ _ h => h))
    clear hu
    go_wp2
    go_ret
    exact ⟨rfl, HU10.out.alloc _⟩
end Go.Proofs.Ytahbcjgbhfkhbaa.FrCuts
