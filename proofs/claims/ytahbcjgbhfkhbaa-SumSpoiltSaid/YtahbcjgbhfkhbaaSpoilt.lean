/- The law SumSpoilt: what its call comes to, for every input. -/
import Derived.Test.YtahbcjgbhfkhbaaFlip
import Derived.Test.YtahbcjgbhfkhbaaSumLaws
set_option linter.unusedVariables false
set_option linter.unusedSimpArgs false
namespace Go.Proofs.Ytahbcjgbhfkhbaa.Spoilt
open Go.RowKit K Crc Sm Flip SumLaws

theorem place (a : Int) (n : Nat) (h : 0 < n) (hn : n ≤ 300) : ∃ p : Nat, wrap64 ((IntKind.u64.wrap a).tmod (8 * (n : Int))) = (p : Int) ∧ p < 8 * n := by
  have h0 : 0 ≤ IntKind.u64.wrap a := by
    simp only [IntKind.wrap, IntKind.bits, IntKind.signed]
    simp
    omega
  rw [Int.tmod_eq_emod_of_nonneg h0]
  have h1 := Int.emod_nonneg (IntKind.u64.wrap a) (show (8 * (n : Int)) ≠ 0 by omega)
  have h2 := Int.emod_lt_of_pos (IntKind.u64.wrap a) (show 0 < (8 * (n : Int)) by omega)
  refine ⟨((IntKind.u64.wrap a) % (8 * (n : Int))).toNat, ?_, by omega⟩
  unfold wrap64
  omega
theorem own_flip {w : World} {e : TypeId} {n g o c : Nat} {l : List UInt8} {G : Option Nat} (h : Own w e 1 (.slice (some ⟨g, o, none⟩) n c) n (B l) G) (p : Nat) (hp : p / 8 < n) (b : UInt8) (hb : b = l[p / 8]'(by rw [h.llen]; exact hp)) :
    Asd (Own (w.setCell ⟨g, o + p / 8, none⟩ (.int .u8 (Go.bits .xor .u8 (b.toNat : Int) (128 / 2 ^ (p % 8))))) e 1 (.slice (some ⟨g, o, none⟩) n c) n (B (flp l p)) G) := by
  have h1 := h.setB (p / 8) hp (b ^^^ mask (p % 8))
  rw [mask_int (p % 8) (by omega), xor8]
  refine ⟨?_⟩
  unfold flp
  have : l.getD (p / 8) 0 = b := by
    rw [hb, List.getD_eq_getElem?_getD, List.getElem?_eq_getElem (by rw [h.llen]; exact hp)]
    rfl
  rw [this]
  exact h1
def bitOfTurn (turn : Int) (i : Nat) : Bool := Go.bits .and .i64 (turn / 2 ^ i) 1 == 1
set_option maxHeartbeats 2000000 in
set_option maxRecDepth 100000 in
theorem spoilt_walk (w : World) (A : Option Addr) (n c : Nat) (l : List UInt8) (hr : Rd w A n l) (hc : n ≤ c) (hm : c ≤ maxLen) (at_ : Int) (wat : (Lit.int .i64 at_).wf = true) (turn : Int) (wt : (Lit.int .i64 turn).wf = true) (one : Int) (w1_ : (Lit.int .i64 one).wf = true) (two : Int) (w2_ : (Lit.int .i64 two).wf = true) :
    Calls Try.prog 5 #[.slice A n c, .int .i64 at_, .int .i64 turn, .int .i64 one, .int .i64 two] w fun e w' => e = .returned (.bool true) ∧ Upd (fun _ => False) w w' := by
  have HR := Asd.mk hr
  have hlim := hr.lim
  have HL := Asd.mk hr.len
  clear hr hm
  clear wat wt w1_ w2_
  go_enter Try.func5, Try.ntmps5
  go_wp2_with fail
  refine (head_calls _).mono ?_
  rintro e w1 ⟨rfl, hu⟩
  have HU := Asd.mk hu
  clear hu
  by_cases h0 : n = 0
  · subst h0
    go_wp2
    go_ret
    exact ⟨rfl, HU.out⟩
  have h0' : ((n : Int) == 0) = false := beq_eq_false_iff_ne.2 (by omega)
  have hpos : 0 < n := by omega
  clear h0
  by_cases h3 : 300 < n
  · go_wp2
    go_ret
    exact ⟨rfl, HU.out⟩
  go_wp2_with fail
  refine (of_calls A n c l _ (HR.out.up HU.out)).mono ?_
  rintro e w2 ⟨rfl, hd⟩
  have HU2 : Asd (Upd (fun _ => False) w w2) := ⟨HU.out.trans (hd.upd _) (fun _ _ h => h)⟩
  clear hd HU
  go_wp2_with (first | (with_reducible refine stop_append _ _ _ _ rfl ?_) | (with_reducible refine stop_copy _ _ _ _ rfl ?_) | (with_reducible refine stop_make _ _ _ rfl ?_))
  refine wp_appendF (HU2.out.alloc _) n 5 [] l (some w2.heap.size) _ 0 0 A n c rfl _ _ 23 rfl Try.underlying23 info8 rfl rfl (Own.lit w2 5 1 0 #[] (by simp [maxLen]) rfl) (fun g e => by obtain rfl := Option.some.inj e; exact HU2.out.size) (HR.out.up (HU2.out.alloc _)) (by omega) (by omega) ?_
  intro A3 c3 w3 G3 hc3 hm3 hO hG hu _ _
  simp only [List.nil_append] at hO
  obtain ⟨g, o, c', hv, rfl⟩ := hO.byteAt hpos
  injection hv with hv1 _ hv3
  subst hv1
  subst hv3
  have HU3 := Asd.mk hu
  have HG3 := Asd.mk (hG g rfl)
  have HO3 := Asd.mk hO
  clear hO hG hu HU2
  go_wp2
  obtain ⟨p, hp, hp8⟩ := place at_ n hpos (by omega)
  rw [hp]
  clear hp
  go_loopw [14, 15] (fun v14 v15 wr => ∃ i : Nat, i ≤ 16 ∧ p + i ≤ 8 * n ∧ v15 = .int .i64 i ∧ v14 = .bool (someOf (bitOfTurn turn) i) ∧ Asd (Own wr 5 1 (.slice (some ⟨g, o, none⟩) n c3) n (B (turned l (bitOfTurn turn) p i)) (some g)) ∧ Asd (Upd (fun _ => False) w wr)) (fun _ v15 _ => 16 - (intOf v15).toNat)
  case atStart => exact ⟨0, by omega, by omega, rfl, rfl, HO3, HU3⟩
  case round =>
    obtain ⟨i, hi, hpi, rfl, rfl, HO, HU⟩ := hrel
    by_cases hend : i < 16 ∧ p + i < 8 * n
    · obtain ⟨hi16, hpn⟩ := hend
      have hx : (p + i) / 8 < n := by omega
      obtain ⟨hcell, hfz⟩ := HO.out.cellB ((p + i) / 8) hx
      obtain ⟨b, hb⟩ : ∃ b : UInt8, b = (turned l (bitOfTurn turn) p i)[(p + i) / 8]'(by rw [HO.out.llen]; exact hx) := ⟨_, rfl⟩
      rw [← hb] at hcell
      have HB := Asd.mk hb
      clear hb
      cases ht : bitOfTurn turn i with
      | true =>
        have ht' : (Go.bits .and .i64 (turn / 2 ^ i) 1 == 1) = true := ht
        have HT := Asd.mk ht
        clear ht
        go_wp2
        have HO' := own_flip HO.out (p + i) hx b HB.out
        have HU' := Asd.mk (HU.out.setCell (p := ⟨g, o + (p + i) / 8, none⟩) (fun h => by have := HG3.out; simp at h; omega) (.int .u8 (Go.bits .xor .u8 (b.toNat : Int) (128 / 2 ^ ((p + i) % 8)))))
        go_roundw
        case rel => exact ⟨i + 1, by omega, by omega, by go_num, by rw [someOf, HT.out]; simp, ⟨by rw [turned, if_pos HT.out]; exact HO'.out⟩, HU'⟩
        case measure => simp [intOf]; omega
      | false =>
        have ht' : (Go.bits .and .i64 (turn / 2 ^ i) 1 == 1) = false := ht
        have HT := Asd.mk ht
        clear ht
        go_wp2
        go_roundw
        case rel => exact ⟨i + 1, by omega, by omega, by go_num, by rw [someOf, HT.out]; simp, ⟨by rw [turned, if_neg (by rw [HT.out]; simp)]; exact HO.out⟩, HU⟩
        case measure => simp [intOf]; omega
    · obtain ⟨cl, hcl⟩ : ∃ cl, cl = turned l (bitOfTurn turn) p i := ⟨_, rfl⟩
      rw [← hcl] at HO
      have hdone : decide ((i : Int) < 16) = false ∨ (decide ((i : Int) < 16) = true ∧ decide ((p : Int) + i < 8 * n) = false) := by
        simp
        omega
      have HN : Asd (someOf (bitOfTurn turn) i = true → crc 0xffff#16 cl ≠ crc 0xffff#16 l) := ⟨fun h => by rw [hcl]; exact turned_crc _ l _ p i (by rw [HL.out]; omega) hi h⟩
      clear hcl
      obtain ⟨sm, hsm⟩ : ∃ sm, sm = someOf (bitOfTurn turn) i := ⟨_, rfl⟩
      rw [← hsm] at HN ⊢
      clear hsm hend
      obtain ⟨w4, rfl⟩ : ∃ w4 : World, w4 = wr := ⟨_, rfl⟩
      have HU4 := HU
      clear HU
      cases sm with
      | true =>
        have HN' := Asd.mk (HN.out rfl)
        clear HN
        rcases hdone with hd1 | ⟨hd1, hd2⟩
        all_goals
          go_wp2_with fail
          refine (of_calls _ n c3 cl _ HO.out.rd).mono ?_
          rintro e w4' ⟨rfl, hd⟩
          have HU4' : Asd (Upd (fun _ => False) w w4') := ⟨HU4.out.trans (hd.upd _) (fun _ _ h => h)⟩
          have hne : (n16 (crc 0xffff#16 cl) == n16 (crc 0xffff#16 l)) = false := by rw [beq_eq_false_iff_ne, ne_eq, n16_inj]; exact HN'.out
          clear hd HU4 HO HN'
          have HU4 := HU4'
          clear HU4'
          clear w4
          obtain ⟨w4, rfl⟩ : ∃ w4 : World, w4 = w4' := ⟨_, rfl⟩
          go_wp2_with (first | (with_reducible refine stop_append _ _ _ _ rfl ?_) | (with_reducible refine stop_copy _ _ _ _ rfl ?_) | (with_reducible refine stop_make _ _ _ rfl ?_))
          refine wp_appendF (HU4.out.alloc _) n 5 [] l (some w4.heap.size) _ 0 0 A n c rfl _ _ 23 rfl Try.underlying23 info8 rfl rfl (Own.lit w4 5 1 0 #[] (by simp [maxLen]) rfl) (fun g e => by obtain rfl := Option.some.inj e; exact HU4.out.size) (HR.out.up (HU4.out.alloc _)) (by omega) (by omega) ?_
          intro A5 c5 w5 G5 hc5 hm5 hO hG hu _ _
          simp only [List.nil_append] at hO
          obtain ⟨g5, o5, c5', hv, rfl⟩ := hO.byteAt hpos
          injection hv with hv1 _ hv3
          subst hv1
          subst hv3
          have HU5 := Asd.mk hu
          have HG5 := Asd.mk (hG g5 rfl)
          have HO5 := Asd.mk hO
          clear hO hG hu HU4
          obtain ⟨p1, hp1, hp18⟩ := place one n hpos (by omega)
          obtain ⟨p2, hp2, hp28⟩ := place two n hpos (by omega)
          rw [hp1, hp2]
          clear hp1 hp2
          have hx1 : p1 / 8 < n := by omega
          have hx2 : p2 / 8 < n := by omega
          obtain ⟨hcell, hfz⟩ := HO5.out.cellB (p1 / 8) hx1
          obtain ⟨b1, hb⟩ : ∃ b : UInt8, b = l[p1 / 8]'(by rw [HO5.out.llen]; exact hx1) := ⟨_, rfl⟩
          rw [← hb] at hcell
          have HB1 := Asd.mk hb
          clear hb
          have HO6 := own_flip HO5.out p1 hx1 b1 HB1.out
          have HU6 : Asd (Upd (fun _ => False) w (w5.setCell ⟨g5, o5 + p1 / 8, none⟩ (.int .u8 (Go.bits .xor .u8 (b1.toNat : Int) (128 / 2 ^ (p1 % 8)))))) := ⟨HU5.out.setCell (fun h => by have := HG5.out; simp at h; omega) _⟩
          by_cases h12 : p2 = p1
          · subst h12
            have HE : Asd (crc 0xffff#16 (flp l p2) ≠ crc 0xffff#16 l) := ⟨flip_crc _ l p2 (by rw [HL.out]; omega)⟩
            clear HB1 HO5 HU5
            go_wp2_with fail
            refine (of_calls _ n c5 (flp l p2) _ HO6.out.rd).mono ?_
            rintro e w7 ⟨rfl, hd⟩
            have HU7 : Asd (Upd (fun _ => False) w w7) := ⟨HU6.out.trans (hd.upd _) (fun _ _ h => h)⟩
            clear hd HU6 HO6
            go_wp2
            go_ret
            exact ⟨by have := HE.out; simp [n16_inj, this], HU7.out⟩
          · have h12b : ((p2 : Int) != (p1 : Int)) = true := by rw [bne_iff_ne]; omega
            have HE : Asd (crc 0xffff#16 (flp (flp l p1) p2) ≠ crc 0xffff#16 l) := ⟨flip2_crc _ l p1 p2 (by rw [HL.out]; omega) (by rw [HL.out]; omega) h12 (by rw [HL.out]; omega)⟩
            have h12' : ¬ (p2 : Int) = (p1 : Int) := by omega
            clear h12
            obtain ⟨hcell2, hfz2⟩ := HO6.out.cellB (p2 / 8) hx2
            obtain ⟨b2, hb⟩ : ∃ b : UInt8, b = (flp l p1)[p2 / 8]'(by rw [HO6.out.llen]; exact hx2) := ⟨_, rfl⟩
            rw [← hb] at hcell2
            have HB2 := Asd.mk hb
            clear hb
            have HO7 := own_flip HO6.out p2 hx2 b2 HB2.out
            have HU7 := Asd.mk (HU6.out.setCell (p := ⟨g5, o5 + p2 / 8, none⟩) (fun h => by have := HG5.out; simp at h; omega) (.int .u8 (Go.bits .xor .u8 (b2.toNat : Int) (128 / 2 ^ (p2 % 8)))))
            clear HB1 HO5 HU5 HB2 HO6 HU6
            go_wp2_with fail
            refine (of_calls _ n c5 (flp (flp l p1) p2) _ HO7.out.rd).mono ?_
            rintro e w8 ⟨rfl, hd⟩
            have HU8 : Asd (Upd (fun _ => False) w w8) := ⟨HU7.out.trans (hd.upd _) (fun _ _ h => h)⟩
            clear hd HU7 HO7
            go_wp2
            go_ret
            exact ⟨by have := HE.out; simp [n16_inj, this], HU8.out⟩
      | false =>
        clear HN HO
        rcases hdone with hd1 | ⟨hd1, hd2⟩
        all_goals
          go_wp2_with (first | (with_reducible refine stop_append _ _ _ _ rfl ?_) | (with_reducible refine stop_copy _ _ _ _ rfl ?_) | (with_reducible refine stop_make _ _ _ rfl ?_))
          refine wp_appendF (HU4.out.alloc _) n 5 [] l (some w4.heap.size) _ 0 0 A n c rfl _ _ 23 rfl Try.underlying23 info8 rfl rfl (Own.lit w4 5 1 0 #[] (by simp [maxLen]) rfl) (fun g e => by obtain rfl := Option.some.inj e; exact HU4.out.size) (HR.out.up (HU4.out.alloc _)) (by omega) (by omega) ?_
          intro A5 c5 w5 G5 hc5 hm5 hO hG hu _ _
          simp only [List.nil_append] at hO
          obtain ⟨g5, o5, c5', hv, rfl⟩ := hO.byteAt hpos
          injection hv with hv1 _ hv3
          subst hv1
          subst hv3
          have HU5 := Asd.mk hu
          have HG5 := Asd.mk (hG g5 rfl)
          have HO5 := Asd.mk hO
          clear hO hG hu HU4
          obtain ⟨p1, hp1, hp18⟩ := place one n hpos (by omega)
          obtain ⟨p2, hp2, hp28⟩ := place two n hpos (by omega)
          rw [hp1, hp2]
          clear hp1 hp2
          have hx1 : p1 / 8 < n := by omega
          have hx2 : p2 / 8 < n := by omega
          obtain ⟨hcell, hfz⟩ := HO5.out.cellB (p1 / 8) hx1
          obtain ⟨b1, hb⟩ : ∃ b : UInt8, b = l[p1 / 8]'(by rw [HO5.out.llen]; exact hx1) := ⟨_, rfl⟩
          rw [← hb] at hcell
          have HB1 := Asd.mk hb
          clear hb
          have HO6 := own_flip HO5.out p1 hx1 b1 HB1.out
          have HU6 : Asd (Upd (fun _ => False) w (w5.setCell ⟨g5, o5 + p1 / 8, none⟩ (.int .u8 (Go.bits .xor .u8 (b1.toNat : Int) (128 / 2 ^ (p1 % 8)))))) := ⟨HU5.out.setCell (fun h => by have := HG5.out; simp at h; omega) _⟩
          by_cases h12 : p2 = p1
          · subst h12
            have HE : Asd (crc 0xffff#16 (flp l p2) ≠ crc 0xffff#16 l) := ⟨flip_crc _ l p2 (by rw [HL.out]; omega)⟩
            clear HB1 HO5 HU5
            go_wp2_with fail
            refine (of_calls _ n c5 (flp l p2) _ HO6.out.rd).mono ?_
            rintro e w7 ⟨rfl, hd⟩
            have HU7 : Asd (Upd (fun _ => False) w w7) := ⟨HU6.out.trans (hd.upd _) (fun _ _ h => h)⟩
            clear hd HU6 HO6
            go_wp2
            go_ret
            exact ⟨by have := HE.out; simp [n16_inj, this], HU7.out⟩
          · have h12b : ((p2 : Int) != (p1 : Int)) = true := by rw [bne_iff_ne]; omega
            have HE : Asd (crc 0xffff#16 (flp (flp l p1) p2) ≠ crc 0xffff#16 l) := ⟨flip2_crc _ l p1 p2 (by rw [HL.out]; omega) (by rw [HL.out]; omega) h12 (by rw [HL.out]; omega)⟩
            have h12' : ¬ (p2 : Int) = (p1 : Int) := by omega
            clear h12
            obtain ⟨hcell2, hfz2⟩ := HO6.out.cellB (p2 / 8) hx2
            obtain ⟨b2, hb⟩ : ∃ b : UInt8, b = (flp l p1)[p2 / 8]'(by rw [HO6.out.llen]; exact hx2) := ⟨_, rfl⟩
            rw [← hb] at hcell2
            have HB2 := Asd.mk hb
            clear hb
            have HO7 := own_flip HO6.out p2 hx2 b2 HB2.out
            have HU7 := Asd.mk (HU6.out.setCell (p := ⟨g5, o5 + p2 / 8, none⟩) (fun h => by have := HG5.out; simp at h; omega) (.int .u8 (Go.bits .xor .u8 (b2.toNat : Int) (128 / 2 ^ (p2 % 8)))))
            clear HB1 HO5 HU5 HB2 HO6 HU6
            go_wp2_with fail
            refine (of_calls _ n c5 (flp (flp l p1) p2) _ HO7.out.rd).mono ?_
            rintro e w8 ⟨rfl, hd⟩
            have HU8 : Asd (Upd (fun _ => False) w w8) := ⟨HU7.out.trans (hd.upd _) (fun _ _ h => h)⟩
            clear hd HU7 HO7
            go_wp2
            go_ret
            exact ⟨by have := HE.out; simp [n16_inj, this], HU8.out⟩
end Go.Proofs.Ytahbcjgbhfkhbaa.Spoilt
