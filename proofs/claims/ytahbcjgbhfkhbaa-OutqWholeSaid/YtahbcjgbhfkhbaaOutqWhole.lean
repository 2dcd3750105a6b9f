/- The law OutqWhole: what its call comes to, for every input. -/
import Derived.Test.YtahbcjgbhfkhbaaOutqLaws
set_option linter.unusedVariables false
set_option linter.unusedSimpArgs false
namespace Go.Proofs.Ytahbcjgbhfkhbaa.OqWhole
open Go.RowKit K Oq OqLaws

set_option maxHeartbeats 2000000 in
set_option maxRecDepth 100000 in
theorem whole_walk (w : World) (A : Option Addr) (n c : Nat) (L : List (List UInt8)) (hL : RSlice RBytes 1 w [.slice A n c] L) (A2 : Option Addr) (n2 c2 : Nat) (T : List Int) (hT : RdI w .i64 A2 n2 T) (hc2 : n2 ≤ c2) (hm2 : c2 ≤ maxLen) :
    Calls Try.prog 14 #[.slice A n c, .slice A2 n2 c2] w fun e w' => e = .returned (.bool true) ∧ Upd (fun _ => False) w w' := by
  obtain ⟨A', c', he, hE, hc, hm, _⟩ := hL
  simp only [List.cons.injEq, Value.slice.injEq, and_true] at he
  obtain ⟨rfl, rfl, rfl⟩ := he
  have HE := Asd.mk hE
  have hlim := hE.lim
  have HT := Asd.mk hT
  have hlim2 := hT.lim
  clear hE hT hm hm2
  go_enter Try.func14, Try.ntmps14
  go_wp2_with fail
  refine (head_calls _).mono ?_
  rintro e w1 ⟨rfl, hu⟩
  have HU := Asd.mk hu
  clear hu
  by_cases h3 : 60 < L.length
  · go_wp2
    go_ret
    exact ⟨rfl, HU.out⟩
  by_cases h4 : 60 < n2
  · go_wp2
    go_ret
    exact ⟨rfl, HU.out⟩
  go_wp2_with fail
  refine (new_calls 65536 _).mono ?_
  rintro e w2 ⟨q, F, rfl, hq, hu, hf⟩
  rw [show clampSize 65536 = 65536 from rfl] at hq
  have HQ2 := Asd.mk hq
  have HU2 : Asd (Upd (fun _ => False) w w2) := ⟨HU.out.trans hu (fun _ _ h => h)⟩
  have HF2 : Asd (∀ k, F k → w.heap.size ≤ k) := ⟨fun k hk => by have := hf k hk; have := HU.out.size; omega⟩
  clear hq hu hf HU
  go_wp2
  have hempty : ({ data := #[] } : ByteArray) = S [] := rfl
  rw [hempty]
  have HEMP := Asd.mk hempty
  clear hempty
  go_loopw [6, 25] (fun v6 v25 wr => ∃ (i : Nat) (hv : List UInt8) (F : Nat → Prop), i ≤ L.length ∧ v25 = .int .i64 i ∧ v6 = .string (S hv) ∧ hv.length ≤ i * 200 ∧ Asd (Que wr q hv 65536 F) ∧ Asd (∀ k, F k → w.heap.size ≤ k) ∧ Asd (Upd (fun _ => False) w wr)) (fun _ v25 _ => L.length - (intOf v25).toNat)
  case atStart => exact ⟨0, [], F, by omega, rfl, rfl, by simp, HQ2, HF2, HU2⟩
  case round =>
    obtain ⟨i, hv, F3, hi, rfl, rfl, hhv, HQ, HF, HU3⟩ := hrel
    by_cases hlt : i < L.length
    · obtain ⟨ad, cs, e, hlen, hr, hcell⟩ := HE.out.at_ i hlt
      subst e
      obtain ⟨l, hx⟩ : ∃ x, x = L[i] := ⟨_, rfl⟩
      rw [← hx] at hr
      obtain ⟨a1, k1, rfl, hrd, hk1, hk2, hk3⟩ := hr
      have hk3' : l.length ≤ 140737488351232 := hk3
      have hc0 := HU3.out.cell (hcell 0 _ rfl) (fun h => h)
      simp only [Nat.mul_one, Nat.add_zero] at hc0
      have HRD := Asd.mk (hrd.up HU3.out)
      have HRDw := Asd.mk hrd
      clear hcell hlen hrd hx hk3
      by_cases h200 : 200 < l.length
      · go_wp2
        go_ret
        exact ⟨by simp, HU3.out⟩
      · go_wp2_with fail
        refine (put_yes HQ.out a1 l.length k1 l HRD.out (by omega)).mono ?_
        rintro e w5 ⟨rfl, F5, hq, hu, hf⟩
        have HQ5 := Asd.mk hq
        have HF5 : Asd (∀ k, F5 k → w.heap.size ≤ k) := ⟨fun k hk => (hf k hk).elim (fun h => HF.out k h) (fun h => by have := HU3.out.size; omega)⟩
        have HU5 : Asd (Upd (fun _ => False) w w5) := ⟨HU3.out.trans hu (fun i hi h => by have := HF.out i h; omega)⟩
        have HRD5 := Asd.mk (HRDw.out.up HU5.out)
        have hlenA : (hv ++ l).length = hv.length + l.length := by simp
        have HLA := Asd.mk hlenA
        clear hq hu hf HQ HU3 HF HRD hlenA
        go_wp2_with (first | (with_reducible refine stop_append _ _ _ _ rfl ?_) | (with_reducible refine stop_copy _ _ _ _ rfl ?_) | (with_reducible refine stop_make _ _ _ rfl ?_) | (with_reducible refine stop_conv 23 9 _ rfl ?_))
        refine wp_str l _ l.length k1 rfl 23 9 5 _ rfl Try.underlying23 Try.underlying5 Try.underlying9 rfl HRD5.out ?_
        go_wp2
        go_roundw
        case rel => exact ⟨i + 1, hv ++ l, F5, by omega, by go_num, rfl, by rw [HLA.out]; omega, HQ5, HF5, HU5⟩
        case measure => simp [intOf]; omega
    · go_wp2
      rw [HEMP.out]
      go_loopw [9, 48] (fun v9 v48 wr => ∃ (i j : Nat) (F : Nat → Prop), i ≤ n2 ∧ j ≤ hv.length ∧ v48 = .int .i64 i ∧ v9 = .string (S (hv.take j)) ∧ Asd (Que wr q (hv.drop j) 65536 F) ∧ Asd (∀ k, F k → w.heap.size ≤ k) ∧ Asd (Upd (fun _ => False) w wr)) (fun _ v48 _ => n2 - (intOf v48).toNat)
      case atStart => exact ⟨0, 0, F3, by omega, by omega, rfl, rfl, by simpa using HQ, HF, HU3⟩
      case round =>
        obtain ⟨i, j, F6, hi, hj, rfl, rfl, HQ6, HF6, HU6⟩ := hrel
        by_cases hlt2 : i < n2
        · obtain ⟨ad, e, hcell⟩ := HT.out.at_ i hlt2
          subst e
          obtain ⟨t, ht⟩ : ∃ t, t = T[i]'(by rw [HT.out.len]; exact hlt2) := ⟨_, rfl⟩
          rw [← ht] at hcell
          have hc0 := HU6.out.cell hcell (fun h => h)
          clear ht hcell
          go_wp2_with fail
          refine (take_calls HQ6.out _).mono ?_
          rintro e w7 ⟨g, F7, rfl, hg, hgF, ho, hq, hu, hf⟩
          obtain ⟨k, hk⟩ : ∃ k, k = takeN (Go.bits .and .i64 t 63) (hv.drop j).length := ⟨_, rfl⟩
          have hkl : k ≤ hv.length - j := by rw [hk, ← List.length_drop]; exact takeN_le _ _
          rw [← hk] at ho hq ⊢
          rw [List.drop_drop] at hq
          have HE2 : Asd ((hv.take j) ++ ((hv.drop j).take k) = hv.take (j + k)) := ⟨by rw [List.take_add]⟩
          have HQ7 := Asd.mk hq
          have HO7 := Asd.mk ho
          have HF7 : Asd (∀ k, F7 k → w.heap.size ≤ k) := ⟨fun k hk => (hf k hk).elim (fun h => HF6.out k h) (fun h => by have := HU6.out.size; omega)⟩
          have HU7 : Asd (Upd (fun _ => False) w w7) := ⟨HU6.out.trans hu (fun i hi h => by have := HF6.out i h; omega)⟩
          clear hk hq ho hu hf hg hgF HU6 HQ6 HF6
          go_wp2_with (first | (with_reducible refine stop_append _ _ _ _ rfl ?_) | (with_reducible refine stop_copy _ _ _ _ rfl ?_) | (with_reducible refine stop_make _ _ _ rfl ?_) | (with_reducible refine stop_conv 23 9 _ rfl ?_))
          refine wp_str ((hv.drop j).take k) _ k k rfl 23 9 5 _ rfl Try.underlying23 Try.underlying5 Try.underlying9 rfl HO7.out.rd ?_
          go_wp2
          go_roundw
          case rel => exact ⟨i + 1, j + k, F7, by omega, by omega, by go_num, by rw [HE2.out], HQ7, HF7, HU7⟩
          case measure => simp [intOf]; omega
        · go_wp2_with fail
          refine (take_calls HQ6.out 100000).mono ?_
          rintro e w7 ⟨g, F7, rfl, hg, hgF, ho, hq, hu, hf⟩
          have hk : takeN 100000 (hv.drop j).length = hv.length - j := by
            have := HQ6.out.lim
            rw [List.length_drop] at this ⊢
            unfold takeN mx mn
            split <;> split <;> omega
          rw [hk] at ho hq ⊢
          rw [List.drop_drop, List.drop_eq_nil_of_le (by omega)] at hq
          rw [List.take_of_length_le (by simp)] at ho
          have HQ7 := Asd.mk hq
          have HO7 := Asd.mk ho
          have HF7 : Asd (∀ k, F7 k → w.heap.size ≤ k) := ⟨fun k hk => (hf k hk).elim (fun h => HF6.out k h) (fun h => by have := HU6.out.size; omega)⟩
          have HU7 : Asd (Upd (fun _ => False) w w7) := ⟨HU6.out.trans hu (fun i hi h => by have := HF6.out i h; omega)⟩
          clear hk hq ho hu hf hg hgF HU6 HQ6 HF6
          go_wp2_with (first | (with_reducible refine stop_append _ _ _ _ rfl ?_) | (with_reducible refine stop_copy _ _ _ _ rfl ?_) | (with_reducible refine stop_make _ _ _ rfl ?_) | (with_reducible refine stop_conv 23 9 _ rfl ?_))
          refine wp_str (hv.drop j) _ (hv.length - j) (hv.length - j) rfl 23 9 5 _ rfl Try.underlying23 Try.underlying5 Try.underlying9 rfl HO7.out.rd ?_
          go_wp2_with fail
          refine (len_calls HQ7.out).mono ?_
          rintro e w8 ⟨rfl, rfl⟩
          go_wp2_with fail
          refine (take_calls HQ7.out 1).mono ?_
          rintro e w9 ⟨g2, F9, rfl, hg, hgF, ho, hq, hu, hf⟩
          rw [show takeN 1 ([] : List UInt8).length = 0 by decide]
          have HU9 : Asd (Upd (fun _ => False) w w9) := ⟨HU7.out.trans hu (fun i hi h => by have := HF7.out i h; omega)⟩
          clear hq ho hu hf hg hgF
          go_wp2
          go_ret
          exact ⟨rfl, HU9.out⟩
end Go.Proofs.Ytahbcjgbhfkhbaa.OqWhole
