/- The two statements on the queue: what each law's call comes to, for every input. -/
import Derived.Test.YtahbcjgbhfkhbaaOutq
import Derived.Test.YtahbcjgbhfkhbaaK2
import Derived.Deep.RegionWith
set_option linter.unusedVariables false
set_option linter.unusedSimpArgs false
namespace Go.Proofs.Ytahbcjgbhfkhbaa.OqLaws
open Go.RowKit K Oq

set_option maxHeartbeats 1000000 in
set_option maxRecDepth 100000 in
theorem head_calls (w : World) : Calls Try.prog 32 #[] w fun e w' => e = .returned (.bool true) ∧ Upd (fun _ => False) w w' := by
  have kc := fun (w : World) (C : Array Value) (n c : Nat) => Lib.run_convert_bytes_const (P := Try.prog) w 23 5 C n c Try.underlying23 Try.underlying5
  go_enter Try.func32, Try.ntmps32
  go_wp2_with fail
  refine (new_calls 4 w).mono ?_
  rintro e w1 ⟨q, F, rfl, hq, hu, hf⟩
  rw [show clampSize 4 = 4 from rfl] at hq
  have HQ := Asd.mk hq
  have HU := Asd.mk hu
  have HF := Asd.mk hf
  clear hq hu hf
  go_wp2_with fail
  have hu1 := (Upd.refl (fun _ => False) w1).alloc (.cells #[.int .u8 97, .int .u8 98, .int .u8 99] 5 (3, 4))
  have HQ1 := Asd.mk (HQ.out.upd hu1 (fun _ _ h => h))
  have HU1 := Asd.mk (HU.out.trans hu1 (fun _ _ h => h))
  have HF1 := Asd.mk HF.out
  clear hu1 HU HQ HF
  refine (put_yes HQ1.out (some ⟨w1.heap.size, 0, none⟩) 3 3 [97, 98, 99] (Rd.lit w1 _ _ _ 3 _ rfl rfl (by omega)) (by simp)).mono ?_
  rintro e w2 ⟨rfl, F2, hq, hu, hf⟩
  rw [List.nil_append] at hq
  have HQ2 := Asd.mk hq
  have HU2 : Asd (Upd (fun _ => False) w w2) := ⟨HU1.out.trans hu (fun i hi h => by have := HF1.out i h; omega)⟩
  have HF2 : Asd (∀ k, F2 k → w.heap.size ≤ k) := ⟨fun k hk => (hf k hk).elim (fun h => HF1.out k h) (fun h => by have := HU1.out.size; omega)⟩
  clear hq hu hf HU1 HQ1 HF1
  go_wp2_with fail
  have hu1 := (Upd.refl (fun _ => False) w2).alloc (.cells #[.int .u8 100, .int .u8 101] 5 (2, 3))
  refine (put_no (HQ2.out.upd hu1 (fun _ _ h => h)) _ 2 2 (by simp)).mono ?_
  rintro e w3 ⟨rfl, hd⟩
  have hu3 := hu1.trans (hd.upd (fun _ => False)) (fun _ _ h => h)
  have HQ3 := Asd.mk (HQ2.out.upd hu3 (fun _ _ h => h))
  have HU3 := Asd.mk (HU2.out.trans hu3 (fun _ _ h => h))
  clear hd hu1 hu3 HU2 HQ2
  go_wp2_with fail
  refine (take_calls HQ3.out 2).mono ?_
  rintro e w4 ⟨g, F4, rfl, hg, hgF, ho, hq, hu, hf⟩
  have ht : takeN 2 ([97, 98, 99] : List UInt8).length = 2 := by decide
  rw [ht] at ho hq ⊢
  clear ht
  have HQ4 := Asd.mk hq
  have HO4 := Asd.mk ho
  have HU4 : Asd (Upd (fun _ => False) w w4) := ⟨HU3.out.trans hu (fun i hi h => by have := HF2.out i h; omega)⟩
  clear hq ho hu hf hg hgF HU3 HQ3 HF2
  go_wp2_with (first | (with_reducible refine stop_append _ _ _ _ rfl ?_) | (with_reducible refine stop_copy _ _ _ _ rfl ?_) | (with_reducible refine stop_make _ _ _ rfl ?_) | (with_reducible refine stop_conv 23 9 _ rfl ?_))
  refine wp_str [97, 98] _ 2 2 rfl 23 9 5 _ rfl Try.underlying23 Try.underlying5 Try.underlying9 rfl HO4.out.rd ?_
  have hS : S [97, 98] = { data := #[97, 98] } := rfl
  rw [hS]
  clear hS
  go_wp2_with fail
  refine (len_calls HQ4.out).mono ?_
  rintro e w5 ⟨rfl, rfl⟩
  go_wp2_with fail
  refine (room_calls HQ4.out).mono ?_
  rintro e w6 ⟨rfl, hd⟩
  have HU6 := Asd.mk (HU4.out.trans (hd.upd (fun _ => False)) (fun _ _ h => h))
  clear hd HU4 HQ4 HO4
  go_wp2
  go_ret
  exact ⟨rfl, HU6.out⟩

abbrev RAct := R3 RBool RBytes (RInt .i64)
def total (L : List (Bool × List UInt8 × Int)) : Nat := (L.map fun a => a.2.1.length).sum
theorem total_take (L : List (Bool × List UInt8 × Int)) (i : Nat) (h : i < L.length) : total (L.take (i + 1)) = total (L.take i) + L[i].2.1.length := by
  rw [List.take_succ_eq_append_getElem h]
  unfold total
  rw [List.map_append, List.sum_append]
  simp
theorem total_mem (L : List (Bool × List UInt8 × Int)) (i : Nat) (h : i < L.length) : L[i].2.1.length ≤ total L := by
  have h1 := total_take L i h
  have h2 : total (L.take (i + 1)) ≤ total L := by
    have : total L = total (L.take (i + 1)) + total (L.drop (i + 1)) := by
      conv => lhs; rw [← List.take_append_drop (i + 1) L]
      unfold total
      rw [List.map_append, List.sum_append]
    omega
  omega
set_option maxHeartbeats 2000000 in
set_option maxRecDepth 100000 in
theorem acts_walk (w : World) (size : Int) (ws : (Lit.int .i64 size).wf = true) (A : Option Addr) (n c : Nat) (L : List (Bool × List UInt8 × Int)) (hL : RSlice RAct 3 w [.slice A n c] L) :
    Calls Try.prog 13 #[.int .i64 size, .slice A n c] w fun e w' => e = .returned (.bool true) ∧ Upd (fun _ => False) w w' := by
  obtain ⟨A', c', he, hE, hc, hm, _⟩ := hL
  simp only [List.cons.injEq, Value.slice.injEq, and_true] at he
  obtain ⟨rfl, rfl, rfl⟩ := he
  have HE := Asd.mk hE
  have hlim := hE.lim
  have hst : Stays RAct := R3.stays RBool.stays RBytes.stays (RInt.stays _)
  have HST := Asd.mk hst
  clear hE hst hm ws
  go_enter Try.func13, Try.ntmps13
  go_wp2_with fail
  refine (head_calls _).mono ?_
  rintro e w1 ⟨rfl, hu⟩
  have HU := Asd.mk hu
  clear hu
  by_cases h3 : 100 < L.length
  · go_wp2
    go_ret
    exact ⟨rfl, HU.out⟩
  go_wp2
  go_loopw [5, 22] (fun v5 v22 wr => ∃ i : Nat, i ≤ L.length ∧ v22 = .int .i64 i ∧ v5 = .int .i64 (total (L.take i)) ∧ total (L.take i) ≤ i * 140737488351232 ∧ Asd (Upd (fun _ => False) w wr)) (fun _ v22 _ => L.length - (intOf v22).toNat)
  case atStart => exact ⟨0, by omega, rfl, rfl, by simp [total], HU⟩
  case round =>
    obtain ⟨i, hi, rfl, rfl, htot, HUr⟩ := hrel
    by_cases hlt : i < L.length
    · obtain ⟨ad, cs, e, hlen, hr, hcell⟩ := (HE.out.up HST.out HUr.out).at_ i hlt
      subst e
      have htk := total_take L i hlt
      obtain ⟨x, hx⟩ : ∃ x, x = L[i] := ⟨_, rfl⟩
      rw [← hx] at hr htk
      obtain ⟨pb, l, tk⟩ := x
      obtain ⟨c0, c1, c2, rfl, h0, h1, h2⟩ := hr
      obtain ⟨a1, k1, e1, hrd, hk1, hk2, hk3⟩ := h1
      have hk3' : l.length ≤ 140737488351232 := hk3
      simp only [RBool, List.cons.injEq, and_true] at h0
      simp only [List.cons.injEq, and_true] at e1
      simp only [RInt, List.cons.injEq, and_true] at h2
      subst h0
      subst e1
      obtain ⟨h2, h2w⟩ := h2
      subst h2
      have HC := Asd.mk hcell
      have HTK := Asd.mk htk
      clear hcell hlen h2w hrd hx htk hk3
      go_wp2_with (with_reducible refine stop_load 60 _ rfl ?_)
      refine wp_loadAgg _ (ad.add (i * 3)) 3 rfl _ _ rfl rfl Try.underlying60 rfl (by kernel_rfl) rfl (fun j u hj => by rw [add_add]; exact HC.out j u hj) ?_
      go_wp2
      go_roundw
      case rel => exact ⟨i + 1, by omega, by go_num, by rw [HTK.out]; go_num, by rw [HTK.out]; show total (L.take i) + l.length ≤ _; omega, ⟨HUr.out.alloc _⟩⟩
      case measure => simp [intOf]; omega
    · obtain ⟨tot, ht⟩ : ∃ t, t = total (L.take i) := ⟨_, rfl⟩
      have HT : Asd (tot = total L) := ⟨by rw [ht, List.take_of_length_le (by omega)]⟩
      rw [← ht] at htot ⊢
      clear ht
      by_cases h2000 : 2000 < tot
      · go_wp2
        go_ret
        exact ⟨rfl, HUr.out⟩
      have HM : Asd (∀ i (h : i < L.length), L[i].2.1.length ≤ 2000) := ⟨fun i h => by have := total_mem L i h; have := HT.out; omega⟩
      clear HT htot
      go_wp2_with fail
      refine (new_calls size _).mono ?_
      rintro e w2 ⟨q, F, rfl, hq, hu, hf⟩
      have HQ2 := Asd.mk hq
      have HU2 : Asd (Upd (fun _ => False) w w2) := ⟨HUr.out.trans hu (fun _ _ h => h)⟩
      have HF2 : Asd (∀ k, F k → w.heap.size ≤ k) := ⟨fun k hk => by have := hf k hk; have := HUr.out.size; omega⟩
      have HRM : Asd (mn (mx size 0) 65536 = clampSize size) := ⟨by unfold mn mx clampSize; split <;> split <;> (try split) <;> (try split) <;> omega⟩
      obtain ⟨room, hroom⟩ : ∃ r, r = clampSize size := ⟨_, rfl⟩
      rw [← hroom] at HQ2 HRM
      clear hq hu hf HUr hroom h2000 hlt hi
      go_wp2
      rw [HRM.out]
      have hempty : ({ data := #[] } : ByteArray) = S [] := rfl
      rw [hempty]
      clear hempty
      go_loopw [10, 41] (fun v10 v41 wr => ∃ (i : Nat) (hv : List UInt8) (F : Nat → Prop), i ≤ L.length ∧ v41 = .int .i64 i ∧ v10 = .string (S hv) ∧ Asd (Que wr q hv room F) ∧ Asd (∀ k, F k → w.heap.size ≤ k) ∧ Asd (Upd (fun _ => False) w wr)) (fun _ v41 _ => L.length - (intOf v41).toNat)
      case atStart => exact ⟨0, [], F, by omega, rfl, rfl, HQ2, HF2, HU2⟩
      case round =>
        obtain ⟨i, hv, F3, hi, rfl, rfl, HQ, HF, HU3⟩ := hrel
        by_cases hlt : i < L.length
        · obtain ⟨ad, cs, e, hlen, hr, hcell⟩ := HE.out.at_ i hlt
          subst e
          have hm2 := HM.out i hlt
          obtain ⟨x, hx⟩ : ∃ x, x = L[i] := ⟨_, rfl⟩
          rw [← hx] at hr hm2
          obtain ⟨pb, l, tk⟩ := x
          obtain ⟨c0, c1, c2, rfl, h0, h1, h2⟩ := hr
          obtain ⟨a1, k1, e1, hrd, hk1, hk2, hk3⟩ := h1
          simp only [RBool, List.cons.injEq, and_true] at h0
          simp only [List.cons.injEq, and_true] at e1
          simp only [RInt, List.cons.injEq, and_true] at h2
          subst h0
          subst e1
          obtain ⟨h2, h2w⟩ := h2
          subst h2
          have HC : Asd (∀ j u, [Value.bool pb, .slice a1 l.length k1, .int .i64 tk][j]? = some u → wr.cell? (ad.add (i * 3 + j)) = some u) := ⟨fun j u hj => HU3.out.cell (hcell j u hj) (fun h => h)⟩
          have HRDw := Asd.mk hrd
          have HRD := Asd.mk (hrd.up HU3.out)
          have hfit := HQ.out.fit
          have hroom0 := HQ.out.lo
          have hroom1 := HQ.out.hi
          have hlim2 := HQ.out.lim
          have hmm : l.length ≤ 2000 := hm2
          have hnF : ¬ F3 wr.heap.size := fun h => Nat.lt_irrefl _ (HQ.out.lt _ h)
          have HNF := Asd.mk hnF
          clear hcell hlen h2w hrd hx hk3 hm2 hnF
          have HU4 := Asd.mk (HU3.out.alloc (.cells #[.bool pb, .slice a1 l.length k1, .int .i64 tk] 60))
          have hun := (Upd.refl (fun _ => False) wr).alloc (.cells #[.bool pb, .slice a1 l.length k1, .int .i64 tk] 60)
          have HQ4 := Asd.mk (HQ.out.upd hun (fun _ _ h => h))
          have HRD4 := Asd.mk (HRD.out.up hun)
          have hrd5 : ∀ {w5 : World}, Upd F3 (wr.alloc (.cells #[.bool pb, .slice a1 l.length k1, .int .i64 tk] 60)) w5 → Rd w5 a1 l.length l := fun hu => HRDw.out.up (HU4.out.trans hu (fun i hi h => by have := HF.out i h; omega))
          clear HQ HU3 HRD hun
          cases pb with
          | true =>
            by_cases hfits : (hv.length : Int) + (l.length : Int) ≤ room
            · go_wp2_with (with_reducible refine stop_load 60 _ rfl ?_)
              refine wp_loadAgg _ (ad.add (i * 3)) 3 rfl _ _ rfl rfl Try.underlying60 rfl (by kernel_rfl) rfl (fun j u hj => by rw [add_add]; exact HC.out j u hj) ?_
              go_wp2_with fail
              refine (put_yes HQ4.out a1 l.length k1 l HRD4.out (by omega)).mono ?_
              rintro e w5 ⟨rfl, F5, hq, hu, hf⟩
              have hb5 := hu.blk (heap_alloc_new wr _) HNF.out
              have hcl : w5.cell? ⟨wr.heap.size, 1, none⟩ = some (.slice a1 l.length k1) := by simp [World.cell?, hb5]
              have HRD5 := Asd.mk (hrd5 hu)
              have HQ5 := Asd.mk hq
              have HF5 : Asd (∀ k, F5 k → w.heap.size ≤ k) := ⟨fun k hk => (hf k hk).elim (fun h => HF.out k h) (fun h => by have := HU4.out.size; omega)⟩
              have HU5 : Asd (Upd (fun _ => False) w w5) := ⟨HU4.out.trans hu (fun i hi h => by have := HF.out i h; omega)⟩
              have hlenA : (hv ++ l).length = hv.length + l.length := by simp
              clear hb5 hq hu hf HQ4 HU4 HF HNF
              go_wp2_with (first | (with_reducible refine stop_append _ _ _ _ rfl ?_) | (with_reducible refine stop_copy _ _ _ _ rfl ?_) | (with_reducible refine stop_make _ _ _ rfl ?_) | (with_reducible refine stop_conv 23 9 _ rfl ?_))
              refine wp_str l _ l.length k1 rfl 23 9 5 _ rfl Try.underlying23 Try.underlying5 Try.underlying9 rfl HRD5.out ?_
              go_wp2_with fail
              refine (len_calls HQ5.out).mono ?_
              rintro e w6 ⟨rfl, rfl⟩
              go_wp2_with fail
              refine (room_calls HQ5.out).mono ?_
              rintro e w7 ⟨rfl, hd⟩
              have HQ7 := Asd.mk (HQ5.out.upd (hd.upd (fun _ => False)) (fun _ _ h => h))
              have HU7 := Asd.mk (HU5.out.trans (hd.upd (fun _ => False)) (fun _ _ h => h))
              clear hd
              go_wp2
              go_roundw
              case rel => exact ⟨i + 1, hv ++ l, F5, by omega, by go_num, rfl, HQ7, HF5, HU7⟩
              case measure => simp [intOf]; omega
            · go_wp2_with (with_reducible refine stop_load 60 _ rfl ?_)
              refine wp_loadAgg _ (ad.add (i * 3)) 3 rfl _ _ rfl rfl Try.underlying60 rfl (by kernel_rfl) rfl (fun j u hj => by rw [add_add]; exact HC.out j u hj) ?_
              go_wp2_with fail
              refine (put_no HQ4.out a1 l.length k1 (by omega)).mono ?_
              rintro e w5 ⟨rfl, hd⟩
              have HQ5 := Asd.mk (HQ4.out.upd (hd.upd (fun _ => False)) (fun _ _ h => h))
              have HU5 := Asd.mk (HU4.out.trans (hd.upd (fun _ => False)) (fun _ _ h => h))
              clear hd HQ4 HU4 HNF
              go_wp2_with fail
              refine (len_calls HQ5.out).mono ?_
              rintro e w6 ⟨rfl, rfl⟩
              go_wp2_with fail
              refine (room_calls HQ5.out).mono ?_
              rintro e w7 ⟨rfl, hd⟩
              have HQ7 := Asd.mk (HQ5.out.upd (hd.upd (fun _ => False)) (fun _ _ h => h))
              have HU7 := Asd.mk (HU5.out.trans (hd.upd (fun _ => False)) (fun _ _ h => h))
              clear hd
              go_wp2
              go_roundw
              case rel => exact ⟨i + 1, hv, F3, by omega, by go_num, rfl, HQ7, HF, HU7⟩
              case measure => simp [intOf]; omega
          | false =>
            obtain ⟨k, hk⟩ : ∃ k, k = takeN tk hv.length := ⟨_, rfl⟩
            have hkl : k ≤ hv.length := by rw [hk]; exact takeN_le _ _
            have HK : Asd (mn (mx tk 0) (hv.length : Int) = (k : Int)) := ⟨by rw [hk, ← takeN_eq]; unfold mn mx; split <;> split <;> (try split) <;> (try split) <;> omega⟩
            have HK2 := Asd.mk hk
            clear hk
            go_wp2_with (with_reducible refine stop_load 60 _ rfl ?_)
            refine wp_loadAgg _ (ad.add (i * 3)) 3 rfl _ _ rfl rfl Try.underlying60 rfl (by kernel_rfl) rfl (fun j u hj => by rw [add_add]; exact HC.out j u hj) ?_
            go_wp2
            rw [HK.out]
            have hcl2 : (wr.alloc (.cells #[.bool false, .slice a1 l.length k1, .int .i64 tk] 60)).cell? ⟨wr.heap.size, 2, none⟩ = some (.int .i64 tk) := by
              have hb := heap_alloc_new wr (.cells #[.bool false, .slice a1 l.length k1, .int .i64 tk] 60)
              simp only [World.cell?, hb]
              rfl
            go_region_with ((go_at_call 35; refine (take_calls (HQ4.out.upd (S := fun _ => False) (by first | exact Upd.refl _ _ | exact (Upd.refl _ _).drew | exact (Upd.refl _ _).drewN _) (fun _ _ h => h)) tk).mono ?_; rintro e w5 ⟨g, F5, rfl, hg, hgF, ho, hq, hu, hf⟩; rw [← HK2.out] at ho hq ⊢; have hstr := run_str (P := Try.prog) (c := k) Try.underlying23 Try.underlying5 Try.underlying9 ho.rd; have HQ5 := Asd.mk hq; have HF5 : Asd (∀ k, F5 k → w.heap.size ≤ k) := ⟨fun k hk => (hf k hk).elim (fun h => HF.out k h) (fun h => by have := HU4.out.size; simp at h; simp at this; omega)⟩; have HU5 : Asd (Upd (fun _ => False) w w5) := ⟨HU4.out.drew.trans hu (fun i hi h => by have := HF.out i h; omega)⟩; clear ho hq hu hf hg hgF hcl2))
            go_wp2_with fail
            refine (len_calls HQ5.out).mono ?_
            rintro e w6 ⟨rfl, rfl⟩
            go_wp2_with fail
            refine (room_calls HQ5.out).mono ?_
            rintro e w7 ⟨rfl, hd⟩
            have HQ7 := Asd.mk (HQ5.out.upd (hd.upd (fun _ => False)) (fun _ _ h => h))
            have HU7 := Asd.mk (HU5.out.trans (hd.upd (fun _ => False)) (fun _ _ h => h))
            clear hd
            go_wp2
            go_roundw
            case rel => exact ⟨i + 1, hv.drop k, F5, by omega, by go_num, by rw [List.take_of_length_le (by simp)], HQ7, HF5, HU7⟩
            case measure => simp [intOf]; omega
        · go_wp2
          go_ret
          exact ⟨rfl, HU3.out⟩
end Go.Proofs.Ytahbcjgbhfkhbaa.OqLaws
