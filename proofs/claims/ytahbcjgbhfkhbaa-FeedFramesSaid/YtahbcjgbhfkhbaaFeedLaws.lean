/- What the three statements on the feed share: the document's example, frames handed in. -/
import Derived.Test.YtahbcjgbhfkhbaaFeedAll
import Derived.Test.YtahbcjgbhfkhbaaK2
set_option linter.unusedVariables false
set_option linter.unusedSimpArgs false
namespace Go.Proofs.Ytahbcjgbhfkhbaa.FdLaws
open Go.RowKit K Crc Sm Fr FrMath LGet FdMath Fee FdAll

theorem all_cut (kind : UInt8) (body : List UInt8) (k : Nat) (h : body.length ≤ 2048) (hk : k < body.length + 5) : all ((fbytes kind body).take k) = ([], (fbytes kind body).take k, 0) :=
  all_short _ (by rw [get_cut kind body k h hk])
theorem all_one (kind : UInt8) (body : List UInt8) (h : body.length ≤ 2048) : all (fbytes kind body) = ([(kind, body)], [], 0) := by
  have := all_joined [(kind, body)] (fun x hx => by obtain rfl := List.mem_singleton.1 hx; exact h) []
  rw [all_nil] at this
  simpa [joined] using this
/-- What a feed has when more comes is what it has when all came at once. -/
theorem all_push (p b : List UInt8) (h : (all p).2.2 = 0) : (all (p ++ b)).2 = (all ((all p).2.1 ++ b)).2 ∧ (all (p ++ b)).1 = (all p).1 ++ (all ((all p).2.1 ++ b)).1 := by
  rw [all_more p b h]; exact ⟨rfl, rfl⟩
set_option maxHeartbeats 1000000 in
set_option maxRecDepth 100000 in
theorem head_calls (w : World) : Calls Try.prog 25 #[] w fun e w' => e = .returned (.bool true) ∧ Upd (fun _ => False) w w' := by
  go_enter Try.func25, Try.ntmps25
  go_wp2_with fail
  refine (new_calls w).mono ?_
  rintro e w1 ⟨q, F, rfl, hq, hu, hf⟩
  have HQ := Asd.mk hq
  have HU := Asd.mk hu
  have HF := Asd.mk hf
  clear hq hu hf
  go_wp2_with fail
  refine (put_ok none 0 0 [] 9 none 0 [] w1 (Rd.nil _ _) (Rd.nil _ _) (by omega) (by simp)).mono ?_
  rw [List.nil_append]
  unfold Fr.PutPost
  have h5 : (fbytes 9 []).length = 5 := by rw [fbytes_length]; rfl
  rw [h5]
  rintro e w2 ⟨A, c, G, rfl, ho, hg, hc, hm, hu⟩
  obtain ⟨bs, hbs⟩ : ∃ bs, bs = fbytes 9 [] := ⟨_, rfl⟩
  rw [← hbs] at ho h5
  have hcut : ∀ k, k < 5 → all (bs.take k) = ([], bs.take k, 0) := fun k hk => by rw [hbs]; exact all_cut 9 [] k (by simp) (by simpa using hk)
  have hone : all bs = ([(9, [])], [], 0) := by rw [hbs]; exact all_one 9 [] (by simp)
  have HC := Asd.mk (And.intro hcut (And.intro hone h5))
  have HQ2 := Asd.mk (HQ.out.up hu)
  have HR2 := Asd.mk ho.rd
  have HU2 := Asd.mk (HU.out.trans hu (fun _ _ h => h))
  have HA2 : Asd (∀ ad, A = some ad → ad.block < w2.heap.size ∧ ¬ F ad.block) := ⟨fun ad e => by
    obtain ⟨_, _, hv, _, _, _, hG⟩ := ho.slice
    injection hv with e1 e2 e3
    subst e1
    have hG := hG ad e
    exact ⟨ho.lt _ hG, fun h => by have := HQ.out.lt _ h; have := hg _ hG; omega⟩⟩
  clear hbs hcut hone h5 ho hg hu HQ HU
  go_wp2
  go_loopw [3] (fun v3 wr => ∃ (i : Nat) (F : Nat → Prop), v3 = .int .i64 i ∧ i ≤ 4 ∧ Asd (Feed wr q (bs.take i) 0 F) ∧ Asd (∀ k, F k → w.heap.size ≤ k) ∧ Asd (Rd wr A 5 bs) ∧ Asd (∀ ad, A = some ad → ad.block < wr.heap.size ∧ ¬ F ad.block) ∧ Asd (Upd (fun _ => False) w wr)) (fun v3 _ => 4 - (intOf v3).toNat)
  case atStart => exact ⟨0, F, rfl, by omega, HQ2, HF, HR2, HA2, HU2⟩
  case round =>
    obtain ⟨i, F3, rfl, hi, HQ3, HF3, HR3, HA3, HU3⟩ := hrel
    by_cases hlt : i < 4
    · obtain ⟨A4, hcut, _, hA4, hAb⟩ := cut_both' (P := Try.prog) 23 5 .i64 .i64 (sz := 1) Try.underlying23 (by kernel_rfl) A 5 c i (i + 1) i ((i : Int) + 1) rfl (by omega) (by omega) (by omega) hc
      have hr4 := hA4 rfl _ _ HR3.out
      rw [show i + 1 - i = 1 by omega] at hr4 hcut
      have HR4 := Asd.mk hr4
      have HT := Asd.mk (show bs.take i ++ (bs.take (i + 1)).drop i = bs.take (i + 1) by
        have := List.take_append_drop i (bs.take (i + 1))
        rwa [List.take_take, show min i (i + 1) = i by omega] at this)
      have hln := Asd.mk (show (bs.take i).length = i by have := HC.out.2.2; rw [List.length_take]; omega)
      have hw1 : IntKind.i64.wrap ((i : Int) + 1) = (i : Int) + 1 := w64i _ (by omega) (by omega)
      clear hr4 hA4 hAb
      go_wp2_with fail
      refine (push_live HQ3.out A4 1 (c - i) _ HR4.out (by rw [hln.out]; omega)).mono ?_
      rw [HT.out, HC.out.1 (i + 1) (by omega)]
      rintro e w5 ⟨A5, c5, L5, G5, F5, rfl, ha, hc5, hm5, ho5, hf5, hq5, hu5, hF5, hG5⟩
      have hl5 : L5 = [] := List.eq_nil_of_length_eq_zero (by rw [← abs_length, ha]; rfl)
      subst hl5
      have HQ5 := Asd.mk hq5
      have HF5' : Asd (∀ k, F5 k → w.heap.size ≤ k) := ⟨fun k hk => (hF5 k hk).elim (fun h => HF3.out k h) (fun h => by have := HU3.out.size; omega)⟩
      have HR5 := Asd.mk (HR3.out.upd hu5 (fun ad e => (HA3.out ad e).2))
      have HA5 : Asd (∀ ad, A = some ad → ad.block < w5.heap.size ∧ ¬ F5 ad.block) := ⟨fun ad e => by
        have h1 := HA3.out ad e
        have := hu5.size
        exact ⟨by omega, fun h => (hF5 _ h).elim h1.2 (by omega)⟩⟩
      have HU5 : Asd (Upd (fun _ => False) w w5) := ⟨HU3.out.trans hu5 (fun i hi h => by have := HF3.out i h; omega)⟩
      clear ha hc5 hm5 ho5 hf5 hq5 hu5 hF5 hG5 HQ3 HF3 HR3 HA3 HU3 HT hln hcut HR4
      go_wp2
      go_roundw
      case rel => exact ⟨i + 1, F5, rfl, by omega, HQ5, HF5', HR5, HA5, HU5⟩
      case measure => simp only [intOf]; omega
    · have hi4 : i = 4 := by omega
      subst hi4
      obtain ⟨A4, hcut, _, hA4, hAb⟩ := cut_from' (P := Try.prog) 23 5 .i64 (sz := 1) Try.underlying23 (by kernel_rfl) A 5 c 4 4 rfl (by omega) hc
      have HR4 := Asd.mk (hA4 rfl _ _ HR3.out)
      clear hA4 hAb
      go_wp2_with fail
      refine (push_live HQ3.out A4 1 (c - 4) _ HR4.out (by have := HC.out.2.2; rw [List.length_take]; omega)).mono ?_
      rw [List.take_append_drop, HC.out.2.1]
      rintro e w5 ⟨A5, c5, L5, G5, F5, rfl, ha, hc5, hm5, ho5, hf5, hq5, hu5, hF5, hG5⟩
      obtain ⟨x, rfl⟩ : ∃ x, L5 = [x] := by
        have : L5.length = 1 := by rw [← abs_length, ha]; rfl
        exact List.length_eq_one_iff.1 this
      obtain ⟨_, _, hv, _, _, hrow, _⟩ := Own.slice ho5
      injection hv with e1 e2 e3
      subst e1
      obtain ⟨ad, rfl, hc0, _⟩ := row_at hrow 0 (by simp)
      have hk : x.kind = 9 := by simp [abs] at ha; exact ha.1
      have hc0 : w5.cell? ad = some (.int .u8 9) := by simpa [hk, Addr.add] using hc0
      have HU5 : Asd (Upd (fun _ => False) w w5) := ⟨HU3.out.trans hu5 (fun i hi h => by have := HF3.out i h; omega)⟩
      have HQ5 := Asd.mk hq5
      clear ha hc5 hm5 ho5 hf5 hq5 hu5 hF5 hG5 hrow hk
      go_wp2_with fail
      refine (len_calls HQ5.out).mono ?_
      rintro e w6 ⟨rfl, rfl⟩
      go_wp2_with fail
      refine (err_calls HQ5.out).mono ?_
      rintro e w6 ⟨rfl, rfl⟩
      go_wp2
      go_ret
      exact ⟨rfl, HU5.out⟩
end Go.Proofs.Ytahbcjgbhfkhbaa.FdLaws
