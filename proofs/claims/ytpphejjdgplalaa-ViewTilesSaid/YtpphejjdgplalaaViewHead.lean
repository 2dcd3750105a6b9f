/- The document's example of layer 12. -/
import Derived.Test.YtpphejjdgplalaaViewNext
import Derived.Test.YtpphejjdgplalaaRingLasts
set_option linter.unusedVariables false
set_option linter.unusedSimpArgs false
namespace Go.Proofs.Ytpphejjdgplalaa.Vw
open Go.RowKit K Rg MgRow Mg MgTwo
set_option maxHeartbeats 2000000 in
set_option maxRecDepth 100000 in
theorem head_calls (w : World) : Calls Try.prog 24 #[] w fun e w' => e = .returned (.bool true) ∧ Upd (fun _ => False) w w' := by
  have kc := fun (w : World) (C : Array Value) (n c : Nat) => Lib.run_convert_bytes_const (P := Try.prog) w 27 5 C n c Try.underlying27 Try.underlying5
  go_enter Try.func24, Try.ntmps24
  go_wp2_with fail
  refine (Rg.new_calls 10 w).mono ?_
  rw [show roomN 10 = 10 by decide]
  rintro e w1 ⟨q, g, rfl, hq, hu, h1, h2⟩
  have HQ := Asd.mk hq
  have HU := Asd.mk hu
  have hl := Bare.lt hq
  have hlq := hl q (.inl rfl)
  have hlg := hl g (.inr rfl)
  have HZ : Asd (#[Value.int .u8 97, .int .u8 98, .int .u8 99] = (B [97, 98, 99]).toArray) := ⟨rfl⟩
  clear hq hu hl
  go_wp2_with fail
  refine (append_calls (HQ.out.up ((Upd.refl (fun _ => False) _).alloc _)) (some ⟨w1.heap.size, 0, none⟩) 3 3 [97, 98, 99] (Rd.lit w1 _ _ _ 3 _ HZ.out rfl (by omega)) (fun ad e h => by obtain rfl := Option.some.inj e; rcases h with h | h <;> (simp only at h; omega)) (by simp)).mono ?_
  rw [List.nil_append]
  rintro e w2 ⟨rfl, hr2, hu2⟩
  have HR2 := Asd.mk hr2
  have HU2 : Asd (Upd (fun _ => False) w w2) := ⟨(HU.out.alloc _).trans hu2 (fun i hi h => by rcases h with rfl | rfl <;> omega)⟩
  clear hr2 hu2 HU HQ kc
  go_wp2_with fail
  refine (new_calls HR2.out 2 (by omega) false).mono ?_
  rw [show startN [97, 98, 99] 10 2 false = 1 by decide]
  rintro e w3 ⟨v, rfl, hv, hu, hv1⟩
  have hl2 := Bare.lt HR2.out
  have hl3 := hl2 q (.inl rfl)
  have hl4 := hl2 g (.inr rfl)
  have hne : ¬ Its q g v := fun h => by rcases h with rfl | rfl <;> omega
  have hvw : w.heap.size ≤ v := Nat.le_trans HU2.out.size hv1
  have HNE := Asd.mk hne
  have HV3 := Asd.mk hv
  have HR3 := Asd.mk (HR2.out.up hu)
  have HU3 := Asd.mk (HU2.out.trans hu (fun _ _ h => h))
  clear hv hu hl2 hl3 hl4 hne HR2 HU2 hv1 h1 h2 hlq hlg
  go_wp2_with fail
  refine (next_calls HR3.out HV3.out HNE.out (by decide) (by omega) 100 1 0 (by omega) (by omega)).mono ?_
  rw [show next [97, 98, 99] 10 1 0 100 1 0 = ⟨⟨6, 1, 0, [98]⟩, true, 2, 0⟩ from rfl]
  rintro e w4 ⟨rfl, hv, hu⟩
  have HV4 := Asd.mk hv
  have HR4 := Asd.mk (HR3.out.upd hu (fun i h e => HNE.out (e ▸ h)))
  have HU4 : Asd (Upd (fun _ => False) w w4) := ⟨HU3.out.trans hu (fun i hi e => by omega)⟩
  clear hv hu HV3 HR3 HU3
  simp only [msgV]
  have hv4 : v < w4.heap.size := blk_lt HV4.out
  go_wp2_with fail
  refine (next_calls (HR4.out.up ((Upd.refl (fun _ => False) _).alloc _)) (HV4.out.up ((Upd.refl (fun _ => False) _).alloc _) (fun h => h)) HNE.out (by decide) (by omega) 100 1 0 (by omega) (by omega)).mono ?_
  rw [show next [97, 98, 99] 10 2 0 100 1 0 = ⟨⟨6, 2, 0, [99]⟩, true, 3, 0⟩ from rfl]
  rintro e w5 ⟨rfl, hv, hu⟩
  have hb5 := hu.blk (blk_new rfl) (by omega)
  have HV5 := Asd.mk hv
  have HR5 := Asd.mk (Ring.upd (HR4.out.up ((Upd.refl (fun _ => False) _).alloc _)) hu (fun i h e => HNE.out (e ▸ h)))
  have HU5 : Asd (Upd (fun _ => False) w w5) := ⟨(HU4.out.alloc _).trans hu (fun i hi e => by omega)⟩
  have hv5 : v < w5.heap.size := blk_lt hv
  have hk5 : w4.heap.size < w5.heap.size := blk_lt hb5
  have H5 := Asd.mk hb5
  clear hv hu HV4 HR4 HU4 hb5
  simp only [msgV]
  go_wp2_with fail
  refine (next_calls (HR5.out.up ((Upd.refl (fun _ => False) _).alloc _)) (HV5.out.up ((Upd.refl (fun _ => False) _).alloc _) (fun h => h)) HNE.out (by decide) (by omega) 100 1 0 (by omega) (by omega)).mono ?_
  rw [show next [97, 98, 99] 10 3 0 100 1 0 = ⟨⟨0, 0, 0, []⟩, false, 3, 0⟩ from rfl]
  rintro e w6 ⟨rfl, hv, hu⟩
  have hb6 := hu.blk (blk_new rfl) (by omega)
  have hb5 := hu.blk (blk_past H5.out) (by omega)
  have HU6 : Asd (Upd (fun _ => False) w w6) := ⟨(HU5.out.alloc _).trans hu (fun i hi e => by omega)⟩
  have a0 := keepsC (o := 0) hb5 rfl
  have a1 := keepsC (o := 1) hb5 rfl
  have a2 := keepsC (o := 2) hb5 rfl
  have a3 := keepsC (o := 3) hb5 rfl
  have b0 := keepsC (o := 0) hb6 rfl
  have b1 := keepsC (o := 1) hb6 rfl
  have b2 := keepsC (o := 2) hb6 rfl
  have b3 := keepsC (o := 3) hb6 rfl
  have hS1 : ({ data := #[98] } : ByteArray) = S [98] := rfl
  have hS2 : ({ data := #[99] } : ByteArray) = S [99] := rfl
  clear hv hu hb6 hb5 H5
  simp only [msgV]
  go_wp2
  go_ret
  exact ⟨rfl, HU6.out.alloc _⟩
end Go.Proofs.Ytpphejjdgplalaa.Vw
