/- The law FrameGets: what its call comes to, for every input. -/
import Derived.Test.YtahbcjgbhfkhbaaFrameLaws
import Derived.Test.YtahbcjgbhfkhbaaLawGet
set_option linter.unusedVariables false
set_option linter.unusedSimpArgs false
namespace Go.Proofs.Ytahbcjgbhfkhbaa.FrGets
open Go.RowKit K Crc Sm Fr FrMath LGet

set_option maxHeartbeats 1000000 in
set_option maxRecDepth 100000 in
theorem gets_walk (w : World) (A : Option Addr) (n c : Nat) (b : List UInt8) (hr : Rd w A n b) (hc : n ≤ c) (hm : c ≤ maxLen) :
    Calls Try.prog 7 #[.slice A n c] w fun e w' => e = .returned (.bool true) ∧ Upd (fun _ => False) w w' := by
  have HR := Asd.mk hr
  have hlim := hr.lim
  clear hr
  go_enter Try.func7, Try.ntmps7
  go_wp2_with fail
  refine (FrLaws.head_calls _).mono ?_
  rintro e w1 ⟨rfl, hu⟩
  have HU := Asd.mk hu
  clear hu
  by_cases h3 : 600 < n
  · go_wp2
    go_ret
    exact ⟨rfl, HU.out⟩
  go_wp2_with fail
  refine (get_calls A n c b _ (HR.out.up HU.out) hc).mono ?_
  rintro e w2 ⟨A2, c2, G2, rfl, ho, hg, hc2, hm2, hu⟩
  have HF2 := Asd.mk ho.rd
  have HU2 := Asd.mk (HU.out.trans hu (fun _ _ h => h))
  clear ho hg hu HU
  generalize hr : fget b = r at *
  obtain ⟨k0, body, m0, e0⟩ := r
  have HG := Asd.mk hr
  clear hr
  have HF2 : Asd (Rd w2 A2 body.length body) := HF2
  have hc2 : body.length ≤ c2 := hc2
  have hv := (Upd.refl (fun _ => False) w2).alloc (.cells #[.int .u8 (k0.toNat : Int), .slice A2 body.length c2] 32)
  have HF3 := Asd.mk (HF2.out.up hv)
  have HU3 := Asd.mk (HU2.out.trans hv (fun _ _ h => h))
  clear hv HU2 HF2
  go_wp2_with fail
  refine (lget_calls A n c b _ (HR.out.up HU3.out) hc hm).mono ?_
  rw [HG.out]
  rintro e w4 ⟨A4, c4, rfl, hrb, hAb, hc4, hm4, hu⟩
  have HU4 := Asd.mk (HU3.out.trans hu (fun _ _ h => h))
  have hsF := run_str (P := Try.prog) (c := c2) Try.underlying23 Try.underlying5 Try.underlying9 (HF3.out.up hu)
  have hsB := run_str (P := Try.prog) (c := c4) Try.underlying23 Try.underlying5 Try.underlying9 (hrb.up hu)
  have hb4 := hu.blk (heap_alloc_new w2 _) (fun h => h)
  have hq0 : w4.cell? ⟨w2.heap.size, 0, none⟩ = some (.int .u8 (k0.toNat : Int)) := by simp [World.cell?, hb4]
  have hq1 : w4.cell? ⟨w2.heap.size, 1, none⟩ = some (.slice A2 body.length c2) := by simp [World.cell?, hb4]
  clear hrb hAb hu HU3 HF3 hb4
  go_wp2
  go_ret
  exact ⟨by simp, HU4.out⟩
end Go.Proofs.Ytahbcjgbhfkhbaa.FrGets
