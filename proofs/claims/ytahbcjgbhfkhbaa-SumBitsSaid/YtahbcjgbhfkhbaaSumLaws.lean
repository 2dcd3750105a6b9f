/- The three statements on the sum: what each law's call comes to, for every input. -/
import Derived.Test.YtahbcjgbhfkhbaaSum
set_option linter.unusedVariables false
set_option linter.unusedSimpArgs false
namespace Go.Proofs.Ytahbcjgbhfkhbaa.SumLaws
open Go.RowKit K Crc Sm

set_option maxHeartbeats 1000000 in
set_option maxRecDepth 100000 in
theorem bits_walk (w : World) (s : Int) (hs : (Lit.int .u16 s).wf = true) (A : Option Addr) (n c : Nat) (l : List UInt8) (hr : Rd w A n l) (hc : n ≤ c) (hm : c ≤ maxLen) :
    Calls Try.prog 3 #[.int .u16 s, .slice A n c] w fun e w' => e = .returned (.bool true) ∧ Upd (fun _ => False) w w' := by
  have HR := Asd.mk hr
  have hlim := hr.lim
  clear hr hm
  obtain ⟨x, rfl⟩ : ∃ x : BitVec 16, s = n16 x := n16_exists s (by simp [Lit.wf, IntKind.min, IntKind.signed] at hs; omega) (by simp [Lit.wf, IntKind.max, IntKind.bits, IntKind.signed] at hs; omega)
  clear hs
  go_enter Try.func3, Try.ntmps3
  go_wp2_with fail
  refine (head_calls _).mono ?_
  rintro e w1 ⟨rfl, hu⟩
  have HU := Asd.mk hu
  have HR1 : Asd (Rd w1 A n l) := ⟨HR.out.upd hu (fun _ _ h => h)⟩
  clear hu
  by_cases h3 : (n : Int) > 300
  · go_wp2
    go_ret
    exact ⟨rfl, HU.out⟩
  · go_wp2_with fail
    refine (more_calls x A n c l _ HR1.out).mono ?_
    rintro e w2 ⟨rfl, hd⟩
    have HU2 : Asd (Upd (fun _ => False) w w2) := ⟨HU.out.trans (hd.upd _) (fun _ _ h => h)⟩
    have HR2 : Asd (Rd w2 A n l) := ⟨hd.rd HR1.out⟩
    clear hd HU HR1
    go_wp2_with fail
    refine (law_of_calls x A n c l _ HR2.out).mono ?_
    rintro e w3 ⟨rfl, hd⟩
    have HU3 : Asd (Upd (fun _ => False) w w3) := ⟨HU2.out.trans (hd.upd _) (fun _ _ h => h)⟩
    have HR3 : Asd (Rd w3 A n l) := ⟨hd.rd HR2.out⟩
    clear hd HU2 HR2
    go_wp2_with fail
    refine (of_calls A n c l _ HR3.out).mono ?_
    rintro e w4 ⟨rfl, hd⟩
    have HU4 : Asd (Upd (fun _ => False) w w4) := ⟨HU3.out.trans (hd.upd _) (fun _ _ h => h)⟩
    have HR4 : Asd (Rd w4 A n l) := ⟨hd.rd HR3.out⟩
    clear hd HU3 HR3
    go_wp2_with fail
    refine (law_of_calls 0xffff#16 A n c l _ HR4.out).mono ?_
    rintro e w5 ⟨rfl, hd⟩
    have HU5 : Asd (Upd (fun _ => False) w w5) := ⟨HU4.out.trans (hd.upd _) (fun _ _ h => h)⟩
    clear hd HU4 HR4
    go_wp2
    go_ret
    exact ⟨by simp, HU5.out⟩
end Go.Proofs.Ytahbcjgbhfkhbaa.SumLaws
