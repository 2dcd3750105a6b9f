/- The three statements on the sum: what each law's call comes to, for every input. -/
import Derived.Test.YtahbcjgbhfkhbaaSum
set_option linter.unusedVariables false
set_option linter.unusedSimpArgs false
namespace Go.Proofs.Ytahbcjgbhfkhbaa.SumLaws
open Go.RowKit K Crc Sm

set_option maxHeartbeats 1000000 in
set_option maxRecDepth 100000 in
theorem bits_walk (w : World) (s : Int) (hs : (Lit.int .u16 s).wf = true) (A : Option Addr) (n c : Nat) (l : List UInt8) (hr : Rd w A n l) (hc : n ≤ c) (hm : c ≤ maxLen) :
    Calls Try.prog 3 #[.int .u16 s, .slice A n c] w fun e w' => e = .returned (.bool true) ∧ Upd (fun _ => False) w w' := by
  have HR := Asd.mk hr
  have hlim := hr.lim
  clear hr hm
  obtain ⟨x, rfl⟩ : ∃ x : BitVec 16, s = n16 x := n16_exists s (by simp [Lit.wf, IntKind.min, IntKind.signed] at hs; omega) (by simp [Lit.wf, IntKind.max, IntKind.bits, IntKind.signed] at hs; omega)
  clear hs
  go_enter Try.func3, Try.ntmps3
  go_wp2_with fail
  refine (head_calls _).mono ?_
  rintro e w1 ⟨rfl, hu⟩
  have HU := Asd.mk hu
  have HR1 : Asd (Rd w1 A n l) := ⟨HR.out.upd hu (fun _ _ h => h)⟩
  clear hu
  by_cases h3 : (n : Int) > 300
  · go_wp2
    go_ret
    exact ⟨rfl, HU.out⟩
  · go_wp2_with fail
    refine (more_calls x A n c l _ HR1.out).mono ?_
    rintro e w2 ⟨rfl, hd⟩
    have HU2 : Asd (Upd (fun _ => False) w w2) := ⟨HU.out.trans (hd.upd _) (fun _ _ h => h)⟩
    have HR2 : Asd (Rd w2 A n l) := ⟨hd.rd HR1.out⟩
    clear hd HU HR1
    go_wp2_with fail
    refine (law_of_calls x A n c l _ HR2.out).mono ?_
    rintro e w3 ⟨rfl, hd⟩
    have HU3 : Asd (Upd (fun _ => False) w w3) := ⟨HU2.out.trans (hd.upd _) (fun _ _ h => h)⟩
    have HR3 : Asd (Rd w3 A n l) := ⟨hd.rd HR2.out⟩
    clear hd HU2 HR2
    go_wp2_with fail
    refine (of_calls A n c l _ HR3.out).mono ?_
    rintro e w4 ⟨rfl, hd⟩
    have HU4 : Asd (Upd (fun _ => False) w w4) := ⟨HU3.out.trans (hd.upd _) (fun _ _ h => h)⟩
    have HR4 : Asd (Rd w4 A n l) := ⟨hd.rd HR3.out⟩
    clear hd HU3 HR3
    go_wp2_with fail
    refine (law_of_calls 0xffff#16 A n c l _ HR4.out).mono ?_
    rintro e w5 ⟨rfl, hd⟩
    have HU5 : Asd (Upd (fun _ => False) w w5) := ⟨HU4.out.trans (hd.upd _) (fun _ _ h => h)⟩
    clear hd HU4 HR4
    go_wp2
    go_ret
    exact ⟨by simp, HU5.out⟩

theorem info8 : (Try.prog.info? 5).map (fun i => (i.zero, i.size, i.bytes)) = some (some (.int .u8 0), 1, 1) := by kernel_rfl
set_option maxHeartbeats 1000000 in
set_option maxRecDepth 100000 in
theorem joins_walk (w : World) (s : Int) (hs : (Lit.int .u16 s).wf = true) (A : Option Addr) (n c : Nat) (l : List UInt8) (hr : Rd w A n l) (hc : n ≤ c) (hm : c ≤ maxLen) (A2 : Option Addr) (n2 c2 : Nat) (l2 : List UInt8) (hr2 : Rd w A2 n2 l2) (hc2 : n2 ≤ c2) (hm2 : c2 ≤ maxLen) :
    Calls Try.prog 4 #[.int .u16 s, .slice A n c, .slice A2 n2 c2] w fun e w' => e = .returned (.bool true) ∧ Upd (fun _ => False) w w' := by
  have HR := Asd.mk hr
  have HS := Asd.mk hr2
  have hlim := hr.lim
  have hlim2 := hr2.lim
  clear hr hr2 hm hm2
  obtain ⟨x, rfl⟩ : ∃ x : BitVec 16, s = n16 x := n16_exists s (by simp [Lit.wf, IntKind.min, IntKind.signed] at hs; omega) (by simp [Lit.wf, IntKind.max, IntKind.bits, IntKind.signed] at hs; omega)
  clear hs
  go_enter Try.func4, Try.ntmps4
  go_wp2_with fail
  refine (head_calls _).mono ?_
  rintro e w1 ⟨rfl, hu⟩
  have HU := Asd.mk hu
  clear hu
  by_cases h3 : 300 < n
  · go_wp2
    go_ret
    exact ⟨rfl, HU.out⟩
  by_cases h4 : 300 < n2
  · go_wp2
    go_ret
    exact ⟨rfl, HU.out⟩
  go_wp2_with fail
  refine (more_calls x A n c l _ (HR.out.up HU.out)).mono ?_
  rintro e w2 ⟨rfl, hd⟩
  have HU2 : Asd (Upd (fun _ => False) w w2) := ⟨HU.out.trans (hd.upd _) (fun _ _ h => h)⟩
  clear hd HU
  go_wp2_with fail
  refine (more_calls _ A2 n2 c2 l2 _ (HS.out.up HU2.out)).mono ?_
  rintro e w3 ⟨rfl, hd⟩
  have HU3 : Asd (Upd (fun _ => False) w w3) := ⟨HU2.out.trans (hd.upd _) (fun _ _ h => h)⟩
  clear hd HU2
  go_wp2_with (first | (with_reducible refine stop_append _ _ _ _ rfl ?_) | (with_reducible refine stop_copy _ _ _ _ rfl ?_) | (with_reducible refine stop_make _ _ _ rfl ?_))
  refine wp_appendF (HU3.out.alloc _) n 5 [] l (some w3.heap.size) _ 0 0 A n c rfl _ _ 23 rfl Try.underlying23 info8 rfl rfl (Own.lit w3 5 1 0 #[] (by simp [maxLen]) rfl) (fun g e => by obtain rfl := Option.some.inj e; exact HU3.out.size) (HR.out.up (HU3.out.alloc _)) (by omega) (by omega) ?_
  intro A4 c4 w4 G4 hc4 hm4 hO hG hu _ _
  simp only [List.nil_append] at hO
  have HU4 := Asd.mk hu
  have HG4 := Asd.mk hG
  have HO4 := Asd.mk hO
  clear hO hG hu HU3
  go_wp2_with (first | (with_reducible refine stop_append _ _ _ _ rfl ?_) | (with_reducible refine stop_copy _ _ _ _ rfl ?_) | (with_reducible refine stop_make _ _ _ rfl ?_))
  refine wp_appendF HU4.out (n + n2) 5 l l2 G4 A4 n c4 A2 n2 c2 rfl _ _ 23 rfl Try.underlying23 info8 rfl rfl HO4.out HG4.out (HS.out.up HU4.out) rfl (by omega) ?_
  intro A5 c5 w5 G5 hc5 hm5 hO hG hu _ _
  have HU5 := Asd.mk hu
  have HO5 := Asd.mk hO
  clear hO hG hu HU4 HO4 HG4
  go_wp2_with fail
  refine (more_calls x A5 (n + n2) c5 (l ++ l2) _ HO5.out.rd).mono ?_
  rintro e w6 ⟨rfl, hd⟩
  have HU6 : Asd (Upd (fun _ => False) w w6) := ⟨HU5.out.trans (hd.upd _) (fun _ _ h => h)⟩
  have HE : Asd (crc x (l ++ l2) = crc (crc x l) l2) := ⟨crc_append x l l2⟩
  clear hd HU5 HO5
  rw [HE.out]
  go_wp2_with fail
  refine (more_calls x none 0 0 [] _ (Rd.nil _ _)).mono ?_
  rintro e w7 ⟨rfl, hd⟩
  have HU7 : Asd (Upd (fun _ => False) w w7) := ⟨HU6.out.trans (hd.upd _) (fun _ _ h => h)⟩
  clear hd HU6
  go_wp2
  go_ret
  exact ⟨by simp [crc], HU7.out⟩
end Go.Proofs.Ytahbcjgbhfkhbaa.SumLaws
