/- The document's example of the messages: what its call comes to. -/
import Derived.Test.YtpphejjdgplalaaMsgFr
set_option linter.unusedVariables false
set_option linter.unusedSimpArgs false
namespace Go.Proofs.Ytpphejjdgplalaa.MgHead
open Go.RowKit K Mg MgNum MgOf MgFr

set_option maxHeartbeats 2000000 in
set_option maxRecDepth 100000 in
theorem head_calls (w : World) : Calls Try.prog 30 #[] w fun e w' => e = .returned (.bool true) ∧ Upd (fun _ => False) w w' := by
  have hb : mbody 7 (1 : Int).toNat (258 : Int).toNat [] = [0, 0, 0, 0, 0, 1, 0, 0, 0, 0, 1, 2] := by decide +kernel
  have hr : right 7 1 258 ([] : List UInt8).length = true := by decide +kernel
  go_enter Try.func30, Try.ntmps30
  go_wp2_with fail
  refine (frame_calls 7 1 258 [] w).mono ?_
  rintro e w1 ⟨hu, _, hf⟩
  rw [hb] at hf
  obtain ⟨A, c, G, rfl, ho, hg, hc, hm⟩ := hf hr
  have HO := Asd.mk ho.rd
  have HU := Asd.mk hu
  obtain ⟨ad, rfl, _⟩ := HO.out.at 0 (by decide)
  clear hu hf hr hb ho hg
  have h1 := heap_alloc_new w1 (.cells #[.int .u8 7, .slice (some ad) 12 c] 53)
  have hV := (Upd.refl (fun _ => False) w1).alloc (.cells #[.int .u8 7, .slice (some ad) 12 c] 53)
  go_wp2_with fail
  refine (of_calls 7 (some ad) c [0, 0, 0, 0, 0, 1, 0, 0, 0, 0, 1, 2] _ (HO.out.up hV) hc (by decide)).mono ?_
  have hi : isMsg (((7 : UInt8).toNat : Nat) : Int) [0, 0, 0, 0, 0, 1, 0, 0, 0, 0, 1, 2] = true := by decide +kernel
  have ha : numA (nums (((7 : UInt8).toNat : Nat) : Int)) [0, 0, 0, 0, 0, 1, 0, 0, 0, 0, 1, 2] = 1 := by decide +kernel
  have hbb : numB (nums (((7 : UInt8).toNat : Nat) : Int)) [0, 0, 0, 0, 0, 1, 0, 0, 0, 0, 1, 2] = 258 := by decide +kernel
  have ht : ([0, 0, 0, 0, 0, 1, 0, 0, 0, 0, 1, 2] : List UInt8).drop (6 * nums (((7 : UInt8).toNat : Nat) : Int)) = [] := by decide +kernel
  unfold OfPost
  rw [hi, ha, hbb, ht, if_pos rfl, show (((7 : UInt8).toNat : Nat) : Int) = 7 from rfl, show ((1 : Nat) : Int) = 1 from rfl, show ((258 : Nat) : Int) = 258 from rfl, show S [] = { data := #[] } from rfl]
  rintro e w2 ⟨hu2, rfl⟩
  have hb2 := hu2.blk h1 (fun h => h)
  have hx1 : w2.cell? ⟨w1.heap.size, 1, none⟩ = some (.slice (some ad) 12 c) := by simp [World.cell?, hb2]
  obtain ⟨ad5, e5, hc5⟩ := ((HO.out.up hV).up hu2).at 5 (by decide)
  obtain rfl := Option.some.inj e5
  have hc5 : w2.cell? (ad.add 5) = some (.int .u8 1) := hc5
  have hc5 : w2.cell? ⟨ad.block, ad.off + 5, none⟩ = some (.int .u8 1) := by rw [← hc5]; simp [Addr.add]
  obtain ⟨ad10, e10, hc10⟩ := ((HO.out.up hV).up hu2).at 10 (by decide)
  obtain rfl := Option.some.inj e10
  have hc10 : w2.cell? (ad.add 10) = some (.int .u8 1) := hc10
  have hc10 : w2.cell? ⟨ad.block, ad.off + 10, none⟩ = some (.int .u8 1) := by rw [← hc10]; simp [Addr.add]
  obtain ⟨ad11, e11, hc11⟩ := ((HO.out.up hV).up hu2).at 11 (by decide)
  obtain rfl := Option.some.inj e11
  have hc11 : w2.cell? (ad.add 11) = some (.int .u8 2) := hc11
  have hc11 : w2.cell? ⟨ad.block, ad.off + 11, none⟩ = some (.int .u8 2) := by rw [← hc11]; simp [Addr.add]
  have HU2 : Asd (Upd (fun _ => False) w w2) := ⟨(HU.out.trans hV (fun _ _ h => h)).trans hu2 (fun _ _ h => h)⟩
  have hN1 : w1.heap.size < w2.heap.size := blk_lt hb2
  have k2 := (Upd.refl (fun _ => False) w2).alloc (.cells #[.int .i64 7, .int .i64 1, .int .i64 258, .string { data := #[] }] 44)
  have hx1b := k2.cell hx1 (fun h => h)
  have hc5b := k2.cell hc5 (fun h => h)
  have hc10b := k2.cell hc10 (fun h => h)
  have hc11b := k2.cell hc11 (fun h => h)
  clear hi ha hbb ht hb2 h1 e5 e10 e11 k2
  go_wp2
  go_ret
  exact ⟨rfl, HU2.out.alloc _⟩
end Go.Proofs.Ytpphejjdgplalaa.MgHead
