/- A message's bytes behind others (msg.Put), and that bytes tell the message. -/
import Derived.Test.YtpphejjdgplalaaMsgLawOf
import Derived.Test.YtpphejjdgplalaaFrMath
set_option linter.unusedVariables false
set_option linter.unusedSimpArgs false
namespace Go.Proofs.Ytpphejjdgplalaa.MgPut
open Go.RowKit K Mg MgNum MgOf MgFr MgHead MgLawOf
open Fr (fbytes fbytes_length)

/-- A message's bytes. -/
def mbytes (kind : UInt8) (a b : Nat) (t : List UInt8) : List UInt8 := fbytes kind (mbody (kind.toNat : Int) a b t)
theorem kind_exists (k : Int) (h : known k = true) : ∃ kind : UInt8, k = (kind.toNat : Int) := by
  have : 1 ≤ k ∧ k ≤ 15 := of_decide_eq_true h
  exact ⟨UInt8.ofNat k.toNat, by simp; omega⟩
theorem room_for (k : Int) : 6 * nums k + most k ≤ 2048 := by
  by_cases h : 1 ≤ k ∧ k ≤ 15
  · rcases kinds k h with rfl | rfl | rfl | rfl | rfl | rfl | rfl | rfl | rfl | rfl | rfl | rfl | rfl | rfl | rfl <;> decide
  · simp [nums, most, h]
set_option maxHeartbeats 1000000 in
theorem put_calls (A : Option Addr) (c : Nat) (l : List UInt8) (k a b : Int) (t : List UInt8) (w : World) (hr : right k a b t.length = true) (hl : Rd w A l.length l) (hll : l.length ≤ 1048576) :
    Calls Try.prog 35 #[.slice A l.length c, .agg #[.int .i64 k, .int .i64 a, .int .i64 b, .string (S t)]] w (Fr.PutPost (l ++ mbytes (UInt8.ofNat k.toNat) a.toNat b.toNat t) w) := by
  obtain ⟨hkn, htl, ha0, hb0, ha1, hb1, _, _⟩ := right_nat k a b t.length hr
  obtain ⟨kind, rfl⟩ := kind_exists k hkn
  have hk : UInt8.ofNat ((kind.toNat : Int)).toNat = kind := by simp
  rw [hk]
  have HR := Asd.mk hr
  have HL := Asd.mk hl
  have hml : (mbody (kind.toNat : Int) a.toNat b.toNat t).length ≤ 2048 := by
    rw [mbody_length]
    have := room_for (kind.toNat : Int)
    omega
  obtain ⟨body, hbody⟩ : ∃ body, body = mbody (kind.toNat : Int) a.toNat b.toNat t := ⟨_, rfl⟩
  have HB := Asd.mk (show mbytes kind a.toNat b.toNat t = fbytes kind body by rw [hbody]; rfl)
  have HBD := Asd.mk hbody
  rw [← hbody] at hml
  rw [HB.out]
  clear hr hl hk hkn htl ha0 hb0 ha1 hb1 hbody
  go_enter Try.func35, Try.ntmps35
  go_wp2_with fail
  refine (frame_calls (kind.toNat : Int) a b t _).mono ?_
  rintro e w1 ⟨hu, _, hy⟩
  rw [← HBD.out] at hy
  obtain ⟨A1, c1, G1, rfl, ho, hg, hc1, hm1⟩ := hy HR.out
  have HU := Asd.mk (((Upd.refl (fun _ => False) w).alloc (.cells #[.int .i64 (kind.toNat : Int), .int .i64 a, .int .i64 b, .string (S t)] 44)).trans hu (fun _ _ h => h))
  have HO := Asd.mk ho.rd
  clear hu hy ho hg
  go_wp2_with fail
  have hV := (Upd.refl (fun _ => False) w1).alloc (.cells #[.int .u8 (kind.toNat : Int), .slice A1 body.length c1] 53)
  refine (Fr.put_ok A l.length c l kind A1 c1 body _ ((HL.out.up HU.out).up hV) (HO.out.up hV) (by omega) hml).mono ?_
  unfold Fr.PutPost
  rintro e w2 ⟨A2, c2, G2, rfl, ho2, hg2, hc2, hm2, hu2⟩
  have HU2 := Asd.mk ((HU.out.trans hV (fun _ _ h => h)).trans hu2 (fun _ _ h => h))
  have HO2 := Asd.mk ho2
  have hs := HU.out.size
  have hs2 := hV.size
  have HG2 : Asd (∀ g, G2 = some g → w.heap.size ≤ g) := ⟨fun g e => by have := hg2 g e; omega⟩
  clear ho2 hg2 hu2 hV
  go_wp2
  go_ret
  exact ⟨A2, c2, G2, by rw [List.length_append]; rfl, HO2.out, HG2.out, hc2, hm2, HU2.out⟩
/-- The numbers and the text of a message out of its body. -/
theorem val_num6 (x : Nat) (h : x ≤ 1099511627776) : val (num6 x) = x := by
  simp only [num6, val, List.foldl_cons, List.foldl_nil, UInt8.toNat_ofNat']
  omega
theorem mbody_inj (k : Int) (a b a2 b2 : Nat) (t t2 : List UInt8) (h1 : right k a b t.length = true) (h2 : right k a2 b2 t2.length = true) (h : mbody k a b t = mbody k a2 b2 t2) : a = a2 ∧ b = b2 ∧ t = t2 := by
  obtain ⟨_, _, _, _, ha, hb, za, zb⟩ := right_nat k a b t.length h1
  obtain ⟨_, _, _, _, ha2, hb2, za2, zb2⟩ := right_nat k a2 b2 t2.length h2
  have hn := nums_le k
  unfold mbody at h
  generalize nums k = N at *
  have l1 : ∀ x y : Nat, (num6 x ++ num6 y).length = 12 := fun x y => rfl
  have ht : t = t2 ∧ (num6 a ++ num6 b).take (6 * N) = (num6 a2 ++ num6 b2).take (6 * N) := by
    have := List.append_inj h (by rw [List.length_take, List.length_take, l1, l1])
    exact ⟨this.2, this.1⟩
  obtain ⟨ht, hh⟩ := ht
  rcases (by omega : N = 0 ∨ N = 1 ∨ N = 2) with rfl | rfl | rfl
  · exact ⟨by omega, by omega, ht⟩
  · have e1 : num6 a = num6 a2 := hh
    have := congrArg val e1
    rw [val_num6 a (by omega), val_num6 a2 (by omega)] at this
    exact ⟨this, by omega, ht⟩
  · have e1 : num6 a ++ num6 b = num6 a2 ++ num6 b2 := hh
    obtain ⟨e1, e2⟩ := List.append_inj e1 rfl
    have h3 := congrArg val e1
    have h4 := congrArg val e2
    rw [val_num6 a (by omega), val_num6 a2 (by omega)] at h3
    rw [val_num6 b (by omega), val_num6 b2 (by omega)] at h4
    exact ⟨h3, h4, ht⟩
/-- A frame's bytes begin with no other frame's. -/
theorem fbytes_pre (k1 k2 : UInt8) (b1 b2 r : List UInt8) (h1 : b1.length ≤ 2048) (h2 : b2.length ≤ 2048) (h : fbytes k2 b2 = fbytes k1 b1 ++ r) : k1 = k2 ∧ b1 = b2 := by
  have e1 := FrMath.get_put k1 b1 r h1
  have e2 := FrMath.get_put k2 b2 [] h2
  rw [List.append_nil, h, e1] at e2
  simp only [Prod.mk.injEq] at e2
  exact ⟨e2.1, e2.2.1⟩
end Go.Proofs.Ytpphejjdgplalaa.MgPut
