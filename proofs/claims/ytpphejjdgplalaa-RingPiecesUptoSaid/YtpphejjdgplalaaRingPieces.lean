/- The law RingPieces: what its call comes to, for every input of bounded bulk. -/
import Derived.Test.YtpphejjdgplalaaRingThree
set_option linter.unusedVariables false
set_option linter.unusedSimpArgs false
namespace Go.Proofs.Ytpphejjdgplalaa.RgPieces
open Go.RowKit K Rg RgLasts RgThree

theorem Its.gone {w wr w1 : World} {q g : Nat} (h : Upd (fun _ => False) w wr) (h1 : w.heap.size ≤ q) (h2 : w.heap.size ≤ g) (k : Upd (Its q g) wr w1) : Upd (fun _ => False) w w1 :=
  h.trans k (fun i hi a => by rcases a with rfl | rfl <;> omega)
set_option maxHeartbeats 4000000 in
set_option maxRecDepth 100000 in
theorem pieces_walk (w : World) (size : Int) (ws : (Lit.int .i64 size).wf = true) (A : Option Addr) (n0 c : Nat) (L : List (List UInt8)) (hL : RSlice RBytes 1 w [.slice A n0 c] L) (hN : L.flatten.length ≤ 1048576) :
    Calls Try.prog 5 #[.int .i64 size, .slice A n0 c] w fun e w' => e = .returned (.bool true) ∧ Upd (fun _ => False) w w' := by
  obtain ⟨A', c', he, hE, hc, hm, _⟩ := hL
  simp only [List.cons.injEq, Value.slice.injEq, and_true] at he
  obtain ⟨rfl, rfl, rfl⟩ := he
  have HE := Asd.mk hE
  have hlim := hE.lim
  have HN := Asd.mk hN
  clear hE hm ws hN
  go_enter Try.func5, Try.ntmps5
  go_wp2_with fail
  refine (head_calls _).mono ?_
  rintro e w1 ⟨rfl, hu⟩
  have HU := Asd.mk hu
  clear hu
  go_wp2_with fail
  refine (few_calls A c L w1 (HE.out.up RBytes.stays HU.out) HN.out).mono ?_
  rintro e w2 ⟨rfl, hu⟩
  have HU2 := Asd.mk (HU.out.trans hu (fun _ _ h => h))
  clear hu HU
  by_cases hfew : L.length ≤ 60 ∧ L.flatten.length ≤ 2000
  case neg =>
    rw [decide_eq_false hfew]
    clear hfew
    go_wp2
    go_ret
    exact ⟨rfl, HU2.out⟩
  rw [decide_eq_true hfew]
  obtain ⟨h60, h2000⟩ := hfew
  have H2000 := Asd.mk h2000
  clear h2000
  obtain ⟨hn1, hn2, _⟩ := roomN_le size
  obtain ⟨n, hn⟩ : ∃ n, n = roomN size := ⟨_, rfl⟩
  rw [← hn] at hn1 hn2
  have HNN := Asd.mk hn
  clear hn
  go_wp2_with fail
  refine (new_calls size _).mono ?_
  rw [← HNN.out]
  rintro e w3 ⟨q, g, rfl, hq, hu, h1, h2⟩
  have HQ3 := Asd.mk hq
  have HU3 := Asd.mk (HU2.out.trans hu (fun _ _ h => h))
  have HF : Asd (w.heap.size ≤ q ∧ w.heap.size ≤ g) := ⟨by have := HU2.out.size; omega⟩
  clear hq hu h1 h2 HU2
  go_wp2_with fail
  refine (new_calls size _).mono ?_
  rw [← HNN.out]
  rintro e w4 ⟨q2, g2, rfl, hq, hu, h1, h2⟩
  have HQ4 := Asd.mk (HQ3.out.up hu)
  have HR4 := Asd.mk hq
  have HU4 := Asd.mk (HU3.out.trans hu (fun _ _ h => h))
  have HF2 : Asd (w.heap.size ≤ q2 ∧ w.heap.size ≤ g2) := ⟨by have := HU3.out.size; omega⟩
  have HD : Asd (∀ i, Its q2 g2 i → ¬ Its q g i) := ⟨fun i hi hx => by have := Bare.lt HQ3.out i hx; rcases hi with rfl | rfl <;> omega⟩
  clear hq hu h1 h2 HU3 HQ3
  go_wp2
  go_loopw [24] (fun v24 wr => ∃ i : Nat, i ≤ L.length ∧ v24 = .int .i64 (i : Int) ∧ Asd (Ring wr q g n (L.take i).flatten) ∧ Asd (Ring wr q2 g2 n []) ∧ Asd (Upd (fun _ => False) w wr)) (fun v24 _ => L.length - (intOf v24).toNat)
  case atStart => exact ⟨0, by omega, rfl, HQ4, HR4, HU4⟩
  case round =>
    clear HQ4 HR4 HU4
    obtain ⟨i, hi, rfl, HQ, HR, HW⟩ := hrel
    by_cases hlt : i < L.length
    · obtain ⟨ad, cs, e, hlen, hr, hcell⟩ := HE.out.at_ i hlt
      subst e
      obtain ⟨l, hx⟩ : ∃ x, x = L[i] := ⟨_, rfl⟩
      rw [← hx] at hr
      obtain ⟨a1, k1, rfl, hrd, hk1, hk2, hk3⟩ := hr
      have hc0 := HW.out.cell (hcell 0 _ rfl) (fun h => h)
      simp only [Nat.mul_one, Nat.add_zero] at hc0
      have HX := Asd.mk (by rw [hx]; exact flat_next L i hlt : (L.take (i + 1)).flatten = (L.take i).flatten ++ l)
      have HRD := Asd.mk hrd
      have hbig : (L.take i).flatten.length + l.length ≤ 1099511627776 := by
        have h1 := flat_le L (i + 1)
        rw [HX.out, List.length_append] at h1
        have := H2000.out
        omega
      have HBIG := Asd.mk hbig
      have hwi : IntKind.i64.wrap ((i : Int) + 1) = ((i + 1 : Nat) : Int) := by rw [w64i _ (by omega) (by omega)]; rfl
      clear hcell hlen hrd hx hk3 hbig
      go_wp2_with fail
      refine (append_still HQ.out a1 l.length k1 l (fun W k => HRD.out.up (Its.gone HW.out HF.out.1 HF.out.2 k)) HBIG.out).mono ?_
      rw [← HX.out]
      rintro e w5 ⟨rfl, hr5, hu5⟩
      have HQ5 := Asd.mk hr5
      have HR5 := Asd.mk (HR.out.upd hu5 HD.out)
      have HW5 := Asd.mk (Its.gone HW.out HF.out.1 HF.out.2 hu5)
      clear hr5 hu5 HQ HR HW HX HRD HBIG
      go_wp2
      go_roundw
      case rel => exact ⟨i + 1, by omega, rfl, HQ5, HR5, HW5⟩
      case measure => simp only [intOf]; omega
    · have hi2 : i = L.length := by omega
      subst hi2
      rw [List.take_length] at HQ
      go_wp2_with fail
      refine (join_calls A c L wr (HE.out.up RBytes.stays HW.out) HN.out).mono ?_
      unfold JoinPost
      obtain ⟨l, hl⟩ : ∃ l, l = L.flatten := ⟨_, rfl⟩
      have hll : l.length ≤ 2000 := by rw [hl]; exact H2000.out
      rw [← hl] at HQ
      rw [← hl]
      clear hl
      rintro e w5 ⟨A5, c5, G5, rfl, _, ho5, hg5, hc5, hm5, hu5⟩
      have HRD := Asd.mk ho5.rd
      have HQ5 := Asd.mk (HQ.out.up hu5)
      have HR5 := Asd.mk (HR.out.up hu5)
      have HW5 : Asd (Upd (fun _ => False) w w5) := ⟨HW.out.trans hu5 (fun _ _ h => h)⟩
      have HA5 : Asd (∀ ad, A5 = some ad → ¬ Its q2 g2 ad.block) := ⟨fun ad e hx => by
        obtain ⟨_, _, hv, _, _, _, hG⟩ := ho5.slice
        injection hv with e1 e2 e3
        subst e1
        have h1 := hg5 _ (hG ad e)
        have := Bare.lt HR.out _ hx
        omega⟩
      clear ho5 hg5 hu5 HQ HR HW
      go_wp2_with fail
      refine (append_calls HR5.out A5 l.length c5 l HRD.out HA5.out (by simp only [List.length_nil]; omega)).mono ?_
      rw [List.nil_append]
      rintro e w6 ⟨rfl, hr6, hu6⟩
      have HR6 := Asd.mk hr6
      have HQ6 := Asd.mk (HQ5.out.upd hu6 (fun i hi hx => HD.out i hx hi))
      have HW6 := Asd.mk (Its.gone HW5.out HF2.out.1 HF2.out.2 hu6)
      clear hr6 hu6 HR5 HQ5 HW5 HRD HA5
      obtain ⟨base, hbase⟩ : ∃ base, base = l.length - n := ⟨_, rfl⟩
      have HBE := Asd.mk hbase
      have HQB6 := Asd.mk (show Bare w6 q g n l base by rw [hbase]; exact HQ6.out)
      have HRB6 := Asd.mk (show Bare w6 q2 g2 n l base by rw [hbase]; exact HR6.out)
      have hx : (l.drop base).take 70000 = l.drop base := List.take_of_length_le (by rw [List.length_drop]; omega)
      obtain ⟨x, hxx⟩ : ∃ x, x = l.drop base := ⟨_, rfl⟩
      have hxl : x.length = l.length - base := by rw [hxx, List.length_drop]
      have HX := Asd.mk (show (l.drop base).take 70000 = x by rw [hxx]; exact hx)
      have HXL := Asd.mk hxl
      have hbl : base ≤ l.length := by omega
      clear hbase hx hxx hxl
      go_wp2_with fail
      refine (base_calls HQB6.out).mono ?_
      rintro e w7 ⟨rfl, rfl⟩
      go_wp2_with fail
      refine (read_calls HQ6.out (base : Int) 70000 (by omega)).mono ?_
      rintro e w7 ⟨hu7, _, hyes⟩
      obtain ⟨A7, c7, G7, rfl, ho7, _⟩ := hyes (by have := HBE.out; omega) (by omega)
      rw [Int.toNat_natCast, show (70000 : Int).toNat = 70000 from rfl, HX.out] at ho7
      rw [Int.toNat_natCast, show (70000 : Int).toNat = 70000 from rfl, HX.out]
      have HO7 := Asd.mk ho7.rd
      have HR7 := Asd.mk (HR6.out.up hu7)
      have HRB7 := Asd.mk (HRB6.out.up hu7)
      have HQB7 := Asd.mk (HQB6.out.up hu7)
      have HW7 : Asd (Upd (fun _ => False) w w7) := ⟨HW6.out.trans hu7 (fun _ _ h => h)⟩
      clear hu7 hyes ho7 HQ6 HR6 HQB6 HRB6 HW6
      go_wp2_with fail
      refine (base_calls HRB7.out).mono ?_
      rintro e w8 ⟨rfl, rfl⟩
      go_wp2_with fail
      refine (read_calls HR7.out (base : Int) 70000 (by omega)).mono ?_
      rintro e w8 ⟨hu8, _, hyes⟩
      obtain ⟨A8, c8, G8, rfl, ho8, _⟩ := hyes (by have := HBE.out; omega) (by omega)
      rw [Int.toNat_natCast, show (70000 : Int).toNat = 70000 from rfl, HX.out] at ho8
      rw [Int.toNat_natCast, show (70000 : Int).toNat = 70000 from rfl, HX.out]
      have hsX := run_str (P := Try.prog) (c := c7) Try.underlying27 Try.underlying5 Try.underlying9 (HO7.out.up hu8)
      have hsY := run_str (P := Try.prog) (c := c8) Try.underlying27 Try.underlying5 Try.underlying9 ho8.rd
      have HRB8 := Asd.mk (HRB7.out.up hu8)
      have HQB8 := Asd.mk (HQB7.out.up hu8)
      have HW8 : Asd (Upd (fun _ => False) w w8) := ⟨HW7.out.trans hu8 (fun _ _ h => h)⟩
      obtain ⟨xl, hxl⟩ : ∃ xl, xl = x.length := ⟨_, rfl⟩
      have hxi : IntKind.i64.wrap ((l.length : Int) - (base : Int)) = (xl : Int) := by have := HXL.out; rw [w64i _ (by omega) (by omega)]; omega
      rw [← hxl] at hsX hsY
      rw [← hxl]
      clear hu8 hyes ho8 HR7 HRB7 HQB7 HW7 HO7 hxl
      go_wp2_with fail
      refine (base_calls HQB8.out).mono ?_
      rintro e w9 ⟨rfl, rfl⟩
      go_wp2_with fail
      refine (base_calls HRB8.out).mono ?_
      rintro e w9 ⟨rfl, rfl⟩
      go_wp2_with fail
      refine (end_calls HQB8.out).mono ?_
      rintro e w9 ⟨rfl, rfl⟩
      go_wp2_with fail
      refine (end_calls HRB8.out).mono ?_
      rintro e w9 ⟨rfl, rfl⟩
      go_wp2_with fail
      refine (end_calls HQB8.out).mono ?_
      rintro e w9 ⟨rfl, rfl⟩
      go_wp2_with fail
      refine (base_calls HQB8.out).mono ?_
      rintro e w9 ⟨rfl, rfl⟩
      go_wp2
      go_ret
      exact ⟨by simp, HW8.out⟩
end Go.Proofs.Ytpphejjdgplalaa.RgPieces
