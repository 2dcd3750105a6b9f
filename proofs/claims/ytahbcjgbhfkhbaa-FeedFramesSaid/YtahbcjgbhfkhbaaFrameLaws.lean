/- The laws FramePuts, FrameCuts, FrameJoins: what each call comes to, for every input. -/
import Derived.Test.YtahbcjgbhfkhbaaFrMath
set_option linter.unusedVariables false
set_option linter.unusedSimpArgs false
namespace Go.Proofs.Ytahbcjgbhfkhbaa.FrLaws
open Go.RowKit K Crc Sm Fr FrMath

theorem seven : fbytes 7 [] = [0, 1, 7, 145, 23] := by decide +kernel
set_option maxHeartbeats 1000000 in
set_option maxRecDepth 100000 in
theorem head_calls (w : World) : Calls Try.prog 19 #[] w fun e w' => e = .returned (.bool true) ∧ Upd (fun _ => False) w w' := by
  go_enter Try.func19, Try.ntmps19
  go_wp2_with fail
  refine (put_ok none 0 0 [] 7 none 0 [] w (Rd.nil _ _) (Rd.nil _ _) (by omega) (by simp)).mono ?_
  rintro e w1 ⟨A, c, G, rfl, ho, hg, hc, hm, hu⟩
  rw [List.nil_append, seven] at ho hc ⊢
  obtain ⟨g, o, c', hv, rfl⟩ := ho.byteAt (by decide : 0 < ([0, 1, 7, 145, 23] : List UInt8).length)
  injection hv with e1 _ e3
  subst e1
  subst e3
  have h0 : w1.cell? ⟨g, o, none⟩ = some (.int .u8 0) := (ho.cellB 0 (by decide)).1
  have h1 : w1.cell? ⟨g, o + 1, none⟩ = some (.int .u8 1) := (ho.cellB 1 (by decide)).1
  have h2 : w1.cell? ⟨g, o + 2, none⟩ = some (.int .u8 7) := (ho.cellB 2 (by decide)).1
  have hc5 : 5 ≤ c := hc
  have HO := Asd.mk ho.rd
  have HU := Asd.mk hu
  clear ho hg hu hc
  have hlen : ([0, 1, 7, 145, 23] : List UInt8).length = 5 := rfl
  rw [hlen]
  clear hlen
  go_wp2_with fail
  have hgot : fget [0, 1, 7, 145, 23] = (7, [], 5, 0) := by rw [← seven]; have := get_put 7 [] [] (by simp); rwa [List.append_nil] at this
  refine (get_calls _ 5 c [0, 1, 7, 145, 23] _ HO.out hc5).mono ?_
  rw [hgot]
  rintro e w2 ⟨A2, c2, G2, rfl, ho2, hg2, hc2, hm2, hu2⟩
  have HU2 := Asd.mk (HU.out.trans hu2 (fun _ _ h => h))
  clear ho2 hg2 hu2 hgot
  go_wp2
  go_ret
  exact ⟨rfl, HU2.out.alloc _⟩

theorem u8_exists (n : Int) (h : (Lit.int .u8 n).wf = true) : ∃ x : UInt8, n = (x.toNat : Int) := by
  simp [Lit.wf, IntKind.min, IntKind.max, IntKind.bits, IntKind.signed] at h
  exact ⟨UInt8.ofNat n.toNat, by simp; omega⟩
/-- A conversion's fact, in whatever world that was only drawn. -/
theorem str_at {P : Program} {src dst e : TypeId} (hs : P.underlying src = some (.slice e)) (he : P.underlying e = some (.int .u8)) (hd : P.underlying dst = some .string) {A : Option Addr} {n c : Nat} {l : List UInt8} {W : World} (HR : Rd W A n l) (m : Nat) :
    (convert src dst (.slice A n c)).run P (W.drewN m) = .ok (.string (S l)) (W.drewN m) :=
  run_str hs he hd (HR.up ((Upd.refl _ _).drewN m))
set_option maxHeartbeats 2000000 in
set_option maxRecDepth 100000 in
theorem joins_walk (w : World) (A : Option Addr) (n c : Nat) (a : List UInt8) (hr : Rd w A n a) (hc : n ≤ c) (hm : c ≤ maxLen) (A2 : Option Addr) (n2 c2 : Nat) (b : List UInt8) (hr2 : Rd w A2 n2 b) (hc2 : n2 ≤ c2) (hm2 : c2 ≤ maxLen) (j : Int) (wj : (Lit.int .u8 j).wf = true) (k : Int) (wk : (Lit.int .u8 k).wf = true) :
    Calls Try.prog 9 #[.slice A n c, .slice A2 n2 c2, .int .u8 j, .int .u8 k] w fun e w' => e = .returned (.bool true) ∧ Upd (fun _ => False) w w' := by
  obtain ⟨j, rfl⟩ := u8_exists j wj
  obtain ⟨k, rfl⟩ := u8_exists k wk
  have hlim := hr.lim
  have hlim2 := hr2.lim
  obtain rfl := hr.len
  obtain rfl := hr2.len
  have HA := Asd.mk hr
  have HB := Asd.mk hr2
  clear hr hr2 wj wk hm hm2
  go_enter Try.func9, Try.ntmps9
  go_wp2_with fail
  refine (head_calls _).mono ?_
  rintro e w1 ⟨rfl, hu⟩
  have HU := Asd.mk hu
  clear hu
  by_cases h3 : 300 < a.length
  · go_wp2
    go_ret
    exact ⟨rfl, HU.out⟩
  by_cases h4 : 300 < b.length
  · go_wp2
    go_ret
    exact ⟨rfl, HU.out⟩
  go_wp2_with fail
  refine (put_ok none 0 0 [] j A c a w1 (Rd.nil _ _) (HA.out.up HU.out) (by omega) (by omega)).mono ?_
  rintro e w2 ⟨A3, c3, G3, rfl, ho, hg, hc3, hm3, hu⟩
  rw [List.nil_append] at ho hc3 ⊢
  have hl3 : (fbytes j a).length = a.length + 5 := fbytes_length j a
  rw [hl3] at ho hc3 ⊢
  have HX2 := Asd.mk ho.rd
  have HU2 := Asd.mk (HU.out.trans hu (fun _ _ h => h))
  clear ho hg hu HU
  go_wp2_with fail
  refine (put_ok A3 (a.length + 5) c3 (fbytes j a) k A2 c2 b w2 HX2.out (HB.out.up HU2.out) (by omega) (by omega)).mono ?_
  rintro e w3 ⟨A4, c4, G4, rfl, ho, hg, hc4, hm4, hu⟩
  have hl4 : (fbytes j a ++ fbytes k b).length = a.length + b.length + 10 := by rw [List.length_append, fbytes_length, fbytes_length]; omega
  rw [hl4] at ho hc4 ⊢
  have HX3 := Asd.mk (HX2.out.up hu)
  have HY3 := Asd.mk ho.rd
  have HU3 := Asd.mk (HU2.out.trans hu (fun _ _ h => h))
  clear ho hg hu HU2 HX2
  go_wp2_with fail
  refine (get_calls A4 (a.length + b.length + 10) c4 (fbytes j a ++ fbytes k b) w3 HY3.out hc4).mono ?_
  rw [get_put j a _ (by omega)]
  rintro e w4 ⟨A5, c5, G5, rfl, ho, hg, hc5, hm5, hu⟩
  have HX4 := Asd.mk (HX3.out.up hu)
  have HY4 := Asd.mk (HY3.out.up hu)
  have HF4 := Asd.mk ho.rd
  have HU4 := Asd.mk (HU3.out.trans hu (fun _ _ h => h))
  clear ho hg hu HU3 HX3 HY3
  have hu4 := (Upd.refl (fun _ => False) w4).alloc (.cells #[.int .u8 (j.toNat : Int), .slice A5 a.length c5] 32)
  have hsF := fun m => str_at (P := Try.prog) (c := c5) Try.underlying23 Try.underlying5 Try.underlying9 (HF4.out.up hu4) m
  have hsA := fun m => str_at (P := Try.prog) (c := c) Try.underlying23 Try.underlying5 Try.underlying9 ((HA.out.up HU4.out).up hu4) m
  have hsX := fun m => str_at (P := Try.prog) (c := c3) Try.underlying23 Try.underlying5 Try.underlying9 (HX4.out.up hu4) m
  have hy5 := (HY4.out.up hu4).take (a.length + 5) (by omega)
  have htk : (fbytes j a ++ fbytes k b).take (a.length + 5) = fbytes j a := by rw [List.take_append_of_le_length (by rw [hl3]; exact Nat.le_refl _), List.take_of_length_le (by rw [hl3]; exact Nat.le_refl _)]
  rw [htk] at hy5
  have hsY := fun m => str_at (P := Try.prog) (c := c4) Try.underlying23 Try.underlying5 Try.underlying9 hy5 m
  have hb1 : (a.length : Int) + 5 ≤ (c4 : Int) := by omega
  have hb0 : 0 ≤ (a.length : Int) + 5 := by omega
  have HU5 := Asd.mk (HU4.out.trans hu4 (fun _ _ h => h))
  have HY5 := Asd.mk (HY4.out.up hu4)
  clear hu4 hy5 htk HU4 HY4 HX4 HF4
  go_wp2
  go_quiet (fail)
  clear hsF hsA hsX hsY
  obtain ⟨A6, hcut, _, hA6, _⟩ := cut_from' (P := Try.prog) 23 5 .i64 (sz := 1) Try.underlying23 (by kernel_rfl) A4 (a.length + b.length + 10) c4 (a.length + 5) ((a.length : Int) + 5) (by omega) (by omega) hc4
  have hr6 := hA6 rfl _ _ HY5.out
  have hdr : (fbytes j a ++ fbytes k b).drop (a.length + 5) = fbytes k b ++ [] := by rw [List.drop_append, List.drop_eq_nil_of_le (by rw [hl3]; exact Nat.le_refl _), hl3, Nat.sub_self]; simp
  rw [hdr] at hr6
  have HR6 := Asd.mk hr6
  have hc6 : a.length + b.length + 10 - (a.length + 5) ≤ c4 - (a.length + 5) := by omega
  have HC6 := Asd.mk hc6
  have hlen6 : a.length + b.length + 10 - (a.length + 5) = b.length + 5 := by omega
  rw [hlen6] at hcut
  have HL6 := Asd.mk hlen6
  clear hA6 hr6 hdr hc6 hlen6
  go_wp2_with fail
  refine (get_calls A6 (b.length + 5) (c4 - (a.length + 5)) (fbytes k b ++ []) _ ?_ (by omega)).mono ?_
  · have := HR6.out
    rw [HL6.out] at this
    exact this.up (by repeat (first | exact Upd.refl _ _ | refine Upd.drewN ?_ _))
  rw [get_put k b [] (by omega)]
  rintro e w7 ⟨A7, c7, G7, rfl, ho, hg, hc7, hm7, hu⟩
  have hu7 : Upd (fun _ => False) w w7 := (HU5.out.drewN _).trans hu (fun _ _ h => h)
  have hv7 := (Upd.refl (fun _ => False) w7).alloc (.cells #[.int .u8 (k.toNat : Int), .slice A7 b.length c7] 32)
  have HU7 := Asd.mk (hu7.trans hv7 (fun _ _ h => h))
  have HF7 := Asd.mk (ho.rd.up hv7)
  have HB7 := Asd.mk ((HB.out.up hu7).up hv7)
  clear hcut ho hg hu hu7 hv7
  have hsF := run_str (P := Try.prog) (c := c7) Try.underlying23 Try.underlying5 Try.underlying9 HF7.out
  have hsB := run_str (P := Try.prog) (c := c2) Try.underlying23 Try.underlying5 Try.underlying9 HB7.out
  go_wp2
  go_ret
  exact ⟨rfl, HU7.out⟩
end Go.Proofs.Ytahbcjgbhfkhbaa.FrLaws
