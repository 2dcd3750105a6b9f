/- The law MsgApart: what its call comes to, for every input. -/
import Derived.Test.YtpphejjdgplalaaMsgPut
import Derived.Test.YtpphejjdgplalaaK5
set_option linter.unusedVariables false
set_option linter.unusedSimpArgs false
namespace Go.Proofs.Ytpphejjdgplalaa.MgApart
open Go.RowKit K Mg MgNum MgOf MgFr MgHead MgLawOf MgPut

@[go_sem] theorem S_toList (l : List UInt8) : (S l).toList = l := by
  rw [ByteArray.toList_eq]
  simp [S]
theorem right_eq (k1 k2 a1 a2 b1 b2 : Int) (t1 t2 r : List UInt8) (h1 : right k1 a1 b1 t1.length = true) (h2 : right k2 a2 b2 t2.length = true) (h : mbytes (UInt8.ofNat k2.toNat) a2.toNat b2.toNat t2 = mbytes (UInt8.ofNat k1.toNat) a1.toNat b1.toNat t1 ++ r) : k1 = k2 ∧ a1 = a2 ∧ b1 = b2 ∧ t1 = t2 := by
  obtain ⟨hk1, hm1, p1, q1, _⟩ := right_nat k1 a1 b1 t1.length h1
  obtain ⟨hk2, hm2, p2, q2, _⟩ := right_nat k2 a2 b2 t2.length h2
  obtain ⟨x1, rfl⟩ := kind_exists k1 hk1
  obtain ⟨x2, rfl⟩ := kind_exists k2 hk2
  have e1 : UInt8.ofNat ((x1.toNat : Int)).toNat = x1 := by simp
  have e2 : UInt8.ofNat ((x2.toNat : Int)).toNat = x2 := by simp
  rw [e1, e2] at h
  unfold mbytes at h
  have r1 := room_for (x1.toNat : Int)
  have r2 := room_for (x2.toNat : Int)
  obtain ⟨rfl, hb⟩ := fbytes_pre x1 x2 _ _ r (by rw [mbody_length]; omega) (by rw [mbody_length]; omega) h
  obtain ⟨n1, rfl⟩ : ∃ n : Nat, a1 = (n : Int) := ⟨a1.toNat, by omega⟩
  obtain ⟨n2, rfl⟩ : ∃ n : Nat, a2 = (n : Int) := ⟨a2.toNat, by omega⟩
  obtain ⟨n3, rfl⟩ : ∃ n : Nat, b1 = (n : Int) := ⟨b1.toNat, by omega⟩
  obtain ⟨n4, rfl⟩ : ∃ n : Nat, b2 = (n : Int) := ⟨b2.toNat, by omega⟩
  simp only [Int.toNat_natCast] at hb
  obtain ⟨rfl, rfl, rfl⟩ := mbody_inj _ _ _ _ _ _ _ h1 h2 hb
  exact ⟨rfl, rfl, rfl, rfl⟩
theorem take_apart (k1 k2 a1 a2 b1 b2 : Int) (t1 t2 X Y : List UInt8) (h1 : right k1 a1 b1 t1.length = true) (h2 : right k2 a2 b2 t2.length = true) (hX : X = mbytes (UInt8.ofNat k1.toNat) a1.toNat b1.toNat t1) (hY : Y = mbytes (UInt8.ofNat k2.toNat) a2.toNat b2.toNat t2) (h : X.take (min X.length Y.length) = Y.take (min X.length Y.length)) : k1 = k2 ∧ a1 = a2 ∧ b1 = b2 ∧ t1 = t2 := by
  rcases Nat.le_total X.length Y.length with hle | hle
  · rw [Nat.min_eq_left hle, List.take_length] at h
    have h3 := List.take_append_drop X.length Y
    rw [← h] at h3
    exact right_eq k1 k2 a1 a2 b1 b2 t1 t2 (Y.drop X.length) h1 h2 (by rw [← hX, ← hY]; exact h3.symm)
  · rw [Nat.min_eq_right hle, List.take_length] at h
    have h3 := List.take_append_drop Y.length X
    rw [h] at h3
    obtain ⟨e1, e2, e3, e4⟩ := right_eq k2 k1 a2 a1 b2 b1 t2 t1 (X.drop Y.length) h2 h1 (by rw [← hX, ← hY]; exact h3.symm)
    exact ⟨e1.symm, e2.symm, e3.symm, e4.symm⟩
theorem LGetStr.str_at {P : Program} {src dst e : TypeId} (hs : P.underlying src = some (.slice e)) (he : P.underlying e = some (.int .u8)) (hd : P.underlying dst = some .string) {A : Option Addr} {n c : Nat} {l : List UInt8} {W : World} (HR : Rd W A n l) (m : Nat) :
    (convert src dst (.slice A n c)).run P (W.drewN m) = .ok (.string (S l)) (W.drewN m) :=
  run_str hs he hd (HR.up ((Upd.refl _ _).drewN m))
set_option maxHeartbeats 4000000 in
set_option maxRecDepth 100000 in
theorem apart_walk (w : World) (k1 a1 b1 : Int) (t1 : List UInt8) (k2 a2 b2 : Int) (t2 : List UInt8) (hl1 : t1.length ≤ 9223372036854775807) (hl2 : t2.length ≤ 9223372036854775807) :
    Calls Try.prog 11 #[.agg #[.int .i64 k1, .int .i64 a1, .int .i64 b1, .string (S t1)], .agg #[.int .i64 k2, .int .i64 a2, .int .i64 b2, .string (S t2)]] w fun e w' => e = .returned (.bool true) ∧ Upd (fun _ => False) w w' := by
  have h1 := heap_alloc_new w (.cells #[.int .i64 k1, .int .i64 a1, .int .i64 b1, .string (S t1)] 44)
  have h2 := heap_alloc_new (w.alloc (.cells #[.int .i64 k1, .int .i64 a1, .int .i64 b1, .string (S t1)] 44)) (.cells #[.int .i64 k2, .int .i64 a2, .int .i64 b2, .string (S t2)] 44)
  rw [show (w.alloc (.cells #[.int .i64 k1, .int .i64 a1, .int .i64 b1, .string (S t1)] 44)).heap.size = w.heap.size + 1 by simp] at h2
  have H1 := Asd.mk (((Upd.refl (fun _ => False) _).alloc (.cells #[.int .i64 k2, .int .i64 a2, .int .i64 b2, .string (S t2)] 44)).blk h1 (fun h => h))
  have H2 := Asd.mk h2
  have HU := Asd.mk (((Upd.refl (fun _ => False) w).alloc (.cells #[.int .i64 k1, .int .i64 a1, .int .i64 b1, .string (S t1)] 44)).alloc (.cells #[.int .i64 k2, .int .i64 a2, .int .i64 b2, .string (S t2)] 44))
  clear h1 h2
  go_enter Try.func11, Try.ntmps11
  go_wp2_with fail
  refine (MgHead.head_calls _).mono ?_
  rintro e w1 ⟨rfl, hu⟩
  replace H1 := Asd.mk (hu.blk H1.out (fun h => h))
  replace H2 := Asd.mk (hu.blk H2.out (fun h => h))
  replace HU := Asd.mk (HU.out.trans hu (fun _ _ h => h))
  clear hu
  have c10 : w1.cell? ⟨w.heap.size, 0, none⟩ = some (.int .i64 k1) := by simp [World.cell?, H1.out]
  have c11 : w1.cell? ⟨w.heap.size, 1, none⟩ = some (.int .i64 a1) := by simp [World.cell?, H1.out]
  have c12 : w1.cell? ⟨w.heap.size, 2, none⟩ = some (.int .i64 b1) := by simp [World.cell?, H1.out]
  have c13 : w1.cell? ⟨w.heap.size, 3, none⟩ = some (.string (S t1)) := by simp [World.cell?, H1.out]
  have c20 : w1.cell? ⟨w.heap.size + 1, 0, none⟩ = some (.int .i64 k2) := by simp [World.cell?, H2.out]
  have c21 : w1.cell? ⟨w.heap.size + 1, 1, none⟩ = some (.int .i64 a2) := by simp [World.cell?, H2.out]
  have c22 : w1.cell? ⟨w.heap.size + 1, 2, none⟩ = some (.int .i64 b2) := by simp [World.cell?, H2.out]
  have c23 : w1.cell? ⟨w.heap.size + 1, 3, none⟩ = some (.string (S t2)) := by simp [World.cell?, H2.out]
  go_wp2_with fail
  refine (law_right_calls k1 a1 b1 (S t1) _).mono ?_
  rw [S_size]
  rintro e w2 ⟨rfl, hu⟩
  replace H1 := Asd.mk (hu.blk H1.out (fun h => h))
  replace H2 := Asd.mk (hu.blk H2.out (fun h => h))
  replace HU := Asd.mk (HU.out.trans hu (fun _ _ h => h))
  clear hu
  clear c10 c11 c12 c13 c20 c21 c22 c23
  cases hr1 : right k1 a1 b1 t1.length with
  | false =>
    go_wp2
    go_ret
    exact ⟨rfl, HU.out⟩
  | true =>
  have R1 := Asd.mk hr1
  clear hr1
  have c10 : w2.cell? ⟨w.heap.size, 0, none⟩ = some (.int .i64 k1) := by simp [World.cell?, H1.out]
  have c11 : w2.cell? ⟨w.heap.size, 1, none⟩ = some (.int .i64 a1) := by simp [World.cell?, H1.out]
  have c12 : w2.cell? ⟨w.heap.size, 2, none⟩ = some (.int .i64 b1) := by simp [World.cell?, H1.out]
  have c13 : w2.cell? ⟨w.heap.size, 3, none⟩ = some (.string (S t1)) := by simp [World.cell?, H1.out]
  have c20 : w2.cell? ⟨w.heap.size + 1, 0, none⟩ = some (.int .i64 k2) := by simp [World.cell?, H2.out]
  have c21 : w2.cell? ⟨w.heap.size + 1, 1, none⟩ = some (.int .i64 a2) := by simp [World.cell?, H2.out]
  have c22 : w2.cell? ⟨w.heap.size + 1, 2, none⟩ = some (.int .i64 b2) := by simp [World.cell?, H2.out]
  have c23 : w2.cell? ⟨w.heap.size + 1, 3, none⟩ = some (.string (S t2)) := by simp [World.cell?, H2.out]
  go_wp2_with fail
  refine (law_right_calls k2 a2 b2 (S t2) _).mono ?_
  rw [S_size]
  rintro e w3 ⟨rfl, hu⟩
  replace H1 := Asd.mk (hu.blk H1.out (fun h => h))
  replace H2 := Asd.mk (hu.blk H2.out (fun h => h))
  replace HU := Asd.mk (HU.out.trans hu (fun _ _ h => h))
  clear hu
  clear c10 c11 c12 c13 c20 c21 c22 c23
  cases hr2 : right k2 a2 b2 t2.length with
  | false =>
    go_wp2
    go_ret
    exact ⟨rfl, HU.out⟩
  | true =>
  have R2 := Asd.mk hr2
  clear hr2
  have c10 : w3.cell? ⟨w.heap.size, 0, none⟩ = some (.int .i64 k1) := by simp [World.cell?, H1.out]
  have c11 : w3.cell? ⟨w.heap.size, 1, none⟩ = some (.int .i64 a1) := by simp [World.cell?, H1.out]
  have c12 : w3.cell? ⟨w.heap.size, 2, none⟩ = some (.int .i64 b1) := by simp [World.cell?, H1.out]
  have c13 : w3.cell? ⟨w.heap.size, 3, none⟩ = some (.string (S t1)) := by simp [World.cell?, H1.out]
  have c20 : w3.cell? ⟨w.heap.size + 1, 0, none⟩ = some (.int .i64 k2) := by simp [World.cell?, H2.out]
  have c21 : w3.cell? ⟨w.heap.size + 1, 1, none⟩ = some (.int .i64 a2) := by simp [World.cell?, H2.out]
  have c22 : w3.cell? ⟨w.heap.size + 1, 2, none⟩ = some (.int .i64 b2) := by simp [World.cell?, H2.out]
  have c23 : w3.cell? ⟨w.heap.size + 1, 3, none⟩ = some (.string (S t2)) := by simp [World.cell?, H2.out]
  have z1 : (S t1).size = t1.length := S_size t1
  have z2 : (S t2).size = t2.length := S_size t2
  by_cases hb1 : 300 < t1.length
  · go_wp2
    go_ret
    exact ⟨rfl, HU.out⟩
  by_cases hb2 : 300 < t2.length
  · go_wp2
    go_ret
    exact ⟨rfl, HU.out⟩
  clear z1 z2
  go_wp2_with fail
  refine (put_calls none 0 [] k1 a1 b1 t1 _ R1.out (Rd.nil _ _) (by simp)).mono ?_
  rw [List.nil_append]
  obtain ⟨X, hX⟩ : ∃ X, X = mbytes (UInt8.ofNat k1.toNat) a1.toNat b1.toNat t1 := ⟨_, rfl⟩
  rw [← hX]
  have HX := Asd.mk hX
  clear hX
  unfold Fr.PutPost
  rintro e w4 ⟨A4, d4, G4, rfl, ho, hg, hd4, _, hu⟩
  have HO4 := Asd.mk ho.rd
  clear ho hg
  replace H1 := Asd.mk (hu.blk H1.out (fun h => h))
  replace H2 := Asd.mk (hu.blk H2.out (fun h => h))
  replace HU := Asd.mk (HU.out.trans hu (fun _ _ h => h))
  clear hu
  clear c10 c11 c12 c13 c20 c21 c22 c23
  have c10 : w4.cell? ⟨w.heap.size, 0, none⟩ = some (.int .i64 k1) := by simp [World.cell?, H1.out]
  have c11 : w4.cell? ⟨w.heap.size, 1, none⟩ = some (.int .i64 a1) := by simp [World.cell?, H1.out]
  have c12 : w4.cell? ⟨w.heap.size, 2, none⟩ = some (.int .i64 b1) := by simp [World.cell?, H1.out]
  have c13 : w4.cell? ⟨w.heap.size, 3, none⟩ = some (.string (S t1)) := by simp [World.cell?, H1.out]
  have c20 : w4.cell? ⟨w.heap.size + 1, 0, none⟩ = some (.int .i64 k2) := by simp [World.cell?, H2.out]
  have c21 : w4.cell? ⟨w.heap.size + 1, 1, none⟩ = some (.int .i64 a2) := by simp [World.cell?, H2.out]
  have c22 : w4.cell? ⟨w.heap.size + 1, 2, none⟩ = some (.int .i64 b2) := by simp [World.cell?, H2.out]
  have c23 : w4.cell? ⟨w.heap.size + 1, 3, none⟩ = some (.string (S t2)) := by simp [World.cell?, H2.out]
  go_wp2_with fail
  refine (put_calls none 0 [] k2 a2 b2 t2 _ R2.out (Rd.nil _ _) (by simp)).mono ?_
  rw [List.nil_append]
  obtain ⟨Y, hY⟩ : ∃ Y, Y = mbytes (UInt8.ofNat k2.toNat) a2.toNat b2.toNat t2 := ⟨_, rfl⟩
  rw [← hY]
  have HY := Asd.mk hY
  clear hY
  unfold Fr.PutPost
  rintro e w5 ⟨A5, d5, G5, rfl, ho, hg, hd5, _, hu⟩
  have HO5 := Asd.mk ho.rd
  replace HO4 := Asd.mk (HO4.out.up hu)
  clear ho hg
  replace H1 := Asd.mk (hu.blk H1.out (fun h => h))
  replace H2 := Asd.mk (hu.blk H2.out (fun h => h))
  replace HU := Asd.mk (HU.out.trans hu (fun _ _ h => h))
  clear hu
  clear c10 c11 c12 c13 c20 c21 c22 c23
  have c10 : w5.cell? ⟨w.heap.size, 0, none⟩ = some (.int .i64 k1) := by simp [World.cell?, H1.out]
  have c11 : w5.cell? ⟨w.heap.size, 1, none⟩ = some (.int .i64 a1) := by simp [World.cell?, H1.out]
  have c12 : w5.cell? ⟨w.heap.size, 2, none⟩ = some (.int .i64 b1) := by simp [World.cell?, H1.out]
  have c13 : w5.cell? ⟨w.heap.size, 3, none⟩ = some (.string (S t1)) := by simp [World.cell?, H1.out]
  have c20 : w5.cell? ⟨w.heap.size + 1, 0, none⟩ = some (.int .i64 k2) := by simp [World.cell?, H2.out]
  have c21 : w5.cell? ⟨w.heap.size + 1, 1, none⟩ = some (.int .i64 a2) := by simp [World.cell?, H2.out]
  have c22 : w5.cell? ⟨w.heap.size + 1, 2, none⟩ = some (.int .i64 b2) := by simp [World.cell?, H2.out]
  have c23 : w5.cell? ⟨w.heap.size + 1, 3, none⟩ = some (.string (S t2)) := by simp [World.cell?, H2.out]
  have hsX := fun m => LGetStr.str_at (P := Try.prog) (c := d4) Try.underlying27 Try.underlying5 Try.underlying9 HO4.out m
  have hsY := fun m => LGetStr.str_at (P := Try.prog) (c := d5) Try.underlying27 Try.underlying5 Try.underlying9 HO5.out m
  by_cases hE : k1 = k2 ∧ a1 = a2 ∧ b1 = b2 ∧ t1 = t2
  · obtain ⟨rfl, rfl, rfl, rfl⟩ := hE
    have hXY : X = Y := HX.out.trans HY.out.symm
    subst hXY
    go_wp2
    go_quiet (fail)
    go_wp2
    go_quiet (fail)
    go_wp2
    go_ret
    exact ⟨by simp, by repeat (first | exact HU.out | refine Upd.drew ?_ | refine Upd.drewN ?_ _)⟩
  · have HNE := Asd.mk hE
    obtain ⟨kk, hkk⟩ : ∃ kk, kk = min X.length Y.length := ⟨_, rfl⟩
    have hpre : X.take kk ≠ Y.take kk := fun e => hE (take_apart k1 k2 a1 a2 b1 b2 t1 t2 X Y R1.out R2.out HX.out HY.out (by rw [← hkk]; exact e))
    have hne : X ≠ Y := fun e => hpre (by rw [e])
    have hpx : (X.take kk == Y.take kk) = false := beq_eq_false_iff_ne.2 hpre
    have hpy : (X.take kk != Y.take kk) = true := bne_iff_ne.2 hpre
    have hmn : mn (X.length : Int) (Y.length : Int) = (kk : Int) := by unfold mn; split <;> omega
    have hk4 : kk ≤ d4 := by omega
    have hk5 : kk ≤ d5 := by omega
    have hk4i : (kk : Int) ≤ (d4 : Int) := by omega
    have hk5i : (kk : Int) ≤ (d5 : Int) := by omega
    have hsX2 := fun m => LGetStr.str_at (P := Try.prog) (c := d4) Try.underlying27 Try.underlying5 Try.underlying9 (HO4.out.take kk (by omega)) m
    have hsY2 := fun m => LGetStr.str_at (P := Try.prog) (c := d5) Try.underlying27 Try.underlying5 Try.underlying9 (HO5.out.take kk (by omega)) m
    clear hkk hpre
    have hxy : (X == Y) = false := beq_eq_false_iff_ne.2 hne
    rcases (by
      by_cases e1 : k1 = k2
      · by_cases e2 : a1 = a2
        · by_cases e3 : b1 = b2
          · exact .inr (.inr (.inr ⟨e1, e2, e3, fun e => hE ⟨e1, e2, e3, e⟩⟩))
          · exact .inr (.inr (.inl ⟨e1, e2, e3⟩))
        · exact .inr (.inl ⟨e1, e2⟩)
      · exact .inl e1 : k1 ≠ k2 ∨ (k1 = k2 ∧ a1 ≠ a2) ∨ (k1 = k2 ∧ a1 = a2 ∧ b1 ≠ b2) ∨ (k1 = k2 ∧ a1 = a2 ∧ b1 = b2 ∧ t1 ≠ t2)) with e | ⟨rfl, e⟩ | ⟨rfl, rfl, e⟩ | ⟨rfl, rfl, rfl, e⟩
    · have hb := (beq_eq_false_iff_ne.2 e : (k1 == k2) = false)
      have hbn := (bne_iff_ne.2 e : (k1 != k2) = true)
      clear hE e hne
      go_wp2
      go_quiet (fail)
      go_wp2
      go_quiet (fail)
      go_wp2
      go_ret
      exact ⟨by simp, by repeat (first | exact HU.out | refine Upd.drew ?_ | refine Upd.drewN ?_ _)⟩
    · have hb := (beq_eq_false_iff_ne.2 e : (a1 == a2) = false)
      have hbn := (bne_iff_ne.2 e : (a1 != a2) = true)
      clear hE e hne
      go_wp2
      go_quiet (fail)
      go_wp2
      go_quiet (fail)
      go_wp2
      go_ret
      exact ⟨by simp, by repeat (first | exact HU.out | refine Upd.drew ?_ | refine Upd.drewN ?_ _)⟩
    · have hb := (beq_eq_false_iff_ne.2 e : (b1 == b2) = false)
      have hbn := (bne_iff_ne.2 e : (b1 != b2) = true)
      clear hE e hne
      go_wp2
      go_quiet (fail)
      go_wp2
      go_quiet (fail)
      go_wp2
      go_ret
      exact ⟨by simp, by repeat (first | exact HU.out | refine Upd.drew ?_ | refine Upd.drewN ?_ _)⟩
    · have hb := (beq_eq_false_iff_ne.2 e : (t1 == t2) = false)
      have hbn := (bne_iff_ne.2 e : (t1 != t2) = true)
      clear hE e hne
      go_wp2
      go_quiet (fail)
      go_wp2
      go_quiet (fail)
      go_wp2
      go_ret
      exact ⟨by simp, by repeat (first | exact HU.out | refine Upd.drew ?_ | refine Upd.drewN ?_ _)⟩
theorem apart_row_walk (w : World) (cs1 : Array Value) (x1 : Int × Int × Int × ByteArray) (h1 : R4 (RInt .i64) (RInt .i64) (RInt .i64) RStr w cs1.toList x1) (cs2 : Array Value) (x2 : Int × Int × Int × ByteArray) (h2 : R4 (RInt .i64) (RInt .i64) (RInt .i64) RStr w cs2.toList x2) :
    Calls Try.prog 11 #[.agg cs1, .agg cs2] w fun e w' => e = .returned (.bool true) ∧ Upd (fun _ => False) w w' := by
  obtain ⟨k1, a1, b1, t1, rfl, hl1⟩ := msg_cells h1
  obtain ⟨k2, a2, b2, t2, rfl, hl2⟩ := msg_cells h2
  exact apart_walk w k1 a1 b1 t1 k2 a2 b2 t2 hl1 hl2
end Go.Proofs.Ytpphejjdgplalaa.MgApart
