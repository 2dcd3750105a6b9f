/- The law InqWhole: what its call comes to, for every input. -/
import Derived.Test.YtaeafnpldlcdnaaInqHead
import Derived.Test.YtaeafnpldlcdnaaK8
set_option linter.unusedVariables false
set_option linter.unusedSimpArgs false
namespace Go.Proofs.Ytaeafnpldlcdnaa.Iq
open Go.RowKit K Fl
theorem and_mask (i : Nat) (k : Nat) (hi : i < 2 ^ 62) (hk : k < 62) : Go.bits .and .i64 (i : Int) ((2 ^ k - 1 : Nat) : Int) = ((i % 2 ^ k : Nat) : Int) := by
  show IntKind.i64.wrap (((BitVec.ofInt 64 (i : Int) &&& BitVec.ofInt 64 ((2 ^ k - 1 : Nat) : Int)).toNat : Nat) : Int) = _
  have h2 : 2 ^ k < 2 ^ 62 := Nat.pow_lt_pow_right (by omega) hk
  have e1 : (BitVec.ofInt 64 (i : Int)).toNat = i := by simp; omega
  have e2 : (BitVec.ofInt 64 ((2 ^ k - 1 : Nat) : Int)).toNat = 2 ^ k - 1 := by
    rw [BitVec.ofInt_natCast, BitVec.toNat_ofNat]; omega
  rw [BitVec.toNat_and, e1, e2, Nat.and_two_pow_sub_one_eq_mod]
  have : i % 2 ^ k < 2 ^ k := Nat.mod_lt _ (Nat.two_pow_pos k)
  exact w64i _ (by omega) (by omega)
theorem and1 (i : Nat) (hi : i < 2 ^ 62) : Go.bits .and .i64 (i : Int) 1 = ((i % 2 : Nat) : Int) := and_mask i 1 hi (by omega)
/-- The table while the two take turns. -/
def st (h lf : Int) : T := ⟨10, lf, h, [], [(1, 2), (2, 1)]⟩
theorem st_start : Fl.join (Fl.join (Fl.new 10) 1 2) 2 1 = st 0 0 := rfl
theorem st_may (h lf : Int) (d : Nat) (hd : d = 1 ∨ d = 2) (hn : h ≠ (d : Int)) : may (st h lf) (d : Int) = 0 := by
  unfold may st
  rcases hd with rfl | rfl
  · rw [show rget [(1, 2), (2, 1)] ((1 : Nat) : Int) = some 2 from rfl]
    simp [hn]
    exact hn
  · rw [show rget [(1, 2), (2, 1)] ((2 : Nat) : Int) = some 1 from rfl]
    simp [hn]
    exact hn
theorem st_give (h lf : Int) (d : Nat) (hd : d = 1 ∨ d = 2) (hn : h ≠ (d : Int)) : Fl.give (st h lf) (d : Int) = st (d : Int) 10 := by
  unfold Fl.give
  rw [if_pos (st_may h lf d hd hn)]
  rfl
theorem st_other (d e : Nat) (hd : d = 1 ∨ d = 2) (he : e = 3 - d) (x : QS) (hx : x.ended = false) (n : Nat) : why x (st (d : Int) 10) (e : Int) n = 4 := by
  unfold why st
  rw [hx]
  rcases hd with rfl | rfl <;> subst he
  · rw [show rget [(1, 2), (2, 1)] ((3 - 1 : Nat) : Int) = some 1 from rfl]
    rfl
  · rw [show rget [(1, 2), (2, 1)] ((3 - 2 : Nat) : Int) = some 2 from rfl]
    rfl
theorem st_own (d : Nat) (hd : d = 1 ∨ d = 2) (hv : List UInt8) (tt : Int) (n : Nat) (hn : hv.length + n ≤ 65536) : why ⟨hv, 65536, false, tt⟩ (st (d : Int) 10) (d : Int) n = 0 := by
  unfold why st
  rcases hd with rfl | rfl
  · rw [show rget [(1, 2), (2, 1)] ((1 : Nat) : Int) = some 2 from rfl]
    simp
    omega
  · rw [show rget [(1, 2), (2, 1)] ((2 : Nat) : Int) = some 1 from rfl]
    simp
    omega
set_option maxHeartbeats 4000000 in
set_option maxRecDepth 100000 in
theorem whole_walk (w : World) (A : Option Addr) (n c : Nat) (L : List (List UInt8)) (hL : RSlice RBytes 1 w [.slice A n c] L) :
    Calls Try.prog 8 #[.slice A n c] w fun e w' => e = .returned (.bool true) ∧ Upd (fun _ => False) w w' := by
  obtain ⟨A', c', he, hE, hc, hm, _⟩ := hL
  simp only [List.cons.injEq, Value.slice.injEq, and_true] at he
  obtain ⟨rfl, rfl, rfl⟩ := he
  have HE := Asd.mk hE
  have hlim := hE.lim
  obtain ⟨N, hN⟩ : ∃ N, N = L.length := ⟨_, rfl⟩
  have HN := Asd.mk hN
  rw [← hN] at hc hlim
  rw [← hN]
  clear hE hm hN
  go_enter Try.func8, Try.ntmps8
  go_wp2_with fail
  refine (head_calls _).mono ?_
  rintro e w1 ⟨rfl, hu⟩
  have HU := Asd.mk hu
  clear hu
  by_cases h3 : 40 < N
  · go_wp2
    go_ret
    exact ⟨rfl, HU.out⟩
  go_wp2_with fail
  refine (new_at 10 HU.out).mono ?_
  rintro e w2 ⟨t, rfl, h⟩
  have H1 := Asd.mk h
  clear h HU
  go_wp2_with fail
  refine (qnew_at 65536 H1.out).mono ?_
  rw [show Oq.clampSize 65536 = 65536 from rfl]
  rintro e w3 ⟨p, rfl, h⟩
  have H2 := Asd.mk h
  clear h H1
  go_wp2_with fail
  refine (H2.out.turnT (fun F h => join_calls h 1 2 id1 (by decide))).mono ?_
  rintro e w4 ⟨rfl, h⟩
  have H3 := Asd.mk h
  clear h H2
  go_wp2_with fail
  refine (H3.out.turnT (fun F h => join_calls h 2 1 ⟨by omega, by omega⟩ (by decide))).mono ?_
  rintro e w5 ⟨rfl, h⟩
  rw [st_start] at h
  have H4 := Asd.mk h
  clear h H3
  go_wp2
  have hempty : ({ data := #[] } : ByteArray) = S [] := rfl
  rw [hempty]
  clear hempty
  go_loopw [5, 22] (fun v5 v22 wr => ∃ (i : Nat) (hv : List UInt8) (hd lf : Int), i ≤ N ∧ v22 = .int .i64 (i : Int) ∧ v5 = .string (S hv) ∧ hv.length ≤ i * 200 ∧ Asd (hd ≠ ((1 + i % 2 : Nat) : Int)) ∧ Asd (At3 w wr t p (st hd lf) ⟨hv, 65536, false, (hv.length : Int)⟩)) (fun _ v22 _ => N - (intOf v22).toNat)
  case atStart => exact ⟨0, [], 0, 0, by omega, rfl, rfl, by simp, ⟨by omega⟩, H4⟩
  case round =>
    clear H4
    obtain ⟨i, hv, hd, lf, hi, rfl, rfl, hhv, HD, H5⟩ := hrel
    by_cases hlt : i < N
    · obtain ⟨ad, cs, e, hlen, hr, hcell⟩ := HE.out.at_ i (by rw [← HN.out]; exact hlt)
      subst e
      obtain ⟨l, hx⟩ : ∃ x, x = L[i]'(by rw [← HN.out]; exact hlt) := ⟨_, rfl⟩
      rw [← hx] at hr
      obtain ⟨a1, k1, rfl, hrd, hk1, hk2, hk3⟩ := hr
      have hk3' : l.length ≤ 140737488351232 := hk3
      have hc0 := H5.out.out.cell (hcell 0 _ rfl) (fun h => h)
      simp only [Nat.mul_one, Nat.add_zero] at hc0
      have HRD := Asd.mk hrd
      clear hcell hlen hrd hx hk3
      by_cases h200 : 200 < l.length
      · go_wp2
        go_ret
        exact ⟨by simp, H5.out.out⟩
      · obtain ⟨d, hdd⟩ : ∃ d, d = 1 + i % 2 := ⟨_, rfl⟩
        obtain ⟨e, hee⟩ : ∃ e, e = 3 - d := ⟨_, rfl⟩
        have hd12 : d = 1 ∨ d = 2 := by omega
        have HD12 := Asd.mk hd12
        have hand : Go.bits .and .i64 (i : Int) 1 = ((d - 1 : Nat) : Int) := by rw [and1 i (by omega)]; congr 1; omega
        have hsum : (1 : Int) + ((d - 1 : Nat) : Int) = (d : Int) := by omega
        have hsub : (3 : Int) - (d : Int) = (e : Int) := by omega
        have hdm : d ≤ 2 ∧ 1 ≤ d ∧ e ≤ 2 ∧ 1 ≤ e := by omega
        have HEE := Asd.mk hee
        have HNX : Asd ((d : Int) ≠ ((1 + (i + 1) % 2 : Nat) : Int)) := ⟨by omega⟩
        have HD2 : Asd (hd ≠ (d : Int)) := ⟨by rw [hdd]; exact HD.out⟩
        have hmx : hv.length + l.length ≤ 65536 := by omega
        clear hdd hee HD hd12
        go_wp2_with fail
        refine (H5.out.turnT (fun F h => give_calls h (d : Int) ⟨by omega, by omega⟩ (by simp [st]))).mono ?_
        rw [st_may hd lf d HD12.out HD2.out, st_give hd lf d HD12.out HD2.out]
        rintro x w6 ⟨rfl, h⟩
        have H6 := Asd.mk h
        clear h H5
        go_wp2_with fail
        refine (H6.out.offer (e : Int) ⟨by omega, by omega⟩ a1 l.length k1 l (HRD.out.up H6.out.out) ⟨by simp only; omega, by simp only; omega⟩).mono ?_
        have ey := st_other d e HD12.out HEE.out ⟨hv, 65536, false, (hv.length : Int)⟩ rfl l.length
        have ez : offer ⟨hv, 65536, false, (hv.length : Int)⟩ (st (d : Int) 10) (e : Int) l = ⟨hv, 65536, false, (hv.length : Int)⟩ := by unfold offer; rw [ey]; rfl
        rw [ey, ez]
        rintro x w7 ⟨rfl, h⟩
        have H7 := Asd.mk h
        clear h H6 ey ez
        go_wp2_with fail
        refine (H7.out.offer (d : Int) ⟨by omega, by omega⟩ a1 l.length k1 l (HRD.out.up H7.out.out) ⟨by simp only; omega, by simp only; omega⟩).mono ?_
        have ey := st_own d HD12.out hv (hv.length : Int) l.length hmx
        have ez : offer ⟨hv, 65536, false, (hv.length : Int)⟩ (st (d : Int) 10) (d : Int) l = ⟨hv ++ l, 65536, false, ((hv ++ l).length : Int)⟩ := by unfold offer; rw [ey]; simp
        rw [ey, ez]
        rintro x w8 ⟨rfl, h⟩
        have H8 := Asd.mk h
        have HRD8 := Asd.mk (HRD.out.up H8.out.out)
        have HLA : Asd ((hv ++ l).length = hv.length + l.length) := ⟨by simp⟩
        clear h H7 ey ez
        go_wp2_with (first | (with_reducible refine stop_append _ _ _ _ rfl ?_) | (with_reducible refine stop_copy _ _ _ _ rfl ?_) | (with_reducible refine stop_make _ _ _ rfl ?_) | (with_reducible refine stop_conv 47 9 _ rfl ?_))
        refine wp_str l _ l.length k1 rfl 47 9 5 _ rfl Try.underlying47 Try.underlying5 Try.underlying9 rfl HRD8.out ?_
        go_wp2
        go_roundw
        case rel => exact ⟨i + 1, hv ++ l, _, _, by omega, by go_num, rfl, by rw [HLA.out]; omega, HNX, H8⟩
        case measure => simp [intOf]; omega
    · obtain ⟨q, hq, _, HTk⟩ := H5.out.inner
      have hkr : Upd (fun _ => False) wr wr := Upd.refl _ _
      have hi2 : hv.length ≤ 8000 := by omega
      go_wp2_with fail
      refine (HTk.out 100000).mono ?_
      rintro e w9 ⟨g, rfl, hr9, h⟩
      have e9 : Oq.takeN 100000 hv.length = hv.length := by unfold Oq.takeN mx mn; split <;> split <;> omega
      simp only at hr9 h
      rw [e9] at hr9 h ⊢
      rw [List.take_length] at hr9
      have H9 := Asd.mk h
      have HR9 := Asd.mk hr9
      clear hr9 h e9 hq hkr H5
      go_wp2_with (first | (with_reducible refine stop_append _ _ _ _ rfl ?_) | (with_reducible refine stop_copy _ _ _ _ rfl ?_) | (with_reducible refine stop_make _ _ _ rfl ?_) | (with_reducible refine stop_conv 47 9 _ rfl ?_))
      refine wp_str hv _ hv.length hv.length rfl 47 9 5 _ rfl Try.underlying47 Try.underlying5 Try.underlying9 rfl HR9.out ?_
      go_wp2_with fail
      refine (H9.out.total).mono ?_
      rintro e w10 ⟨rfl, rfl⟩
      go_wp2
      go_ret
      exact ⟨by simp, H9.out.out⟩
end Go.Proofs.Ytaeafnpldlcdnaa.Iq
