/- What the statements on the ring share: pieces as one, room. -/
import Derived.Test.YtpphejjdgplalaaRingLasts
import Derived.Test.YtpphejjdgplalaaK2
set_option linter.unusedVariables false
set_option linter.unusedSimpArgs false
namespace Go.Proofs.Ytpphejjdgplalaa.RgThree
open Go.RowKit K Rg RgLasts

theorem flat_next (L : List (List UInt8)) (i : Nat) (h : i < L.length) : (L.take (i + 1)).flatten = (L.take i).flatten ++ L[i] := by
  rw [List.take_succ_eq_append_getElem h, List.flatten_append]
  simp
theorem flat_le (L : List (List UInt8)) (i : Nat) : (L.take i).flatten.length ≤ L.flatten.length := by
  have h := congrArg List.flatten (List.take_append_drop i L)
  rw [List.flatten_append] at h
  have := congrArg List.length h
  rw [List.length_append] at this
  omega
set_option maxHeartbeats 400000 in
theorem room_calls (size : Int) (w : World) : Calls Try.prog 18 #[.int .i64 size] w fun e w' => e = .returned (.int .i64 (roomN size : Int)) ∧ w = w' := by
  have h := (roomN_le size).2.2
  have HM := Asd.mk (show (size < 1 → (1 : Int) = roomN size) ∧ (¬ size < 1 → 65536 < size → (65536 : Int) = roomN size) ∧ (¬ size < 1 → ¬ 65536 < size → size = roomN size) by
    rw [← h]; unfold mx mn; refine ⟨?_, ?_, ?_⟩ <;> (repeat (first | intro _ | split)) <;> omega)
  clear h
  by_cases h1 : size < 1
  · have h2 := Asd.mk (HM.out.1 h1)
    go_enter Try.func18, Try.ntmps18
    go_wp2
    go_ret
    exact ⟨by rw [← h2.out]; rfl, rfl⟩
  · by_cases h3 : 65536 < size
    · have h2 := Asd.mk (HM.out.2.1 h1 h3)
      go_enter Try.func18, Try.ntmps18
      go_wp2
      go_ret
      exact ⟨by rw [← h2.out]; rfl, rfl⟩
    · have h2 := Asd.mk (HM.out.2.2 h1 h3)
      go_enter Try.func18, Try.ntmps18
      go_wp2
      go_ret
      exact ⟨by rw [← h2.out]; rfl, rfl⟩
def JoinPost (l : List UInt8) (w : World) (e : Ending) (w' : World) : Prop :=
  ∃ A c G, e = .returned (.slice A l.length c) ∧ Own w' 27 0 (.slice none 0 0) 0 [] none ∧ Own w' 5 1 (.slice A l.length c) l.length (B l) G ∧ (∀ g, G = some g → w.heap.size ≤ g) ∧ l.length ≤ c ∧ c ≤ maxLen ∧ Upd (fun _ => False) w w'
set_option maxHeartbeats 1000000 in
theorem join_calls (A : Option Addr) (c : Nat) (L : List (List UInt8)) (w : World) (hE : Els RBytes 1 w A L.length L) (hN : L.flatten.length ≤ 1048576) :
    Calls Try.prog 22 #[.slice A L.length c] w (JoinPost L.flatten w) := by
  have HE := Asd.mk hE
  have hlim := hE.lim
  clear hE
  go_enter Try.func22, Try.ntmps22
  go_wp2
  go_loopw [3, 9] (fun v3 v9 wr => ∃ (i pl : Nat) (Ab : Option Addr) (cb : Nat) (Gb : Option Nat), i ≤ L.length ∧ v9 = .int .i64 i ∧ v3 = .slice Ab pl cb ∧ pl ≤ cb ∧ cb ≤ maxLen ∧ pl ≤ 1048576 ∧ Asd (pl = (L.take i).flatten.length) ∧ Asd (Own wr 5 1 (.slice Ab pl cb) pl (B (L.take i).flatten) Gb) ∧ Asd (∀ g, Gb = some g → w.heap.size ≤ g) ∧ Asd (Upd (fun _ => False) w wr)) (fun _ v9 _ => L.length - (intOf v9).toNat)
  case atStart => exact ⟨0, 0, some ⟨w.heap.size, 0, none⟩, 0, some w.heap.size, by omega, rfl, rfl, by omega, by simp [maxLen], by omega, ⟨rfl⟩, ⟨Own.lit w _ 1 0 #[] (by simp [maxLen]) rfl⟩, ⟨fun g e => by obtain rfl := Option.some.inj e; exact Nat.le_refl _⟩, ⟨(Upd.refl _ _).alloc _⟩⟩
  case round =>
    obtain ⟨i, pl, Ab, cb, Gb, hi, rfl, rfl, hplc, hcm, hpl, HPL, HO, HG, HW⟩ := hrel
    by_cases hlt : i < L.length
    · obtain ⟨ad, cs, e, hlen, hr, hcell⟩ := HE.out.at_ i hlt
      subst e
      obtain ⟨l, hx⟩ : ∃ x, x = L[i] := ⟨_, rfl⟩
      rw [← hx] at hr
      obtain ⟨a1, k1, rfl, hrd, hk1, hk2, hk3⟩ := hr
      have hc0 := HW.out.cell (hcell 0 _ rfl) (fun h => h)
      simp only [Nat.mul_one, Nat.add_zero] at hc0
      have HX := Asd.mk (by rw [hx]; exact flat_next L i hlt : (L.take (i + 1)).flatten = (L.take i).flatten ++ l)
      have HRD := Asd.mk (hrd.up HW.out)
      have hbig : pl + l.length ≤ 1048576 := by
        have h1 := flat_le L (i + 1)
        rw [HX.out, List.length_append, ← HPL.out] at h1
        omega
      have hwi : IntKind.i64.wrap ((i : Int) + 1) = ((i + 1 : Nat) : Int) := by rw [w64i _ (by omega) (by omega)]; rfl
      clear hcell hlen hrd hx hk3
      go_wp2_with (first | (with_reducible refine stop_append _ _ _ _ rfl ?_) | (with_reducible refine stop_copy _ _ _ _ rfl ?_) | (with_reducible refine stop_make _ _ _ rfl ?_) | (with_reducible refine stop_conv 27 9 _ rfl ?_))
      refine wp_appendF HW.out (pl + l.length) 5 (L.take i).flatten l Gb Ab pl cb a1 l.length k1 rfl _ _ 27 rfl Try.underlying27 info8 rfl rfl HO.out HG.out HRD.out rfl (by omega) ?_
      intro A5 c5 w5 G5 hc5 hm5 hO5 hG5 hu5 _ _
      rw [← HX.out] at hO5
      have HO5 := Asd.mk hO5
      have HG5 := Asd.mk hG5
      have HU5 := Asd.mk hu5
      have HPL5 : Asd (pl + l.length = (L.take (i + 1)).flatten.length) := ⟨by rw [HX.out, List.length_append, HPL.out]⟩
      clear hO5 hG5 hu5 HO HG HW HRD HX HPL
      go_wp2
      go_roundw
      case rel => exact ⟨i + 1, pl + l.length, A5, c5, G5, by omega, rfl, rfl, hc5, hm5, hbig, HPL5, HO5, HG5, HU5⟩
      case measure => simp only [intOf]; omega
    · have hi2 : i = L.length := by omega
      subst hi2
      rw [List.take_length] at HPL HO
      go_wp2
      go_ret
      have h1 := HO.out
      rw [HPL.out] at h1 hplc
      exact ⟨Ab, cb, Gb, by rw [HPL.out]; rfl, Own.nil _ _ _, h1, HG.out, hplc, hcm, HW.out⟩
set_option maxHeartbeats 400000 in
theorem few_calls (A : Option Addr) (c : Nat) (L : List (List UInt8)) (w : World) (hE : Els RBytes 1 w A L.length L) (hN : L.flatten.length ≤ 1048576) :
    Calls Try.prog 15 #[.slice A L.length c] w fun e w' => e = .returned (.bool (decide (L.length ≤ 60 ∧ L.flatten.length ≤ 2000))) ∧ Upd (fun _ => False) w w' := by
  have HE := Asd.mk hE
  have hlim := hE.lim
  clear hE
  obtain ⟨r, hr⟩ : ∃ r : Bool, r = decide (L.length ≤ 60 ∧ L.flatten.length ≤ 2000) := ⟨_, rfl⟩
  rw [← hr]
  by_cases h60 : 60 < L.length
  · have hd := Asd.mk (show r = false by rw [hr]; exact decide_eq_false (by omega))
    clear hr
    go_enter Try.func15, Try.ntmps15
    go_wp2
    go_ret
    exact ⟨by rw [hd.out]; rfl, Upd.refl _ _⟩
  have h60b : (L.length : Int) ≤ 60 := by omega
  obtain ⟨f, hf⟩ : ∃ f, f = L.flatten.length := ⟨_, rfl⟩
  have hfN : f ≤ 1048576 := by omega
  have hd := Asd.mk (show r = decide ((f : Int) ≤ 2000) by rw [hr, decide_eq_decide]; omega)
  have HF := Asd.mk hf
  clear hf hr
  go_enter Try.func15, Try.ntmps15
  go_wp2_with fail
  refine (join_calls A c L w HE.out hN).mono ?_
  unfold JoinPost
  rw [← HF.out]
  rintro e w2 ⟨A2, c2, G2, rfl, _, ho, hg, hc2, hm2, hu⟩
  have HU := Asd.mk hu
  clear ho hg hu
  by_cases h2000 : f ≤ 2000
  · have hd2 : Asd (r = true) := ⟨by rw [hd.out]; exact decide_eq_true (by omega)⟩
    go_wp2
    go_ret
    exact ⟨by rw [hd2.out]; simp; omega, HU.out⟩
  · have hd2 : Asd (r = false) := ⟨by rw [hd.out]; exact decide_eq_false (by omega)⟩
    go_wp2
    go_ret
    exact ⟨by rw [hd2.out]; simp; omega, HU.out⟩
end Go.Proofs.Ytpphejjdgplalaa.RgThree
