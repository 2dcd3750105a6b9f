/- The law RingLines: what its call comes to, for every input of bounded bulk. -/
import Derived.Test.YtpphejjdgplalaaRingThree
set_option linter.unusedVariables false
set_option linter.unusedSimpArgs false
namespace Go.Proofs.Ytpphejjdgplalaa.RgLines
open Go.RowKit K Rg RgLasts RgThree

/-- The first place from one on, at or behind 'off', where a line begins. -/
def wantFrom (l : List UInt8) (base : Nat) (off : Int) : Nat → Nat → Nat
  | 0, i => i
  | k + 1, i => if off ≤ (i : Int) ∧ (i = 0 ∨ (base < i ∧ l.getD (i - 1) 0 = 10)) then i else wantFrom l base off k (i + 1)
theorem want_line (l : List UInt8) (base : Nat) (off : Int) : ∀ (k i : Nat), off ≤ (i : Int) → wantFrom l base off k i = lineFrom l base k i
  | 0, i, _ => rfl
  | k + 1, i, h => by
    unfold wantFrom lineFrom
    by_cases hc : i = 0 ∨ (base < i ∧ l.getD (i - 1) 0 = 10)
    · rw [if_pos ⟨h, hc⟩, if_pos hc]
    · rw [if_neg (fun x => hc x.2), if_neg hc, want_line l base off k (i + 1) (by omega)]
theorem want_of (l : List UInt8) (base : Nat) (off : Int) : ∀ (k j : Nat), j + k = l.length → wantFrom l base off k j = if (l.length : Int) ≤ mx off (j : Int) then l.length else lineFrom l base (l.length - (mx off (j : Int)).toNat) (mx off (j : Int)).toNat
  | 0, j, h => by
    have : (j : Int) ≤ mx off (j : Int) := by unfold mx; split <;> omega
    rw [if_pos (by omega)]
    show j = l.length
    omega
  | k + 1, j, h => by
    by_cases ho : off ≤ (j : Int)
    · have hm : mx off (j : Int) = (j : Int) := by unfold mx; split <;> omega
      rw [hm, if_neg (by omega), Int.toNat_natCast, want_line l base off _ _ ho]
      congr 1
      omega
    · have hm : mx off (j : Int) = off := by unfold mx; split <;> omega
      have hm2 : mx off ((j + 1 : Nat) : Int) = off := by unfold mx; split <;> omega
      have ih := want_of l base off k (j + 1) (by omega)
      rw [hm2] at ih
      rw [hm, ← ih, wantFrom, if_neg (fun x => ho x.1)]
theorem want_is (l : List UInt8) (n : Nat) (off : Int) : wantFrom l (l.length - n) off (l.length - (l.length - n)) (l.length - n) = lineOf l (l.length - n) off :=
  want_of l _ off _ _ (by omega)
theorem want_step (l : List UInt8) (base : Nat) (off : Int) (m : Nat) (h : m < l.length) : wantFrom l base off (l.length - m) m = if off ≤ (m : Int) ∧ (m = 0 ∨ (base < m ∧ l.getD (m - 1) 0 = 10)) then m else wantFrom l base off (l.length - (m + 1)) (m + 1) := by
  rw [show l.length - m = (l.length - (m + 1)) + 1 by omega]
  rfl
set_option maxHeartbeats 4000000 in
set_option maxRecDepth 100000 in
theorem lines_walk (w : World) (size : Int) (ws : (Lit.int .i64 size).wf = true) (A : Option Addr) (n0 c : Nat) (L : List (List UInt8)) (hL : RSlice RBytes 1 w [.slice A n0 c] L) (hN : L.flatten.length ≤ 1048576) (off : Int) (wo : (Lit.int .i64 off).wf = true) :
    Calls Try.prog 4 #[.int .i64 size, .slice A n0 c, .int .i64 off] w fun e w' => e = .returned (.bool true) ∧ Upd (fun _ => False) w w' := by
  obtain ⟨A', c', he, hE, hc, hm, _⟩ := hL
  simp only [List.cons.injEq, Value.slice.injEq, and_true] at he
  obtain ⟨rfl, rfl, rfl⟩ := he
  have HE := Asd.mk hE
  have hlim := hE.lim
  have HN := Asd.mk hN
  clear hE hm ws wo hN
  go_enter Try.func4, Try.ntmps4
  go_wp2_with fail
  refine (head_calls _).mono ?_
  rintro e w1 ⟨rfl, hu⟩
  have HU := Asd.mk hu
  clear hu
  go_wp2_with fail
  refine (few_calls A c L w1 (HE.out.up RBytes.stays HU.out) HN.out).mono ?_
  rintro e w2 ⟨rfl, hu⟩
  have HU2 := Asd.mk (HU.out.trans hu (fun _ _ h => h))
  clear hu HU
  by_cases hfew : L.length ≤ 60 ∧ L.flatten.length ≤ 2000
  case neg =>
    rw [decide_eq_false hfew]
    clear hfew
    go_wp2
    go_ret
    exact ⟨rfl, HU2.out⟩
  rw [decide_eq_true hfew]
  obtain ⟨h60, h2000⟩ := hfew
  have H2000 := Asd.mk h2000
  clear h2000
  obtain ⟨hn1, hn2, _⟩ := roomN_le size
  obtain ⟨n, hn⟩ : ∃ n, n = roomN size := ⟨_, rfl⟩
  rw [← hn] at hn1 hn2
  have HNN := Asd.mk hn
  clear hn
  go_wp2_with fail
  refine (new_calls size _).mono ?_
  rw [← HNN.out]
  rintro e w3 ⟨q, g, rfl, hq, hu, h1, h2⟩
  have HQ3 := Asd.mk hq
  have HU3 := Asd.mk (HU2.out.trans hu (fun _ _ h => h))
  have HF : Asd (w.heap.size ≤ q ∧ w.heap.size ≤ g) := ⟨by have := HU2.out.size; omega⟩
  clear hq hu h1 h2 HU2
  go_wp2
  go_loopw [23] (fun v23 wr => ∃ i : Nat, i ≤ L.length ∧ v23 = .int .i64 (i : Int) ∧ Asd (Ring wr q g n (L.take i).flatten) ∧ Asd (Upd (fun _ => False) w wr)) (fun v23 _ => L.length - (intOf v23).toNat)
  case atStart => exact ⟨0, by omega, rfl, HQ3, HU3⟩
  case round =>
    clear HQ3 HU3
    obtain ⟨i, hi, rfl, HQ, HW⟩ := hrel
    by_cases hlt : i < L.length
    · obtain ⟨ad, cs, e, hlen, hr, hcell⟩ := HE.out.at_ i hlt
      subst e
      obtain ⟨l, hx⟩ : ∃ x, x = L[i] := ⟨_, rfl⟩
      rw [← hx] at hr
      obtain ⟨a1, k1, rfl, hrd, hk1, hk2, hk3⟩ := hr
      have hc0 := HW.out.cell (hcell 0 _ rfl) (fun h => h)
      simp only [Nat.mul_one, Nat.add_zero] at hc0
      have HX := Asd.mk (by rw [hx]; exact flat_next L i hlt : (L.take (i + 1)).flatten = (L.take i).flatten ++ l)
      have HRD := Asd.mk hrd
      have hbig : (L.take i).flatten.length + l.length ≤ 1099511627776 := by
        have h1 := flat_le L (i + 1)
        rw [HX.out, List.length_append] at h1
        have := H2000.out
        omega
      have HBIG := Asd.mk hbig
      have hwi : IntKind.i64.wrap ((i : Int) + 1) = ((i + 1 : Nat) : Int) := by rw [w64i _ (by omega) (by omega)]; rfl
      clear hcell hlen hrd hx hk3 hbig
      go_wp2_with fail
      refine (append_still HQ.out a1 l.length k1 l (fun W k => HRD.out.up (HW.out.trans k (fun i hi a => by have := HF.out; rcases a with rfl | rfl <;> omega))) HBIG.out).mono ?_
      rw [← HX.out]
      rintro e w5 ⟨rfl, hr5, hu5⟩
      have HQ5 := Asd.mk hr5
      have HW5 : Asd (Upd (fun _ => False) w w5) := ⟨HW.out.trans hu5 (fun i hi a => by have := HF.out; rcases a with rfl | rfl <;> omega)⟩
      clear hr5 hu5 HQ HW HX HRD HBIG
      go_wp2
      go_roundw
      case rel => exact ⟨i + 1, by omega, rfl, HQ5, HW5⟩
      case measure => simp only [intOf]; omega
    · have hi2 : i = L.length := by omega
      subst hi2
      rw [List.take_length] at HQ
      go_wp2_with fail
      refine (join_calls A c L wr (HE.out.up RBytes.stays HW.out) HN.out).mono ?_
      unfold JoinPost
      obtain ⟨l, hl⟩ : ∃ l, l = L.flatten := ⟨_, rfl⟩
      have hll : l.length ≤ 2000 := by rw [hl]; exact H2000.out
      rw [← hl] at HQ
      rw [← hl]
      clear hl
      rintro e w5 ⟨A5, c5, G5, rfl, _, ho5, hg5, hc5, hm5, hu5⟩
      have HRD := Asd.mk ho5.rd
      have HQ5 := Asd.mk (HQ.out.up hu5)
      have HW5 : Asd (Upd (fun _ => False) w w5) := ⟨HW.out.trans hu5 (fun _ _ h => h)⟩
      clear ho5 hg5 hu5 HQ HW
      go_wp2_with fail
      refine (room_calls size w5).mono ?_
      rw [← HNN.out]
      rintro e w6 ⟨rfl, rfl⟩
      obtain ⟨base, hbase⟩ : ∃ base, base = l.length - n := ⟨_, rfl⟩
      have hmx : mx 0 ((l.length : Int) - (n : Int)) = (base : Int) := by unfold mx; split <;> omega
      have hws : IntKind.i64.wrap ((l.length : Int) - (n : Int)) = (l.length : Int) - (n : Int) := w64i _ (by omega) (by omega)
      have hw1 : IntKind.i64.wrap ((l.length : Int) - 1) = (l.length : Int) - 1 := w64i _ (by omega) (by omega)
      have HBE := Asd.mk hbase
      have hbl : base ≤ l.length := by omega
      have HRes := Asd.mk (show wantFrom l base off (l.length - base) base = lineOf l base off by rw [hbase]; exact want_is l n off)
      clear hbase
      go_wp2
      clear hw1
      go_loopw [12, 13] (fun v12 v13 wr => ∃ j wt : Nat, v13 = .int .i64 ((j : Int) - 1) ∧ v12 = .int .i64 (wt : Int) ∧ base ≤ j ∧ j ≤ l.length ∧ Asd (wt = wantFrom l base off (l.length - j) j) ∧ wr = w5) (fun _ v13 _ => (intOf v13 + 1).toNat)
      case atStart => exact ⟨l.length, l.length, rfl, rfl, hbl, by omega, ⟨by rw [Nat.sub_self]; rfl⟩, rfl⟩
      case round =>
        obtain ⟨j, wt, rfl, rfl, hbj, hjl, HWt, rfl⟩ := hrel
        by_cases hgo : base < j
        · obtain ⟨m, rfl⟩ : ∃ m, j = m + 1 := ⟨j - 1, by omega⟩
          have hst := want_step l base off m (by omega)
          have hm1 : ((m + 1 : Nat) : Int) - 1 = (m : Int) := by omega
          rw [hm1]
          have hw1 : IntKind.i64.wrap ((m : Int) - 1) = (m : Int) - 1 := w64i _ (by omega) (by omega)
          have hbm : (base : Int) ≤ (m : Int) := by omega
          have hmeas : ((m : Int) - 1 + 1).toNat < ((m : Int) + 1).toNat := by omega
          by_cases ho : off ≤ (m : Int)
          · by_cases hz : m = 0
            · rw [if_pos ⟨ho, .inl hz⟩] at hst
              have HS := Asd.mk hst
              have hz2 : ((m : Int) == 0) = true := beq_iff_eq.2 (by omega)
              have HZ := Asd.mk hz
              clear hst hz
              go_wp2
              go_roundw
              case rel => exact ⟨m, m, rfl, rfl, by omega, by omega, ⟨HS.out.symm⟩, trivial⟩
              case measure => simp only [intOf]; omega
            · have hz2 : ((m : Int) == 0) = false := beq_eq_false_iff_ne.2 (by omega)
              by_cases hb : base < m
              · obtain ⟨y, rfl⟩ : ∃ y, m = y + 1 := ⟨m - 1, by omega⟩
                have hwy : ((y + 1 : Nat) : Int) - 1 = (y : Int) := by omega
                rw [hwy] at hw1
                obtain ⟨ad, rfl, hc0⟩ := HRD.out.at y (by omega)
                have hgd : l.getD (y + 1 - 1) 0 = l[y]'(by omega) := by simp [List.getD_eq_getElem?_getD, List.getElem?_eq_getElem (show y < l.length by omega)]
                obtain ⟨x, hx⟩ : ∃ x, x = l[y]'(by omega) := ⟨_, rfl⟩
                rw [← hx] at hc0 hgd
                have hyl : (y : Int) < (l.length : Int) := by omega
                by_cases hc : x = 10
                · rw [if_pos ⟨ho, .inr ⟨hb, by rw [hgd, hc]⟩⟩] at hst
                  have HS := Asd.mk hst
                  subst hc
                  clear hst hgd hx hz
                  go_wp2
                  go_roundw
                  case rel => exact ⟨y + 1, y + 1, by simp, rfl, by omega, by omega, ⟨HS.out.symm⟩, trivial⟩
                  case measure => simp only [intOf]; omega
                · rw [if_neg (fun h => h.2.elim (fun e => by omega) (fun h => hc (by rw [← hgd, h.2])))] at hst
                  have HS := Asd.mk hst
                  have hcb : ((x.toNat : Int) == 10) = false := beq_eq_false_iff_ne.2 (fun e => hc (UInt8.toNat_inj.1 (by show x.toNat = 10; omega)))
                  clear hst hgd hx hz
                  go_wp2
                  go_roundw
                  case rel => exact ⟨y + 1, wt, by simp, rfl, by omega, by omega, ⟨HWt.out.trans HS.out.symm⟩, trivial⟩
                  case measure => simp only [intOf]; omega
              · rw [if_neg (fun h => h.2.elim (fun e => hz e) (fun h => hb h.1))] at hst
                have HS := Asd.mk hst
                clear hst
                go_wp2
                go_roundw
                case rel => exact ⟨m, wt, rfl, rfl, by omega, by omega, ⟨HWt.out.trans HS.out.symm⟩, trivial⟩
                case measure => simp only [intOf]; omega
          · rw [if_neg (fun h => ho h.1)] at hst
            have HS := Asd.mk hst
            clear hst
            go_wp2
            go_roundw
            case rel => exact ⟨m, wt, rfl, rfl, by omega, by omega, ⟨HWt.out.trans HS.out.symm⟩, trivial⟩
            case measure => simp only [intOf]; omega
        · have hjb : j = base := by omega
          subst hjb
          have hjn : ¬ ((j : Int) ≤ (j : Int) - 1) := by omega
          go_wp2_with fail
          refine (line_calls HQ5.out off).mono ?_
          rw [← HBE.out, ← HRes.out, ← HWt.out]
          rintro e w7 ⟨rfl, hu7⟩
          have HW7 : Asd (Upd (fun _ => False) w w7) := ⟨HW5.out.trans hu7 (fun _ _ h => h)⟩
          clear hu7
          go_wp2
          go_ret
          exact ⟨by simp, HW7.out⟩
end Go.Proofs.Ytpphejjdgplalaa.RgLines
