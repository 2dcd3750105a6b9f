/- The law RingReads: what its call comes to, for every input of bounded bulk. -/
import Derived.Test.YtpphejjdgplalaaRingThree
set_option linter.unusedVariables false
set_option linter.unusedSimpArgs false
namespace Go.Proofs.Ytpphejjdgplalaa.RgReads
open Go.RowKit K Rg RgLasts RgThree

/-- So far p came; the law has it in a row of its own, and the ring has its last bytes. -/
structure St (w wr : World) (q g n : Nat) (p : List UInt8) (A : Option Addr) (c : Nat) (G : Option Nat) : Prop where
  own : Own wr 5 1 (.slice A p.length c) p.length (B p) G
  ring : Ring wr q g n p
  far : ∀ k, G = some k → w.heap.size ≤ k ∧ ¬ Its q g k
  q : w.heap.size ≤ q
  g : w.heap.size ≤ g
  upd : Upd (fun _ => False) w wr
theorem St.step {w wr w2 w3 : World} {q g n c c3 : Nat} {p l : List UInt8} {A A3 : Option Addr} {G G3 : Option Nat} (h : St w wr q g n p A c G) (hr : Ring w2 q g n (p ++ l)) (hu : Upd (Its q g) wr w2)
    (ho : Own w3 5 1 (.slice A3 (p ++ l).length c3) (p ++ l).length (B (p ++ l)) G3) (hu3 : Upd (fun k => some k = G) w2 w3) (hg : G3 = G ∨ ∃ g, G3 = some g ∧ w2.heap.size ≤ g ∧ g < w3.heap.size) : St w w3 q g n (p ++ l) A3 c3 G3 := by
  have hl := Bare.lt hr
  refine ⟨ho, hr.upd hu3 (fun i hi e => (h.far i e.symm).2 hi), fun k e => ?_, h.q, h.g, (h.upd.trans hu (fun i hi a => by have := h.q; have := h.g; rcases a with rfl | rfl <;> omega)).trans hu3 (fun i hi a => by have := (h.far i a.symm).1; omega)⟩
  rcases hg with e2 | ⟨g', e2, h5, h6⟩
  · exact h.far k (e2 ▸ e)
  · rw [e2] at e
    obtain rfl := Option.some.inj e
    have := hu.size
    have := h.upd.size
    exact ⟨by omega, fun hx => by have := hl _ hx; omega⟩
theorem St.up {w wr w1 : World} {q g n c : Nat} {p : List UInt8} {A : Option Addr} {G : Option Nat} (h : St w wr q g n p A c G) (k : Upd (fun _ => False) wr w1) : St w w1 q g n p A c G :=
  ⟨h.own.upd k (fun _ _ h => h), h.ring.up k, h.far, h.q, h.g, h.upd.trans k (fun _ _ h => h)⟩
set_option maxHeartbeats 4000000 in
set_option maxRecDepth 100000 in
theorem reads_walk (w : World) (size : Int) (ws : (Lit.int .i64 size).wf = true) (A : Option Addr) (n0 c : Nat) (L : List (List UInt8)) (hL : RSlice RBytes 1 w [.slice A n0 c] L) (hN : L.flatten.length ≤ 1048576) (off : Int) (wo : (Lit.int .i64 off).wf = true) (k : Int) (wk : (Lit.int .i64 k).wf = true) :
    Calls Try.prog 3 #[.int .i64 size, .slice A n0 c, .int .i64 off, .int .i64 k] w fun e w' => e = .returned (.bool true) ∧ Upd (fun _ => False) w w' := by
  obtain ⟨A', c', he, hE, hc, hm, _⟩ := hL
  simp only [List.cons.injEq, Value.slice.injEq, and_true] at he
  obtain ⟨rfl, rfl, rfl⟩ := he
  have HE := Asd.mk hE
  have hlim := hE.lim
  have hkl : -9223372036854775808 ≤ k ∧ k ≤ 9223372036854775807 := by
    simp [Lit.wf, IntKind.min, IntKind.max, IntKind.bits, IntKind.signed] at wk; omega
  have HN := Asd.mk hN
  clear hE hm ws wo wk hN
  go_enter Try.func3, Try.ntmps3
  go_wp2_with fail
  refine (head_calls _).mono ?_
  rintro e w1 ⟨rfl, hu⟩
  have HU := Asd.mk hu
  clear hu
  go_wp2_with fail
  refine (few_calls A c L w1 (HE.out.up RBytes.stays HU.out) HN.out).mono ?_
  rintro e w2 ⟨rfl, hu⟩
  have HU2 := Asd.mk (HU.out.trans hu (fun _ _ h => h))
  clear hu HU
  by_cases hfew : L.length ≤ 60 ∧ L.flatten.length ≤ 2000
  case neg =>
    rw [decide_eq_false hfew]
    clear hfew
    go_wp2
    go_ret
    exact ⟨rfl, HU2.out⟩
  rw [decide_eq_true hfew]
  obtain ⟨h60, h2000⟩ := hfew
  have H2000 := Asd.mk h2000
  clear h2000 HN
  go_wp2_with fail
  refine (new_calls size _).mono ?_
  obtain ⟨hn1, hn2, hn3⟩ := roomN_le size
  have hrm := Asd.mk (show ∃ n, n = roomN size from ⟨_, rfl⟩)
  obtain ⟨n, hn⟩ : ∃ n, n = roomN size := ⟨_, rfl⟩
  rw [← hn] at hn1 hn2
  rw [← hn]
  have HNN := Asd.mk hn
  clear hn hn3 hrm
  rintro e w3 ⟨q, g, rfl, hq, hu, h1, h2⟩
  have HS : Asd (St w (w3.alloc (.cells #[] 5)) q g n [] (some ⟨w3.heap.size, 0, none⟩) 0 (some w3.heap.size)) := ⟨by
    have hs := HU2.out.size
    have hV := (Upd.refl (fun _ => False) w3).alloc (.cells #[] 5)
    have hl := Bare.lt hq
    have hs3 := hu.size
    refine ⟨Own.lit w3 _ 1 0 #[] (by simp [maxLen]) rfl, hq.up hV, fun k e => ?_, by omega, by omega, (HU2.out.trans hu (fun _ _ h => h)).trans hV (fun _ _ h => h)⟩
    obtain rfl := Option.some.inj e
    exact ⟨by omega, fun hx => by have := hl _ hx; omega⟩⟩
  clear hq hu h1 h2 HU2
  go_wp2
  go_loopw [10, 27] (fun v10 v27 wr => ∃ (i pl : Nat) (Ab : Option Addr) (cb : Nat) (Gb : Option Nat), i ≤ L.length ∧ v27 = .int .i64 i ∧ v10 = .slice Ab pl cb ∧ pl ≤ 2000 ∧ Asd (pl = (L.take i).flatten.length) ∧ Asd (St w wr q g n (L.take i).flatten Ab cb Gb)) (fun _ v27 _ => L.length - (intOf v27).toNat)
  case atStart => exact ⟨0, 0, _, 0, _, by omega, rfl, rfl, by omega, ⟨rfl⟩, HS⟩
  case round =>
    obtain ⟨i, pl, Ab, cb, Gb, hi, rfl, rfl, hpl, HPL, HT⟩ := hrel
    clear HS
    by_cases hlt : i < L.length
    · obtain ⟨ad, cs, e, hlen, hr, hcell⟩ := HE.out.at_ i hlt
      subst e
      obtain ⟨l, hx⟩ : ∃ x, x = L[i] := ⟨_, rfl⟩
      rw [← hx] at hr
      obtain ⟨a1, k1, rfl, hrd, hk1, hk2, hk3⟩ := hr
      have hc0 := HT.out.upd.cell (hcell 0 _ rfl) (fun h => h)
      simp only [Nat.mul_one, Nat.add_zero] at hc0
      have HX := Asd.mk (by rw [hx]; exact flat_next L i hlt : (L.take (i + 1)).flatten = (L.take i).flatten ++ l)
      obtain ⟨p, hp⟩ : ∃ p, p = (L.take i).flatten := ⟨_, rfl⟩
      rw [← hp] at HT HX HPL
      have hpp := HPL.out
      subst hpp
      have HRD := Asd.mk hrd
      have hbig : p.length + l.length ≤ 2000 := by
        have h1 := flat_le L (i + 1)
        rw [HX.out, List.length_append] at h1
        have := H2000.out
        omega
      have hwi : IntKind.i64.wrap ((i : Int) + 1) = ((i + 1 : Nat) : Int) := by rw [w64i _ (by omega) (by omega)]; rfl
      clear hcell hlen hrd hx hk3 hp
      go_wp2_with fail
      refine (append_still HT.out.ring a1 l.length k1 l (fun W k => HRD.out.up (HT.out.upd.trans k (fun i hi a => by have := HT.out.q; have := HT.out.g; rcases a with rfl | rfl <;> omega))) (by omega)).mono ?_
      rintro e w4 ⟨rfl, hr4, hu4⟩
      have HR4 := Asd.mk hr4
      have HU4 := Asd.mk hu4
      have HO4 := Asd.mk (HT.out.own.upd hu4 (fun g' e => (HT.out.far g' e).2))
      have HW4 : Asd (Upd (fun _ => False) w w4) := ⟨HT.out.upd.trans hu4 (fun i hi a => by have := HT.out.q; have := HT.out.g; rcases a with rfl | rfl <;> omega)⟩
      clear hr4 hu4
      go_wp2_with (first | (with_reducible refine stop_append _ _ _ _ rfl ?_) | (with_reducible refine stop_copy _ _ _ _ rfl ?_) | (with_reducible refine stop_make _ _ _ rfl ?_) | (with_reducible refine stop_conv 27 9 _ rfl ?_))
      refine wp_appendB (p.length + l.length) 5 p l Gb Ab p.length cb a1 l.length k1 rfl _ _ 27 rfl Try.underlying27 info8 rfl rfl HO4.out (HRD.out.up HW4.out) rfl (by omega) ?_
      intro A5 c5 w5 G5 hc5 hm5 hO5 hU5 hg5
      have hl2 : (p ++ l).length = p.length + l.length := List.length_append
      have HT5 := Asd.mk (HT.out.step HR4.out HU4.out (by rw [hl2]; exact hO5) hU5 hg5)
      rw [← HX.out] at HT5
      obtain ⟨p2, hp2⟩ : ∃ p2, p2 = (L.take (i + 1)).flatten := ⟨_, rfl⟩
      rw [← hp2] at HT5
      have HP2 := Asd.mk hp2
      obtain ⟨pl2, hpl2⟩ : ∃ pl2, pl2 = p.length + l.length := ⟨_, rfl⟩
      have HPL2 : Asd (pl2 = p2.length) := ⟨by rw [hp2, HX.out, List.length_append, hpl2]⟩
      rw [← hpl2] at hc5 hbig
      rw [← hpl2]
      clear hl2 hp2 hpl2 hO5 hU5 hg5 HR4 HU4 HO4 HW4 HX HRD hc0
      go_wp2_with fail
      refine (room_calls size w5).mono ?_
      rw [← HNN.out]
      rintro e w6 ⟨rfl, rfl⟩
      obtain ⟨base, hbase⟩ : ∃ base, base = pl2 - n := ⟨_, rfl⟩
      have hmx : mx 0 ((pl2 : Int) - (n : Int)) = (base : Int) := by unfold mx; split <;> omega
      have hws : IntKind.i64.wrap ((pl2 : Int) - (n : Int)) = (pl2 : Int) - (n : Int) := w64i _ (by omega) (by omega)
      have HBE := Asd.mk hbase
      have HRG := Asd.mk HT5.out.ring
      have HBR := Asd.mk (show Bare w5 q g n p2 base by rw [hbase, HPL2.out]; exact HT5.out.ring)
      clear hbase
      go_wp2_with fail
      refine (base_calls HBR.out).mono ?_
      rintro e w6 ⟨rfl, rfl⟩
      go_wp2_with fail
      refine (end_calls HBR.out).mono ?_
      rw [← HPL2.out]
      rintro e w6 ⟨rfl, rfl⟩
      go_wp2_with fail
      refine (read_calls HRG.out off k hkl).mono ?_
      rintro e w7 ⟨hu7, hno, hyes⟩
      rw [← HPL2.out, ← HBE.out] at hno hyes
      have HT7 := Asd.mk (HT5.out.up hu7)
      clear hu7 HT5 HT HRG HBR
      by_cases hout : off < (base : Int) ∨ (pl2 : Int) < off
      · obtain rfl := hno hout
        clear hno hyes
        by_cases ho1 : off < (base : Int)
        · clear hout
          go_wp2
          go_roundw
          case rel => exact ⟨i + 1, pl2, A5, c5, G5, by omega, rfl, rfl, hbig, ⟨by rw [← HP2.out, HPL2.out]⟩, by rw [← HP2.out]; exact HT7⟩
          case measure => simp only [intOf]; omega
        · have ho2 : (pl2 : Int) < off := by omega
          clear hout
          go_wp2
          go_roundw
          case rel => exact ⟨i + 1, pl2, A5, c5, G5, by omega, rfl, rfl, hbig, ⟨by rw [← HP2.out, HPL2.out]⟩, by rw [← HP2.out]; exact HT7⟩
          case measure => simp only [intOf]; omega
      · obtain ⟨o, rfl⟩ : ∃ o : Nat, off = (o : Int) := ⟨off.toNat, by omega⟩
        obtain ⟨A8, c8, G8, rfl, ho8, _⟩ := hyes (by omega) (by omega)
        rw [Int.toNat_natCast] at ho8
        rw [Int.toNat_natCast]
        obtain ⟨x, hx⟩ : ∃ x, x = (p2.drop o).take k.toNat := ⟨_, rfl⟩
        rw [← hx] at ho8
        rw [← hx]
        have HX8 := Asd.mk hx
        have hsX := run_str (P := Try.prog) (c := c8) Try.underlying27 Try.underlying5 Try.underlying9 ho8.rd
        have ho1 : ¬ o < base := by omega
        have ho2 : ¬ pl2 < o := by omega
        obtain ⟨A9, hcut, _, hA9, _⟩ := cut_from' (P := Try.prog) 27 5 .i64 (sz := 1) Try.underlying27 (by kernel_rfl) A5 pl2 c5 o o rfl (by omega) hc5
        have hr9 := hA9 rfl w7 p2 (by have := HT7.out.own.rd; rw [← HPL2.out] at this; exact this)
        have HR9 := Asd.mk hr9
        clear hno hyes hout hx ho8 hA9 hr9
        by_cases hk0 : k < 0
        · have hsY := run_str (P := Try.prog) (c := 0) (W := w7) Try.underlying27 Try.underlying5 Try.underlying9 (Rd.nil w7 none)
          have hxe : x = [] := by rw [HX8.out, show k.toNat = 0 by omega, List.take_zero]
          subst hxe
          simp only [List.length_nil] at hsX
          go_wp2
          go_roundw
          case rel => exact ⟨i + 1, pl2, A5, c5, G5, by omega, rfl, rfl, hbig, ⟨by rw [← HP2.out, HPL2.out]⟩, by rw [← HP2.out]; exact HT7⟩
          case measure => simp only [intOf]; omega
        · obtain ⟨kk, rfl⟩ : ∃ kk : Nat, k = (kk : Int) := ⟨k.toNat, by omega⟩
          rw [Int.toNat_natCast] at HX8
          by_cases hk1 : kk < pl2 - o
          · have hsY := run_str (P := Try.prog) (c := c5 - o) Try.underlying27 Try.underlying5 Try.underlying9 (HR9.out.take kk (by omega))
            rw [← HX8.out] at hsY
            have hkc : kk ≤ c5 - o := by omega
            have hkci : (kk : Int) ≤ ((c5 - o : Nat) : Int) := by omega
            have hk1i : (kk : Int) < ((pl2 - o : Nat) : Int) := by omega
            go_wp2
            go_roundw
            case rel => exact ⟨i + 1, pl2, A5, c5, G5, by omega, rfl, rfl, hbig, ⟨by rw [← HP2.out, HPL2.out]⟩, by rw [← HP2.out]; exact HT7⟩
            case measure => simp only [intOf]; omega
          · have hxe : x = p2.drop o := by rw [HX8.out, List.take_of_length_le (by rw [List.length_drop, ← HPL2.out]; omega)]
            have hsY := run_str (P := Try.prog) (c := c5 - o) Try.underlying27 Try.underlying5 Try.underlying9 HR9.out
            rw [← hxe] at hsY
            have hk1i : ¬ ((kk : Int) < ((pl2 - o : Nat) : Int)) := by omega
            clear hxe
            go_wp2
            go_roundw
            case rel => exact ⟨i + 1, pl2, A5, c5, G5, by omega, rfl, rfl, hbig, ⟨by rw [← HP2.out, HPL2.out]⟩, by rw [← HP2.out]; exact HT7⟩
            case measure => simp only [intOf]; omega
    · go_wp2
      go_ret
      exact ⟨rfl, HT.out.upd⟩
end Go.Proofs.Ytpphejjdgplalaa.RgReads
