/- What these laws lean on, part YIdle: contracts of the given program's functions and plain lists. No condition. -/
import Derived.Test.YteepkanbiefpjaaGreatDoorZo
import Derived.Test.YteepkanbiefpjaaGreatDoorZa
set_option linter.unusedVariables false
set_option linter.unusedSimpArgs false
namespace Go.Proofs.YteepkanbiefpjaaGreatDoor.Bk
open Go.RowKit K
open MgRow (M mC Ms)
def tk2 : Nat → Br → Br
  | 0, s => s
  | k + 1, s => tk2 k (tick s)
def pingB : List UInt8 := mb ⟨3, 0, 0, []⟩
def cfI (i : Nat) : Cf := { dflt with idle := (i : Int) }
def idS (i : Nat) : Br := (bytes (connect (new (cfI i)) 1).1 1 (helloB [97])).1
def lastIs (l : List M) (m : M) : Bool := match l.getLast? with | some x => decide (x = m) | none => false
def chkI : Nat → Br → Bool
  | 0, s => (msgs (write s 1 5000).2.1).2 && (Fl.keys (write s 1 5000).1.tab).isEmpty && (ids (write s 1 5000).1).isEmpty && lastIs (msgs (write s 1 5000).2.1).1 ⟨13, 6, 0, []⟩
  | m + 1, s => (Fl.keys s.tab).length == 1 && chkI m (tick s)
def iOk (i a : Nat) : Bool := chkI i (bytes (tk2 a (idS i)) 1 pingB).1
def iAll (i : Nat) : Bool := (List.range (i + 1)).all fun a => iOk (i + 1) a
theorem idle_a : ∀ i < 8, iAll i = true := by decide +kernel
theorem idle_b : ∀ i < 8, iAll (8 + i) = true := by decide +kernel
theorem idle_c : ∀ i < 8, iAll (16 + i) = true := by decide +kernel
theorem idle_d : ∀ i < 8, iAll (24 + i) = true := by decide +kernel
theorem idle_all (i a : Nat) (hi : i < 32) (ha : a < i + 1) : iOk (i + 1) a = true := by
  have h : iAll i = true := by
    rcases Nat.lt_or_ge i 8 with h | h
    · exact idle_a i h
    rcases Nat.lt_or_ge i 16 with h | h
    · have := idle_b (i - 8) (by omega); rw [show 8 + (i - 8) = i by omega] at this; exact this
    rcases Nat.lt_or_ge i 24 with h | h
    · have := idle_c (i - 16) (by omega); rw [show 16 + (i - 16) = i by omega] at this; exact this
    · have := idle_d (i - 24) (by omega); rw [show 24 + (i - 24) = i by omega] at this; exact this
  exact List.all_eq_true.1 h a (List.mem_range.2 ha)
end Go.Proofs.YteepkanbiefpjaaGreatDoor.Bk
set_option linter.unusedVariables false
set_option linter.unusedSimpArgs false
namespace Go.Proofs.YteepkanbiefpjaaGreatDoor.Bk
open Go.RowKit K
open MgRow (M mC Ms)
theorem rem_ex (x : Int) (L : Nat) (h1 : 1 ≤ L) (h2 : L ≤ 1000) : ∃ a : Nat, wrap64 ((IntKind.u64.wrap x).tmod (L : Int)) = (a : Int) ∧ a < L := by
  have h0 : 0 ≤ IntKind.u64.wrap x := by simp only [IntKind.wrap, IntKind.signed, IntKind.bits]; simp; omega
  obtain ⟨m, hm⟩ : ∃ m : Nat, IntKind.u64.wrap x = (m : Int) := ⟨(IntKind.u64.wrap x).toNat, by omega⟩
  have h3 : (m : Int).tmod (L : Int) = ((m % L : Nat) : Int) := rfl
  have h4 : m % L < L := Nat.mod_lt _ (by omega)
  rw [hm, h3]
  exact ⟨m % L, by unfold wrap64; omega, h4⟩
theorem msgsN_len : ∀ (n : Nat) (b : List UInt8), (msgsN n b).1.length ≤ b.length
  | 0, b => by simp [msgsN]
  | n + 1, b => by
    unfold msgsN
    split
    · simp
    · split
      · simp
      · rename_i h1 h2
        have h0 : (Fr.fget b).2.2.2 = 0 := by
          rcases Classical.em ((Fr.fget b).2.2.2 = 0) with e | e
          · exact e
          · exact absurd (.inl e) h2
        have := FdMath.drop_lt b h0
        have := msgsN_len n (b.drop (Fr.fget b).2.2.1)
        simp only [List.length_cons]
        omega
theorem msgs_len (b : List UInt8) : (msgs b).1.length ≤ b.length := msgsN_len _ b
theorem chkI_next {m : Nat} {s : Br} (h : chkI (m + 1) s = true) : (Fl.keys s.tab).length = 1 ∧ chkI m (tick s) = true := by
  unfold chkI at h
  simp only [Bool.and_eq_true, beq_iff_eq] at h
  exact h
theorem chkI_end {s : Br} (h : chkI 0 s = true) : (msgs (write s 1 5000).2.1).2 = true ∧ Fl.keys (write s 1 5000).1.tab = [] ∧ ids (write s 1 5000).1 = [] ∧ ∃ l, (msgs (write s 1 5000).2.1).1 = l ++ [⟨13, 6, 0, []⟩] := by
  unfold chkI at h
  simp only [Bool.and_eq_true, List.isEmpty_iff] at h
  obtain ⟨⟨⟨h1, h2⟩, h3⟩, h4⟩ := h
  refine ⟨h1, h2, h3, ?_⟩
  unfold lastIs at h4
  split at h4
  · rename_i x hx
    have hx2 : x = ⟨13, 6, 0, []⟩ := by simpa using h4
    subst hx2
    obtain ⟨l, hl⟩ := List.getLast?_eq_some_iff.1 hx
    exact ⟨l, hl⟩
  · cases h4
theorem OwnM.last {w : World} {A : Option Addr} {c : Nat} {l : List M} {m : M} {G : Option Nat} (h : OwnM w A c (l ++ [m]) G) (hl : l.length < 1000000) : ∃ ad, A = some ad ∧ w.cell? (ad.add (l.length * 4)) = some (.int .i64 m.k) ∧ w.cell? ⟨(ad.add (l.length * 4)).block, (ad.add (l.length * 4)).off + 1, none⟩ = some (.int .i64 m.a) ∧ w.cell? ⟨(ad.add (l.length * 4)).block, (ad.add (l.length * 4)).off + 2, none⟩ = some (.int .i64 m.b) ∧ w.cell? ⟨(ad.add (l.length * 4)).block, (ad.add (l.length * 4)).off + 3, none⟩ = some (.string (S m.t)) := by
  have hms := h.ms (by rw [List.length_append, List.length_singleton]; omega)
  obtain ⟨ad, e, hc⟩ := hms.at_ l.length (by rw [List.length_append, List.length_singleton]; omega)
  have hm : (l ++ [m])[l.length]'(by rw [List.length_append, List.length_singleton]; omega) = m := by simp
  rw [hm] at hc
  have hx : ∀ j, ad.add (l.length * 4 + (j + 1)) = ⟨(ad.add (l.length * 4)).block, (ad.add (l.length * 4)).off + (j + 1), none⟩ := fun j => by
    rw [← add_add]
    simp [Addr.add]
  exact ⟨ad, e, hc 0 _ rfl, by rw [← hx 0]; exact hc 1 _ rfl, by rw [← hx 1]; exact hc 2 _ rfl, by rw [← hx 2]; exact hc 3 _ rfl⟩
set_option maxHeartbeats 8000000 in
set_option maxRecDepth 100000 in
theorem idle_law (w : World) (henv : Or.Env w) (idle : Int) (wl : (Lit.int .i64 idle).wf = true) (at_ : Int) (wu : (Lit.int .i64 at_).wf = true) : Calls Tryz.prog 7 #[.int .i64 idle, .int .i64 at_] w fun e w' => e = .returned (.bool true) ∧ Upd (fun _ => False) w w' := by
  have HENV := Asd.mk henv
  obtain ⟨i0, hi0, hb1⟩ := and_le idle 31 (by omega)
  have hand1 : Go.bits .and .i64 idle 31 = (i0 : Int) := hb1
  obtain ⟨L, hL⟩ : ∃ L, L = i0 + 1 := ⟨_, rfl⟩
  have hLi : (1 : Int) + (i0 : Int) = (L : Int) := by omega
  have hL1 : 1 ≤ L := by omega
  have hL2 : L ≤ 32 := by omega
  obtain ⟨a, hae, haL⟩ := rem_ex at_ L hL1 (by omega)
  have hLu : IntKind.u64.wrap (L : Int) = (L : Int) := by simp only [IntKind.wrap, IntKind.signed, IntKind.bits]; simp; omega
  have hLb : ((L : Int) == 0) = false := beq_eq_false_iff_ne.2 (by omega)
  have hae2 : IntKind.i64.wrap ((IntKind.u64.wrap at_).tmod (L : Int)) = (a : Int) := by rw [IntWalk.i64_left]; exact hae
  have hall : chkI L (bytes (tk2 a (idS L)) 1 pingB).1 = true := by have := idle_all i0 a (by omega) (by omega); unfold iOk at this; rw [hL]; exact this
  have hrt : rightC (cfI L) = true := by unfold rightC cfI dflt; simp only [decide_eq_true_eq]; omega
  obtain ⟨s0, hs0⟩ : ∃ s0, s0 = new (cfI L) := ⟨_, rfl⟩
  obtain ⟨s1, hs1⟩ : ∃ s1, s1 = (connect s0 1).1 := ⟨_, rfl⟩
  obtain ⟨s2, hs2⟩ : ∃ s2, s2 = (bytes s1 1 (helloB [97])).1 := ⟨_, rfl⟩
  have hid : idS L = s2 := by rw [hs2, hs1, hs0]; rfl
  rw [hid] at hall
  have HG0 : Asd (Gd 0 s0) := ⟨by rw [hs0]; exact Gd.new _ hrt⟩
  have HG1 : Asd (Gd 0 s1) := ⟨by rw [hs1]; exact HG0.out.connect _⟩
  have HG2 : Asd (Gd 6000 s2) := ⟨by rw [hs2]; exact (HG1.out.bytes _ _).mono (by have := helloB_len [97]; omega)⟩
  have HS0 := Asd.mk hs0
  have HS1 := Asd.mk hs1
  have HS2 := Asd.mk hs2
  have HALL := Asd.mk hall
  have HRT := Asd.mk hrt
  have HHE := Asd.mk (fun w h => head_calls w h)
  have HTL := Asd.mk (fun w => helloN_calls [97] w)
  have HPG := Asd.mk (fun w => mput_new ⟨3, 0, 0, []⟩ w)
  have HDF := Asd.mk (fun w => default_calls w)
  unfold cfV dflt at HDF
  unfold Vw.msgV at HPG
  clear hb1 hL wl wu henv hall hrt hs0 hs1 hs2 hid hae
  go_enter Tryz.func7, Tryz.ntmps7
  go_wp2_with fail
  refine (HHE.out w HENV.out).mono ?_
  rintro e w1 ⟨rfl, hu1⟩
  have HU1 := Asd.mk hu1
  clear hu1
  go_wp2_with fail
  refine (HDF.out w1).mono ?_
  rintro e w2 ⟨rfl, hu2⟩
  have HU2 := Asd.mk (HU1.out.trans hu2 (fun _ _ h => h))
  clear hu2 HU1
  go_upto_region 7 with fail
  have HU3 := Asd.mk (HU2.out.alloc (.cells #[.int .i64 4096, .int .i64 512, .int .i64 2048, .int .i64 256, .int .i64 3, .int .i64 100, .int .i64 (L : Int), .int .i64 80] 26))
  go_wp2_with fail
  refine (scnew_calls HU3.out (env_upd HENV.out HU3.out (fun _ h => h.elim)) (cfI L) HRT.out).mono ?_
  rw [← HS0.out]
  rintro e w4 ⟨q, F4, rfl, h4, hl4, hu4⟩
  have H4 := Asd.mk h4
  clear h4 hl4 hu4 HU2 HU3
  go_wp2_with fail
  refine (H4.out.connect HG0.out 1 (by omega)).mono ?_
  rw [← HS1.out]
  rintro e w5 ⟨rfl, F5, h5, t5⟩
  have H5 := Asd.mk h5
  clear h5 t5
  go_wp2_with fail
  refine (HTL.out w5).mono ?_
  rintro e w6 ⟨A6, c6, G6, rfl, ho6, hg6, hl6, hm6, hu6⟩
  have H6 := Asd.mk (H5.out.upd hu6)
  have P6 := Asd.mk (H5.out.fresh ho6 hg6)
  clear ho6 hg6 hl6 hm6 hu6
  go_wp2_with fail
  refine (H6.out.bytes HG1.out (by omega) 1 (by omega) A6 c6 (helloB [97]) P6.out.rd P6.out.ad (by have := helloB_len [97]; omega)).mono ?_
  rw [← HS2.out]
  rintro e w7 ⟨rfl, F7, h7, t7⟩
  have H7 := Asd.mk h7
  clear h7 t7
  go_wp2
  go_loopw [7] (fun v7 wr => ∃ (j : Nat) (s : Br) (F : Nat → Prop), v7 = .int .i64 (j : Int) ∧ j ≤ a ∧ Asd (Sc w q s wr F) ∧ Asd (Gd (6000 + 16 * j) s) ∧ Asd (chkI L (bytes (tk2 (a - j) s) 1 pingB).1 = true)) (fun v7 _ => a - (intOf v7).toNat)
  case atStart => exact ⟨0, s2, F7, rfl, Nat.zero_le _, H7, HG2, HALL⟩
  case round =>
    obtain ⟨j, s, F, rfl, hj, HS, HG, HC⟩ := hrel
    by_cases hlt : j < a
    · have HC2 : Asd (chkI L (bytes (tk2 (a - (j + 1)) (tick s)) 1 pingB).1 = true) := ⟨by
        have h := HC.out
        rw [show a - j = (a - (j + 1)) + 1 by omega] at h
        exact h⟩
      have HG2 : Asd (Gd (6000 + 16 * (j + 1)) (tick s)) := ⟨HG.out.tick.mono (by omega)⟩
      go_wp2_with fail
      refine (HS.out.tick HG.out (by omega)).mono ?_
      rintro e w8 ⟨rfl, F8, h8, t8⟩
      have H8 := Asd.mk h8
      clear h8 t8
      go_wp2
      go_roundw
      case rel => exact ⟨j + 1, tick s, F8, by go_num, by omega, H8, HG2, HC2⟩
      case measure => simp only [intOf]; omega
    · have hja : j = a := by omega
      obtain ⟨s9, hs9⟩ : ∃ s9, s9 = (bytes s 1 pingB).1 := ⟨_, rfl⟩
      have HC2 : Asd (chkI L s9 = true) := ⟨by have h := HC.out; rw [hja, Nat.sub_self] at h; rw [hs9]; exact h⟩
      have HG9 : Asd (Gd 13000 s9) := ⟨by rw [hs9]; exact (HG.out.bytes _ _).mono (by have := mb_len ⟨3, 0, 0, []⟩; unfold pingB; omega)⟩
      have HS9 := Asd.mk hs9
      clear hs9 hja
      go_wp2_with fail
      refine (HPG.out wr).mono ?_
      rintro e w8 ⟨A8, c8, G8, rfl, ho8, hg8, hl8, hm8, hu8⟩
      have H8 := Asd.mk (HS.out.upd hu8)
      have P8 := Asd.mk (HS.out.fresh ho8 hg8)
      clear ho8 hg8 hl8 hm8 hu8
      go_wp2_with fail
      refine (H8.out.bytes HG.out (by omega) 1 (by omega) A8 c8 pingB P8.out.rd P8.out.ad (by have := mb_len ⟨3, 0, 0, []⟩; unfold pingB; omega)).mono ?_
      rw [← HS9.out]
      rintro e w9 ⟨rfl, F9, h9, t9⟩
      have H9 := Asd.mk h9
      clear h9 t9
      go_wp2
      go_loopw [8] (fun v8 wr2 => ∃ (k : Nat) (t : Br) (F1 : Nat → Prop), v8 = .int .i64 ((k + 1 : Nat) : Int) ∧ k ≤ L ∧ Asd (Sc w q t wr2 F1) ∧ Asd (Gd (13000 + 16 * k) t) ∧ Asd (chkI (L - k) t = true)) (fun v8 _ => L + 1 - (intOf v8).toNat)
      case atStart => exact ⟨0, s9, F9, rfl, Nat.zero_le _, H9, HG9, HC2⟩
      case round =>
        clear HS HG HC HC2 HG9 H8 H9 P8
        obtain ⟨k, t, F1, rfl, hk, HS, HG, HC⟩ := hrel
        by_cases hkL : k < L
        · obtain ⟨i, hi⟩ : ∃ i : Nat, i = k + 1 := ⟨_, rfl⟩
          have hle : (i : Int) ≤ (L : Int) := by omega
          have hch := HC.out
          rw [show L - k = (L - i) + 1 by omega] at hch
          obtain ⟨hh, hn⟩ := chkI_next hch
          rw [← hi]
          have HI := Asd.mk hi
          have HH := Asd.mk hh
          have HN := Asd.mk hn
          have HG2 : Asd (Gd (13000 + 16 * i) (tick t)) := ⟨HG.out.tick.mono (by omega)⟩
          clear hi hch hh hn hkL
          go_wp2_with fail
          refine (HS.out.users HG.out.ok).mono ?_
          rintro e w10 ⟨A10, c10, G10, rfl, _, _, hu10⟩
          rw [HH.out]
          have H10 := Asd.mk (HS.out.upd hu10)
          clear hu10
          go_wp2_with fail
          refine (H10.out.tick HG.out (by omega)).mono ?_
          rintro e w11 ⟨rfl, F11, h11, t11⟩
          have H11 := Asd.mk h11
          clear h11 t11
          go_wp2
          go_roundw
          case rel => exact ⟨i, tick t, F11, by go_num, by have := HI.out; omega, H11, HG2, HN⟩
          case measure => have := HI.out; simp only [intOf]; omega
        · have hkL2 : k = L := by omega
          subst hkL2
          have hgt2 : ¬ (((k + 1 : Nat) : Int) ≤ (k : Int)) := by omega
          have hch := HC.out
          rw [Nat.sub_self] at hch
          obtain ⟨he1, he2, he3, l, he4⟩ := chkI_end hch
          have HFW := HS.out.few HG.out
          have HWL := Asd.mk (write_len t 1 5000 HG.out (fun c hg => HFW 1 c hg))
          have HGE := Asd.mk (HG.out.write 1 5000)
          obtain ⟨wb, hwb⟩ : ∃ wb, wb = (write t 1 5000).2.1 := ⟨_, rfl⟩
          obtain ⟨t9, ht9⟩ : ∃ t9, t9 = (write t 1 5000).1 := ⟨_, rfl⟩
          rw [← hwb] at he1 he4 HWL
          rw [← ht9] at he2 he3 HGE
          have HE2 := Asd.mk he2
          have HE3 := Asd.mk he3
          have HE4 : Asd (msgs wb = (l ++ [⟨13, 6, 0, []⟩], true)) := ⟨by rw [← he1, ← he4]⟩
          have HWB := Asd.mk hwb
          have HT9 := Asd.mk ht9
          clear hch he1 he2 he3 he4 HFW hwb ht9 hkL
          go_wp2_with fail
          refine (HS.out.write HG.out (by omega) 1 5000 (by omega)).mono ?_
          unfold ScG
          rw [← HWB.out, ← HT9.out]
          rintro e w10 ⟨A10, c10, rfl, F10, h10, t10, p10⟩
          have H10 := Asd.mk h10
          have P10 := Asd.mk p10
          clear h10 t10 p10
          go_wp2_with fail
          refine (messages_calls A10 wb.length c10 wb w10 P10.out.rd P10.out.le.1 (by have := HWL.out; omega)).mono ?_
          rw [HE4.out]
          rintro e w11 ⟨A11, c11, G11, rfl, ho11, hg11, hu11, hl11⟩
          have H11 := Asd.mk (H10.out.upd hu11)
          have hl12 : l.length < 1000000 := by
            have h := msgs_len wb
            rw [HE4.out] at h
            simp only [List.length_append, List.length_singleton] at h
            have := HWL.out
            omega
          obtain ⟨ad, rfl, a0, a1, a2, a3⟩ := ho11.last hl12
          have HO11 := Asd.mk ho11
          obtain ⟨N, hN⟩ : ∃ N, N = l.length := ⟨_, rfl⟩
          have hlen : (l ++ [(⟨13, 6, 0, []⟩ : M)]).length = N + 1 := by rw [List.length_append, List.length_singleton, hN]
          rw [← hN] at a0 a1 a2 a3 hl12
          simp only [hlen]
          simp only at a0 a1 a2 a3
          have d0 : ∀ W, Upd (fun _ => False) w11 W → W.cell? (ad.add (N * 4)) = some (.int .i64 13) := fun W k => k.cell a0 (fun h => h)
          have d1 : ∀ W, Upd (fun _ => False) w11 W → W.cell? ⟨(ad.add (N * 4)).block, (ad.add (N * 4)).off + 1, none⟩ = some (.int .i64 6) := fun W k => k.cell a1 (fun h => h)
          have d2 : ∀ W, Upd (fun _ => False) w11 W → W.cell? ⟨(ad.add (N * 4)).block, (ad.add (N * 4)).off + 2, none⟩ = some (.int .i64 0) := fun W k => k.cell a2 (fun h => h)
          have d3 : ∀ W, Upd (fun _ => False) w11 W → W.cell? ⟨(ad.add (N * 4)).block, (ad.add (N * 4)).off + 3, none⟩ = some (.string (S [])) := fun W k => k.cell a3 (fun h => h)
          have hn1 : ((N + 1 : Nat) : Int) - 1 = (N : Int) := by omega
          have hn2 : decide (0 < ((N + 1 : Nat) : Int)) = true := decide_eq_true (by omega)
          clear a0 a1 a2 a3 ho11 hg11 hu11 hl11 hN hlen
          go_wp2_with fail
          refine (H11.out.users HGE.out.ok).mono ?_
          rw [HE2.out]
          rintro e w12 ⟨A12, c12, G12, rfl, _, _, hu12⟩
          have H12 := Asd.mk (H11.out.upd hu12)
          have U12 := Asd.mk hu12
          clear hu12
          go_wp2_with fail
          refine (H12.out.conns HGE.out.ok).mono ?_
          rw [HE3.out]
          rintro e w13 ⟨A13, c13, G13, rfl, _, _, hu13⟩
          have H13 := Asd.mk (H12.out.upd hu13)
          have u13 := U12.out.trans hu13 (fun _ _ h => h)
          clear hu13
          go_wp2
          go_ret
          exact ⟨rfl, H13.out.up⟩
end Go.Proofs.YteepkanbiefpjaaGreatDoor.Bk
