/- What these laws lean on, part YFresh: contracts of the given program's functions and plain lists. No condition. -/
import Derived.Test.YteepkanbiefpjaaGreatDoorVp
import Derived.Test.YteepkanbiefpjaaGreatDoorVe
import Derived.Test.YteepkanbiefpjaaGreatDoorVa
set_option linter.unusedVariables false
set_option linter.unusedSimpArgs false
namespace Go.Proofs.YteepkanbiefpjaaGreatDoor.Bk
open Go.RowKit K
open MgRow (M mC Ms)
def fS : Br := (connect (new dflt) 5).1
def whyF (m : M) : Int := if m.k ≠ 1 then 4 else if m.a / 4 ≠ 1 then 2 else if named m.t = false then 3 else 0
def fOut (s : Br) : List M × Bool := msgs (write (settle (turned s)) 5 5000).2.1
def fEnd (s : Br) : Br := (write (settle (turned s)) 5 5000).1
theorem fresh_shut : ∀ why ∈ [(2 : Int), 3, 4], fOut (shut fS 5 why) = ([⟨13, why, 0, []⟩], true) ∧ Fl.keys (fEnd (shut fS 5 why)).tab = [] ∧ ids (fEnd (shut fS 5 why)) = [] := by decide +kernel
theorem fS_get : get fS 5 = some fresh := rfl
theorem fS_idle : set fS 5 { fresh with idle := 0 } = fS := by kernel_rfl
theorem tell_fS (m : M) : tell fS m = fS := by kernel_rfl
theorem startN_nil (n : Nat) (b : Int) (line : Bool) : Vw.startN [] n b line = 0 := by
  have := startN_le [] n b line
  simpa using this
theorem hello_fS (a b : Int) (t : List UInt8) (ha : a / 4 = 1) (hn : named t = true) : hello fS 5 ⟨1, a, b, t⟩ = hello2 fS 5 fresh 0 t (decide (a % 2 = 1)) := by
  rw [hello_is ha hn (c := fresh) (by rw [tell_fS]; exact fS_get), tell_fS]
  rw [show ∀ line, Vw.startN fS.log (Rg.roomN fS.cf.log) b line = 0 from fun line => startN_nil _ b line]
theorem fresh_w (t : List UInt8) : fOut (hello2 fS 5 fresh 0 t true) = ([⟨5, 5, 0, wordOf 2⟩, ⟨9, 0, 0, []⟩], true) := by kernel_rfl
theorem fresh_o (t : List UInt8) : fOut (hello2 fS 5 fresh 0 t false) = ([⟨5, 5, 0, wordOf 0⟩, ⟨9, 0, 0, []⟩], true) := by kernel_rfl
theorem fresh_wk (t : List UInt8) : Fl.keys (fEnd (hello2 fS 5 fresh 0 t true)).tab = [5] := by kernel_rfl
theorem fresh_ok' (t : List UInt8) : Fl.keys (fEnd (hello2 fS 5 fresh 0 t false)).tab = [5] := by kernel_rfl
theorem fresh_ok (t : List UInt8) (b : Bool) : ∃ r, fOut (hello2 fS 5 fresh 0 t b) = ([⟨5, 5, 0, r⟩, ⟨9, 0, 0, []⟩], true) ∧ (Fl.keys (fEnd (hello2 fS 5 fresh 0 t b)).tab).length = 1 := by
  cases b with
  | true => exact ⟨_, fresh_w t, by rw [fresh_wk]; rfl⟩
  | false => exact ⟨_, fresh_o t, by rw [fresh_ok']; rfl⟩
theorem fresh_law (m : M) (hr : rightM m = true) : ∃ s, bytes fS 5 (mb m) = (s, 0) ∧ (msgs (write s 5 5000).2.1).2 = true ∧
    (whyF m ≠ 0 → (msgs (write s 5 5000).2.1).1 = [⟨13, whyF m, 0, []⟩] ∧ Fl.keys (write s 5 5000).1.tab = [] ∧ ids (write s 5 5000).1 = []) ∧
    (whyF m = 0 → (∃ r l, (msgs (write s 5 5000).2.1).1 = ⟨5, 5, 0, r⟩ :: l) ∧ (Fl.keys (write s 5 5000).1.tab).length = 1) := by
  refine ⟨_, bytes_mb fS_get (by decide) rfl rfl hr, ?_⟩
  rw [fS_idle]
  have hrec : recv fS 5 m = hello fS 5 m := recv_hello fS_get rfl m
  rw [hrec]
  have hsh : ∀ why : Int, why ∈ [(2 : Int), 3, 4] → hello fS 5 m = shut fS 5 why → whyF m = why → ((msgs (write (settle (turned (hello fS 5 m))) 5 5000).2.1).2 = true ∧
    (whyF m ≠ 0 → (msgs (write (settle (turned (hello fS 5 m))) 5 5000).2.1).1 = [⟨13, whyF m, 0, []⟩] ∧ Fl.keys (write (settle (turned (hello fS 5 m))) 5 5000).1.tab = [] ∧ ids (write (settle (turned (hello fS 5 m))) 5 5000).1 = []) ∧
    (whyF m = 0 → (∃ r l, (msgs (write (settle (turned (hello fS 5 m))) 5 5000).2.1).1 = ⟨5, 5, 0, r⟩ :: l) ∧ (Fl.keys (write (settle (turned (hello fS 5 m))) 5 5000).1.tab).length = 1)) := by
    intro why hw hh hy
    obtain ⟨h1, h2, h3⟩ := fresh_shut why hw
    unfold fOut fEnd at *
    rw [hh, hy, h1]
    refine ⟨rfl, fun _ => ⟨rfl, h2, h3⟩, fun h0 => ?_⟩
    rw [h0] at hw
    exact absurd hw (by decide)
  by_cases h1 : m.k = 1
  · by_cases h2 : m.a / 4 = 1
    · cases hn : named m.t with
      | false => exact hsh 3 (by decide) (by unfold hello; rw [if_neg (fun h => h h1), if_neg (fun h => h h2), if_pos hn]) (by unfold whyF; rw [if_neg (fun h => h h1), if_neg (fun h => h h2), if_pos hn])
      | true =>
        have hy : whyF m = 0 := by unfold whyF; rw [if_neg (fun h => h h1), if_neg (fun h => h h2), if_neg (by rw [hn]; decide)]
        obtain ⟨mk, ma, mb_, mt⟩ := m
        simp only at h1 h2 hn
        subst h1
        obtain ⟨r, hr1, hr2⟩ := fresh_ok mt (decide (ma % 2 = 1))
        unfold fOut fEnd at *
        rw [hello_fS ma mb_ mt h2 hn, hr1]
        exact ⟨rfl, fun h => absurd hy h, fun _ => ⟨⟨r, _, rfl⟩, hr2⟩⟩
    · exact hsh 2 (by decide) (by unfold hello; rw [if_neg (fun h => h h1), if_pos h2]) (by unfold whyF; rw [if_neg (fun h => h h1), if_pos h2])
  · exact hsh 4 (by decide) (by unfold hello; rw [if_pos h1]) (by unfold whyF; rw [if_pos h1])
end Go.Proofs.YteepkanbiefpjaaGreatDoor.Bk
set_option linter.unusedVariables false
set_option linter.unusedSimpArgs false
namespace Go.Proofs.YteepkanbiefpjaaGreatDoor.Bk
open Go.RowKit K
open MgRow (M mC Ms)
def nameB (c : UInt8) : Bool := decide (32 < c.toNat) && decide (c.toNat ≤ 126)
theorem named_bad {t : List UInt8} (h : named t = false) (h0 : t ≠ []) : ∃ d, ∃ hd : d < t.length, nameB t[d] = false ∧ ∀ j, ∀ hj : j < t.length, j < d → nameB t[j] = true := by
  have h1 : t.all nameB = false := by
    unfold named at h
    cases hh : t.isEmpty with
    | true => exact absurd (List.isEmpty_iff.1 hh) h0
    | false => rw [hh] at h; simpa [nameB] using h
  have key : ∀ l : List UInt8, l.all nameB = false → ∃ d, ∃ hd : d < l.length, nameB l[d] = false ∧ ∀ j, ∀ hj : j < l.length, j < d → nameB l[j] = true := by
    intro l
    induction l with
    | nil => intro h; cases h
    | cons x l ih =>
      intro h
      rw [List.all_cons] at h
      cases hx : nameB x with
      | false => exact ⟨0, by simp, hx, fun j _ hj => absurd hj (Nat.not_lt_zero _)⟩
      | true =>
        rw [hx, Bool.true_and] at h
        obtain ⟨d, hd, h1, h2⟩ := ih h
        refine ⟨d + 1, by simpa using hd, h1, fun j hj hjd => ?_⟩
        cases j with
        | zero => exact hx
        | succ j => exact h2 j (by simpa using hj) (by omega)
  exact key t h1
theorem named_all {t : List UInt8} (h : named t = true) : t ≠ [] ∧ ∀ j, ∀ hj : j < t.length, nameB t[j] = true := by
  unfold named at h
  rw [Bool.and_eq_true] at h
  refine ⟨fun e => ?_, fun j hj => ?_⟩
  · rw [e] at h
    exact absurd h.2 (by decide)
  exact List.all_eq_true.1 h.1 _ (List.getElem_mem hj)
theorem nameB_is {c : UInt8} (b : Bool) (h : nameB c = b) : (b = true ∧ ¬ (c.toNat : Int) < 33 ∧ ¬ (126 : Int) < (c.toNat : Int)) ∨ (b = false ∧ ((c.toNat : Int) < 33 ∨ ¬ (c.toNat : Int) < 33 ∧ (126 : Int) < (c.toNat : Int))) := by
  unfold nameB at h
  cases b with
  | true =>
    rw [Bool.and_eq_true, decide_eq_true_eq, decide_eq_true_eq] at h
    exact .inl ⟨rfl, by omega, by omega⟩
  | false =>
    rw [Bool.and_eq_false_iff, decide_eq_false_iff_not, decide_eq_false_iff_not] at h
    exact .inr ⟨rfl, by omega⟩
set_option maxHeartbeats 16000000 in
set_option maxRecDepth 100000 in
theorem fresh_walk (w : World) (henv : Or.Env w) (k a b : Int) (t : List UInt8) : Calls Tryz.prog 4 #[.agg #[.int .i64 k, .int .i64 a, .int .i64 b, .string (S t)]] w fun e w' => e = .returned (.bool true) ∧ Upd (fun _ => False) w w' := by
  have hm := heap_alloc_new w (.cells #[.int .i64 k, .int .i64 a, .int .i64 b, .string (S t)] 36)
  have hk := (Upd.refl (fun _ => False) w).alloc (.cells #[.int .i64 k, .int .i64 a, .int .i64 b, .string (S t)] 36)
  have hz : w.heap.size < (w.alloc (.cells #[.int .i64 k, .int .i64 a, .int .i64 b, .string (S t)] 36)).heap.size := by rw [World.size_alloc]; omega
  have m0 := keepsC (o := 0) (v := .int .i64 k) hm rfl
  have m1 := keepsC (o := 1) (v := .int .i64 a) hm rfl
  have m2 := keepsC (o := 2) (v := .int .i64 b) hm rfl
  have m3 := keepsC (o := 3) (v := .string (S t)) hm rfl
  have HB := Asd.mk hk
  have HENV := Asd.mk (env_upd henv hk (fun _ h => h.elim))
  have HHE := Asd.mk (fun w h => head_calls w h)
  obtain ⟨r, hr⟩ : ∃ r, r = rightM ⟨k, a, b, t⟩ := ⟨_, rfl⟩
  have HRC : Asd (∀ w, Calls Tryz.prog 29 #[.agg #[.int .i64 k, .int .i64 a, .int .i64 b, .string (S t)]] w fun e w' => e = .returned (.bool r) ∧ Upd (fun _ => False) w w') := ⟨fun w => by
    have h := Mg.right_calls k a b (S t) w
    rw [S_size] at h
    rw [hr]
    exact h⟩
  obtain ⟨wb, hwb⟩ : ∃ wb, wb = w.alloc (.cells #[.int .i64 k, .int .i64 a, .int .i64 b, .string (S t)] 36) := ⟨_, rfl⟩
  have HR := Asd.mk hr
  clear hm henv hr
  have stl : ∀ x : List UInt8, (S x).toList = x := fun x => by rw [ByteArray.toList_eq]; simp [S]
  by_cases hgo : r = true ∧ ¬ 300 < t.length
  case neg =>
    have h2 : r = false ∨ (r = true ∧ 300 < t.length) := by
      cases r with
      | false => exact .inl rfl
      | true => exact .inr ⟨rfl, Decidable.not_not.1 (fun h => hgo ⟨rfl, h⟩)⟩
    clear hgo
    rcases h2 with rfl | ⟨rfl, h3⟩
    · go_enter Tryz.func4, Tryz.ntmps4
      go_wp2_with fail
      refine (HHE.out _ HENV.out).mono ?_
      rintro e w1 ⟨rfl, hu1⟩
      have HU1 := Asd.mk hu1
      have hs1 := hu1
      clear hu1
      go_wp2_with fail
      refine (HRC.out _).mono ?_
      rintro e w2 ⟨rfl, hu2⟩
      have hs2 := HU1.out.trans hu2 (fun _ _ h => h)
      have HU2 := Asd.mk (HB.out.trans hs2 (fun _ _ h => h))
      clear hu2 hs1 HU1
      go_wp2
      go_ret
      exact ⟨rfl, HU2.out⟩
    · go_enter Tryz.func4, Tryz.ntmps4
      go_wp2_with fail
      refine (HHE.out _ HENV.out).mono ?_
      rintro e w1 ⟨rfl, hu1⟩
      have HU1 := Asd.mk hu1
      have hs1 := hu1
      clear hu1
      go_wp2_with fail
      refine (HRC.out _).mono ?_
      rintro e w2 ⟨rfl, hu2⟩
      have hs2 := HU1.out.trans hu2 (fun _ _ h => h)
      have HU2 := Asd.mk (HB.out.trans hs2 (fun _ _ h => h))
      clear hu2 hs1 HU1
      go_wp2
      go_ret
      exact ⟨rfl, HU2.out⟩
  obtain ⟨rfl, h300⟩ := hgo
  obtain ⟨s3, hb3, hok3, hbad3, hgood3⟩ := fresh_law ⟨k, a, b, t⟩ HR.out.symm
  obtain ⟨s0, hs0⟩ : ∃ s0, s0 = new dflt := ⟨_, rfl⟩
  obtain ⟨s1, hs1⟩ : ∃ s1, s1 = (connect s0 5).1 := ⟨_, rfl⟩
  have hfs : s1 = fS := by unfold fS; rw [hs1, hs0]
  rw [← hfs] at hb3
  obtain ⟨bm, hbm⟩ : ∃ bm, bm = mb ⟨k, a, b, t⟩ := ⟨_, rfl⟩
  rw [← hbm] at hb3
  have HA1 : Asd (bm.length ≤ 2053) := ⟨by rw [hbm]; exact mb_len _⟩
  have HPT : Asd (∀ w, Calls Tryz.prog 21 #[.slice none 0 0, .agg #[.int .i64 k, .int .i64 a, .int .i64 b, .string (S t)]] w (Fr.PutPost bm w)) := ⟨fun w => by
    have h := mput_new ⟨k, a, b, t⟩ w
    unfold Vw.msgV at h
    rw [hbm]
    exact h⟩
  have HG0 : Asd (Gd 0 s0) := ⟨by rw [hs0]; exact Gd.new _ dflt_ok⟩
  have HG1 : Asd (Gd 0 s1) := ⟨by rw [hs1]; exact HG0.out.connect _⟩
  have HG3 : Asd (Gd 10000 s3) := ⟨by rw [show s3 = (bytes s1 5 bm).1 by rw [hb3]]; exact (HG1.out.bytes _ _).mono (by have := HA1.out; omega)⟩
  have HS0 := Asd.mk hs0
  have HS1 := Asd.mk hs1
  have HS3 := Asd.mk (show s3 = (bytes s1 5 bm).1 by rw [hb3])
  have HE3 := Asd.mk (show (bytes s1 5 bm).2 = 0 by rw [hb3])
  obtain ⟨tx, htx⟩ : ∃ tx, tx = (write s3 5 5000).2.1 := ⟨_, rfl⟩
  obtain ⟨s4, hs4⟩ : ∃ s4, s4 = (write s3 5 5000).1 := ⟨_, rfl⟩
  rw [← htx, ← hs4] at hbad3 hgood3
  rw [← htx] at hok3
  have HS4 := Asd.mk hs4
  have HTX := Asd.mk htx
  have HG4 : Asd (Gd 10000 s4) := ⟨by rw [hs4]; exact HG3.out.write _ _⟩
  have HDF := Asd.mk (fun w => default_calls w)
  unfold cfV dflt at HDF
  have HOK3 := Asd.mk hok3
  have HBAD := Asd.mk hbad3
  have HGOOD := Asd.mk hgood3
  clear hs0 hs1 hfs hbm hb3 htx hs4 hok3 hbad3 hgood3
  have first : ∀ Q : Prop, Q → Q := fun _ h => h
  by_cases hk1 : k = 1
  case neg =>
    have hkb : (k != 1) = true := bne_iff_ne.2 hk1
    have hkb2 : (k == 1) = false := beq_eq_false_iff_ne.2 hk1
    have HY : Asd (whyF ⟨k, a, b, t⟩ = 4) := ⟨by unfold whyF; rw [if_pos hk1]⟩
    clear hwb
    go_enter Tryz.func4, Tryz.ntmps4
    go_wp2_with fail
    refine (HHE.out _ HENV.out).mono ?_
    rintro e w1 ⟨rfl, hu1⟩
    have hs1 := hu1
    clear hu1
    go_wp2_with fail
    refine (HRC.out _).mono ?_
    rintro e w2 ⟨rfl, hu2⟩
    have hs2 := hs1.trans hu2 (fun _ _ h => h)
    clear hu2 hs1
    go_wp2_with fail
    refine (HDF.out _).mono ?_
    rintro e w3 ⟨rfl, hu3⟩
    have hs3 := hs2.trans hu3 (fun _ _ h => h)
    clear hu3 hs2
    go_wp2_with fail
    refine (scnew_calls (w0 := w.alloc (.cells #[.int .i64 k, .int .i64 a, .int .i64 b, .string (S t)] 36)) hs3 (env_upd HENV.out hs3 (fun _ h => h.elim)) dflt dflt_ok).mono ?_
    rw [← HS0.out]
    rintro e v0 ⟨q, F0, rfl, h0, hl0, hu0⟩
    have H0 := Asd.mk h0
    have hs4 := H0.out.up
    clear h0 hl0 hu0 hs3
    go_wp2_with fail
    refine (H0.out.connect HG0.out 5 (by omega)).mono ?_
    rw [← HS1.out]
    rintro e v1 ⟨rfl, F1, h1, t1⟩
    have H1 := Asd.mk h1
    have hs5 := H1.out.up
    clear h1 t1 hs4
    go_wp2_with fail
    refine (HPT.out v1).mono ?_
    rintro e v2 ⟨A2, c2, G2, rfl, ho, hg, hl, hm, hu⟩
    have H2 := Asd.mk (H1.out.upd hu)
    have P2 := Asd.mk (H1.out.fresh ho hg)
    have hs6 := H2.out.up
    clear ho hg hl hm hu hs5
    go_wp2_with fail
    refine (H2.out.bytes HG1.out (by omega) 5 (by omega) A2 c2 bm P2.out.rd P2.out.ad (by have := HA1.out; omega)).mono ?_
    rw [← HS3.out, HE3.out]
    rintro e v3 ⟨rfl, F3, h3, t3⟩
    have H3 := Asd.mk h3
    have hs7 := H3.out.up
    clear h3 t3 P2 hs6
    go_wp2
    go_loopw [4, 5] (fun v4 v5 wr => v4 = .int .i64 4 ∧ v5 = .int .i64 0 ∧ Asd (Sc (w.alloc (.cells #[.int .i64 k, .int .i64 a, .int .i64 b, .string (S t)] 36)) q s3 wr F3)) (fun _ _ _ => 0)
    case atStart => exact ⟨rfl, rfl, H3⟩
    case round =>
      obtain ⟨rfl, rfl, HS⟩ := hrel
      have hs7 := HS.out.up
      by_cases hp : 0 < t.length
      all_goals (
        have HFW := HS.out.few HG3.out
        have HWL : Asd (tx.length ≤ 65536) := ⟨by rw [HTX.out]; exact write_len s3 5 5000 HG3.out (fun c hg => HFW 5 c hg)⟩
        clear HFW
        obtain ⟨hl1, hl2, hl3⟩ := HBAD.out (by rw [HY.out]; decide)
        rw [HY.out] at hl1
        have HMS : Asd (msgs tx = ([⟨13, 4, 0, []⟩], true)) := ⟨by rw [← hl1, ← HOK3.out]⟩
        have HK4 := Asd.mk hl2
        have HI4 := Asd.mk hl3
        clear hl1 hl2 hl3
        go_wp2_with fail
        refine (HS.out.write HG3.out (by omega) 5 5000 (by omega)).mono ?_
        unfold ScG
        rw [← HS4.out, ← HTX.out]
        rintro e v4 ⟨A4, c4, rfl, F4, h4, t4, p4⟩
        have H4 := Asd.mk h4
        have P4 := Asd.mk p4
        have hs8 := H4.out.up
        clear h4 t4 p4
        go_wp2_with fail
        refine (messages_calls A4 tx.length c4 tx v4 P4.out.rd P4.out.le.1 (by have := HWL.out; omega)).mono ?_
        rw [HMS.out]
        rintro e v5 ⟨A5, c5, G5, rfl, ho, hg, hu, hl⟩
        have H5 := Asd.mk (H4.out.upd hu)
        obtain ⟨ad, rfl, hG, x0, x1, x2, x3⟩ := one_msg ho
        have y0 : ∀ W, Upd (fun _ => False) v5 W → W.cell? ad = some (.int .i64 13) := fun W k => k.cell x0 (fun h => h)
        have y1 : ∀ W, Upd (fun _ => False) v5 W → W.cell? ⟨ad.block, ad.off + 1, none⟩ = some (.int .i64 4) := fun W k => k.cell x1 (fun h => h)
        have y2 : ∀ W, Upd (fun _ => False) v5 W → W.cell? ⟨ad.block, ad.off + 2, none⟩ = some (.int .i64 0) := fun W k => k.cell x2 (fun h => h)
        have y3 : ∀ W, Upd (fun _ => False) v5 W → W.cell? ⟨ad.block, ad.off + 3, none⟩ = some (.string (S [])) := fun W k => k.cell x3 (fun h => h)
        have hs9 := Upd.refl (fun _ => False) v5
        simp only [List.length_singleton]
        clear ho hg hu hl hG x0 x1 x2 x3 hs8
        go_wp2_with fail
        refine (H5.out.users HG4.out.ok).mono ?_
        rw [HK4.out]
        rintro e v6 ⟨A6, c6, G6, rfl, _, _, hu6⟩
        have H6 := Asd.mk (H5.out.upd hu6)
        clear hu6
        go_wp2_with fail
        refine (H6.out.conns HG4.out.ok).mono ?_
        rw [HI4.out]
        rintro e v7 ⟨A7, c7, G7, rfl, _, _, hu7⟩
        have H7 := Asd.mk (H6.out.upd hu7)
        clear hu7
        go_wp2
        go_ret
        exact ⟨rfl, HB.out.trans H7.out.up (fun _ _ h => h)⟩)
  subst hk1
  by_cases ha : a / 4 = 1
  case neg =>
    have HY : Asd (whyF ⟨1, a, b, t⟩ = 2) := ⟨by unfold whyF; rw [if_neg (fun h => h rfl), if_pos ha]⟩
    have ha2 : a < 4 ∨ (¬ a < 4 ∧ 7 < a) := by omega
    clear hwb ha
    rcases ha2 with ha3 | ⟨ha3, ha4⟩
    · go_enter Tryz.func4, Tryz.ntmps4
      go_wp2_with fail
      refine (HHE.out _ HENV.out).mono ?_
      rintro e w1 ⟨rfl, hu1⟩
      have hs1 := hu1
      clear hu1
      go_wp2_with fail
      refine (HRC.out _).mono ?_
      rintro e w2 ⟨rfl, hu2⟩
      have hs2 := hs1.trans hu2 (fun _ _ h => h)
      clear hu2 hs1
      go_wp2_with fail
      refine (HDF.out _).mono ?_
      rintro e w3 ⟨rfl, hu3⟩
      have hs3 := hs2.trans hu3 (fun _ _ h => h)
      clear hu3 hs2
      go_wp2_with fail
      refine (scnew_calls (w0 := w.alloc (.cells #[.int .i64 1, .int .i64 a, .int .i64 b, .string (S t)] 36)) hs3 (env_upd HENV.out hs3 (fun _ h => h.elim)) dflt dflt_ok).mono ?_
      rw [← HS0.out]
      rintro e v0 ⟨q, F0, rfl, h0, hl0, hu0⟩
      have H0 := Asd.mk h0
      have hs4 := H0.out.up
      clear h0 hl0 hu0 hs3
      go_wp2_with fail
      refine (H0.out.connect HG0.out 5 (by omega)).mono ?_
      rw [← HS1.out]
      rintro e v1 ⟨rfl, F1, h1, t1⟩
      have H1 := Asd.mk h1
      have hs5 := H1.out.up
      clear h1 t1 hs4
      go_wp2_with fail
      refine (HPT.out v1).mono ?_
      rintro e v2 ⟨A2, c2, G2, rfl, ho, hg, hl, hm, hu⟩
      have H2 := Asd.mk (H1.out.upd hu)
      have P2 := Asd.mk (H1.out.fresh ho hg)
      have hs6 := H2.out.up
      clear ho hg hl hm hu hs5
      go_wp2_with fail
      refine (H2.out.bytes HG1.out (by omega) 5 (by omega) A2 c2 bm P2.out.rd P2.out.ad (by have := HA1.out; omega)).mono ?_
      rw [← HS3.out, HE3.out]
      rintro e v3 ⟨rfl, F3, h3, t3⟩
      have H3 := Asd.mk h3
      have hs7 := H3.out.up
      clear h3 t3 P2 hs6
      go_wp2
      go_loopw [4, 5] (fun v4 v5 wr => v4 = .int .i64 2 ∧ v5 = .int .i64 0 ∧ Asd (Sc (w.alloc (.cells #[.int .i64 1, .int .i64 a, .int .i64 b, .string (S t)] 36)) q s3 wr F3)) (fun _ _ _ => 0)
      case atStart => exact ⟨rfl, rfl, H3⟩
      case round =>
        obtain ⟨rfl, rfl, HS⟩ := hrel
        have hs7 := HS.out.up
        by_cases hp : 0 < t.length
        all_goals (
          have HFW := HS.out.few HG3.out
          have HWL : Asd (tx.length ≤ 65536) := ⟨by rw [HTX.out]; exact write_len s3 5 5000 HG3.out (fun c hg => HFW 5 c hg)⟩
          clear HFW
          obtain ⟨hl1, hl2, hl3⟩ := HBAD.out (by rw [HY.out]; decide)
          rw [HY.out] at hl1
          have HMS : Asd (msgs tx = ([⟨13, 2, 0, []⟩], true)) := ⟨by rw [← hl1, ← HOK3.out]⟩
          have HK4 := Asd.mk hl2
          have HI4 := Asd.mk hl3
          clear hl1 hl2 hl3
          go_wp2_with fail
          refine (HS.out.write HG3.out (by omega) 5 5000 (by omega)).mono ?_
          unfold ScG
          rw [← HS4.out, ← HTX.out]
          rintro e v4 ⟨A4, c4, rfl, F4, h4, t4, p4⟩
          have H4 := Asd.mk h4
          have P4 := Asd.mk p4
          have hs8 := H4.out.up
          clear h4 t4 p4
          go_wp2_with fail
          refine (messages_calls A4 tx.length c4 tx v4 P4.out.rd P4.out.le.1 (by have := HWL.out; omega)).mono ?_
          rw [HMS.out]
          rintro e v5 ⟨A5, c5, G5, rfl, ho, hg, hu, hl⟩
          have H5 := Asd.mk (H4.out.upd hu)
          obtain ⟨ad, rfl, hG, x0, x1, x2, x3⟩ := one_msg ho
          have y0 : ∀ W, Upd (fun _ => False) v5 W → W.cell? ad = some (.int .i64 13) := fun W k => k.cell x0 (fun h => h)
          have y1 : ∀ W, Upd (fun _ => False) v5 W → W.cell? ⟨ad.block, ad.off + 1, none⟩ = some (.int .i64 2) := fun W k => k.cell x1 (fun h => h)
          have y2 : ∀ W, Upd (fun _ => False) v5 W → W.cell? ⟨ad.block, ad.off + 2, none⟩ = some (.int .i64 0) := fun W k => k.cell x2 (fun h => h)
          have y3 : ∀ W, Upd (fun _ => False) v5 W → W.cell? ⟨ad.block, ad.off + 3, none⟩ = some (.string (S [])) := fun W k => k.cell x3 (fun h => h)
          have hs9 := Upd.refl (fun _ => False) v5
          simp only [List.length_singleton]
          clear ho hg hu hl hG x0 x1 x2 x3 hs8
          go_wp2_with fail
          refine (H5.out.users HG4.out.ok).mono ?_
          rw [HK4.out]
          rintro e v6 ⟨A6, c6, G6, rfl, _, _, hu6⟩
          have H6 := Asd.mk (H5.out.upd hu6)
          clear hu6
          go_wp2_with fail
          refine (H6.out.conns HG4.out.ok).mono ?_
          rw [HI4.out]
          rintro e v7 ⟨A7, c7, G7, rfl, _, _, hu7⟩
          have H7 := Asd.mk (H6.out.upd hu7)
          clear hu7
          go_wp2
          go_ret
          exact ⟨rfl, HB.out.trans H7.out.up (fun _ _ h => h)⟩)
    · go_enter Tryz.func4, Tryz.ntmps4
      go_wp2_with fail
      refine (HHE.out _ HENV.out).mono ?_
      rintro e w1 ⟨rfl, hu1⟩
      have hs1 := hu1
      clear hu1
      go_wp2_with fail
      refine (HRC.out _).mono ?_
      rintro e w2 ⟨rfl, hu2⟩
      have hs2 := hs1.trans hu2 (fun _ _ h => h)
      clear hu2 hs1
      go_wp2_with fail
      refine (HDF.out _).mono ?_
      rintro e w3 ⟨rfl, hu3⟩
      have hs3 := hs2.trans hu3 (fun _ _ h => h)
      clear hu3 hs2
      go_wp2_with fail
      refine (scnew_calls (w0 := w.alloc (.cells #[.int .i64 1, .int .i64 a, .int .i64 b, .string (S t)] 36)) hs3 (env_upd HENV.out hs3 (fun _ h => h.elim)) dflt dflt_ok).mono ?_
      rw [← HS0.out]
      rintro e v0 ⟨q, F0, rfl, h0, hl0, hu0⟩
      have H0 := Asd.mk h0
      have hs4 := H0.out.up
      clear h0 hl0 hu0 hs3
      go_wp2_with fail
      refine (H0.out.connect HG0.out 5 (by omega)).mono ?_
      rw [← HS1.out]
      rintro e v1 ⟨rfl, F1, h1, t1⟩
      have H1 := Asd.mk h1
      have hs5 := H1.out.up
      clear h1 t1 hs4
      go_wp2_with fail
      refine (HPT.out v1).mono ?_
      rintro e v2 ⟨A2, c2, G2, rfl, ho, hg, hl, hm, hu⟩
      have H2 := Asd.mk (H1.out.upd hu)
      have P2 := Asd.mk (H1.out.fresh ho hg)
      have hs6 := H2.out.up
      clear ho hg hl hm hu hs5
      go_wp2_with fail
      refine (H2.out.bytes HG1.out (by omega) 5 (by omega) A2 c2 bm P2.out.rd P2.out.ad (by have := HA1.out; omega)).mono ?_
      rw [← HS3.out, HE3.out]
      rintro e v3 ⟨rfl, F3, h3, t3⟩
      have H3 := Asd.mk h3
      have hs7 := H3.out.up
      clear h3 t3 P2 hs6
      go_wp2
      go_loopw [4, 5] (fun v4 v5 wr => v4 = .int .i64 2 ∧ v5 = .int .i64 0 ∧ Asd (Sc (w.alloc (.cells #[.int .i64 1, .int .i64 a, .int .i64 b, .string (S t)] 36)) q s3 wr F3)) (fun _ _ _ => 0)
      case atStart => exact ⟨rfl, rfl, H3⟩
      case round =>
        obtain ⟨rfl, rfl, HS⟩ := hrel
        have hs7 := HS.out.up
        by_cases hp : 0 < t.length
        all_goals (
          have HFW := HS.out.few HG3.out
          have HWL : Asd (tx.length ≤ 65536) := ⟨by rw [HTX.out]; exact write_len s3 5 5000 HG3.out (fun c hg => HFW 5 c hg)⟩
          clear HFW
          obtain ⟨hl1, hl2, hl3⟩ := HBAD.out (by rw [HY.out]; decide)
          rw [HY.out] at hl1
          have HMS : Asd (msgs tx = ([⟨13, 2, 0, []⟩], true)) := ⟨by rw [← hl1, ← HOK3.out]⟩
          have HK4 := Asd.mk hl2
          have HI4 := Asd.mk hl3
          clear hl1 hl2 hl3
          go_wp2_with fail
          refine (HS.out.write HG3.out (by omega) 5 5000 (by omega)).mono ?_
          unfold ScG
          rw [← HS4.out, ← HTX.out]
          rintro e v4 ⟨A4, c4, rfl, F4, h4, t4, p4⟩
          have H4 := Asd.mk h4
          have P4 := Asd.mk p4
          have hs8 := H4.out.up
          clear h4 t4 p4
          go_wp2_with fail
          refine (messages_calls A4 tx.length c4 tx v4 P4.out.rd P4.out.le.1 (by have := HWL.out; omega)).mono ?_
          rw [HMS.out]
          rintro e v5 ⟨A5, c5, G5, rfl, ho, hg, hu, hl⟩
          have H5 := Asd.mk (H4.out.upd hu)
          obtain ⟨ad, rfl, hG, x0, x1, x2, x3⟩ := one_msg ho
          have y0 : ∀ W, Upd (fun _ => False) v5 W → W.cell? ad = some (.int .i64 13) := fun W k => k.cell x0 (fun h => h)
          have y1 : ∀ W, Upd (fun _ => False) v5 W → W.cell? ⟨ad.block, ad.off + 1, none⟩ = some (.int .i64 2) := fun W k => k.cell x1 (fun h => h)
          have y2 : ∀ W, Upd (fun _ => False) v5 W → W.cell? ⟨ad.block, ad.off + 2, none⟩ = some (.int .i64 0) := fun W k => k.cell x2 (fun h => h)
          have y3 : ∀ W, Upd (fun _ => False) v5 W → W.cell? ⟨ad.block, ad.off + 3, none⟩ = some (.string (S [])) := fun W k => k.cell x3 (fun h => h)
          have hs9 := Upd.refl (fun _ => False) v5
          simp only [List.length_singleton]
          clear ho hg hu hl hG x0 x1 x2 x3 hs8
          go_wp2_with fail
          refine (H5.out.users HG4.out.ok).mono ?_
          rw [HK4.out]
          rintro e v6 ⟨A6, c6, G6, rfl, _, _, hu6⟩
          have H6 := Asd.mk (H5.out.upd hu6)
          clear hu6
          go_wp2_with fail
          refine (H6.out.conns HG4.out.ok).mono ?_
          rw [HI4.out]
          rintro e v7 ⟨A7, c7, G7, rfl, _, _, hu7⟩
          have H7 := Asd.mk (H6.out.upd hu7)
          clear hu7
          go_wp2
          go_ret
          exact ⟨rfl, HB.out.trans H7.out.up (fun _ _ h => h)⟩)
  have ha3 : ¬ a < 4 := by omega
  have ha4 : ¬ 7 < a := by omega
  by_cases ht0 : t = []
  case pos =>
    subst ht0
    have hte : (([] : List UInt8) == []) = true := rfl
    have HY : Asd (whyF ⟨1, a, b, []⟩ = 3) := ⟨by unfold whyF; rw [if_neg (fun h => h rfl), if_neg (fun h => h ha), if_pos (by rfl)]⟩
    clear hwb ha
    go_enter Tryz.func4, Tryz.ntmps4
    go_wp2_with fail
    refine (HHE.out _ HENV.out).mono ?_
    rintro e w1 ⟨rfl, hu1⟩
    have hs1 := hu1
    clear hu1
    go_wp2_with fail
    refine (HRC.out _).mono ?_
    rintro e w2 ⟨rfl, hu2⟩
    have hs2 := hs1.trans hu2 (fun _ _ h => h)
    clear hu2 hs1
    go_wp2_with fail
    refine (HDF.out _).mono ?_
    rintro e w3 ⟨rfl, hu3⟩
    have hs3 := hs2.trans hu3 (fun _ _ h => h)
    clear hu3 hs2
    go_wp2_with fail
    refine (scnew_calls (w0 := w.alloc (.cells #[.int .i64 1, .int .i64 a, .int .i64 b, .string (S [])] 36)) hs3 (env_upd HENV.out hs3 (fun _ h => h.elim)) dflt dflt_ok).mono ?_
    rw [← HS0.out]
    rintro e v0 ⟨q, F0, rfl, h0, hl0, hu0⟩
    have H0 := Asd.mk h0
    have hs4 := H0.out.up
    clear h0 hl0 hu0 hs3
    go_wp2_with fail
    refine (H0.out.connect HG0.out 5 (by omega)).mono ?_
    rw [← HS1.out]
    rintro e v1 ⟨rfl, F1, h1, t1⟩
    have H1 := Asd.mk h1
    have hs5 := H1.out.up
    clear h1 t1 hs4
    go_wp2_with fail
    refine (HPT.out v1).mono ?_
    rintro e v2 ⟨A2, c2, G2, rfl, ho, hg, hl, hm, hu⟩
    have H2 := Asd.mk (H1.out.upd hu)
    have P2 := Asd.mk (H1.out.fresh ho hg)
    have hs6 := H2.out.up
    clear ho hg hl hm hu hs5
    go_wp2_with fail
    refine (H2.out.bytes HG1.out (by omega) 5 (by omega) A2 c2 bm P2.out.rd P2.out.ad (by have := HA1.out; omega)).mono ?_
    rw [← HS3.out, HE3.out]
    rintro e v3 ⟨rfl, F3, h3, t3⟩
    have H3 := Asd.mk h3
    have hs7 := H3.out.up
    clear h3 t3 P2 hs6
    go_wp2
    go_loopw [4, 5] (fun v4 v5 wr => v4 = .int .i64 3 ∧ v5 = .int .i64 0 ∧ Asd (Sc (w.alloc (.cells #[.int .i64 1, .int .i64 a, .int .i64 b, .string (S [])] 36)) q s3 wr F3)) (fun _ _ _ => 0)
    case atStart => exact ⟨rfl, rfl, H3⟩
    case round =>
      obtain ⟨rfl, rfl, HS⟩ := hrel
      have hs7 := HS.out.up
      have hp := True.intro
      all_goals (
        have HFW := HS.out.few HG3.out
        have HWL : Asd (tx.length ≤ 65536) := ⟨by rw [HTX.out]; exact write_len s3 5 5000 HG3.out (fun c hg => HFW 5 c hg)⟩
        clear HFW
        obtain ⟨hl1, hl2, hl3⟩ := HBAD.out (by rw [HY.out]; decide)
        rw [HY.out] at hl1
        have HMS : Asd (msgs tx = ([⟨13, 3, 0, []⟩], true)) := ⟨by rw [← hl1, ← HOK3.out]⟩
        have HK4 := Asd.mk hl2
        have HI4 := Asd.mk hl3
        clear hl1 hl2 hl3
        go_wp2_with fail
        refine (HS.out.write HG3.out (by omega) 5 5000 (by omega)).mono ?_
        unfold ScG
        rw [← HS4.out, ← HTX.out]
        rintro e v4 ⟨A4, c4, rfl, F4, h4, t4, p4⟩
        have H4 := Asd.mk h4
        have P4 := Asd.mk p4
        have hs8 := H4.out.up
        clear h4 t4 p4
        go_wp2_with fail
        refine (messages_calls A4 tx.length c4 tx v4 P4.out.rd P4.out.le.1 (by have := HWL.out; omega)).mono ?_
        rw [HMS.out]
        rintro e v5 ⟨A5, c5, G5, rfl, ho, hg, hu, hl⟩
        have H5 := Asd.mk (H4.out.upd hu)
        obtain ⟨ad, rfl, hG, x0, x1, x2, x3⟩ := one_msg ho
        have y0 : ∀ W, Upd (fun _ => False) v5 W → W.cell? ad = some (.int .i64 13) := fun W k => k.cell x0 (fun h => h)
        have y1 : ∀ W, Upd (fun _ => False) v5 W → W.cell? ⟨ad.block, ad.off + 1, none⟩ = some (.int .i64 3) := fun W k => k.cell x1 (fun h => h)
        have y2 : ∀ W, Upd (fun _ => False) v5 W → W.cell? ⟨ad.block, ad.off + 2, none⟩ = some (.int .i64 0) := fun W k => k.cell x2 (fun h => h)
        have y3 : ∀ W, Upd (fun _ => False) v5 W → W.cell? ⟨ad.block, ad.off + 3, none⟩ = some (.string (S [])) := fun W k => k.cell x3 (fun h => h)
        have hs9 := Upd.refl (fun _ => False) v5
        simp only [List.length_singleton]
        clear ho hg hu hl hG x0 x1 x2 x3 hs8
        go_wp2_with fail
        refine (H5.out.users HG4.out.ok).mono ?_
        rw [HK4.out]
        rintro e v6 ⟨A6, c6, G6, rfl, _, _, hu6⟩
        have H6 := Asd.mk (H5.out.upd hu6)
        clear hu6
        go_wp2_with fail
        refine (H6.out.conns HG4.out.ok).mono ?_
        rw [HI4.out]
        rintro e v7 ⟨A7, c7, G7, rfl, _, _, hu7⟩
        have H7 := Asd.mk (H6.out.upd hu7)
        clear hu7
        go_wp2
        go_ret
        exact ⟨rfl, HB.out.trans H7.out.up (fun _ _ h => h)⟩)
  have hte : (t == []) = false := by cases t with | nil => exact absurd rfl ht0 | cons x l => rfl
  have hlen : ((t.length : Int) == 0) = false := beq_eq_false_iff_ne.2 (by have := List.length_pos_iff.2 ht0; omega)
  have stg : ∀ i, ∀ hi : i < t.length, (S t).toList[i]? = some t[i] := fun i hi => by rw [stl]; exact List.getElem?_eq_getElem hi
  cases hn : named t with
  | true =>
    have HN := Asd.mk (named_all hn).2
    have HY : Asd (whyF ⟨1, a, b, t⟩ = 0) := ⟨by unfold whyF; rw [if_neg (fun h => h rfl), if_neg (fun h => h ha), if_neg (by rw [hn]; decide)]⟩
    clear hwb ha hn ht0
    go_enter Tryz.func4, Tryz.ntmps4
    go_wp2_with fail
    refine (HHE.out _ HENV.out).mono ?_
    rintro e w1 ⟨rfl, hu1⟩
    have hs1 := hu1
    clear hu1
    go_wp2_with fail
    refine (HRC.out _).mono ?_
    rintro e w2 ⟨rfl, hu2⟩
    have hs2 := hs1.trans hu2 (fun _ _ h => h)
    clear hu2 hs1
    go_wp2_with fail
    refine (HDF.out _).mono ?_
    rintro e w3 ⟨rfl, hu3⟩
    have hs3 := hs2.trans hu3 (fun _ _ h => h)
    clear hu3 hs2
    go_wp2_with fail
    refine (scnew_calls (w0 := w.alloc (.cells #[.int .i64 1, .int .i64 a, .int .i64 b, .string (S t)] 36)) hs3 (env_upd HENV.out hs3 (fun _ h => h.elim)) dflt dflt_ok).mono ?_
    rw [← HS0.out]
    rintro e v0 ⟨q, F0, rfl, h0, hl0, hu0⟩
    have H0 := Asd.mk h0
    have hs4 := H0.out.up
    clear h0 hl0 hu0 hs3
    go_wp2_with fail
    refine (H0.out.connect HG0.out 5 (by omega)).mono ?_
    rw [← HS1.out]
    rintro e v1 ⟨rfl, F1, h1, t1⟩
    have H1 := Asd.mk h1
    have hs5 := H1.out.up
    clear h1 t1 hs4
    go_wp2_with fail
    refine (HPT.out v1).mono ?_
    rintro e v2 ⟨A2, c2, G2, rfl, ho, hg, hl, hm, hu⟩
    have H2 := Asd.mk (H1.out.upd hu)
    have P2 := Asd.mk (H1.out.fresh ho hg)
    have hs6 := H2.out.up
    clear ho hg hl hm hu hs5
    go_wp2_with fail
    refine (H2.out.bytes HG1.out (by omega) 5 (by omega) A2 c2 bm P2.out.rd P2.out.ad (by have := HA1.out; omega)).mono ?_
    rw [← HS3.out, HE3.out]
    rintro e v3 ⟨rfl, F3, h3, t3⟩
    have H3 := Asd.mk h3
    have hs7 := H3.out.up
    clear h3 t3 P2 hs6
    go_wp2
    go_loopw [4, 5] (fun v4 v5 wr => ∃ i : Nat, v4 = .int .i64 (-1) ∧ v5 = .int .i64 (i : Int) ∧ i ≤ t.length ∧ Asd (Sc (w.alloc (.cells #[.int .i64 1, .int .i64 a, .int .i64 b, .string (S t)] 36)) q s3 wr F3)) (fun _ v5 _ => t.length - (intOf v5).toNat)
    case atStart => exact ⟨0, rfl, rfl, Nat.zero_le _, H3⟩
    case round =>
      obtain ⟨i, rfl, rfl, hi, HS⟩ := hrel
      have hs7 := HS.out.up
      by_cases hlt : i < t.length
      · obtain ⟨x, hx⟩ : ∃ x, x = t[i]'hlt := ⟨_, rfl⟩
        have hb := HN.out i hlt
        rw [← hx] at hb
        obtain ⟨_, g1, g2⟩ | ⟨hc, _⟩ := nameB_is true hb
        case inr => cases hc
        have hx' := hx.symm
        have hxl := x.toNat_lt
        clear hx hb
        go_wp2
        go_roundw
        case rel => exact ⟨i + 1, rfl, by go_num, by omega, HS⟩
        case measure => simp only [intOf]; omega
      · obtain rfl : i = t.length := by omega
        have HFW := HS.out.few HG3.out
        have HWL : Asd (tx.length ≤ 65536) := ⟨by rw [HTX.out]; exact write_len s3 5 5000 HG3.out (fun c hg => HFW 5 c hg)⟩
        clear HFW
        obtain ⟨⟨rw_, ll, hl1⟩, hl2⟩ := HGOOD.out HY.out
        have HMS : Asd (msgs tx = (⟨5, 5, 0, rw_⟩ :: ll, true)) := ⟨by rw [← hl1, ← HOK3.out]⟩
        have HK4 := Asd.mk hl2
        have HLL : Asd (ll.length ≤ 65536) := ⟨by have h1 := msgs_le tx; have h2 := HWL.out; rw [hl1] at h1; simp only [List.length_cons] at h1; omega⟩
        clear hl1 hl2
        go_wp2_with fail
        refine (HS.out.write HG3.out (by omega) 5 5000 (by omega)).mono ?_
        unfold ScG
        rw [← HS4.out, ← HTX.out]
        rintro e v4 ⟨A4, c4, rfl, F4, h4, t4, p4⟩
        have H4 := Asd.mk h4
        have P4 := Asd.mk p4
        have hs8 := H4.out.up
        clear h4 t4 p4
        go_wp2_with fail
        refine (messages_calls A4 tx.length c4 tx v4 P4.out.rd P4.out.le.1 (by have := HWL.out; omega)).mono ?_
        rw [HMS.out]
        rintro e v5 ⟨A5, c5, G5, rfl, ho, hg, hu, hl⟩
        have H5 := Asd.mk (H4.out.upd hu)
        obtain ⟨ad, rfl, _, x0, _, _, _⟩ := ho.cells (by have := HLL.out; simp only [List.length_cons]; omega) (i := 0) rfl
        have y0 : ∀ W, Upd (fun _ => False) v5 W → W.cell? (ad.add (0 * 4)) = some (.int .i64 5) := fun W k => k.cell x0 (fun h => h)
        have y0' : ∀ W, Upd (fun _ => False) v5 W → W.cell? ad = some (.int .i64 5) := fun W k => by have h := y0 W k; simpa [Addr.add] using h
        have hs9 := Upd.refl (fun _ => False) v5
        obtain ⟨nl, hnl⟩ : ∃ nl, nl = (⟨5, 5, 0, rw_⟩ :: ll : List M).length := ⟨_, rfl⟩
        have hnl0 : 0 < nl := by rw [hnl]; simp
        have hnb : ((nl : Int) == 0) = false := beq_eq_false_iff_ne.2 (by omega)
        rw [← hnl]
        clear ho hg hu hl x0 hs8 hnl y0
        go_wp2_with fail
        refine (H5.out.users HG4.out.ok).mono ?_
        obtain ⟨nk, hnk⟩ : ∃ nk, nk = (Fl.keys s4.tab).length := ⟨_, rfl⟩
        unfold NewI
        rw [HK4.out]
        rintro e v6 ⟨A6, c6, G6, rfl, _, _, hu6⟩
        have H6 := Asd.mk (H5.out.upd hu6)
        clear hu6
        go_wp2
        go_ret
        exact ⟨rfl, HB.out.trans H6.out.up (fun _ _ h => h)⟩
  | false =>
    obtain ⟨d, hd, hbd, hok⟩ := named_bad hn ht0
    have HN := Asd.mk (And.intro hbd hok)
    have HY : Asd (whyF ⟨1, a, b, t⟩ = 3) := ⟨by unfold whyF; rw [if_neg (fun h => h rfl), if_neg (fun h => h ha), if_pos hn]⟩
    clear hwb ha hn ht0 hbd hok
    go_enter Tryz.func4, Tryz.ntmps4
    go_wp2_with fail
    refine (HHE.out _ HENV.out).mono ?_
    rintro e w1 ⟨rfl, hu1⟩
    have hs1 := hu1
    clear hu1
    go_wp2_with fail
    refine (HRC.out _).mono ?_
    rintro e w2 ⟨rfl, hu2⟩
    have hs2 := hs1.trans hu2 (fun _ _ h => h)
    clear hu2 hs1
    go_wp2_with fail
    refine (HDF.out _).mono ?_
    rintro e w3 ⟨rfl, hu3⟩
    have hs3 := hs2.trans hu3 (fun _ _ h => h)
    clear hu3 hs2
    go_wp2_with fail
    refine (scnew_calls (w0 := w.alloc (.cells #[.int .i64 1, .int .i64 a, .int .i64 b, .string (S t)] 36)) hs3 (env_upd HENV.out hs3 (fun _ h => h.elim)) dflt dflt_ok).mono ?_
    rw [← HS0.out]
    rintro e v0 ⟨q, F0, rfl, h0, hl0, hu0⟩
    have H0 := Asd.mk h0
    have hs4 := H0.out.up
    clear h0 hl0 hu0 hs3
    go_wp2_with fail
    refine (H0.out.connect HG0.out 5 (by omega)).mono ?_
    rw [← HS1.out]
    rintro e v1 ⟨rfl, F1, h1, t1⟩
    have H1 := Asd.mk h1
    have hs5 := H1.out.up
    clear h1 t1 hs4
    go_wp2_with fail
    refine (HPT.out v1).mono ?_
    rintro e v2 ⟨A2, c2, G2, rfl, ho, hg, hl, hm, hu⟩
    have H2 := Asd.mk (H1.out.upd hu)
    have P2 := Asd.mk (H1.out.fresh ho hg)
    have hs6 := H2.out.up
    clear ho hg hl hm hu hs5
    go_wp2_with fail
    refine (H2.out.bytes HG1.out (by omega) 5 (by omega) A2 c2 bm P2.out.rd P2.out.ad (by have := HA1.out; omega)).mono ?_
    rw [← HS3.out, HE3.out]
    rintro e v3 ⟨rfl, F3, h3, t3⟩
    have H3 := Asd.mk h3
    have hs7 := H3.out.up
    clear h3 t3 P2 hs6
    go_wp2
    go_loopw [4, 5] (fun v4 v5 wr => ∃ (i : Nat) (y : Int), v4 = .int .i64 y ∧ v5 = .int .i64 (i : Int) ∧ Asd ((y = -1 ∧ i ≤ d) ∨ (y = 3 ∧ i = d + 1)) ∧ Asd (Sc (w.alloc (.cells #[.int .i64 1, .int .i64 a, .int .i64 b, .string (S t)] 36)) q s3 wr F3)) (fun _ v5 _ => d + 1 - (intOf v5).toNat)
    case atStart => exact ⟨0, -1, rfl, rfl, ⟨.inl ⟨rfl, Nat.zero_le _⟩⟩, H3⟩
    case round =>
      obtain ⟨i, y, rfl, rfl, HC, HS⟩ := hrel
      have hs7 := HS.out.up
      rcases HC.out with ⟨rfl, hid⟩ | ⟨rfl, rfl⟩
      · have hlt : i < t.length := by omega
        obtain ⟨x, hx⟩ : ∃ x, x = t[i]'hlt := ⟨_, rfl⟩
        by_cases hde : i < d
        · have hb := HN.out.2 i hlt hde
          rw [← hx] at hb
          obtain ⟨_, g1, g2⟩ | ⟨hc, _⟩ := nameB_is true hb
          case inr => cases hc
          have hx' := hx.symm
          have hxl := x.toNat_lt
          clear hx hb HC
          go_wp2
          go_roundw
          case rel => exact ⟨i + 1, -1, rfl, by go_num, ⟨.inl ⟨rfl, by omega⟩⟩, HS⟩
          case measure => simp only [intOf]; omega
        · obtain rfl : i = d := by omega
          have hb := HN.out.1
          rw [← hx] at hb
          obtain ⟨hc, _, _⟩ | ⟨_, gg⟩ := nameB_is false hb
          case inl => cases hc
          have hx' := hx.symm
          have hxl := x.toNat_lt
          clear hx hb HC
          rcases gg with g1 | ⟨g1, g2⟩
          · go_wp2
            go_roundw
            case rel => exact ⟨i + 1, 3, rfl, by go_num, ⟨.inr ⟨rfl, rfl⟩⟩, HS⟩
            case measure => simp only [intOf]; omega
          · go_wp2
            go_roundw
            case rel => exact ⟨i + 1, 3, rfl, by go_num, ⟨.inr ⟨rfl, rfl⟩⟩, HS⟩
            case measure => simp only [intOf]; omega
      · clear HC
        by_cases hp : ((d : Int) + 1) < (t.length : Int)
        all_goals (
          have HFW := HS.out.few HG3.out
          have HWL : Asd (tx.length ≤ 65536) := ⟨by rw [HTX.out]; exact write_len s3 5 5000 HG3.out (fun c hg => HFW 5 c hg)⟩
          clear HFW
          obtain ⟨hl1, hl2, hl3⟩ := HBAD.out (by rw [HY.out]; decide)
          rw [HY.out] at hl1
          have HMS : Asd (msgs tx = ([⟨13, 3, 0, []⟩], true)) := ⟨by rw [← hl1, ← HOK3.out]⟩
          have HK4 := Asd.mk hl2
          have HI4 := Asd.mk hl3
          clear hl1 hl2 hl3
          go_wp2_with fail
          refine (HS.out.write HG3.out (by omega) 5 5000 (by omega)).mono ?_
          unfold ScG
          rw [← HS4.out, ← HTX.out]
          rintro e v4 ⟨A4, c4, rfl, F4, h4, t4, p4⟩
          have H4 := Asd.mk h4
          have P4 := Asd.mk p4
          have hs8 := H4.out.up
          clear h4 t4 p4
          go_wp2_with fail
          refine (messages_calls A4 tx.length c4 tx v4 P4.out.rd P4.out.le.1 (by have := HWL.out; omega)).mono ?_
          rw [HMS.out]
          rintro e v5 ⟨A5, c5, G5, rfl, ho, hg, hu, hl⟩
          have H5 := Asd.mk (H4.out.upd hu)
          obtain ⟨ad, rfl, hG, x0, x1, x2, x3⟩ := one_msg ho
          have y0 : ∀ W, Upd (fun _ => False) v5 W → W.cell? ad = some (.int .i64 13) := fun W k => k.cell x0 (fun h => h)
          have y1 : ∀ W, Upd (fun _ => False) v5 W → W.cell? ⟨ad.block, ad.off + 1, none⟩ = some (.int .i64 3) := fun W k => k.cell x1 (fun h => h)
          have y2 : ∀ W, Upd (fun _ => False) v5 W → W.cell? ⟨ad.block, ad.off + 2, none⟩ = some (.int .i64 0) := fun W k => k.cell x2 (fun h => h)
          have y3 : ∀ W, Upd (fun _ => False) v5 W → W.cell? ⟨ad.block, ad.off + 3, none⟩ = some (.string (S [])) := fun W k => k.cell x3 (fun h => h)
          have hs9 := Upd.refl (fun _ => False) v5
          simp only [List.length_singleton]
          clear ho hg hu hl hG x0 x1 x2 x3 hs8
          go_wp2_with fail
          refine (H5.out.users HG4.out.ok).mono ?_
          rw [HK4.out]
          rintro e v6 ⟨A6, c6, G6, rfl, _, _, hu6⟩
          have H6 := Asd.mk (H5.out.upd hu6)
          clear hu6
          go_wp2_with fail
          refine (H6.out.conns HG4.out.ok).mono ?_
          rw [HI4.out]
          rintro e v7 ⟨A7, c7, G7, rfl, _, _, hu7⟩
          have H7 := Asd.mk (H6.out.upd hu7)
          clear hu7
          go_wp2
          go_ret
          exact ⟨rfl, HB.out.trans H7.out.up (fun _ _ h => h)⟩)
theorem fresh_row (w : World) (henv : Or.Env w) (cs : Array Value) (x : Int × Int × Int × ByteArray) (h : K.R4 (K.RInt .i64) (K.RInt .i64) (K.RInt .i64) K.RStr w cs.toList x) : Calls Tryz.prog 4 #[.agg cs] w fun e w' => e = .returned (.bool true) ∧ Upd (fun _ => False) w w' := by
  obtain ⟨k, a, b, t, rfl, _⟩ := K.msg_cells h
  exact fresh_walk w henv k a b t
end Go.Proofs.YteepkanbiefpjaaGreatDoor.Bk
