/- The law's own All and Same, over frames: what each comes to. -/
import Derived.Test.YtahbcjgbhfkhbaaFeed
set_option linter.unusedVariables false
set_option linter.unusedSimpArgs false
namespace Go.Proofs.Ytahbcjgbhfkhbaa.FdAll
open Go.RowKit K Crc Sm Fr FrMath LGet FdMath Fee

def AllPost (b : List UInt8) (w : World) (e : Ending) (w' : World) : Prop :=
  ∃ A c L G, e = .returned (.tuple #[.slice A L.length c, .int .i64 ((all b).2.1.length : Int), .int .i64 (all b).2.2]) ∧ abs L = (all b).1 ∧ L.length ≤ c ∧ c ≤ maxLen ∧ OwnF w' A c L G ∧ Frs w' (fun k => k < w.heap.size) L ∧ (∀ g, G = some g → w.heap.size ≤ g) ∧ Upd (fun _ => False) w w'
theorem Rd.lt {w : World} {A : Option Addr} {n : Nat} {l : List UInt8} (h : Rd w A n l) (hn : 0 < n) : ∀ ad, A = some ad → ad.block < w.heap.size := by
  intro ad e
  obtain ⟨ad', e', hc⟩ := h.at 0 hn
  obtain rfl := Option.some.inj (e.symm.trans e')
  have := World.block_lt_of_cell? w _ hc
  rwa [add_block] at this
set_option maxHeartbeats 2000000 in
set_option maxRecDepth 100000 in
theorem all_calls (A : Option Addr) (n c : Nat) (b : List UInt8) (w : World) (hr : Rd w A n b) (hc : n ≤ c) (hm : c ≤ maxLen) (hN : n ≤ 1073741824) :
    Calls Try.prog 30 #[.slice A n c] w (AllPost b w) := by
  have HR := Asd.mk hr
  obtain rfl := hr.len
  clear hr
  go_enter Try.func30, Try.ntmps30
  go_wp2
  go_loopw [0, 5] (fun v0 v5 wr => ∃ (A0 : Option Addr) (c0 : Nat) (rest : List UInt8) (A5 : Option Addr) (c5 : Nat) (L : List FRec) (G5 : Option Nat), v0 = .slice A0 rest.length c0 ∧ v5 = .slice A5 L.length c5 ∧ rest.length ≤ c0 ∧ c0 ≤ maxLen ∧ L.length ≤ c5 ∧ c5 ≤ maxLen ∧ L.length + rest.length ≤ b.length ∧ Asd (Rd w A0 rest.length rest) ∧ Asd (OwnF wr A5 c5 L G5) ∧ Asd (Frs wr (fun k => k < w.heap.size) L) ∧ Asd ((abs L ++ (all rest).1, (all rest).2) = all b) ∧ Asd (∀ g, G5 = some g → w.heap.size ≤ g) ∧ Asd (Upd (fun _ => False) w wr)) (fun v0 _ _ => match v0 with | .slice _ n _ => n | _ => 0)
  case atStart => exact ⟨A, c, b, some ⟨w.heap.size, 0, none⟩, 0, [], some w.heap.size, rfl, rfl, hc, hm, Nat.le_refl _, by simp [maxLen], by simp, HR, ⟨Own.lit w _ 2 0 #[] (by simp [maxLen]) rfl⟩, ⟨Frs.nil _ _⟩, ⟨rfl⟩, ⟨fun g e => by obtain rfl := Option.some.inj e; exact Nat.le_refl _⟩, ⟨(Upd.refl _ _).alloc _⟩⟩
  case round =>
    obtain ⟨A0, c0, rest, A5, c5, L, G5, rfl, rfl, hc0, hm0, hlc, hm5, hlen, HRr, HOL, HFr, HT, HG, HU⟩ := hrel
    go_wp2_with fail
    refine (lget_calls A0 rest.length c0 rest _ (HRr.out.up HU.out) hc0 hm0).mono ?_
    have hcs := fget_cases rest
    have HAok := Asd.mk (fun h => all_ok rest h)
    have HA5 := Asd.mk (fun h => all_short rest h)
    have HAb := Asd.mk (fun h => all_bad rest h)
    have herr := fget_err rest
    obtain ⟨⟨kind, body, nn, er⟩, hr⟩ : ∃ r, r = fget rest := ⟨_, rfl⟩
    rw [← hr] at hcs herr HAok HA5 HAb
    rw [← hr]
    clear hr
    simp only at hcs herr HAok HA5 HAb
    rintro e w2 ⟨A2, c2, rfl, ho2, hb2, hc2, hm2, hu2⟩
    simp only at ho2 hc2
    have HU2 := Asd.mk hu2
    have HO2 := Asd.mk (ho2.up hu2)
    have HB2 := Asd.mk hb2
    have HOL2 := Asd.mk (Own.upd HOL.out hu2 (fun _ _ h => h))
    have HFr2 := Asd.mk (HFr.out.up hu2)
    have HV2 := Asd.mk (HU.out.trans hu2 (fun _ _ h => h))
    clear hu2 ho2 hb2 HOL HFr
    by_cases h5 : er = 5
    · subst h5
      have HA := Asd.mk (HA5.out rfl)
      clear HAok HA5 HAb hcs herr
      go_wp2
      refine bodyPost_ret (v := .tuple #[.slice A5 L.length c5, .int .i64 (rest.length : Int), .int .i64 0]) (by simp [results, Try.results30, go_sem]) rfl ?_
      have hT := HT.out
      rw [HA.out] at hT
      refine ⟨A5, c5, L, G5, by rw [← hT], by rw [← hT]; exact (List.append_nil _).symm, hlc, hm5, HOL2.out, HFr2.out, HG.out, HV2.out⟩
    · have h5b : (er == 5) = false := beq_eq_false_iff_ne.2 h5
      by_cases h0 : er = 0
      · subst h0
        have hnn : 5 ≤ nn ∧ nn ≤ rest.length := by
          rcases hcs with ⟨_, h1, h2, _⟩ | e | e | e
          · exact ⟨by omega, h2⟩
          all_goals (simp at e)
        obtain ⟨hn1, hn2⟩ := hnn
        have HA := Asd.mk (HAok.out rfl)
        clear HAok HA5 HAb hcs herr h5
        have hlt : ∀ ad, A2 = some ad → ad.block < w.heap.size := fun ad e => by
          obtain ⟨ad', e', hb⟩ := HB2.out ad e
          rw [hb]
          exact Rd.lt HRr.out (by omega) ad' e'
        have HX2 : Asd (Frs w2 (fun k => k < w.heap.size) [⟨kind, A2, c2, body⟩]) := ⟨fun x hx => by
          obtain rfl := List.mem_singleton.1 hx
          exact ⟨HO2.out, hc2, hm2, hlt⟩⟩
        clear hlt
        go_wp2_with (first | (with_reducible refine stop_append _ _ _ _ rfl ?_) | (with_reducible refine stop_copy _ _ _ _ rfl ?_) | (with_reducible refine stop_make _ _ _ rfl ?_) | (with_reducible refine stop_conv 23 9 _ rfl ?_))
        refine wp_appendL L [⟨kind, A2, c2, body⟩] G5 A5 c5 (some ⟨w2.heap.size, 0, none⟩) 1 rfl _ _ rfl rfl rfl (Own.upd HOL2.out ((Upd.refl (fun _ => False) _).alloc _) (fun _ _ h => h)) (Row.litg w2 _ rfl _ _) (by simp only [List.length_cons, List.length_nil]; omega) ?_
        intro A3 c3 w3 G3 hc3 hm3 hO3 hU3 hg3
        have hV := (Upd.refl (fun _ => False) w2).alloc (.cells #[.int .u8 (kind.toNat : Int), .slice A2 body.length c2] 32)
        have hs := HV2.out.size
        have hlt5 : ∀ i, i < w.heap.size → ¬ some i = G5 := fun i hi e => by have := HG.out i e.symm; omega
        have HFr3 : Asd (Frs w3 (fun k => k < w.heap.size) (L ++ [⟨kind, A2, c2, body⟩])) := ⟨(((HFr2.out.append HX2.out).up hV).upd hU3 hlt5)⟩
        have HG3 : Asd (∀ g, G3 = some g → w.heap.size ≤ g) := ⟨fun g e => by
          rcases hg3 with e2 | ⟨g', e2, h5, h6⟩
          · exact HG.out g (e2 ▸ e)
          · rw [e2] at e; obtain rfl := Option.some.inj e; simp at h5; omega⟩
        have HU3 : Asd (Upd (fun _ => False) w w3) := ⟨(HV2.out.trans hV (fun _ _ h => h)).trans hU3 (fun i hi h => (hlt5 i hi h).elim)⟩
        have HOL3 := Asd.mk hO3
        obtain ⟨L3, hL3⟩ : ∃ L3, L3 = L ++ [⟨kind, A2, c2, body⟩] := ⟨_, rfl⟩
        rw [← hL3] at hc3 HOL3 HFr3
        rw [← hL3]
        have hl3 := Asd.mk (show L3.length = L.length + 1 by rw [hL3, List.length_append]; rfl)
        have HT3 : Asd ((abs L3 ++ (all (rest.drop nn)).1, (all (rest.drop nn)).2) = all b) := ⟨by rw [← HT.out, HA.out, hL3, abs_append, List.append_assoc]; rfl⟩
        clear hO3 hU3 hg3 hV hL3 HO2 HB2 HOL2 HFr2 HX2 HU2 HT HA hlt5 hs HG
        obtain ⟨A6, hcut, _, hrd, _⟩ := cut_from' (P := Try.prog) 23 5 .i64 (sz := 1) Try.underlying23 (by kernel_rfl) A0 rest.length c0 nn nn rfl hn2 hc0
        have hr6 := hrd rfl _ _ HRr.out
        have HR6 := Asd.mk hr6
        clear hr6 hrd
        go_wp2
        go_roundw
        case rel => exact ⟨A6, c0 - nn, rest.drop nn, A3, c3, L3, G3, by rw [List.length_drop], rfl, by rw [List.length_drop]; omega, by omega, hc3, hm3, by have := hl3.out; rw [List.length_drop]; omega, ⟨by rw [List.length_drop]; exact HR6.out⟩, HOL3, HFr3, HT3, HG3, HU3⟩
        case measure => show rest.length - nn < rest.length; omega
      · have h0b : (er == 0) = false := beq_eq_false_iff_ne.2 h0
        have HA := Asd.mk (HAb.out h0 h5)
        clear HAok HA5 HAb hcs herr
        go_wp2
        refine bodyPost_ret (v := .tuple #[.slice A5 L.length c5, .int .i64 0, .int .i64 er]) (by simp [results, Try.results30, go_sem]) rfl ?_
        have hT := HT.out
        rw [HA.out] at hT
        refine ⟨A5, c5, L, G5, by rw [← hT]; rfl, by rw [← hT]; exact (List.append_nil _).symm, hlc, hm5, HOL2.out, HFr2.out, HG.out, HV2.out⟩
theorem add_succ (ad : Addr) (k : Nat) : ad.add (k + 1) = ⟨(ad.add k).block, (ad.add k).off + 1, none⟩ := by
  rw [← add_add]
  simp [Addr.add]
/-- Two cells of a row of frames. -/
theorem row_at {w : World} {A : Option Addr} {L : List FRec} (h : Row w A (cellsL L)) (i : Nat) (hi : i < L.length) : ∃ ad, A = some ad ∧ w.cell? (ad.add (i * 2)) = some (.int .u8 (L[i].kind.toNat : Int)) ∧ w.cell? (ad.add (i * 2 + 1)) = some (.slice L[i].A L[i].body.length L[i].c) := by
  obtain ⟨h0, h1⟩ := cellsL_at L i hi
  obtain ⟨ad, e, hc0⟩ := h _ _ h0
  obtain ⟨ad', e', hc1⟩ := h _ _ h1
  obtain rfl := Option.some.inj (e.symm.trans e')
  exact ⟨ad, e, hc0, hc1⟩
set_option maxHeartbeats 2000000 in
set_option maxRecDepth 100000 in
theorem same_calls (A : Option Addr) (c : Nat) (L : List FRec) (A2 : Option Addr) (c2 : Nat) (L2 : List FRec) (w : World) {T T2 : Nat → Prop} (hr : Row w A (cellsL L)) (hf : Frs w T L) (hr2 : Row w A2 (cellsL L2)) (hf2 : Frs w T2 L2) (hN : L.length ≤ 1073741824) :
    Calls Try.prog 31 #[.slice A L.length c, .slice A2 L2.length c2] w fun e w' => e = .returned (.bool (decide (abs L = abs L2))) ∧ Upd (fun _ => False) w w' := by
  have HR := Asd.mk hr
  have HF := Asd.mk hf
  have HR2 := Asd.mk hr2
  have HF2 := Asd.mk hf2
  clear hr hf hr2 hf2
  by_cases hl : L.length = L2.length
  case neg =>
    have hne : decide (abs L = abs L2) = false := decide_eq_false (fun e => hl (by rw [← abs_length L, e, abs_length]))
    have hlb : ((L.length : Int) != (L2.length : Int)) = true := bne_iff_ne.2 (by omega)
    rw [hne]
    clear hl
    go_enter Try.func31, Try.ntmps31
    go_wp2
    go_ret
    exact ⟨rfl, Upd.refl _ _⟩
  have hlb : ((L.length : Int) != (L2.length : Int)) = false := by rw [hl]; simp
  have HL := Asd.mk hl
  clear hl
  go_enter Try.func31, Try.ntmps31
  go_wp2
  go_loopw [13] (fun v13 wr => ∃ i : Nat, v13 = .int .i64 i ∧ i ≤ L.length ∧ Asd (abs (L.take i) = abs (L2.take i)) ∧ Asd (Upd (fun _ => False) w wr)) (fun v13 _ => L.length - (intOf v13).toNat)
  case atStart => exact ⟨0, rfl, by omega, ⟨rfl⟩, ⟨Upd.refl _ _⟩⟩
  case round =>
    obtain ⟨i, rfl, hi, HA, HU⟩ := hrel
    by_cases hlt : i < L.length
    · obtain ⟨ad, rfl, hc0, hc1⟩ := row_at HR.out i hlt
      have hlt2 : i < L2.length := by have := HL.out; omega
      obtain ⟨ad2, rfl, hd0, hd1⟩ := row_at HR2.out i hlt2
      obtain ⟨hx1, hx2, hx3, _⟩ := HF.out L[i] (List.getElem_mem hlt)
      obtain ⟨hy1, hy2, hy3, _⟩ := HF2.out L2[i] (List.getElem_mem hlt2)
      obtain ⟨x, hx⟩ : ∃ x, x = L[i] := ⟨_, rfl⟩
      obtain ⟨y, hy⟩ : ∃ y, y = L2[i] := ⟨_, rfl⟩
      rw [← hx] at hc0 hc1 hx1 hx2 hx3
      rw [← hy] at hd0 hd1 hy1 hy2 hy3
      have hc0 := HU.out.cell hc0 (fun h => h)
      have hc1 := HU.out.cell hc1 (fun h => h)
      rw [add_succ] at hc1
      have hd0 := HU.out.cell hd0 (fun h => h)
      have hd1 := HU.out.cell hd1 (fun h => h)
      rw [add_succ] at hd1
      have hsX := fun m => str_at (P := Try.prog) (c := x.c) Try.underlying23 Try.underlying5 Try.underlying9 (hx1.up HU.out) m
      have hsY := fun m => str_at (P := Try.prog) (c := y.c) Try.underlying23 Try.underlying5 Try.underlying9 (hy1.up HU.out) m
      have HX := Asd.mk hx
      have HY := Asd.mk hy
      clear hx hy hx1 hy1
      obtain ⟨k, xA, xc, xb⟩ := x
      obtain ⟨k2, yA, yc, yb⟩ := y
      simp only at hc0 hc1 hd0 hd1 hsX hsY
      have hta : ∀ (M : List FRec) (h : i < M.length), abs (M.take (i + 1)) = abs (M.take i) ++ [(M[i].kind, M[i].body)] := fun M h => by rw [List.take_succ_eq_append_getElem h, abs_append]; rfl
      have hb1 : (i : Int) < (L.length : Int) := by omega
      have hb2 : (i : Int) < (L2.length : Int) := by omega
      have hw1 : IntKind.i64.wrap ((i : Int) + 1) = ((i + 1 : Nat) : Int) := by rw [w64i _ (by omega) (by omega)]; rfl
      by_cases hk : k = k2 ∧ xb = yb
      · obtain ⟨hk, hb⟩ := hk
        have hkb : ((k.toNat : Int) != (k2.toNat : Int)) = false := by rw [hk]; simp
        have hbb : (xb == yb) = true := beq_iff_eq.2 hb
        have hbb2 : (xb != yb) = false := by rw [hb]; simp
        have HA2 : Asd (abs (L.take (i + 1)) = abs (L2.take (i + 1))) := ⟨by rw [hta L hlt, hta L2 hlt2, HA.out, ← HX.out, ← HY.out]; simp only [hk, hb]⟩
        clear hta HX HY hk hb
        go_wp2
        go_quiet (fail)
        go_wp2
        go_roundw
        case rel => exact ⟨i + 1, rfl, by omega, HA2, by repeat (first | exact HU | exact ⟨HU.out.drewN _⟩ | exact ⟨HU.out.drew⟩)⟩
        case measure => simp only [intOf]; omega
      · have hne : decide (abs L = abs L2) = false := decide_eq_false (fun e => by
          have h1 := congrArg (fun M => M[i]?) e
          simp only [abs, List.getElem?_map, List.getElem?_eq_getElem hlt, List.getElem?_eq_getElem hlt2, ← HX.out, ← HY.out, Option.map_some, Option.some.injEq, Prod.mk.injEq] at h1
          exact hk h1)
        have HNE := Asd.mk hne
        by_cases hk1 : k = k2
        · have hkb : ((k.toNat : Int) != (k2.toNat : Int)) = false := by rw [hk1]; simp
          have hbb : (xb == yb) = false := beq_eq_false_iff_ne.2 (fun e => hk ⟨hk1, e⟩)
          have hbb2 : (xb != yb) = true := bne_iff_ne.2 (fun e => hk ⟨hk1, e⟩)
          clear hta HX HY hk hk1 hne
          go_wp2
          go_quiet (fail)
          go_wp2
          go_ret
          exact ⟨by rw [HNE.out]; rfl, by repeat (first | exact HU.out | refine Upd.drew ?_ | refine Upd.drewN ?_ _)⟩
        · have hkb : ((k.toNat : Int) != (k2.toNat : Int)) = true := bne_iff_ne.2 (fun e => hk1 (UInt8.toNat_inj.1 (by omega)))
          clear hta HX HY hk hk1 hne
          go_wp2
          go_quiet (fail)
          go_wp2
          go_ret
          exact ⟨by rw [HNE.out]; rfl, by repeat (first | exact HU.out | refine Upd.drew ?_ | refine Upd.drewN ?_ _)⟩
    · have he : decide (abs L = abs L2) = true := decide_eq_true (by
        have h1 := HA.out
        rw [List.take_of_length_le (by omega), List.take_of_length_le (by have := HL.out; omega)] at h1
        exact h1)
      have HE := Asd.mk he
      clear he
      go_wp2
      go_ret
      exact ⟨by rw [HE.out]; rfl, HU.out⟩
end Go.Proofs.Ytahbcjgbhfkhbaa.FdAll
