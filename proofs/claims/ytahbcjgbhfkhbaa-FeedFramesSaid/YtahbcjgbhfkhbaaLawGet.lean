/- The law's own Get: what its call comes to. -/
import Derived.Test.YtahbcjgbhfkhbaaFrMath
set_option linter.unusedVariables false
set_option linter.unusedSimpArgs false
namespace Go.Proofs.Ytahbcjgbhfkhbaa.LGet
open Go.RowKit K Crc Sm Fr FrMath

@[go_sem] theorem S_toList (l : List UInt8) : (S l).toList = l := by
  rw [ByteArray.toList_eq]
  simp [S]
/-- The body that is told lies in the bytes that were given. -/
def LawPost (r : UInt8 × List UInt8 × Nat × Int) (w : World) (A0 : Option Addr) (e : Ending) (w' : World) : Prop :=
  ∃ A c, e = .returned (.tuple #[.int .u8 (r.1.toNat : Int), .slice A r.2.1.length c, .int .i64 (r.2.2.1 : Int), .int .i64 r.2.2.2]) ∧ Rd w A r.2.1.length r.2.1 ∧ (∀ ad, A = some ad → ∃ ad', A0 = some ad' ∧ ad.block = ad'.block) ∧ r.2.1.length ≤ c ∧ c ≤ maxLen ∧ Upd (fun _ => False) w w'
theorem LawPost.none (r : UInt8 × List UInt8 × Nat × Int) (w w' : World) (A0 : Option Addr) (k : Int) (h : r = (0, [], 0, k)) (hu : Upd (fun _ => False) w w') : LawPost r w A0 (.returned (.tuple #[.int .u8 0, .slice none 0 0, .int .i64 0, .int .i64 k])) w' := by
  subst h
  exact ⟨Option.none, 0, rfl, Rd.nil _ _, fun ad e => (by cases e), Nat.le_refl _, (by simp [maxLen]), hu⟩
theorem hi_lo (a b : UInt8) : UInt8.ofNat ((a.toNat * 256 + b.toNat) / 256) = a ∧ UInt8.ofNat (a.toNat * 256 + b.toNat) = b := by
  have h1 := a.toNat_lt
  have h2 := b.toNat_lt
  constructor
  · apply UInt8.toNat_inj.1
    rw [ofNat_mod]
    omega
  · apply UInt8.toNat_inj.1
    rw [ofNat_mod]
    omega
/-- A conversion's fact, in whatever world that was only drawn. -/
theorem str_at {P : Program} {src dst e : TypeId} (hs : P.underlying src = some (.slice e)) (he : P.underlying e = some (.int .u8)) (hd : P.underlying dst = some .string) {A : Option Addr} {n c : Nat} {l : List UInt8} {W : World} (HR : Rd W A n l) (m : Nat) :
    (convert src dst (.slice A n c)).run P (W.drewN m) = .ok (.string (S l)) (W.drewN m) :=
  run_str hs he hd (HR.up ((Upd.refl _ _).drewN m))
theorem fb_whole (kind : UInt8) (body l : List UInt8) (m : Nat) (h0 : num2 l 0 = m) (hm : 0 < m) (hm2 : m ≤ 2049) (hl : m + 4 ≤ l.length) (hk : kind = l.getD 2 0) (hb : body = (l.take (m + 2)).drop 3) :
    fbytes kind body = l.take (m + 4) ↔ (crc 0xffff#16 ((l.take (m + 2)).drop 2)).toNat = num2 l (m + 2) := by
  have hbl : body.length + 1 = m := by rw [hb]; simp; omega
  have hd : (l.take (m + 2)).drop 2 = kind :: body := by
    rw [hk, hb]
    have h3 : 2 < (l.take (m + 2)).length := by simp; omega
    rw [List.drop_eq_getElem_cons h3]
    congr 1
    rw [List.getElem_take, List.getD_eq_getElem?_getD, List.getElem?_eq_getElem (by omega)]
    rfl
  have hx : m + 2 < l.length := by omega
  have hy : m + 3 < l.length := by omega
  have e0 : (l.drop (m + 2)).take 2 = [l.getD (m + 2) 0, l.getD (m + 3) 0] := by
    rw [List.drop_eq_getElem_cons hx, List.drop_eq_getElem_cons (show m + 2 + 1 < l.length by omega)]
    simp only [List.getD_eq_getElem?_getD]
    rw [List.getElem?_eq_getElem hx, List.getElem?_eq_getElem hy]
    rfl
  have e1 : l.take (m + 4) = l.take 2 ++ (kind :: body) ++ [l.getD (m + 2) 0, l.getD (m + 3) 0] := by
    rw [show m + 4 = (m + 2) + 2 by omega, List.take_add, e0, ← hd]
    congr 1
    have := List.take_append_drop 2 (l.take (m + 2))
    rw [List.take_take, show min 2 (m + 2) = 2 by omega] at this
    exact this.symm
  have e2 : l.take 2 = [UInt8.ofNat ((body.length + 1) / 256), UInt8.ofNat (body.length + 1)] := by
    have h2 : l.take 2 = [l.getD 0 0, l.getD 1 0] := by
      clear e0 e1 hd h0 hk hb
      match l, hl with
      | a :: b :: r, _ => rfl
    rw [h2, hbl, ← h0]
    unfold num2
    rw [(hi_lo _ _).1, (hi_lo _ _).2]
  have e3 : fbytes kind body = [UInt8.ofNat ((body.length + 1) / 256), UInt8.ofNat (body.length + 1)] ++ (kind :: body) ++ [UInt8.ofNat ((sumOf kind body).toNat / 256), UInt8.ofNat (sumOf kind body).toNat] := by simp [fbytes]
  rw [e1, e2, e3, hd]
  have hs : crc 0xffff#16 (kind :: body) = sumOf kind body := rfl
  rw [hs]
  have hn := num_sum (sumOf kind body)
  have l2 := (l.getD (m + 3) 0).toNat_lt
  have l3 := (UInt8.ofNat (sumOf kind body).toNat).toNat_lt
  constructor
  · intro h
    have h := List.append_cancel_left h
    simp only [List.cons.injEq, and_true] at h
    unfold num2
    rw [show m + 2 + 1 = m + 3 by omega, ← h.1, ← h.2, hn]
  · intro h
    unfold num2 at h
    rw [show m + 2 + 1 = m + 3 by omega, ← hn] at h
    have h1 : UInt8.ofNat ((sumOf kind body).toNat / 256) = l.getD (m + 2) 0 := UInt8.toNat_inj.1 (by omega)
    have h2 : UInt8.ofNat (sumOf kind body).toNat = l.getD (m + 3) 0 := UInt8.toNat_inj.1 (by omega)
    rw [h1, h2]

theorem sum_w (a b : UInt8) : wrap64 (wrap64 (256 * wrap64 (a.toNat : Int)) + wrap64 (b.toNat : Int)) = ((a.toNat * 256 + b.toNat : Nat) : Int) := by
  have ha := a.toNat_lt
  have hb := b.toNat_lt
  unfold wrap64
  omega
set_option maxHeartbeats 2000000 in
theorem lget_calls (A : Option Addr) (n c : Nat) (b : List UInt8) (w : World) (hr : Rd w A n b) (hc : n ≤ c) (hm : c ≤ maxLen) :
    Calls Try.prog 24 #[.slice A n c] w (LawPost (fget b) w A) := by
  have HR := Asd.mk hr
  have hlim := hr.lim
  obtain rfl := hr.len
  clear hr
  by_cases h1 : b.length < 2
  · have HG : Asd (fget b = (0, [], 0, 5)) := ⟨by unfold fget; rw [if_pos h1]⟩
    go_enter Try.func24, Try.ntmps24
    go_wp2
    exact bodyPost_ret (v := .tuple #[.int .u8 0, .slice none 0 0, .int .i64 0, .int .i64 5]) (by simp [results, Try.results24, go_sem]) rfl (LawPost.none _ _ _ _ _ HG.out (Upd.refl _ _))
  obtain ⟨ad, rfl, hc0⟩ := HR.out.at 0 (by omega)
  obtain ⟨_, e, hc1⟩ := HR.out.at 1 (by omega)
  obtain rfl := Option.some.inj e
  obtain ⟨b0, hb0⟩ : ∃ x : UInt8, x = b[0] := ⟨_, rfl⟩
  obtain ⟨b1, hb1⟩ : ∃ x : UInt8, x = b[1] := ⟨_, rfl⟩
  rw [← hb0] at hc0
  rw [← hb1] at hc1
  obtain ⟨m, hmm⟩ : ∃ m, m = b0.toNat * 256 + b1.toNat := ⟨_, rfl⟩
  have hor := sum_w b0 b1
  rw [← hmm] at hor
  have HN : Asd (num2 b 0 = m) := ⟨by rw [hmm, hb0, hb1]; unfold num2; simp [List.getD_eq_getElem?_getD, List.getElem?_eq_getElem (show 0 < b.length by omega), List.getElem?_eq_getElem (show 1 < b.length by omega)]⟩
  have hm2 : m < 65536 := by have := b0.toNat_lt; have := b1.toNat_lt; omega
  have hc0 : w.cell? ad = some (.int .u8 (b0.toNat : Int)) := by simpa [Addr.add] using hc0
  have hc1 : w.cell? ⟨ad.block, ad.off + 1, none⟩ = some (.int .u8 (b1.toNat : Int)) := by simpa [Addr.add] using hc1
  clear hb0 hb1 hmm e
  have hlt0 : 0 < b.length := by omega
  have hlt1 : 1 < b.length := by omega
  by_cases h2 : m = 0
  · have HG : Asd (fget b = (0, [], 0, 6)) := ⟨by unfold fget; rw [if_neg h1, HN.out, if_pos (.inl h2)]⟩
    have h2b : (m : Int) < 1 := by omega
    go_enter Try.func24, Try.ntmps24
    go_wp2
    go_region
    go_wp2
    exact bodyPost_ret (v := .tuple #[.int .u8 0, .slice none 0 0, .int .i64 0, .int .i64 6]) (by simp [results, Try.results24, go_sem]) rfl (LawPost.none _ _ _ _ _ HG.out (by repeat (first | exact Upd.refl _ _ | refine Upd.drewN ?_ _ | refine Upd.drew ?_ | refine Upd.alloc ?_ _)))
  have hm0 : 0 < m := by omega
  by_cases h3 : 2049 < m
  · have HG : Asd (fget b = (0, [], 0, 6)) := ⟨by unfold fget; rw [if_neg h1, HN.out, if_pos (.inr h3)]⟩
    clear h2
    go_enter Try.func24, Try.ntmps24
    go_wp2
    go_region
    go_wp2
    exact bodyPost_ret (v := .tuple #[.int .u8 0, .slice none 0 0, .int .i64 0, .int .i64 6]) (by simp [results, Try.results24, go_sem]) rfl (LawPost.none _ _ _ _ _ HG.out (by repeat (first | exact Upd.refl _ _ | refine Upd.drewN ?_ _ | refine Upd.drew ?_ | refine Upd.alloc ?_ _)))
  by_cases h4 : b.length < m + 4
  · have HG : Asd (fget b = (0, [], 0, 5)) := ⟨by unfold fget; rw [if_neg h1, HN.out, if_neg (by omega), if_pos h4]⟩
    clear h2
    go_enter Try.func24, Try.ntmps24
    go_wp2
    go_region
    go_wp2
    exact bodyPost_ret (v := .tuple #[.int .u8 0, .slice none 0 0, .int .i64 0, .int .i64 5]) (by simp [results, Try.results24, go_sem]) rfl (LawPost.none _ _ _ _ _ HG.out (by repeat (first | exact Upd.refl _ _ | refine Upd.drewN ?_ _ | refine Upd.drew ?_ | refine Upd.alloc ?_ _)))
  obtain ⟨A3, hcut3, _, hA3, hAb⟩ := cut_both' (P := Try.prog) 23 5 .i64 .i64 (sz := 1) Try.underlying23 (by kernel_rfl) (some ad) b.length c 3 (m + 2) 3 (2 + (m : Int)) rfl (by omega) (by omega) (by omega) hc
  obtain ⟨body, hbody⟩ : ∃ x, x = (b.take (m + 2)).drop 3 := ⟨_, rfl⟩
  have hbl : body.length = m - 1 := by rw [hbody]; simp; omega
  have HR3 : Asd (Rd w A3 body.length body) := ⟨by have := hA3 rfl _ _ HR.out; rwa [← hbody, show m + 2 - 3 = body.length by omega] at this⟩
  rw [show m + 2 - 3 = body.length by omega] at hcut3
  have HBL := Asd.mk hbl
  have HAB := Asd.mk hAb
  have HBD := Asd.mk hbody
  obtain ⟨_, e, hc4⟩ := HR.out.at 2 (by omega)
  obtain rfl := Option.some.inj e
  obtain ⟨b4, hb4⟩ : ∃ x : UInt8, x = b[2] := ⟨_, rfl⟩
  rw [← hb4] at hc4
  have HB4 : Asd (b4 = b.getD 2 0) := ⟨by rw [hb4, List.getD_eq_getElem?_getD, List.getElem?_eq_getElem (show 2 < b.length by omega)]; rfl⟩
  have hlt2 : 2 < b.length := by omega
  have hlt2i : (2 : Int) < (b.length : Int) := by omega
  have hc4 : w.cell? ⟨ad.block, ad.off + 2, none⟩ = some (.int .u8 (b4.toNat : Int)) := by rw [← hc4]; simp [Addr.add]
  have hw2 : wrap64 (2 + (m : Int)) = 2 + (m : Int) := by unfold wrap64; omega
  have hw2' : IntKind.i64.wrap (2 + (m : Int)) = 2 + (m : Int) := IntWalk.i64_in _ (by omega)
  have hw4 : wrap64 ((m : Int) + 4) = (m : Int) + 4 := by unfold wrap64; omega
  have hw4' : IntKind.i64.wrap ((m : Int) + 4) = (m : Int) + 4 := IntWalk.i64_in _ (by omega)
  have hblim : body.length ≤ 2048 := by omega
  clear hb4 e hA3 h2 hbl hAb hbody
  have hiff := fb_whole b4 body b m HN.out hm0 (by omega) (by omega) HB4.out HBD.out
  by_cases heq : fbytes b4 body = b.take (m + 4)
  · have HG : Asd (fget b = (b4, body, m + 4, 0)) := ⟨by
      unfold fget
      rw [if_neg h1, HN.out, if_neg (by omega), if_neg h4, if_neg (by rw [hiff.1 heq]; simp), ← HB4.out, ← HBD.out]⟩
    have HEQ := Asd.mk heq
    clear heq hiff
    go_enter Try.func24, Try.ntmps24
    go_wp2
    go_region
    go_wp2
    go_region_with ((go_at_call 22; refine (bytes_calls b4 A3 (c - 3) body _ (HR3.out.up (by repeat (first | exact Upd.refl _ _ | refine Upd.drewN ?_ _ | refine Upd.drew ?_ | refine Upd.alloc ?_ _))) (by omega)).mono ?_; rintro e w5 ⟨A5, c5, G5, rfl, ho, hg, hc5, hm5, hu⟩; have hu5 : Upd (fun _ => False) w w5 := Upd.trans (by repeat (first | exact Upd.refl _ _ | refine Upd.drewN ?_ _ | refine Upd.drew ?_ | refine Upd.alloc ?_ _)) hu (fun _ _ h => h); have hcc := hu5.cell hc4 (fun h => h); have HO5 := Asd.mk ho.rd; have HU5 := Asd.mk hu5; clear ho hg hu hu5))
    all_goals
      have hsA := fun i => str_at (P := Try.prog) (c := c5) Try.underlying23 Try.underlying5 Try.underlying9 HO5.out i
      have hsB := fun i => str_at (P := Try.prog) (c := c) Try.underlying23 Try.underlying5 Try.underlying9 ((HR.out.up HU5.out).take (m + 4) (by omega)) i
      rw [← HEQ.out] at hsB
      have hb1 : (m : Int) + 4 ≤ (c : Int) := by omega
      have hb0 : 0 ≤ (m : Int) + 4 := by omega
      have hn4 : ((m : Int) + 4).toNat = m + 4 := by omega
      go_wp2
      go_quiet (fail)
      clear hsA hsB
      go_wp2
      go_region
      go_wp2
      refine bodyPost_ret (v := .tuple #[.int .u8 (b4.toNat : Int), .slice A3 body.length (c - 3), .int .i64 ((m : Int) + 4), .int .i64 0]) (by simp [results, Try.results24, go_sem]) rfl ?_
      rw [HG.out]
      refine ⟨A3, c - 3, by simp, HR3.out, HAB.out, by rw [HBL.out]; show m - 1 ≤ _; omega, by simp only [maxLen] at hm ⊢; omega, ?_⟩
      repeat (first | exact HU5.out | refine Upd.drewN ?_ _ | refine Upd.drew ?_)
  · have HG : Asd (fget b = (0, [], 0, 7)) := ⟨by
      unfold fget
      rw [if_neg h1, HN.out, if_neg (by omega), if_neg h4, if_pos (fun h => heq (hiff.2 h))]⟩
    have hne2 : (fbytes b4 body == b.take (m + 4)) = false := by rw [beq_eq_false_iff_ne]; exact heq
    clear heq hiff
    go_enter Try.func24, Try.ntmps24
    go_wp2
    go_region
    go_wp2
    go_region_with ((go_at_call 22; refine (bytes_calls b4 A3 (c - 3) body _ (HR3.out.up (by repeat (first | exact Upd.refl _ _ | refine Upd.drewN ?_ _ | refine Upd.drew ?_ | refine Upd.alloc ?_ _))) (by omega)).mono ?_; rintro e w5 ⟨A5, c5, G5, rfl, ho, hg, hc5, hm5, hu⟩; have hu5 : Upd (fun _ => False) w w5 := Upd.trans (by repeat (first | exact Upd.refl _ _ | refine Upd.drewN ?_ _ | refine Upd.drew ?_ | refine Upd.alloc ?_ _)) hu (fun _ _ h => h); have hcc := hu5.cell hc4 (fun h => h); have HO5 := Asd.mk ho.rd; have HU5 := Asd.mk hu5; clear ho hg hu hu5))
    all_goals
      have hsA := fun i => str_at (P := Try.prog) (c := c5) Try.underlying23 Try.underlying5 Try.underlying9 HO5.out i
      have hsB := fun i => str_at (P := Try.prog) (c := c) Try.underlying23 Try.underlying5 Try.underlying9 ((HR.out.up HU5.out).take (m + 4) (by omega)) i
      skip
      have hb1 : (m : Int) + 4 ≤ (c : Int) := by omega
      have hb0 : 0 ≤ (m : Int) + 4 := by omega
      have hn4 : ((m : Int) + 4).toNat = m + 4 := by omega
      go_wp2
      go_quiet (fail)
      clear hsA hsB
      go_wp2
      exact bodyPost_ret (v := .tuple #[.int .u8 0, .slice none 0 0, .int .i64 0, .int .i64 7]) (by simp [results, Try.results24, go_sem]) rfl (LawPost.none _ _ _ _ _ HG.out (by repeat (first | exact HU5.out | refine Upd.drewN ?_ _ | refine Upd.drew ?_)))
end Go.Proofs.Ytahbcjgbhfkhbaa.LGet
