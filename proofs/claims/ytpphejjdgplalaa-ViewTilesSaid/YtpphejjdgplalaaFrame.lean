/- Frames (package frame): what each of its functions comes to, and the law's own Bytes and Get. -/
import Derived.Test.YtpphejjdgplalaaSum
set_option linter.unusedVariables false
set_option linter.unusedSimpArgs false
namespace Go.Proofs.Ytpphejjdgplalaa.Fr
open Go.RowKit K Crc Sm

theorem info8 : (Try.prog.info? 5).map (fun i => (i.zero, i.size, i.bytes)) = some (some (.int .u8 0), 1, 1) := by kernel_rfl
def sumOf (kind : UInt8) (body : List UInt8) : BitVec 16 := crc 0xffff#16 (kind :: body)
/-- A frame's bytes. -/
def fbytes (kind : UInt8) (body : List UInt8) : List UInt8 :=
  [UInt8.ofNat ((body.length + 1) / 256), UInt8.ofNat (body.length + 1), kind] ++ body ++ [UInt8.ofNat ((sumOf kind body).toNat / 256), UInt8.ofNat (sumOf kind body).toNat]

set_option maxHeartbeats 400000 in
theorem right_calls (kind : Int) (A : Option Addr) (n c : Nat) (w : World) :
    Calls Try.prog 50 #[.agg #[.int .u8 kind, .slice A n c]] w fun e w' => e = .returned (.bool (decide (n ≤ 2048))) ∧ Upd (fun _ => False) w w' := by
  go_enter Try.func50, Try.ntmps50
  go_wp2
  go_ret
  have e : decide ((n : Int) ≤ 2048) = decide (n ≤ 2048) := by rw [decide_eq_decide]; omega
  exact ⟨by rw [← e]; rfl, (Upd.refl _ _).alloc _⟩
def PutPost (l : List UInt8) (w : World) (e : Ending) (w' : World) : Prop :=
  ∃ A c G, e = .returned (.slice A l.length c) ∧ Own w' 5 1 (.slice A l.length c) l.length (B l) G ∧ (∀ g, G = some g → w.heap.size ≤ g) ∧ l.length ≤ c ∧ c ≤ maxLen ∧ Upd (fun _ => False) w w'
theorem two_bytes (x : BitVec 16) : #[Value.int .u8 (n16 x / 256 % 256), .int .u8 (n16 x % 256)] = (B [UInt8.ofNat (x.toNat / 256), UInt8.ofNat x.toNat]).toArray := by
  have h1 : n16 x / 256 % 256 = ((UInt8.ofNat (x.toNat / 256)).toNat : Int) := by unfold n16; simp
  have h2 : n16 x % 256 = ((UInt8.ofNat x.toNat).toNat : Int) := by unfold n16; simp
  rw [h1, h2]; rfl
set_option maxHeartbeats 2000000 in
theorem put_ok (A : Option Addr) (n c : Nat) (b : List UInt8) (kind : UInt8) (A2 : Option Addr) (c2 : Nat) (body : List UInt8) (w : World) (hb : Rd w A n b) (hr : Rd w A2 body.length body) (hn : n ≤ 140737488351232) (h2 : body.length ≤ 2048) :
    Calls Try.prog 45 #[.slice A n c, .agg #[.int .u8 (kind.toNat : Int), .slice A2 body.length c2]] w (PutPost (b ++ fbytes kind body) w) := by
  have HB := Asd.mk hb
  have HR := Asd.mk hr
  clear hb hr
  go_enter Try.func45, Try.ntmps45
  go_wp2_with fail
  refine (right_calls _ _ _ _ _).mono ?_
  rintro e w1 ⟨rfl, hu⟩
  have hb1 := hu.blk (heap_alloc_new w _) (fun h => h)
  have hc0 : w1.cell? ⟨w.heap.size, 0, none⟩ = some (.int .u8 (kind.toNat : Int)) := by simp only [World.cell?, hb1]; rfl
  have hc1 : w1.cell? ⟨w.heap.size, 1, none⟩ = some (.slice A2 body.length c2) := by simp only [World.cell?, hb1]; rfl
  have HU1 := Asd.mk (((Upd.refl (fun _ => False) w).alloc (.cells #[.int .u8 (kind.toNat : Int), .slice A2 body.length c2] 53)).trans hu (fun _ _ h => h))
  have hlt : w.heap.size < w1.heap.size := blk_lt hb1
  have HB1 := Asd.mk hb1
  clear hu hb1
  have ht : decide (body.length ≤ 2048) = true := decide_eq_true h2
  rw [ht]
  obtain ⟨N2, hN2⟩ : ∃ N2, N2 = body.length := ⟨_, rfl⟩
  have hX : IntKind.u8.wrap (((body.length : Int) + 1) / 256) = ((UInt8.ofNat ((body.length + 1) / 256)).toNat : Int) := by rw [← u8_of]; rfl
  have hY : IntKind.u8.wrap ((body.length : Int) + 1) = ((UInt8.ofNat (body.length + 1)).toNat : Int) := by rw [← u8_of]; rfl
  have HC : Asd (#[Value.int .u8 (IntKind.u8.wrap (((body.length : Int) + 1) / 256)), .int .u8 (IntKind.u8.wrap ((body.length : Int) + 1)), .int .u8 (kind.toNat : Int)] = (B [UInt8.ofNat ((body.length + 1) / 256), UInt8.ofNat (body.length + 1), kind]).toArray) := ⟨by rw [hX, hY]; rfl⟩
  clear hX hY
  go_wp2
  go_region_law (first | (with_reducible refine gate_app (.const (.slice none 0 0)) (.tmp 16) 27 rfl ?_; refine step_appendF (S := fun _ => False) (w0 := w1) (by repeat (first | exact Upd.refl _ _ | refine Upd.drew ?_ | refine Upd.alloc ?_ _ | refine Upd.setCell ?_ (fun h => absurd h (Nat.lt_irrefl _)) _)) n 5 [] b none none 0 0 A n c (by rfl) (.const (.slice none 0 0)) (.tmp 16) 27 (by rfl) Try.underlying27 info8 (by simp [Act.eval, Act.put]) (by simp [Act.eval, Act.put]) (Own.nil _ _ _) (fun g e => by cases e) (by exact HB.out.up (by repeat (first | exact HU1.out | refine Upd.drew ?_ | refine Upd.drewN ?_ _ | refine Upd.alloc ?_ _))) (by omega) (by omega) ?_; intro A3 c3 w3 G3 hc3 hm3 hO3 hG3 hu3 hU3 _; rw [List.nil_append] at hO3; have HU3 := Asd.mk hu3; have HV3 := Asd.mk hU3; have HO3 := Asd.mk hO3; have HG3 := Asd.mk hG3; have hc0 := hu3.cell hc0 (fun h => h); clear hO3 hG3 hu3 hU3) | (with_reducible refine gate_app (.tmp 17) (.tmp 25) 27 rfl ?_; (first | (refine step_appendF (S := fun _ => False) (w0 := w1) (by exact (by repeat (first | exact HU3.out | refine Upd.drew ?_ | refine Upd.drewN ?_ _ | refine Upd.alloc ?_ _))) (n + 3) 5 b [UInt8.ofNat ((body.length + 1) / 256), UInt8.ofNat (body.length + 1), kind] G3 A3 n c3 (some ⟨w3.heap.size, 0, none⟩) 3 3 (by rfl) (.tmp 17) (.tmp 25) 27 (by rfl) Try.underlying27 info8 (by simp [Act.eval, Act.put]) (by simp [Act.eval, Act.put]) (HO3.out.upd (S := fun _ => False) (by repeat (first | exact Upd.refl _ _ | refine Upd.drew ?_ | refine Upd.alloc ?_ _ | refine Upd.setCell ?_ (fun h => absurd h (Nat.lt_irrefl _)) _)) (fun _ _ h => h)) HG3.out (by exact Rd.lit w3 _ _ _ 3 _ HC.out rfl (by omega)) (by omega) (by omega) ?_) | (refine step_appendF (S := fun _ => False) (w0 := w1) (by exact (by repeat (first | exact HU3.out | refine Upd.drew ?_ | refine Upd.drewN ?_ _ | refine Upd.alloc ?_ _))) (n + 3) 5 b [UInt8.ofNat ((body.length + 1) / 256), UInt8.ofNat (body.length + 1), kind] G3 A3 n c3 (some ⟨w1.heap.size, 0, none⟩) 3 3 (by rfl) (.tmp 17) (.tmp 25) 27 (by rfl) Try.underlying27 info8 (by simp [Act.eval, Act.put]) (by simp [Act.eval, Act.put]) (HO3.out.upd (S := fun _ => False) (by repeat (first | exact Upd.refl _ _ | refine Upd.drew ?_ | refine Upd.alloc ?_ _ | refine Upd.setCell ?_ (fun h => absurd h (Nat.lt_irrefl _)) _)) (fun _ _ h => h)) HG3.out (by have h0 := Rd.lit w1 _ 5 (0, 0) 3 _ HC.out rfl (by omega); exact Rd.upd (h0.upd ((Upd.refl (fun _ => False) _).drew) (fun _ _ h => h)) HV3.out (fun _ _ h => by cases h)) (by omega) (by omega) ?_)); intro A4 c4 w4 G4 hcw hm4 hO4 hG4 hu4 hU4 _; have HU4 := Asd.mk hu4; have HO4 := Asd.mk hO4; have HG4 := Asd.mk hG4; have hc1b := hu4.cell hc1 (fun h => h); clear hO4 hG4 hu4 hU4))
  all_goals
    go_wp2_with (first | (with_reducible refine stop_append _ _ _ _ rfl ?_) | (with_reducible refine stop_copy _ _ _ _ rfl ?_) | (with_reducible refine stop_make _ _ _ rfl ?_) | (with_reducible refine stop_conv 27 9 _ rfl ?_))
    refine wp_appendF HU4.out (n + 3 + body.length) 5 (b ++ [UInt8.ofNat ((body.length + 1) / 256), UInt8.ofNat (body.length + 1), kind]) body G4 A4 (n + 3) c4 A2 body.length c2 rfl _ _ 27 rfl Try.underlying27 info8 rfl rfl HO4.out HG4.out ((HR.out.up HU1.out).up HU4.out) rfl (by omega) ?_
    intro A5 c5 w5 G5 hc5 hm5 hO5 hG5 hu5 _ _
    have HU5 := Asd.mk hu5
    have HO5 := Asd.mk hO5
    have HG5 := Asd.mk hG5
    clear hO5 hG5 hu5 HU4 HO4 HG4
    obtain ⟨A6, hcut, _, hA6, _⟩ := cut_from' (P := Try.prog) 27 5 .i64 (sz := 1) Try.underlying27 (by kernel_rfl) A5 (n + 3 + body.length) c5 (n + 2) ((n : Int) + 2) (by omega) (by omega) hc5
    have hr6 := hA6 rfl _ _ HO5.out.rd
    have hbl : b.length = n := HB.out.len
    have hl6 : ((b ++ [UInt8.ofNat ((body.length + 1) / 256), UInt8.ofNat (body.length + 1), kind]) ++ body).drop (n + 2) = kind :: body := by
      rw [List.append_assoc, List.drop_append, List.drop_eq_nil_of_le (by omega), hbl]
      simp
    rw [hl6] at hr6
    have HR6 := Asd.mk hr6
    clear hA6 hr6 hbl hl6
    go_wp2_with fail
    refine (of_calls A6 _ _ (kind :: body) _ HR6.out).mono ?_
    rintro e w6 ⟨rfl, hd⟩
    have HU6 := Asd.mk (HU5.out.trans (hd.upd (fun _ => False)) (fun _ _ h => h))
    have HO6 := Asd.mk (HO5.out.upd (hd.upd (fun _ => False)) (fun _ _ h => h))
    clear hcut hd HR6 HO5 HU5
    go_wp2_with (first | (with_reducible refine stop_append _ _ _ _ rfl ?_) | (with_reducible refine stop_copy _ _ _ _ rfl ?_) | (with_reducible refine stop_make _ _ _ rfl ?_) | (with_reducible refine stop_conv 27 9 _ rfl ?_))
    refine wp_appendF (S := fun _ => False) (w0 := w1) (by exact (by repeat (first | exact HU6.out | refine Upd.drew ?_ | refine Upd.drewN ?_ _ | refine Upd.alloc ?_ _))) (n + 3 + body.length + 2) 5 ((b ++ [UInt8.ofNat ((body.length + 1) / 256), UInt8.ofNat (body.length + 1), kind]) ++ body) [UInt8.ofNat ((sumOf kind body).toNat / 256), UInt8.ofNat (sumOf kind body).toNat] G5 A5 (n + 3 + body.length) c5 (some ⟨w6.heap.size, 0, none⟩) 2 2 rfl _ _ 27 rfl Try.underlying27 info8 rfl rfl (HO6.out.upd ((Upd.refl (fun _ => False) _).alloc _) (fun _ _ h => h)) HG5.out (Rd.lit w6 _ _ _ 2 _ (two_bytes _) rfl (by omega)) rfl (by omega) ?_
    intro A7 c7 w7 G7 hc7 hm7 hO7 hG7 hu7 _ _
    have HU7 := Asd.mk (HU1.out.trans hu7 (fun _ _ h => h))
    have HO7 := Asd.mk hO7
    have HG7 : Asd (∀ g, G7 = some g → w.heap.size ≤ g) := ⟨fun g e => Nat.le_trans HU1.out.size (hG7 g e)⟩
    clear hO7 hG7 hu7 HU6 HO6 HG5
    go_wp2
    go_ret
    have hL : b ++ fbytes kind body = (b ++ [UInt8.ofNat ((body.length + 1) / 256), UInt8.ofNat (body.length + 1), kind]) ++ body ++ [UInt8.ofNat ((sumOf kind body).toNat / 256), UInt8.ofNat (sumOf kind body).toNat] := by simp [fbytes]
    have hlen : (b ++ fbytes kind body).length = n + 3 + body.length + 2 := by rw [hL]; simp [HB.out.len]; omega
    refine ⟨A7, c7, G7, ?_, ?_, HG7.out, by rw [hlen]; exact hc7, hm7, HU7.out⟩
    · rw [hlen]; rfl
    · rw [hlen, hL]; exact HO7.out
theorem fbytes_length (kind : UInt8) (body : List UInt8) : (fbytes kind body).length = body.length + 5 := by simp [fbytes]
set_option maxHeartbeats 400000 in
theorem put_long (A : Option Addr) (n c : Nat) (kind : Int) (A2 : Option Addr) (n2 c2 : Nat) (w : World) (h2 : 2048 < n2) :
    Calls Try.prog 45 #[.slice A n c, .agg #[.int .u8 kind, .slice A2 n2 c2]] w fun e w' => e = .returned (.slice A n c) ∧ Upd (fun _ => False) w w' := by
  go_enter Try.func45, Try.ntmps45
  go_wp2_with fail
  refine (right_calls _ _ _ _ _).mono ?_
  rintro e w1 ⟨rfl, hu⟩
  have ht : decide (n2 ≤ 2048) = false := decide_eq_false (by omega)
  rw [ht]
  go_wp2
  go_ret
  exact ⟨rfl, ((Upd.refl _ _).alloc _).trans hu (fun _ _ h => h)⟩

theorem and255 (x : BitVec 16) : Go.bits .and .u16 (n16 x) 255 = n16 x % 256 := by
  have h : (255 : Int) = n16 0xff#16 := rfl
  rw [h, and16]
  unfold n16
  have : (x &&& 0xff#16).toNat = x.toNat % 256 := by
    rw [BitVec.toNat_and]
    exact Nat.and_two_pow_sub_one_eq_mod x.toNat 8
  omega
set_option maxHeartbeats 1000000 in
theorem bytes_calls (kind : UInt8) (A2 : Option Addr) (c2 : Nat) (body : List UInt8) (w : World) (hr : Rd w A2 body.length body) (hn : body.length ≤ 140737488351232) :
    Calls Try.prog 38 #[.int .u8 (kind.toNat : Int), .slice A2 body.length c2] w (PutPost (fbytes kind body) w) := by
  have HR := Asd.mk hr
  clear hr
  have hX : ((body.length : Int) + 1) / 256 % 256 = ((UInt8.ofNat ((body.length + 1) / 256)).toNat : Int) := by simp
  have hY : ((body.length : Int) + 1) % 256 = ((UInt8.ofNat (body.length + 1)).toNat : Int) := by simp
  have HC : Asd (#[Value.int .u8 (((body.length : Int) + 1) / 256 % 256), .int .u8 (((body.length : Int) + 1) % 256), .int .u8 (kind.toNat : Int)] = (B [UInt8.ofNat ((body.length + 1) / 256), UInt8.ofNat (body.length + 1), kind]).toArray) := ⟨by rw [hX, hY]; rfl⟩
  have HL : Asd ((#[Value.int .u8 (((body.length : Int) + 1) / 256 % 256), .int .u8 (((body.length : Int) + 1) % 256), .int .u8 (kind.toNat : Int)] : Array Value).toList = B [UInt8.ofNat ((body.length + 1) / 256), UInt8.ofNat (body.length + 1), kind]) := ⟨by rw [HC.out]⟩
  clear hX hY
  go_enter Try.func38, Try.ntmps38
  go_wp2_with (first | (with_reducible refine stop_append _ _ _ _ rfl ?_) | (with_reducible refine stop_copy _ _ _ _ rfl ?_) | (with_reducible refine stop_make _ _ _ rfl ?_) | (with_reducible refine stop_conv 27 9 _ rfl ?_))
  refine wp_appendF (S := fun _ => False) (w0 := w) ((Upd.refl _ _).alloc _) (3 + body.length) 5 [UInt8.ofNat ((body.length + 1) / 256), UInt8.ofNat (body.length + 1), kind] body (some w.heap.size) _ 3 3 A2 body.length c2 rfl _ _ 27 rfl Try.underlying27 info8 rfl rfl (by have := Own.lit w 5 1 3 #[Value.int .u8 (((body.length : Int) + 1) / 256 % 256), .int .u8 (((body.length : Int) + 1) % 256), .int .u8 (kind.toNat : Int)] (by simp [maxLen]) rfl; rwa [HL.out] at this) (fun g e => by obtain rfl := Option.some.inj e; exact Nat.le_refl _) (HR.out.up ((Upd.refl (fun _ => False) _).alloc _)) rfl (by omega) ?_
  intro A3 c3 w3 G3 hc3 hm3 hO3 hG3 hu3 _ _
  obtain ⟨A4, hcut, _, hA4, _⟩ := cut_from' (P := Try.prog) 27 5 .i64 (sz := 1) Try.underlying27 (by kernel_rfl) A3 (3 + body.length) c3 2 2 rfl (by omega) hc3
  have hr4 := hA4 rfl _ _ hO3.rd
  have hl4 : ([UInt8.ofNat ((body.length + 1) / 256), UInt8.ofNat (body.length + 1), kind] ++ body).drop 2 = kind :: body := rfl
  rw [hl4] at hr4
  have HR4 := Asd.mk hr4
  have HU3 := Asd.mk hu3
  have HO3 := Asd.mk hO3
  have HG3 := Asd.mk hG3
  clear hO3 hG3 hu3 hA4 hr4 hl4
  go_wp2_with fail
  refine (law_of_calls 0xffff#16 A4 _ _ (kind :: body) _ HR4.out).mono ?_
  rintro e w6 ⟨rfl, hd⟩
  have HU6 := Asd.mk (HU3.out.trans (hd.upd (fun _ => False)) (fun _ _ h => h))
  have HO6 := Asd.mk (HO3.out.upd (hd.upd (fun _ => False)) (fun _ _ h => h))
  have ha := and255 (sumOf kind body)
  clear hcut hd HR4 HO3 HU3
  go_wp2_with (first | (with_reducible refine stop_append _ _ _ _ rfl ?_) | (with_reducible refine stop_copy _ _ _ _ rfl ?_) | (with_reducible refine stop_make _ _ _ rfl ?_) | (with_reducible refine stop_conv 27 9 _ rfl ?_))
  refine wp_appendF (S := fun _ => False) (w0 := w) (by exact (by repeat (first | exact HU6.out | refine Upd.drew ?_ | refine Upd.drewN ?_ _ | refine Upd.alloc ?_ _))) (3 + body.length + 2) 5 ([UInt8.ofNat ((body.length + 1) / 256), UInt8.ofNat (body.length + 1), kind] ++ body) [UInt8.ofNat ((sumOf kind body).toNat / 256), UInt8.ofNat (sumOf kind body).toNat] G3 A3 (3 + body.length) c3 (some ⟨w6.heap.size, 0, none⟩) 2 2 rfl _ _ 27 rfl Try.underlying27 info8 rfl rfl (HO6.out.upd ((Upd.refl (fun _ => False) _).alloc _) (fun _ _ h => h)) HG3.out (Rd.lit w6 _ _ _ 2 _ ?_ rfl (by omega)) rfl (by omega) ?_
  · rw [and255, Int.emod_emod_of_dvd _ (by decide : (256 : Int) ∣ 256)]
    exact two_bytes _
  intro A7 c7 w7 G7 hc7 hm7 hO7 hG7 hu7 _ _
  have HU7 := Asd.mk hu7
  have HO7 := Asd.mk hO7
  have HG7 := Asd.mk hG7
  clear hO7 hG7 hu7 HU6 HO6 HG3
  go_wp2
  go_ret
  have hL : fbytes kind body = [UInt8.ofNat ((body.length + 1) / 256), UInt8.ofNat (body.length + 1), kind] ++ body ++ [UInt8.ofNat ((sumOf kind body).toNat / 256), UInt8.ofNat (sumOf kind body).toNat] := by simp [fbytes]
  have hlen : (fbytes kind body).length = 3 + body.length + 2 := by rw [fbytes_length]; omega
  refine ⟨A7, c7, G7, ?_, ?_, HG7.out, by rw [hlen]; exact hc7, hm7, HU7.out⟩
  · rw [hlen]; rfl
  · rw [hlen, hL]; exact HO7.out

/-- The frame with which bytes begin: its kind, its body, how many bytes it has, and 0; or why there is none. -/
def num2 (l : List UInt8) (i : Nat) : Nat := (l.getD i 0).toNat * 256 + (l.getD (i + 1) 0).toNat
def fget (b : List UInt8) : UInt8 × List UInt8 × Nat × Int :=
  if b.length < 2 then (0, [], 0, 5)
  else if num2 b 0 = 0 ∨ 2049 < num2 b 0 then (0, [], 0, 6)
  else if b.length < num2 b 0 + 4 then (0, [], 0, 5)
  else if (crc 0xffff#16 ((b.take (num2 b 0 + 2)).drop 2)).toNat ≠ num2 b (num2 b 0 + 2) then (0, [], 0, 7)
  else (b.getD 2 0, (b.take (num2 b 0 + 2)).drop 3, num2 b 0 + 4, 0)
def GetPost (r : UInt8 × List UInt8 × Nat × Int) (w : World) (e : Ending) (w' : World) : Prop :=
  ∃ A c G, e = .returned (.tuple #[.agg #[.int .u8 (r.1.toNat : Int), .slice A r.2.1.length c], .int .i64 (r.2.2.1 : Int), .int .i64 r.2.2.2]) ∧ Own w' 5 1 (.slice A r.2.1.length c) r.2.1.length (B r.2.1) G ∧ (∀ g, G = some g → w.heap.size ≤ g) ∧ r.2.1.length ≤ c ∧ c ≤ maxLen ∧ Upd (fun _ => False) w w'
theorem GetPost.none (r : UInt8 × List UInt8 × Nat × Int) (w w' : World) (k : Int) (h : r = (0, [], 0, k)) (hu : Upd (fun _ => False) w w') : GetPost r w (.returned (.tuple #[.agg #[.int .u8 0, .slice none 0 0], .int .i64 0, .int .i64 k])) w' := by
  subst h
  exact ⟨Option.none, 0, Option.none, rfl, Own.nil _ _ _, fun g e => (by cases e), Nat.le_refl _, (by simp [maxLen]), hu⟩
theorem or16 (a b : UInt8) : Go.bits .or .i64 ((a.toNat : Int) * 256) (b.toNat : Int) = ((a.toNat * 256 + b.toNat : Nat) : Int) := by
  have ha := a.toNat_lt
  have hb := b.toNat_lt
  show IntKind.i64.wrap (((BitVec.ofInt 64 ((a.toNat : Int) * 256) ||| BitVec.ofInt 64 (b.toNat : Int)).toNat : Nat) : Int) = _
  have e1 : BitVec.ofInt 64 ((a.toNat : Int) * 256) = BitVec.ofNat 64 (a.toNat <<< 8) := by
    apply BitVec.eq_of_toNat_eq
    simp [Nat.shiftLeft_eq]
    omega
  have e2 : BitVec.ofInt 64 (b.toNat : Int) = BitVec.ofNat 64 b.toNat := by
    apply BitVec.eq_of_toNat_eq
    simp
  rw [e1, e2, ← BitVec.ofNat_or, BitVec.toNat_ofNat, ← Nat.shiftLeft_add_eq_or_of_lt hb, Nat.shiftLeft_eq]
  simp only [IntKind.wrap, IntKind.bits, IntKind.signed]
  simp
  omega
theorem or16w (a b : UInt8) : Go.bits .or .i64 (wrap64 (wrap64 (a.toNat : Int) * 256)) (wrap64 (b.toNat : Int)) = ((a.toNat * 256 + b.toNat : Nat) : Int) := by
  have ha := a.toNat_lt
  have hb := b.toNat_lt
  have h1 : wrap64 (a.toNat : Int) = a.toNat := by unfold wrap64; omega
  have h2 : wrap64 (b.toNat : Int) = b.toNat := by unfold wrap64; omega
  have h3 : wrap64 ((a.toNat : Int) * 256) = (a.toNat : Int) * 256 := by unfold wrap64; omega
  rw [h1, h2, h3, or16]
theorem or16u (a b : UInt8) : Go.bits .or .u16 (IntKind.u16.wrap (IntKind.u16.wrap (a.toNat : Int) * 256)) (IntKind.u16.wrap (b.toNat : Int)) = n16 (BitVec.ofNat 16 (a.toNat * 256 + b.toNat)) := by
  have ha := a.toNat_lt
  have hb := b.toNat_lt
  have e1 : IntKind.u16.wrap (IntKind.u16.wrap (a.toNat : Int) * 256) = n16 (BitVec.ofNat 16 (a.toNat <<< 8)) := by
    rw [wrap16, wrap16]; unfold n16; simp [Nat.shiftLeft_eq]; omega
  have e2 : IntKind.u16.wrap (b.toNat : Int) = n16 (BitVec.ofNat 16 b.toNat) := by
    rw [wrap16]; unfold n16; simp; omega
  rw [e1, e2]
  have : Go.bits .or .u16 (n16 (BitVec.ofNat 16 (a.toNat <<< 8))) (n16 (BitVec.ofNat 16 b.toNat)) = n16 (BitVec.ofNat 16 (a.toNat <<< 8) ||| BitVec.ofNat 16 b.toNat) := by
    unfold Go.bits
    simp only [IntKind.bits, ofInt_n16]
    exact wrap_n16 _
  rw [this, ← BitVec.ofNat_or, ← Nat.shiftLeft_add_eq_or_of_lt hb, Nat.shiftLeft_eq]
theorem n16_num (x : BitVec 16) (a b : UInt8) : (n16 x == n16 (BitVec.ofNat 16 (a.toNat * 256 + b.toNat))) = decide (x.toNat = a.toNat * 256 + b.toNat) := by
  have ha := a.toNat_lt
  have hb := b.toNat_lt
  rw [Bool.eq_iff_iff, beq_iff_eq, decide_eq_true_eq, n16_inj]
  constructor
  · rintro rfl; simp; omega
  · intro h; apply BitVec.eq_of_toNat_eq; rw [h]; simp; omega
end Go.Proofs.Ytpphejjdgplalaa.Fr
