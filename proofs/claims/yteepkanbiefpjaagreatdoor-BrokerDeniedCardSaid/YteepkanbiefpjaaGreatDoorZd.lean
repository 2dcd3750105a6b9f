/- What these laws lean on, part Zd: contracts of the given program's functions and plain lists. No condition. -/
import Derived.Test.YteepkanbiefpjaaGreatDoorZc
import Derived.Test.YteepkanbiefpjaaGreatDoorZa
import Derived.Deep.RegionHeld3
import Derived.Laws.Bits64
import Derived.Lib.SmallJoins
set_option linter.unusedVariables false
set_option linter.unusedSimpArgs false
namespace Go.Proofs.YteepkanbiefpjaaGreatDoor.MgNum
open Go.RowKit K Mg
theorem info8 : (Tryz.prog.info? 5).map (fun i => (i.zero, i.size, i.bytes)) = some (some (.int .u8 0), 1, 1) := by kernel_rfl
def num6 (x : Nat) : List UInt8 := [UInt8.ofNat (x / 1099511627776), UInt8.ofNat (x / 4294967296), UInt8.ofNat (x / 16777216), UInt8.ofNat (x / 65536), UInt8.ofNat (x / 256), UInt8.ofNat x]
theorem num6_length (x : Nat) : (num6 x).length = 6 := rfl
set_option maxHeartbeats 2000000 in
theorem number_calls (A : Option Addr) (c : Nat) (l : List UInt8) (x : Nat) (G : Option Nat) (w0 w : World) (hu : Upd (fun _ => False) w0 w) (ho : Own w 5 1 (.slice A l.length c) l.length (B l) G) (hG : ∀ g, G = some g → w0.heap.size ≤ g) (hx : x ≤ 1099511627776) (hl : l.length ≤ 1000) :
    Calls Tryz.prog 84 #[.slice A l.length c, .int .i64 (x : Int)] w fun e w' => ∃ A' c' G', e = .returned (.slice A' (l.length + 6) c') ∧ Own w' 5 1 (.slice A' (l.length + 6) c') (l.length + 6) (B (l ++ num6 x)) G' ∧ (∀ g, G' = some g → w0.heap.size ≤ g) ∧ Upd (fun _ => False) w0 w' := by
  have HU := Asd.mk hu
  have HO := Asd.mk ho
  have HG := Asd.mk hG
  obtain ⟨_, _, hv, hc, hm, _, _⟩ := ho.slice
  injection hv with e1 e2 e3
  subst e3
  obtain ⟨n, hn⟩ : ∃ n, n = l.length := ⟨_, rfl⟩
  rw [← hn] at HO hc hl
  rw [← hn]
  have HN := Asd.mk hn
  clear hu ho hG e2 e1 hn
  go_enter Tryz.func84, Tryz.ntmps84
  go_wp2
  go_loopw [0, 5] (fun v0 v5 wr => ∃ (j pl : Nat) (Ab : Option Addr) (cb : Nat) (Gb : Option Nat), j ≤ 6 ∧ v5 = .int .i64 (40 - 8 * (j : Int)) ∧ v0 = .slice Ab pl cb ∧ pl = n + j ∧ pl ≤ cb ∧ cb ≤ maxLen ∧ Asd (Own wr 5 1 (.slice Ab pl cb) pl (B (l ++ (num6 x).take j)) Gb) ∧ Asd (∀ g, Gb = some g → w0.heap.size ≤ g) ∧ Asd (Upd (fun _ => False) w0 wr)) (fun _ v5 _ => (intOf v5 + 8).toNat)
  case atStart => exact ⟨0, n, A, _, G, by omega, rfl, rfl, rfl, hc, hm, by simpa using HO, HG, HU⟩
  case round =>
    obtain ⟨j, pl, Ab, cb, Gb, hj, rfl, rfl, hpl, hplc, hcm, HOb, HGb, HUb⟩ := hrel
    by_cases h6 : j = 6
    · subst h6
      have HL := Asd.mk (show pl = n + 6 from hpl)
      have HT := Asd.mk (show (num6 x).take 6 = num6 x from rfl)
      clear hpl
      go_wp2
      go_ret
      have h1 := HOb.out
      rw [HT.out, HL.out] at h1
      exact ⟨Ab, cb, Gb, by rw [HL.out]; rfl, h1, HGb.out, HUb.out⟩
    · have HPl := Asd.mk hpl
      have hpb : pl ≤ 1006 := by omega
      clear hpl
      rcases (by omega : j = 0 ∨ j = 1 ∨ j = 2 ∨ j = 3 ∨ j = 4 ∨ j = 5) with rfl | rfl | rfl | rfl | rfl | rfl
      · go_wp2_with (first | (with_reducible refine stop_append _ _ _ _ rfl ?_) | (with_reducible refine stop_copy _ _ _ _ rfl ?_) | (with_reducible refine stop_make _ _ _ rfl ?_) | (with_reducible refine stop_conv 31 9 _ rfl ?_))
        refine wp_appendF (S := fun _ => False) (w0 := w0) (by exact (by repeat (first | exact HUb.out | refine Upd.drew ?_ | refine Upd.drewN ?_ _ | refine Upd.alloc ?_ _))) (pl + 1) 5 (l ++ (num6 x).take 0) [(num6 x).getD 0 0] Gb Ab pl cb (some ⟨wr.heap.size, 0, none⟩) 1 1 rfl _ _ 31 rfl Tryz.underlying31 info8 rfl rfl (HOb.out.upd ((Upd.refl (fun _ => False) _).alloc _) (fun _ _ h => h)) HGb.out (Rd.lit wr _ _ _ 1 _ (by simp [B, num6] <;> omega) rfl (by omega)) rfl (by omega) ?_
        intro A5 c5 w5 G5 hc5 hm5 hO5 hG5 hu5 _ _
        rw [List.append_assoc, show (num6 x).take 0 ++ [(num6 x).getD 0 0] = (num6 x).take 1 from rfl] at hO5
        have HO5 := Asd.mk hO5
        have HG5 := Asd.mk hG5
        have HU5 := Asd.mk hu5
        clear hO5 hG5 hu5 HOb HGb HUb
        go_wp2
        go_roundw
        case rel => exact ⟨1, pl + 1, A5, c5, G5, by omega, rfl, rfl, by have := HPl.out; omega, hc5, hm5, HO5, HG5, HU5⟩
        case measure => (simp only [intOf]; decide)
      · go_wp2_with (first | (with_reducible refine stop_append _ _ _ _ rfl ?_) | (with_reducible refine stop_copy _ _ _ _ rfl ?_) | (with_reducible refine stop_make _ _ _ rfl ?_) | (with_reducible refine stop_conv 31 9 _ rfl ?_))
        refine wp_appendF (S := fun _ => False) (w0 := w0) (by exact (by repeat (first | exact HUb.out | refine Upd.drew ?_ | refine Upd.drewN ?_ _ | refine Upd.alloc ?_ _))) (pl + 1) 5 (l ++ (num6 x).take 1) [(num6 x).getD 1 0] Gb Ab pl cb (some ⟨wr.heap.size, 0, none⟩) 1 1 rfl _ _ 31 rfl Tryz.underlying31 info8 rfl rfl (HOb.out.upd ((Upd.refl (fun _ => False) _).alloc _) (fun _ _ h => h)) HGb.out (Rd.lit wr _ _ _ 1 _ (by simp [B, num6] <;> omega) rfl (by omega)) rfl (by omega) ?_
        intro A5 c5 w5 G5 hc5 hm5 hO5 hG5 hu5 _ _
        rw [List.append_assoc, show (num6 x).take 1 ++ [(num6 x).getD 1 0] = (num6 x).take 2 from rfl] at hO5
        have HO5 := Asd.mk hO5
        have HG5 := Asd.mk hG5
        have HU5 := Asd.mk hu5
        clear hO5 hG5 hu5 HOb HGb HUb
        go_wp2
        go_roundw
        case rel => exact ⟨2, pl + 1, A5, c5, G5, by omega, rfl, rfl, by have := HPl.out; omega, hc5, hm5, HO5, HG5, HU5⟩
        case measure => (simp only [intOf]; decide)
      · go_wp2_with (first | (with_reducible refine stop_append _ _ _ _ rfl ?_) | (with_reducible refine stop_copy _ _ _ _ rfl ?_) | (with_reducible refine stop_make _ _ _ rfl ?_) | (with_reducible refine stop_conv 31 9 _ rfl ?_))
        refine wp_appendF (S := fun _ => False) (w0 := w0) (by exact (by repeat (first | exact HUb.out | refine Upd.drew ?_ | refine Upd.drewN ?_ _ | refine Upd.alloc ?_ _))) (pl + 1) 5 (l ++ (num6 x).take 2) [(num6 x).getD 2 0] Gb Ab pl cb (some ⟨wr.heap.size, 0, none⟩) 1 1 rfl _ _ 31 rfl Tryz.underlying31 info8 rfl rfl (HOb.out.upd ((Upd.refl (fun _ => False) _).alloc _) (fun _ _ h => h)) HGb.out (Rd.lit wr _ _ _ 1 _ (by simp [B, num6] <;> omega) rfl (by omega)) rfl (by omega) ?_
        intro A5 c5 w5 G5 hc5 hm5 hO5 hG5 hu5 _ _
        rw [List.append_assoc, show (num6 x).take 2 ++ [(num6 x).getD 2 0] = (num6 x).take 3 from rfl] at hO5
        have HO5 := Asd.mk hO5
        have HG5 := Asd.mk hG5
        have HU5 := Asd.mk hu5
        clear hO5 hG5 hu5 HOb HGb HUb
        go_wp2
        go_roundw
        case rel => exact ⟨3, pl + 1, A5, c5, G5, by omega, rfl, rfl, by have := HPl.out; omega, hc5, hm5, HO5, HG5, HU5⟩
        case measure => (simp only [intOf]; decide)
      · go_wp2_with (first | (with_reducible refine stop_append _ _ _ _ rfl ?_) | (with_reducible refine stop_copy _ _ _ _ rfl ?_) | (with_reducible refine stop_make _ _ _ rfl ?_) | (with_reducible refine stop_conv 31 9 _ rfl ?_))
        refine wp_appendF (S := fun _ => False) (w0 := w0) (by exact (by repeat (first | exact HUb.out | refine Upd.drew ?_ | refine Upd.drewN ?_ _ | refine Upd.alloc ?_ _))) (pl + 1) 5 (l ++ (num6 x).take 3) [(num6 x).getD 3 0] Gb Ab pl cb (some ⟨wr.heap.size, 0, none⟩) 1 1 rfl _ _ 31 rfl Tryz.underlying31 info8 rfl rfl (HOb.out.upd ((Upd.refl (fun _ => False) _).alloc _) (fun _ _ h => h)) HGb.out (Rd.lit wr _ _ _ 1 _ (by simp [B, num6] <;> omega) rfl (by omega)) rfl (by omega) ?_
        intro A5 c5 w5 G5 hc5 hm5 hO5 hG5 hu5 _ _
        rw [List.append_assoc, show (num6 x).take 3 ++ [(num6 x).getD 3 0] = (num6 x).take 4 from rfl] at hO5
        have HO5 := Asd.mk hO5
        have HG5 := Asd.mk hG5
        have HU5 := Asd.mk hu5
        clear hO5 hG5 hu5 HOb HGb HUb
        go_wp2
        go_roundw
        case rel => exact ⟨4, pl + 1, A5, c5, G5, by omega, rfl, rfl, by have := HPl.out; omega, hc5, hm5, HO5, HG5, HU5⟩
        case measure => (simp only [intOf]; decide)
      · go_wp2_with (first | (with_reducible refine stop_append _ _ _ _ rfl ?_) | (with_reducible refine stop_copy _ _ _ _ rfl ?_) | (with_reducible refine stop_make _ _ _ rfl ?_) | (with_reducible refine stop_conv 31 9 _ rfl ?_))
        refine wp_appendF (S := fun _ => False) (w0 := w0) (by exact (by repeat (first | exact HUb.out | refine Upd.drew ?_ | refine Upd.drewN ?_ _ | refine Upd.alloc ?_ _))) (pl + 1) 5 (l ++ (num6 x).take 4) [(num6 x).getD 4 0] Gb Ab pl cb (some ⟨wr.heap.size, 0, none⟩) 1 1 rfl _ _ 31 rfl Tryz.underlying31 info8 rfl rfl (HOb.out.upd ((Upd.refl (fun _ => False) _).alloc _) (fun _ _ h => h)) HGb.out (Rd.lit wr _ _ _ 1 _ (by simp [B, num6] <;> omega) rfl (by omega)) rfl (by omega) ?_
        intro A5 c5 w5 G5 hc5 hm5 hO5 hG5 hu5 _ _
        rw [List.append_assoc, show (num6 x).take 4 ++ [(num6 x).getD 4 0] = (num6 x).take 5 from rfl] at hO5
        have HO5 := Asd.mk hO5
        have HG5 := Asd.mk hG5
        have HU5 := Asd.mk hu5
        clear hO5 hG5 hu5 HOb HGb HUb
        go_wp2
        go_roundw
        case rel => exact ⟨5, pl + 1, A5, c5, G5, by omega, rfl, rfl, by have := HPl.out; omega, hc5, hm5, HO5, HG5, HU5⟩
        case measure => (simp only [intOf]; decide)
      · go_wp2_with (first | (with_reducible refine stop_append _ _ _ _ rfl ?_) | (with_reducible refine stop_copy _ _ _ _ rfl ?_) | (with_reducible refine stop_make _ _ _ rfl ?_) | (with_reducible refine stop_conv 31 9 _ rfl ?_))
        refine wp_appendF (S := fun _ => False) (w0 := w0) (by exact (by repeat (first | exact HUb.out | refine Upd.drew ?_ | refine Upd.drewN ?_ _ | refine Upd.alloc ?_ _))) (pl + 1) 5 (l ++ (num6 x).take 5) [(num6 x).getD 5 0] Gb Ab pl cb (some ⟨wr.heap.size, 0, none⟩) 1 1 rfl _ _ 31 rfl Tryz.underlying31 info8 rfl rfl (HOb.out.upd ((Upd.refl (fun _ => False) _).alloc _) (fun _ _ h => h)) HGb.out (Rd.lit wr _ _ _ 1 _ (by simp [B, num6] <;> omega) rfl (by omega)) rfl (by omega) ?_
        intro A5 c5 w5 G5 hc5 hm5 hO5 hG5 hu5 _ _
        rw [List.append_assoc, show (num6 x).take 5 ++ [(num6 x).getD 5 0] = (num6 x).take 6 from rfl] at hO5
        have HO5 := Asd.mk hO5
        have HG5 := Asd.mk hG5
        have HU5 := Asd.mk hu5
        clear hO5 hG5 hu5 HOb HGb HUb
        go_wp2
        go_roundw
        case rel => exact ⟨6, pl + 1, A5, c5, G5, by omega, rfl, rfl, by have := HPl.out; omega, hc5, hm5, HO5, HG5, HU5⟩
        case measure => (simp only [intOf]; decide)
def mbody (k : Int) (a b : Nat) (t : List UInt8) : List UInt8 := (num6 a ++ num6 b).take (6 * nums k) ++ t
theorem mbody_length (k : Int) (a b : Nat) (t : List UInt8) : (mbody k a b t).length = 6 * nums k + t.length := by
  unfold mbody
  have := nums_le k
  rw [List.length_append, List.length_take, List.length_append, num6_length, num6_length]
  omega
end Go.Proofs.YteepkanbiefpjaaGreatDoor.MgNum
set_option linter.unusedVariables false
set_option linter.unusedSimpArgs false
namespace Go.Proofs.YteepkanbiefpjaaGreatDoor.MgOf
open Go.RowKit K Mg MgNum
def val (l : List UInt8) : Nat := l.foldl (fun v x => v * 256 + x.toNat) 0
theorem val_snoc (l : List UInt8) (x : UInt8) : val (l ++ [x]) = val l * 256 + x.toNat := by simp [val, List.foldl_append]
theorem val_lt (l : List UInt8) : val l < 256 ^ l.length := by
  rw [← List.reverse_reverse l]
  induction l.reverse with
  | nil => simp [val]
  | cons x r ih =>
    rw [List.reverse_cons, val_snoc, List.length_append, List.length_reverse] at *
    have := x.toNat_lt
    simp only [List.length_cons, List.length_nil, Nat.zero_add, Nat.pow_succ, List.length_reverse] at *
    omega
theorem or_low (v : Nat) (hv : v < 1099511627776) (c : UInt8) : Go.bits .or .i64 ((v : Int) * 256) (c.toNat : Int) = ((v * 256 + c.toNat : Nat) : Int) := by
  have hc := c.toNat_lt
  show IntKind.i64.wrap (((BitVec.ofInt 64 ((v : Int) * 256) ||| BitVec.ofInt 64 (c.toNat : Int)).toNat : Nat) : Int) = _
  have e1 : BitVec.ofInt 64 ((v : Int) * 256) = BitVec.ofNat 64 (v <<< 8) := by
    apply BitVec.eq_of_toNat_eq
    simp [Nat.shiftLeft_eq]
    omega
  have e2 : BitVec.ofInt 64 (c.toNat : Int) = BitVec.ofNat 64 c.toNat := by
    apply BitVec.eq_of_toNat_eq
    simp
  rw [e1, e2, ← BitVec.ofNat_or, BitVec.toNat_ofNat, ← Nat.shiftLeft_add_eq_or_of_lt hc, Nat.shiftLeft_eq]
  rw [w64i _ (by omega) (by omega)]
  omega
def numA (n : Nat) (body : List UInt8) : Nat := if 0 < n then val (body.take 6) else 0
def numB (n : Nat) (body : List UInt8) : Nat := if 1 < n then val ((body.drop 6).take 6) else 0
def isMsg (k : Int) (body : List UInt8) : Bool := known k && (decide (6 * nums k ≤ body.length) && right k (numA (nums k) body) (numB (nums k) body) (body.drop (6 * nums k)).length)
def OfPost (k : Int) (body : List UInt8) (w : World) (e : Ending) (w' : World) : Prop :=
  Upd (fun _ => False) w w' ∧ e = .returned (.tuple #[if isMsg k body then .agg #[.int .i64 k, .int .i64 (numA (nums k) body : Int), .int .i64 (numB (nums k) body : Int), .string (S (body.drop (6 * nums k)))] else .agg #[.int .i64 0, .int .i64 0, .int .i64 0, .string (S [])], .bool (isMsg k body)])
structure Lp (w wr : World) (k : Int) (a b : Nat) (A : Option Addr) (n c : Nat) : Prop where
  m : wr.heap[w.heap.size + 1 + 1]? = some (.cells #[.int .i64 k, .int .i64 (a : Int), .int .i64 (b : Int), .string { data := #[] }] 36 (0, 0))
  p : wr.heap[w.heap.size + 1 + 1 + 1]? = some (.cells #[.pointer (some ⟨w.heap.size + 1 + 1, 1, none⟩), .pointer (some ⟨w.heap.size + 1 + 1, 2, none⟩)] 154 (0, 0))
  f : wr.heap[w.heap.size]? = some (.cells #[.int .u8 k, .slice A n c] 105 (0, 0))
  r : wr.heap[w.heap.size + 1]? = some (.cells #[.int .i64 0, .int .i64 0, .int .i64 0, .string { data := #[] }] 36 (0, 0))
  upd : Upd (fun _ => False) w wr
section
variable {w wr : World} {k : Int} {a b : Nat} {A : Option Addr} {n c : Nat}
theorem Lp.start (w : World) (k : Int) (A : Option Addr) (n c : Nat) : Lp w ((((w.alloc (.cells #[.int .u8 k, .slice A n c] 105)).alloc (.cells #[.int .i64 0, .int .i64 0, .int .i64 0, .string { data := #[] }] 36)).alloc (.cells #[.int .i64 k, .int .i64 0, .int .i64 0, .string { data := #[] }] 36)).alloc (.cells #[.pointer (some ⟨w.heap.size + 1 + 1, 1, none⟩), .pointer (some ⟨w.heap.size + 1 + 1, 2, none⟩)] 154)) k 0 0 A n c := by
  have h1 := heap_alloc_new w (.cells #[.int .u8 k, .slice A n c] 105)
  have h2 := heap_alloc_new (w.alloc (.cells #[.int .u8 k, .slice A n c] 105)) (.cells #[.int .i64 0, .int .i64 0, .int .i64 0, .string { data := #[] }] 36)
  have h3 := heap_alloc_new ((w.alloc (.cells #[.int .u8 k, .slice A n c] 105)).alloc (.cells #[.int .i64 0, .int .i64 0, .int .i64 0, .string { data := #[] }] 36)) (.cells #[.int .i64 k, .int .i64 0, .int .i64 0, .string { data := #[] }] 36)
  have h4 := heap_alloc_new (((w.alloc (.cells #[.int .u8 k, .slice A n c] 105)).alloc (.cells #[.int .i64 0, .int .i64 0, .int .i64 0, .string { data := #[] }] 36)).alloc (.cells #[.int .i64 k, .int .i64 0, .int .i64 0, .string { data := #[] }] 36)) (.cells #[.pointer (some ⟨w.heap.size + 1 + 1, 1, none⟩), .pointer (some ⟨w.heap.size + 1 + 1, 2, none⟩)] 154)
  have s1 : (w.alloc (.cells #[.int .u8 k, .slice A n c] 105)).heap.size = w.heap.size + 1 := by simp
  have s2 : ((w.alloc (.cells #[.int .u8 k, .slice A n c] 105)).alloc (.cells #[.int .i64 0, .int .i64 0, .int .i64 0, .string { data := #[] }] 36)).heap.size = w.heap.size + 1 + 1 := by simp
  have s3 : (((w.alloc (.cells #[.int .u8 k, .slice A n c] 105)).alloc (.cells #[.int .i64 0, .int .i64 0, .int .i64 0, .string { data := #[] }] 36)).alloc (.cells #[.int .i64 k, .int .i64 0, .int .i64 0, .string { data := #[] }] 36)).heap.size = w.heap.size + 1 + 1 + 1 := by simp
  rw [s1] at h2
  rw [s2] at h3
  rw [s3] at h4
  exact ⟨((Upd.refl (fun _ => False) _).alloc _).blk h3 (fun h => h), h4, ((((Upd.refl (fun _ => False) _).alloc _).alloc _).alloc _).blk h1 (fun h => h), (((Upd.refl (fun _ => False) _).alloc _).alloc _).blk h2 (fun h => h), ((((Upd.refl _ _).alloc _).alloc _).alloc _).alloc _⟩
theorem Lp.setA (h : Lp w wr k a b A n c) (a2 : Nat) : Lp w (wr.setCell ⟨w.heap.size + 1 + 1, 1, none⟩ (.int .i64 (a2 : Int))) k a2 b A n c := by
  have k1 := (Upd.refl (fun i => i = w.heap.size + 1 + 1) wr).setCell (p := ⟨w.heap.size + 1 + 1, 1, none⟩) (fun _ => rfl) (.int .i64 (a2 : Int))
  refine ⟨?_, k1.blk h.p (by omega), k1.blk h.f (by omega), k1.blk h.r (by omega), h.upd.trans k1 (fun i hi e => by omega)⟩
  rw [blk_setCell h.m]
  rfl
theorem Lp.setB (h : Lp w wr k a b A n c) (b2 : Nat) : Lp w (wr.setCell ⟨w.heap.size + 1 + 1, 2, none⟩ (.int .i64 (b2 : Int))) k a b2 A n c := by
  have k1 := (Upd.refl (fun i => i = w.heap.size + 1 + 1) wr).setCell (p := ⟨w.heap.size + 1 + 1, 2, none⟩) (fun _ => rfl) (.int .i64 (b2 : Int))
  refine ⟨?_, k1.blk h.p (by omega), k1.blk h.f (by omega), k1.blk h.r (by omega), h.upd.trans k1 (fun i hi e => by omega)⟩
  rw [blk_setCell h.m]
  rfl
end
theorem four {w : World} {r : Nat} {x0 x1 x2 x3 : Value} {e : TypeId} (h : w.heap[r]? = some (.cells #[x0, x1, x2, x3] e (0, 0))) :
    (w.cell? ⟨r, 0, none⟩ = some x0 ∧ w.frozen? ⟨r, 0, none⟩ = false) ∧
    (∀ v0, (w.setCell ⟨r, 0, none⟩ v0).cell? ⟨r, 1, none⟩ = some x1 ∧ (w.setCell ⟨r, 0, none⟩ v0).frozen? ⟨r, 1, none⟩ = false) ∧
    (∀ v0 v1, ((w.setCell ⟨r, 0, none⟩ v0).setCell ⟨r, 1, none⟩ v1).cell? ⟨r, 2, none⟩ = some x2 ∧ ((w.setCell ⟨r, 0, none⟩ v0).setCell ⟨r, 1, none⟩ v1).frozen? ⟨r, 2, none⟩ = false) ∧
    (∀ v0 v1 v2, (((w.setCell ⟨r, 0, none⟩ v0).setCell ⟨r, 1, none⟩ v1).setCell ⟨r, 2, none⟩ v2).cell? ⟨r, 3, none⟩ = some x3 ∧ (((w.setCell ⟨r, 0, none⟩ v0).setCell ⟨r, 1, none⟩ v1).setCell ⟨r, 2, none⟩ v2).frozen? ⟨r, 3, none⟩ = false) ∧
    (∀ v0 v1 v2 v3, ((((w.setCell ⟨r, 0, none⟩ v0).setCell ⟨r, 1, none⟩ v1).setCell ⟨r, 2, none⟩ v2).setCell ⟨r, 3, none⟩ v3).heap[r]? = some (.cells #[v0, v1, v2, v3] e (0, 0))) := by
  have b0 := fun v0 => blk_setCell (o := 0) h v0
  have b1 := fun v0 v1 => blk_setCell (o := 1) (b0 v0) v1
  have b2 := fun v0 v1 v2 => blk_setCell (o := 2) (b1 v0 v1) v2
  have b3 := fun v0 v1 v2 v3 => blk_setCell (o := 3) (b2 v0 v1 v2) v3
  refine ⟨⟨by simp [World.cell?, h], by simp [World.frozen?, h]⟩, fun v0 => ⟨by simp [World.cell?, b0], by simp [World.frozen?, b0]⟩, fun v0 v1 => ⟨by simp [World.cell?, b1], by simp [World.frozen?, b1]⟩, fun v0 v1 v2 => ⟨by simp [World.cell?, b2], by simp [World.frozen?, b2]⟩, fun v0 v1 v2 v3 => ?_⟩
  rw [b3]
  rfl
theorem four_upd {w w5 : World} {r : Nat} (h : Upd (fun _ => False) w w5) (hr : w.heap.size ≤ r) (v0 v1 v2 v3 : Value) : Upd (fun _ => False) w ((((w5.setCell ⟨r, 0, none⟩ v0).setCell ⟨r, 1, none⟩ v1).setCell ⟨r, 2, none⟩ v2).setCell ⟨r, 3, none⟩ v3) :=
  (((h.setCell (p := ⟨r, 0, none⟩) (fun e => by simp only at e; omega) v0).setCell (p := ⟨r, 1, none⟩) (fun e => by simp only at e; omega) v1).setCell (p := ⟨r, 2, none⟩) (fun e => by simp only at e; omega) v2).setCell (p := ⟨r, 3, none⟩) (fun e => by simp only at e; omega) v3
set_option maxHeartbeats 4000000 in
set_option maxRecDepth 100000 in
theorem of_calls (kind : UInt8) (A : Option Addr) (c : Nat) (body : List UInt8) (w : World) (hr : Rd w A body.length body) (hc : body.length ≤ c) (hbl : body.length ≤ 1048576) :
    Calls Tryz.prog 63 #[.agg #[.int .u8 (kind.toNat : Int), .slice A body.length c]] w (OfPost (kind.toNat : Int) body w) := by
  have HB := Asd.mk hr
  obtain ⟨k, hk⟩ : ∃ k : Int, k = (kind.toNat : Int) := ⟨_, rfl⟩
  have hk0 : 0 ≤ k ∧ k ≤ 255 := by have := kind.toNat_lt; omega
  rw [← hk]
  clear hr hk
  obtain ⟨N, hN⟩ : ∃ N, N = nums k := ⟨_, rfl⟩
  have hN2 : N ≤ 2 := by rw [hN]; exact nums_le k
  have HN := Asd.mk hN
  clear hN
  go_enter Tryz.func63, Tryz.ntmps63
  go_wp2_with fail
  refine (shape_calls k _).mono ?_
  rw [← HN.out]
  obtain ⟨M, hM⟩ : ∃ M, M = most k := ⟨_, rfl⟩
  rw [← hM]
  clear hM
  rintro e w1 ⟨rfl, rfl⟩
  have none_ : ∀ w', isMsg k body = false → Upd (fun _ => False) w w' → OfPost k body w (.returned (.tuple #[.agg #[.int .i64 0, .int .i64 0, .int .i64 0, .string { data := #[] }], .bool false])) w' := fun w' h hu => ⟨hu, by rw [h]; rfl⟩
  have HNone := Asd.mk none_
  clear none_
  cases hkn : known k with
  | false =>
    have HI : Asd (isMsg k body = false) := ⟨by unfold isMsg; rw [hkn]; rfl⟩
    clear hkn
    go_wp2
    refine bodyPost_ret (v := .tuple #[.agg #[.int .i64 0, .int .i64 0, .int .i64 0, .string { data := #[] }], .bool false]) (by simp [results, Tryz.results63, go_sem]) rfl (HNone.out _ HI.out (by repeat (first | exact Upd.refl _ _ | refine Upd.alloc ?_ _ | refine Upd.setCell ?_ (fun h => absurd h (by simp)) _)))
  | true =>
    have HKN := Asd.mk hkn
    clear hkn
    by_cases hlen : body.length < 6 * N
    · have HI : Asd (isMsg k body = false) := ⟨by unfold isMsg; rw [← HN.out, decide_eq_false (by omega)]; simp⟩
      have hle : (body.length : Int) < 6 * (N : Int) := by omega
      have hw6 : IntKind.i64.wrap (6 * (N : Int)) = 6 * (N : Int) := w64i _ (by omega) (by omega)
      go_wp2
      refine bodyPost_ret (v := .tuple #[.agg #[.int .i64 0, .int .i64 0, .int .i64 0, .string { data := #[] }], .bool false]) (by simp [results, Tryz.results63, go_sem]) rfl (HNone.out _ HI.out (by repeat (first | exact Upd.refl _ _ | refine Upd.alloc ?_ _ | refine Upd.setCell ?_ (fun h => absurd h (by simp)) _)))
    · have hle : ¬ ((body.length : Int) < 6 * (N : Int)) := by omega
      have hw6 : IntKind.i64.wrap (6 * (N : Int)) = 6 * (N : Int) := w64i _ (by omega) (by omega)
      have hN2i : (N : Int) ≤ 2 := by omega
      go_wp2
      go_loopw [40] (fun v40 wr => ∃ j : Nat, v40 = .int .i64 (j : Int) ∧ j ≤ N ∧ Asd (Lp w wr k (numA j body) (numB j body) A body.length c)) (fun v40 _ => N - (intOf v40).toNat)
      case atStart => exact ⟨0, rfl, by omega, ⟨Lp.start w k A body.length c⟩⟩
      case round =>
        obtain ⟨j, rfl, hj, HL⟩ := hrel
        by_cases hjn : j < N
        · rcases (by omega : j = 0 ∨ j = 1) with rfl | rfl
          · obtain ⟨seg, hseg⟩ : ∃ seg, seg = (body.take 6).drop 0 := ⟨_, rfl⟩
            have h6l : 6 ≤ body.length := by omega
            obtain ⟨A6, hcut, _, hrd6, _⟩ := cut_both' (P := Tryz.prog) 31 5 .i64 .i64 (sz := 1) Tryz.underlying31 (by kernel_rfl) A body.length c 0 6 0 6 rfl rfl (by omega) h6l hc
            have hr6 := hrd6 rfl _ _ HB.out
            rw [← hseg] at hr6
            have HR6 := Asd.mk hr6
            have HSL := Asd.mk (show seg.length = 6 by rw [hseg, List.length_drop, List.length_take]; omega)
            have HSG := Asd.mk hseg
            have hp0 : wr.cell? ⟨w.heap.size + 1 + 1 + 1, 0, none⟩ = some (.pointer (some ⟨w.heap.size + 1 + 1, 1, none⟩)) := by simp [World.cell?, HL.out.p]
            have hf1 : wr.cell? ⟨w.heap.size, 1, none⟩ = some (.slice A body.length c) := by simp [World.cell?, HL.out.f]
            clear hr6 hrd6 hseg
            go_wp2
            clear hp0 hf1
            go_loopw [54] (fun v54 wr => ∃ i : Nat, v54 = .int .i64 (i : Int) ∧ i ≤ 6 ∧ Asd (Lp w wr k (val (seg.take i)) 0 A body.length c)) (fun v54 _ => 6 - (intOf v54).toNat)
            case atStart => exact ⟨0, rfl, by omega, HL⟩
            case round =>
              obtain ⟨i, rfl, hi, HI2⟩ := hrel
              by_cases hlt6 : i < 6
              · obtain ⟨ad, rfl, hc0⟩ := (HR6.out.up HI2.out.upd).at i hlt6
                obtain ⟨x, hx⟩ : ∃ x, x = seg[i]'(by rw [HSL.out]; exact hlt6) := ⟨_, rfl⟩
                rw [← hx] at hc0
                have HV := Asd.mk (show val (seg.take (i + 1)) = val (seg.take i) * 256 + x.toNat by rw [List.take_succ_eq_append_getElem (by rw [HSL.out]; exact hlt6), val_snoc, ← hx])
                obtain ⟨v, hv⟩ : ∃ v, v = val (seg.take i) := ⟨_, rfl⟩
                have hvl : v < 1099511627776 := by
                  rw [hv]
                  refine Nat.lt_of_lt_of_le (val_lt _) ?_
                  rw [List.length_take, HSL.out]
                  exact Nat.le_trans (Nat.pow_le_pow_right (by omega) (show min i 6 ≤ 5 by omega)) (by decide)
                rw [← hv] at HV HI2
                have hcm : wr.cell? ⟨w.heap.size + 1 + 1, 1, none⟩ = some (.int .i64 (v : Int)) := by simp [World.cell?, HI2.out.m]
                have hfm : wr.frozen? ⟨w.heap.size + 1 + 1, 1, none⟩ = false := by simp [World.frozen?, HI2.out.m]
                have hsh : IntKind.i64.wrap ((v : Int) * 256) = (v : Int) * 256 := w64i _ (by omega) (by omega)
                have hor := or_low v hvl x
                have hxw : wrap64 (x.toNat : Int) = (x.toNat : Int) := by have := x.toNat_lt; unfold wrap64; omega
                obtain ⟨v2, hv2⟩ : ∃ v2, v2 = v * 256 + x.toNat := ⟨_, rfl⟩
                rw [← hv2] at HV hor
                have hwi : IntKind.i64.wrap ((i : Int) + 1) = ((i + 1 : Nat) : Int) := by rw [w64i _ (by omega) (by omega)]; rfl
                have HN2 := Asd.mk (HI2.out.setA v2)
                clear hv hx hv2
                go_wp2
                go_roundw
                case rel => exact ⟨i + 1, rfl, by omega, by rw [HV.out]; exact HN2⟩
                case measure => (simp only [intOf]; omega)
              · have hi6 : i = 6 := by omega
                subst hi6
                have hT := List.take_of_length_le (show seg.length ≤ 6 by rw [HSL.out]; omega)
                rw [hT] at HI2
                have hwj : IntKind.i64.wrap (((0 : Nat) : Int) + 1) = ((0 + 1 : Nat) : Int) := rfl
                go_wp2
                go_roundw
                case rel => exact ⟨0 + 1, rfl, by omega, by have h9 := HI2; rw [HSG.out, List.drop_zero] at h9; exact h9⟩
                case measure => (simp only [intOf]; omega)
          · obtain ⟨seg, hseg⟩ : ∃ seg, seg = (body.take 12).drop 6 := ⟨_, rfl⟩
            have h6l : 12 ≤ body.length := by omega
            obtain ⟨A6, hcut, _, hrd6, _⟩ := cut_both' (P := Tryz.prog) 31 5 .i64 .i64 (sz := 1) Tryz.underlying31 (by kernel_rfl) A body.length c 6 12 6 12 rfl rfl (by omega) h6l hc
            have hr6 := hrd6 rfl _ _ HB.out
            rw [← hseg] at hr6
            have HR6 := Asd.mk hr6
            have HSL := Asd.mk (show seg.length = 6 by rw [hseg, List.length_drop, List.length_take]; omega)
            have HSG := Asd.mk hseg
            have hp0 : wr.cell? ⟨w.heap.size + 1 + 1 + 1, 1, none⟩ = some (.pointer (some ⟨w.heap.size + 1 + 1, 2, none⟩)) := by simp [World.cell?, HL.out.p]
            have hf1 : wr.cell? ⟨w.heap.size, 1, none⟩ = some (.slice A body.length c) := by simp [World.cell?, HL.out.f]
            clear hr6 hrd6 hseg
            go_wp2
            clear hp0 hf1
            go_loopw [54] (fun v54 wr => ∃ i : Nat, v54 = .int .i64 (i : Int) ∧ i ≤ 6 ∧ Asd (Lp w wr k (numA 2 body) (val (seg.take i)) A body.length c)) (fun v54 _ => 6 - (intOf v54).toNat)
            case atStart => exact ⟨0, rfl, by omega, HL⟩
            case round =>
              obtain ⟨i, rfl, hi, HI2⟩ := hrel
              by_cases hlt6 : i < 6
              · obtain ⟨ad, rfl, hc0⟩ := (HR6.out.up HI2.out.upd).at i hlt6
                obtain ⟨x, hx⟩ : ∃ x, x = seg[i]'(by rw [HSL.out]; exact hlt6) := ⟨_, rfl⟩
                rw [← hx] at hc0
                have HV := Asd.mk (show val (seg.take (i + 1)) = val (seg.take i) * 256 + x.toNat by rw [List.take_succ_eq_append_getElem (by rw [HSL.out]; exact hlt6), val_snoc, ← hx])
                obtain ⟨v, hv⟩ : ∃ v, v = val (seg.take i) := ⟨_, rfl⟩
                have hvl : v < 1099511627776 := by
                  rw [hv]
                  refine Nat.lt_of_lt_of_le (val_lt _) ?_
                  rw [List.length_take, HSL.out]
                  exact Nat.le_trans (Nat.pow_le_pow_right (by omega) (show min i 6 ≤ 5 by omega)) (by decide)
                rw [← hv] at HV HI2
                have hcm : wr.cell? ⟨w.heap.size + 1 + 1, 2, none⟩ = some (.int .i64 (v : Int)) := by simp [World.cell?, HI2.out.m]
                have hfm : wr.frozen? ⟨w.heap.size + 1 + 1, 2, none⟩ = false := by simp [World.frozen?, HI2.out.m]
                have hsh : IntKind.i64.wrap ((v : Int) * 256) = (v : Int) * 256 := w64i _ (by omega) (by omega)
                have hor := or_low v hvl x
                have hxw : wrap64 (x.toNat : Int) = (x.toNat : Int) := by have := x.toNat_lt; unfold wrap64; omega
                obtain ⟨v2, hv2⟩ : ∃ v2, v2 = v * 256 + x.toNat := ⟨_, rfl⟩
                rw [← hv2] at HV hor
                have hwi : IntKind.i64.wrap ((i : Int) + 1) = ((i + 1 : Nat) : Int) := by rw [w64i _ (by omega) (by omega)]; rfl
                have HN2 := Asd.mk (HI2.out.setB v2)
                clear hv hx hv2
                go_wp2
                go_roundw
                case rel => exact ⟨i + 1, rfl, by omega, by rw [HV.out]; exact HN2⟩
                case measure => (simp only [intOf]; omega)
              · have hi6 : i = 6 := by omega
                subst hi6
                have hT := List.take_of_length_le (show seg.length ≤ 6 by rw [HSL.out]; omega)
                rw [hT] at HI2
                have hwj : IntKind.i64.wrap (((1 : Nat) : Int) + 1) = ((1 + 1 : Nat) : Int) := rfl
                go_wp2
                go_roundw
                case rel => exact ⟨1 + 1, rfl, by omega, by have h9 := HI2; rw [HSG.out, List.drop_take] at h9; exact h9⟩
                case measure => (simp only [intOf]; omega)
        · have hjN : j = N := by omega
          subst hjN
          have hlen6 : 6 * j ≤ body.length := by omega
          obtain ⟨a, ha⟩ : ∃ a, a = numA j body := ⟨_, rfl⟩
          obtain ⟨b, hb⟩ : ∃ b, b = numB j body := ⟨_, rfl⟩
          obtain ⟨t, ht⟩ : ∃ t, t = body.drop (6 * j) := ⟨_, rfl⟩
          rw [← ha, ← hb] at HL
          have HABT := Asd.mk (And.intro ha (And.intro hb ht))
          clear ha hb ht
          obtain ⟨A7, hcut, _, hrd7, _⟩ := cut_from' (P := Tryz.prog) 31 5 .i64 (sz := 1) Tryz.underlying31 (by kernel_rfl) A body.length c (6 * j) (6 * (j : Int)) (by omega) hlen6 hc
          have hr7 := (hrd7 rfl _ _ HB.out).up HL.out.upd
          rw [← HABT.out.2.2] at hr7
          have hs7 := run_str (P := Tryz.prog) (c := c - 6 * j) Tryz.underlying31 Tryz.underlying5 Tryz.underlying9 hr7
          have hf1 : wr.cell? ⟨w.heap.size, 1, none⟩ = some (.slice A body.length c) := by simp [World.cell?, HL.out.f]
          have hm3 : wr.cell? ⟨w.heap.size + 1 + 1, 3, none⟩ = some (.string { data := #[] }) := by simp [World.cell?, HL.out.m]
          have hz3 : wr.frozen? ⟨w.heap.size + 1 + 1, 3, none⟩ = false := by simp [World.frozen?, HL.out.m]
          have k1 := (Upd.refl (fun i => i = w.heap.size + 1 + 1) wr).setCell (p := ⟨w.heap.size + 1 + 1, 3, none⟩) (fun _ => rfl) (.string (S t))
          have hM := blk_setCell (o := 3) HL.out.m (.string (S t))
          have hR := k1.blk HL.out.r (by omega)
          have HU1 : Asd (Upd (fun _ => False) w (wr.setCell ⟨w.heap.size + 1 + 1, 3, none⟩ (.string (S t)))) := ⟨HL.out.upd.trans k1 (fun i hi e => by omega)⟩
          have c0 : (wr.setCell ⟨w.heap.size + 1 + 1, 3, none⟩ (.string (S t))).cell? ⟨w.heap.size + 1 + 1, 0, none⟩ = some (.int .i64 k) := by simp [World.cell?, hM]
          have c1 : (wr.setCell ⟨w.heap.size + 1 + 1, 3, none⟩ (.string (S t))).cell? ⟨w.heap.size + 1 + 1, 1, none⟩ = some (.int .i64 (a : Int)) := by simp [World.cell?, hM]
          have c2 : (wr.setCell ⟨w.heap.size + 1 + 1, 3, none⟩ (.string (S t))).cell? ⟨w.heap.size + 1 + 1, 2, none⟩ = some (.int .i64 (b : Int)) := by simp [World.cell?, hM]
          have c3 : (wr.setCell ⟨w.heap.size + 1 + 1, 3, none⟩ (.string (S t))).cell? ⟨w.heap.size + 1 + 1, 3, none⟩ = some (.string (S t)) := by simp [World.cell?, hM]
          have HM := Asd.mk hM
          have HRr := Asd.mk hR
          clear hrd7 hr7 k1 hM hR HL
          go_wp2_with fail
          refine (right_calls k a b (S t) _).mono ?_
          rw [S_size]
          rintro e w5 ⟨rfl, hu5⟩
          have HM5 := Asd.mk (hu5.blk HM.out (fun h => h))
          have HR5 := Asd.mk (hu5.blk HRr.out (fun h => h))
          have HU5 : Asd (Upd (fun _ => False) w w5) := ⟨HU1.out.trans hu5 (fun _ _ h => h)⟩
          have HI9 : Asd (isMsg k body = right k a b t.length) := ⟨by unfold isMsg; rw [← HN.out, HKN.out, ← HABT.out.1, ← HABT.out.2.1, ← HABT.out.2.2, decide_eq_true hlen6]; simp⟩
          clear hu5 HM HRr HU1 c0 c1 c2 c3 hs7 hf1 hm3 hz3 hcut
          have d0 : w5.cell? ⟨w.heap.size + 1 + 1, 0, none⟩ = some (.int .i64 k) := by simp [World.cell?, HM5.out]
          have d1 : w5.cell? ⟨w.heap.size + 1 + 1, 1, none⟩ = some (.int .i64 (a : Int)) := by simp [World.cell?, HM5.out]
          have d2 : w5.cell? ⟨w.heap.size + 1 + 1, 2, none⟩ = some (.int .i64 (b : Int)) := by simp [World.cell?, HM5.out]
          have d3 : w5.cell? ⟨w.heap.size + 1 + 1, 3, none⟩ = some (.string (S t)) := by simp [World.cell?, HM5.out]
          obtain ⟨⟨z0, y0⟩, g1, g2, g3, g4⟩ := four HR5.out
          have z1 := fun v0 => (g1 v0).1
          have y1 := fun v0 => (g1 v0).2
          have z2 := fun v0 v1 => (g2 v0 v1).1
          have y2 := fun v0 v1 => (g2 v0 v1).2
          have z3 := fun v0 v1 v2 => (g3 v0 v1 v2).1
          have y3 := fun v0 v1 v2 => (g3 v0 v1 v2).2
          have G4 := Asd.mk g4
          clear g1 g2 g3 g4
          cases hrt : right k a b t.length with
          | false =>
            rw [hrt] at HI9
            clear hrt
            go_wp2
            have q := G4.out (.int .i64 0) (.int .i64 0) (.int .i64 0) (.string { data := #[] })
            refine bodyPost_ret (v := .tuple #[.agg #[.int .i64 0, .int .i64 0, .int .i64 0, .string { data := #[] }], .bool false]) (by simp [results, Tryz.results63, go_sem, World.cell?, q]) rfl (HNone.out _ HI9.out (four_upd HU5.out (by omega) _ _ _ _))
          | true =>
            rw [hrt] at HI9
            clear hrt
            go_wp2
            have q := G4.out (.int .i64 k) (.int .i64 (a : Int)) (.int .i64 (b : Int)) (.string (S t))
            refine bodyPost_ret (v := .tuple #[.agg #[.int .i64 k, .int .i64 (a : Int), .int .i64 (b : Int), .string (S t)], .bool true]) (by simp [results, Tryz.results63, go_sem, World.cell?, q]) rfl ⟨four_upd HU5.out (by omega) _ _ _ _, ?_⟩
            rw [HI9.out, ← HN.out, ← HABT.out.1, ← HABT.out.2.1, ← HABT.out.2.2]
            rfl
end Go.Proofs.YteepkanbiefpjaaGreatDoor.MgOf
set_option linter.unusedVariables false
set_option linter.unusedSimpArgs false
namespace Go.Proofs.YteepkanbiefpjaaGreatDoor.MgFr
open Go.RowKit K Mg MgNum MgOf
theorem right_nat (k a b : Int) (n : Nat) (h : right k a b n = true) : known k = true ∧ n ≤ most k ∧ 0 ≤ a ∧ 0 ≤ b ∧ a ≤ 1099511627776 ∧ b ≤ 1099511627776 ∧ (0 < nums k ∨ a = 0) ∧ (1 < nums k ∨ b = 0) := by
  unfold right at h
  simpa only [Bool.and_eq_true, Bool.or_eq_true, decide_eq_true_eq, beq_iff_eq] using h
theorem two {w : World} {r : Nat} {x0 x1 : Value} {e : TypeId} (h : w.heap[r]? = some (.cells #[x0, x1] e (0, 0))) :
    (w.cell? ⟨r, 0, none⟩ = some x0 ∧ w.frozen? ⟨r, 0, none⟩ = false) ∧
    (∀ v0, (w.setCell ⟨r, 0, none⟩ v0).cell? ⟨r, 1, none⟩ = some x1 ∧ (w.setCell ⟨r, 0, none⟩ v0).frozen? ⟨r, 1, none⟩ = false) ∧
    (∀ v0 v1, ((w.setCell ⟨r, 0, none⟩ v0).setCell ⟨r, 1, none⟩ v1).heap[r]? = some (.cells #[v0, v1] e (0, 0))) := by
  have b0 := fun v0 => blk_setCell (o := 0) h v0
  have b1 := fun v0 v1 => blk_setCell (o := 1) (b0 v0) v1
  refine ⟨⟨by simp [World.cell?, h], by simp [World.frozen?, h]⟩, fun v0 => ⟨by simp [World.cell?, b0], by simp [World.frozen?, b0]⟩, fun v0 v1 => ?_⟩
  rw [b1]
  rfl
def FramePost (k a b : Int) (t : List UInt8) (w : World) (e : Ending) (w' : World) : Prop :=
  Upd (fun _ => False) w w' ∧ (right k a b t.length = false → e = .returned (.tuple #[.agg #[.int .u8 0, .slice none 0 0], .bool false])) ∧
    (right k a b t.length = true → ∃ A c G, e = .returned (.tuple #[.agg #[.int .u8 k, .slice A (mbody k a.toNat b.toNat t).length c], .bool true]) ∧ Own w' 5 1 (.slice A (mbody k a.toNat b.toNat t).length c) (mbody k a.toNat b.toNat t).length (B (mbody k a.toNat b.toNat t)) G ∧ (∀ g, G = some g → w.heap.size ≤ g) ∧ (mbody k a.toNat b.toNat t).length ≤ c ∧ c ≤ maxLen)
set_option maxHeartbeats 4000000 in
set_option maxRecDepth 100000 in
theorem frame_calls (k a b : Int) (t : List UInt8) (w : World) :
    Calls Tryz.prog 56 #[.agg #[.int .i64 k, .int .i64 a, .int .i64 b, .string (S t)]] w (FramePost k a b t w) := by
  obtain ⟨N, hN⟩ : ∃ N, N = nums k := ⟨_, rfl⟩
  have hN2 : N ≤ 2 := by rw [hN]; exact nums_le k
  have HN := Asd.mk hN
  clear hN
  go_enter Tryz.func56, Tryz.ntmps56
  go_wp2_with fail
  refine (shape_calls k _).mono ?_
  rw [← HN.out]
  obtain ⟨M, hM⟩ : ∃ M, M = most k := ⟨_, rfl⟩
  rw [← hM]
  clear hM
  rintro e w1 ⟨rfl, rfl⟩
  have h1 := heap_alloc_new w (.cells #[.int .i64 k, .int .i64 a, .int .i64 b, .string (S t)] 36)
  have h2 := heap_alloc_new (w.alloc (.cells #[.int .i64 k, .int .i64 a, .int .i64 b, .string (S t)] 36)) (.cells #[.int .u8 0, .slice none 0 0] 105)
  rw [show (w.alloc (.cells #[.int .i64 k, .int .i64 a, .int .i64 b, .string (S t)] 36)).heap.size = w.heap.size + 1 by simp] at h2
  have h1 := ((Upd.refl (fun _ => False) _).alloc (.cells #[.int .u8 0, .slice none 0 0] 105)).blk h1 (fun h => h)
  have hU := ((Upd.refl (fun _ => False) w).alloc (.cells #[.int .i64 k, .int .i64 a, .int .i64 b, .string (S t)] 36)).alloc (.cells #[.int .u8 0, .slice none 0 0] 105)
  have H1 := Asd.mk h1
  have H2 := Asd.mk h2
  have HU := Asd.mk hU
  clear h1 h2 hU
  go_wp2_with fail
  refine (right_calls k a b (S t) _).mono ?_
  rw [S_size]
  rintro e w2 ⟨rfl, hu⟩
  have HM2 := Asd.mk (hu.blk H1.out (fun h => h))
  have HR2 := Asd.mk (hu.blk H2.out (fun h => h))
  have HU2 := Asd.mk (HU.out.trans hu (fun _ _ h => h))
  have hs2 : w.heap.size + 2 ≤ w2.heap.size := by have := hu.size; simp at this; omega
  clear hu H1 H2 HU
  cases hrt : right k a b t.length with
  | false =>
    have HF := Asd.mk hrt
    obtain ⟨⟨z0, y0⟩, g1, g2⟩ := two HR2.out
    have z1 := fun v0 => (g1 v0).1
    have y1 := fun v0 => (g1 v0).2
    have G2 := Asd.mk g2
    clear g1 g2 hrt
    go_wp2
    have q := G2.out (.int .u8 0) (.slice none 0 0)
    refine bodyPost_ret (v := .tuple #[.agg #[.int .u8 0, .slice none 0 0], .bool false]) (by simp [results, Tryz.results56, go_sem, World.cell?, q]) rfl ⟨?_, fun _ => rfl, fun h => by rw [HF.out] at h; cases h⟩
    exact (HU2.out.setCell (p := ⟨w.heap.size + 1, 0, none⟩) (fun e => by simp only at e; omega) _).setCell (p := ⟨w.heap.size + 1, 1, none⟩) (fun e => by simp only at e; omega) _
  | true =>
    have HF := Asd.mk hrt
    obtain ⟨hkn, htl, ha0, hb0, ha1, hb1, _, _⟩ := right_nat k a b t.length hrt
    obtain ⟨a, rfl⟩ : ∃ x : Nat, a = (x : Int) := ⟨a.toNat, by omega⟩
    obtain ⟨b, rfl⟩ : ∃ x : Nat, b = (x : Int) := ⟨b.toNat, by omega⟩
    have hk15 : 1 ≤ k ∧ k ≤ 15 := of_decide_eq_true hkn
    have htl2 : t.length ≤ 2042 := Nat.le_trans htl (most_le k)
    have ha : a ≤ 1099511627776 := by omega
    have hb : b ≤ 1099511627776 := by omega
    have hx1 : w2.cell? ⟨w.heap.size, 1, none⟩ = some (.int .i64 (a : Int)) := by simp [World.cell?, HM2.out]
    have hx2 : w2.cell? ⟨w.heap.size, 2, none⟩ = some (.int .i64 (b : Int)) := by simp [World.cell?, HM2.out]
    obtain ⟨R, hR⟩ : ∃ R, R = mbody k a b t := ⟨_, rfl⟩
    have HR := Asd.mk (show R = (num6 a ++ num6 b).take (6 * N) ++ t by rw [hR, HN.out]; rfl)
    have HRL := Asd.mk (show R.length = 6 * N + t.length by rw [hR, mbody_length, HN.out])
    have HRD := Asd.mk hR
    have hN2i : (N : Int) ≤ 2 := by omega
    clear hR hrt hkn htl ha0 hb0 ha1 hb1
    go_wp2
    clear hx1 hx2
    go_loopw [7, 29] (fun v7 v29 wr => ∃ (j pl : Nat) (Ab : Option Addr) (cb : Nat) (Gb : Option Nat), j ≤ N ∧ v29 = .int .i64 (j : Int) ∧ v7 = .slice Ab pl cb ∧ Asd (pl = 6 * j) ∧ pl ≤ 12 ∧ pl ≤ cb ∧ cb ≤ maxLen ∧ Asd (Own wr 5 1 (.slice Ab pl cb) pl (B ((num6 a ++ num6 b).take (6 * j))) Gb) ∧ Asd (∀ g, Gb = some g → (w2.alloc (.cells #[.int .i64 (a : Int), .int .i64 (b : Int)] 2)).heap.size ≤ g) ∧ Asd (Upd (fun _ => False) (w2.alloc (.cells #[.int .i64 (a : Int), .int .i64 (b : Int)] 2)) wr)) (fun _ v29 _ => N - (intOf v29).toNat)
    case atStart => exact ⟨0, 0, none, 0, none, by omega, rfl, rfl, ⟨rfl⟩, by omega, by omega, by simp [maxLen], ⟨Own.nil _ _ _⟩, ⟨fun g e => by cases e⟩, ⟨Upd.refl _ _⟩⟩
    case round =>
      obtain ⟨j, pl, Ab, cb, Gb, hj, rfl, rfl, HPl, hpl, hplc, hcm, HO, HG, HW⟩ := hrel
      have HAr := Asd.mk (HW.out.blk (heap_alloc_new w2 (.cells #[.int .i64 (a : Int), .int .i64 (b : Int)] 2)) (fun h => h))
      by_cases hlt : j < N
      · rcases (by omega : j = 0 ∨ j = 1) with rfl | rfl
        · have hp := HPl.out
          subst hp
          have hc0 : wr.cell? ⟨w2.heap.size, 0, none⟩ = some (.int .i64 (a : Int)) := by simp [World.cell?, HAr.out]
          have hwi : IntKind.i64.wrap (((0 : Nat) : Int) + 1) = ((1 : Nat) : Int) := rfl
          go_wp2_with fail
          refine (number_calls Ab cb ((num6 a ++ num6 b).take 0) a Gb (w2.alloc (.cells #[.int .i64 (a : Int), .int .i64 (b : Int)] 2)) wr HW.out HO.out HG.out ha (by rw [show ((num6 a ++ num6 b).take 0).length = 0 from rfl]; omega)).mono ?_
          rw [show ((num6 a ++ num6 b).take 0).length + 6 = 6 from rfl, show (num6 a ++ num6 b).take 0 ++ num6 a = (num6 a ++ num6 b).take (6 * 1) from rfl]
          rintro e w5 ⟨A5, c5, G5, rfl, ho5, hg5, hu5⟩
          obtain ⟨_, _, hv, hc5, hm5, _, _⟩ := ho5.slice
          injection hv with e1 e2 e3
          subst e1
          subst e3
          have HO5 := Asd.mk ho5
          have HG5 := Asd.mk hg5
          have HU5 := Asd.mk hu5
          clear ho5 hg5 hu5 HO HG HW HAr hc0
          go_wp2
          go_roundw
          case rel => exact ⟨1, 6, A5, c5, G5, by omega, rfl, rfl, ⟨rfl⟩, by omega, hc5, hm5, HO5, HG5, HU5⟩
          case measure => (simp only [intOf]; omega)
        · have hp := HPl.out
          subst hp
          have hc0 : wr.cell? ⟨w2.heap.size, 1, none⟩ = some (.int .i64 (b : Int)) := by simp [World.cell?, HAr.out]
          have hwi : IntKind.i64.wrap (((1 : Nat) : Int) + 1) = ((2 : Nat) : Int) := rfl
          go_wp2_with fail
          refine (number_calls Ab cb ((num6 a ++ num6 b).take 6) b Gb (w2.alloc (.cells #[.int .i64 (a : Int), .int .i64 (b : Int)] 2)) wr HW.out HO.out HG.out hb (by rw [show ((num6 a ++ num6 b).take 6).length = 6 from rfl]; omega)).mono ?_
          rw [show ((num6 a ++ num6 b).take 6).length + 6 = 12 from rfl, show (num6 a ++ num6 b).take 6 ++ num6 b = (num6 a ++ num6 b).take (6 * 2) from rfl]
          rintro e w5 ⟨A5, c5, G5, rfl, ho5, hg5, hu5⟩
          obtain ⟨_, _, hv, hc5, hm5, _, _⟩ := ho5.slice
          injection hv with e1 e2 e3
          subst e1
          subst e3
          have HO5 := Asd.mk ho5
          have HG5 := Asd.mk hg5
          have HU5 := Asd.mk hu5
          clear ho5 hg5 hu5 HO HG HW HAr hc0
          go_wp2
          go_roundw
          case rel => exact ⟨2, 12, A5, c5, G5, by omega, rfl, rfl, ⟨rfl⟩, by omega, hc5, hm5, HO5, HG5, HU5⟩
          case measure => (simp only [intOf]; omega)
      · have hjN : j = N := by omega
        subst hjN
        have hu3 := ((Upd.refl (fun _ => False) w2).alloc (.cells #[.int .i64 (a : Int), .int .i64 (b : Int)] 2)).trans HW.out (fun _ _ h => h)
        have HM3 := Asd.mk (hu3.blk HM2.out (fun h => h))
        have HR3 := Asd.mk (hu3.blk HR2.out (fun h => h))
        have HU3 := Asd.mk (HU2.out.trans hu3 (fun _ _ h => h))
        have HU23 := Asd.mk hu3
        have hs3 : w.heap.size + 2 ≤ wr.heap.size := by have := hu3.size; omega
        have hx0 : wr.cell? ⟨w.heap.size, 0, none⟩ = some (.int .i64 k) := by simp [World.cell?, HM3.out]
        have hx3 : wr.cell? ⟨w.heap.size, 3, none⟩ = some (.string (S t)) := by simp [World.cell?, HM3.out]
        have hkm : k % 256 = k := by omega
        have hku : IntKind.u8.wrap k = k := by simp only [IntKind.wrap, IntKind.signed, IntKind.bits]; simp; omega
        have HG3 : Asd (∀ g, Gb = some g → w2.heap.size ≤ g) := ⟨fun g e => by have := HG.out g e; simp at this; omega⟩
        clear hu3 HG HAr
        go_wp2
        go_region_law (with_reducible refine gate_appS (.tmp 40) (.tmp 42) 31 9 rfl ?_; refine step_appendS (S' := fun _ => False) (w0 := w2) (by repeat (first | exact HU23.out | refine Upd.drewN ?_ _ | refine Upd.drew ?_)) (pl + t.length) 5 ((num6 a ++ num6 b).take (6 * j)) t Gb Ab pl cb (by rfl) (.tmp 40) (.tmp 42) 31 9 (by rfl) Tryz.underlying31 Tryz.underlying9 info8 (by simp [Act.eval, Act.put]) (by simp [Act.eval, Act.put]) (HO.out.upd (S := fun _ => False) (by repeat (first | exact Upd.refl _ _ | refine Upd.drewN ?_ _ | refine Upd.drew ?_)) (fun _ _ h => h)) HG3.out (by rfl) (by omega) ?_; intro A5 c5 w5 G5 hc5 hm5 hO5 hG5 hu5; rw [← HR.out] at hO5; have hm5b := hu5.blk HM2.out (fun h => h); have hy0 : w5.cell? ⟨w.heap.size, 0, none⟩ = some (.int .i64 k) := (by simp [World.cell?, hm5b]); obtain ⟨⟨z0, y0⟩, g1, g2⟩ := two (hu5.blk HR2.out (fun h => h)); have z1 := (fun v0 => (g1 v0).1); have y1 := (fun v0 => (g1 v0).2); have G2 := Asd.mk g2; have HO5 := Asd.mk hO5; have HG5 := Asd.mk hG5; have HU5 := Asd.mk hu5; clear hO5 hG5 hu5 g1 g2 hm5b)
        all_goals
          go_wp2
          have q := G2.out (.int .u8 k) (.slice A5 (pl + t.length) c5)
          have hRl : R.length = pl + t.length := by rw [HRL.out, HPl.out]
          refine bodyPost_ret (v := .tuple #[.agg #[.int .u8 k, .slice A5 (pl + t.length) c5], .bool true]) (by simp [results, Tryz.results56, go_sem, World.cell?, q, hkm]) rfl ⟨?_, fun h => by (rw [HF.out] at h; cases h), fun _ => ⟨A5, c5, G5, ?_, ?_, fun g e => ?_, ?_, hm5⟩⟩
          · exact ((HU2.out.trans HU5.out (fun _ _ h => h)).setCell (p := ⟨w.heap.size + 1, 0, none⟩) (fun e => by simp only at e; omega) _).setCell (p := ⟨w.heap.size + 1, 1, none⟩) (fun e => by simp only at e; omega) _
          · rw [Int.toNat_natCast, Int.toNat_natCast, ← HRD.out, hRl]
          · rw [Int.toNat_natCast, Int.toNat_natCast, ← HRD.out, hRl]
            exact HO5.out.upd (((Upd.refl (fun i => i = w.heap.size + 1) _).setCell (fun _ => rfl) _).setCell (fun _ => rfl) _) (fun g e e2 => by have := HG5.out g e; omega)
          · have := HG5.out g e
            omega
          · rw [Int.toNat_natCast, Int.toNat_natCast, ← HRD.out, hRl]
            exact hc5
end Go.Proofs.YteepkanbiefpjaaGreatDoor.MgFr
set_option linter.unusedVariables false
set_option linter.unusedSimpArgs false
namespace Go.Proofs.YteepkanbiefpjaaGreatDoor.MgHead
open Go.RowKit K Mg MgNum MgOf MgFr
end Go.Proofs.YteepkanbiefpjaaGreatDoor.MgHead
set_option linter.unusedVariables false
set_option linter.unusedSimpArgs false
namespace Go.Proofs.YteepkanbiefpjaaGreatDoor.RgLasts
open Go.RowKit K Rg
theorem Its.far {w w1 : World} {q g : Nat} (h1 : w.heap.size ≤ q) (h2 : w.heap.size ≤ g) (k : Upd (Its q g) w w1) : Upd (fun _ => False) w w1 :=
  k.mono (fun i hi h => by rcases h with rfl | rfl <;> omega)
def fb (c i : Nat) : UInt8 := UInt8.ofNat (c + i % 128)
end Go.Proofs.YteepkanbiefpjaaGreatDoor.RgLasts
set_option linter.unusedVariables false
set_option linter.unusedSimpArgs false
namespace Go.Proofs.YteepkanbiefpjaaGreatDoor.MgLawOf
open Go.RowKit K Mg MgNum MgOf MgFr MgHead
end Go.Proofs.YteepkanbiefpjaaGreatDoor.MgLawOf
namespace Go.Proofs.YteepkanbiefpjaaGreatDoor.Crc
def P : BitVec 16 := 0x1021#16
def T (x : BitVec 16) : BitVec 16 := if x.msb then (x <<< 1) ^^^ P else x <<< 1
def F (x : BitVec 16) (b : Bool) : BitVec 16 := if b != x.msb then (x <<< 1) ^^^ P else x <<< 1
def run (s : BitVec 16) (g : Nat → Bool) : Nat → BitVec 16
  | 0 => s
  | n + 1 => F (run s g n) (g n)
def pow : Nat → BitVec 16 → BitVec 16
  | 0, x => x
  | n + 1, x => T (pow n x)
theorem shl_xor (y d : BitVec 16) : (y ^^^ d) <<< 1 = (y <<< 1) ^^^ (d <<< 1) := by
  ext i hi; simp [BitVec.getElem_shiftLeft]; by_cases h : i = 0 <;> simp [h]
theorem xor3 (x y p : BitVec 16) : (x ^^^ p) ^^^ (y ^^^ p) = x ^^^ y := by
  ext i hi; simp; cases x[i] <;> cases y[i] <;> cases p[i] <;> rfl
theorem xor_swap (x y p : BitVec 16) : (x ^^^ y) ^^^ p = (x ^^^ p) ^^^ y := by
  ext i hi; simp; cases x[i] <;> cases y[i] <;> cases p[i] <;> rfl
theorem xor_cancel (x y : BitVec 16) : x ^^^ y ^^^ y = x := by
  ext i hi; simp
theorem xor_zero_iff (x y : BitVec 16) : x ^^^ y = 0#16 ↔ x = y := by
  constructor
  · intro h
    have := xor_cancel x y
    rw [h] at this
    rw [← this]; simp
  · rintro rfl; simp
theorem T_F (y d : BitVec 16) : T (y ^^^ d) = F y d.msb ^^^ (d <<< 1) := by
  unfold T F
  rw [BitVec.msb_xor, shl_xor]
  cases y.msb <;> cases d.msb <;> simp <;> exact xor_swap _ _ _
theorem F_lin (x y : BitVec 16) (a b : Bool) : F (x ^^^ y) (a ^^ b) = F x a ^^^ F y b := by
  unfold F
  rw [BitVec.msb_xor, shl_xor]
  cases x.msb <;> cases y.msb <;> cases a <;> cases b <;> simp <;> first | exact xor_swap _ _ _ | exact (xor3 _ _ _).symm | exact BitVec.xor_assoc _ _ _
theorem F_false (x : BitVec 16) : F x false = T x := by unfold F T; cases x.msb <;> rfl
theorem F_true (x : BitVec 16) : F x true = T x ^^^ P := by unfold F T; cases x.msb <;> simp [xor_cancel]
theorem T_lin (x y : BitVec 16) : T (x ^^^ y) = T x ^^^ T y := by
  have := F_lin x y false false
  simpa [F_false] using this
theorem T_zero : T 0#16 = 0#16 := by decide
theorem T_eq_zero (x : BitVec 16) (h : T x = 0#16) : x = 0#16 := by
  unfold T at h
  split at h
  · have h1 : ((x <<< 1) ^^^ P).getLsbD 0 = false := by rw [h]; rfl
    simp [P] at h1
  · rename_i hm
    have hm : x.msb = false := by simpa using hm
    ext i hi
    by_cases h15 : i = 15
    · subst h15
      simp [BitVec.msb_eq_getLsbD_last] at hm
      simpa using hm
    · have h2 : (x <<< 1).getLsbD (i + 1) = false := by rw [h]; simp
      simp [show i + 1 < 16 by omega] at h2
      simpa [BitVec.getLsbD_eq_getElem hi] using h2
theorem T_inj (x y : BitVec 16) (h : T x = T y) : x = y := by
  have h1 : T (x ^^^ y) = 0#16 := by rw [T_lin, h]; simp
  exact (xor_zero_iff x y).1 (T_eq_zero _ h1)
theorem pow_inj (n : Nat) (x y : BitVec 16) (h : pow n x = pow n y) : x = y := by
  induction n with
  | zero => exact h
  | succ n ih => exact ih (T_inj _ _ h)
theorem pow_zero (n : Nat) : pow n 0#16 = 0#16 := by
  induction n with
  | zero => rfl
  | succ n ih => rw [pow, ih, T_zero]
theorem pow_ne (n : Nat) (x : BitVec 16) (h : x ≠ 0#16) : pow n x ≠ 0#16 := fun e => h (pow_inj n x 0#16 (e.trans (pow_zero n).symm))
theorem pow_add (m n : Nat) (x : BitVec 16) : pow (m + n) x = pow n (pow m x) := by
  induction n with
  | zero => rfl
  | succ n ih => rw [← Nat.add_assoc, pow, ih, pow]
theorem run_add (s : BitVec 16) (g : Nat → Bool) (m n : Nat) : run s g (m + n) = run (run s g m) (fun i => g (m + i)) n := by
  induction n with
  | zero => rfl
  | succ n ih => rw [← Nat.add_assoc, run, ih, run]
theorem run_congr (s : BitVec 16) (g h : Nat → Bool) (n : Nat) (e : ∀ i, i < n → g i = h i) : run s g n = run s h n := by
  induction n with
  | zero => rfl
  | succ n ih => rw [run, run, ih (fun i hi => e i (by omega)), e n (by omega)]
theorem run_false (s : BitVec 16) (g : Nat → Bool) (n : Nat) (e : ∀ i, i < n → g i = false) : run s g n = pow n s := by
  induction n with
  | zero => rfl
  | succ n ih => rw [run, pow, ih (fun i hi => e i (by omega)), e n (by omega), F_false]
theorem pow_run (x d : BitVec 16) (n : Nat) (hn : n ≤ 16) : pow n (x ^^^ d) = run x (fun i => d.getMsbD i) n ^^^ (d <<< n) := by
  induction n with
  | zero => simp [pow, run]
  | succ n ih =>
    rw [pow, ih (by omega), T_F, run]
    have h1 : (d <<< n).msb = d.getMsbD n := by
      rw [BitVec.msb_eq_getLsbD_last, BitVec.getMsbD]
      simp [show n < 16 by omega, show ¬ 15 < n by omega]
      rw [BitVec.getLsbD_eq_getElem (by omega)]
    rw [h1, ← BitVec.shiftLeft_add]
def bitOf (c : UInt8) (i : Nat) : Bool := c.toBitVec.getLsbD (7 - i)
def byte (s : BitVec 16) (c : UInt8) : BitVec 16 := run s (bitOf c) 8
def crc (s : BitVec 16) (l : List UInt8) : BitVec 16 := l.foldl byte s
def wide (c : UInt8) : BitVec 16 := c.toBitVec.setWidth 16 <<< 8
theorem byte_pow (x : BitVec 16) (c : UInt8) : pow 8 (x ^^^ wide c) = byte x c := by
  rw [pow_run x (wide c) 8 (by omega)]
  have h0 : wide c <<< 8 = 0#16 := by
    ext i hi
    simp [wide]
  rw [h0]
  simp only [BitVec.xor_zero]
  refine run_congr _ _ _ _ fun i hi => ?_
  unfold wide bitOf
  rw [BitVec.getMsbD]
  simp [show i < 16 by omega, show 15 - i < 16 by omega, show ¬ (15 - i < 8) by omega]
  congr 1
  omega
theorem crc_append (s : BitVec 16) (l m : List UInt8) : crc s (l ++ m) = crc (crc s l) m := by simp [crc, List.foldl_append]
theorem burst (g : Nat → Bool) (n p q : Nat) (h : ∀ i, g i = true → p ≤ i ∧ i < p + 16) (hq : q < n) (hg : g q = true) : run 0#16 g n ≠ 0#16 := by
  have hp := h q hg
  obtain ⟨m, hm1, hm2, hm3⟩ : ∃ m, m ≤ 16 ∧ p + m ≤ n ∧ q < p + m ∧ (m = 16 ∨ p + m = n) := by
    rcases Nat.le_total (p + 16) n with h1 | h1
    · exact ⟨16, by omega, h1, by omega, .inl rfl⟩
    · exact ⟨n - p, by omega, by omega, by omega, .inr (by omega)⟩
  obtain ⟨hm3, hm4⟩ := hm3
  let bs := (List.range 16).map fun i => decide (i < m) && g (p + i)
  have hbs : bs.length = 16 := by simp [bs]
  let D : BitVec 16 := (BitVec.ofBoolListBE bs).cast hbs
  have hD : ∀ i, i < 16 → D.getMsbD i = (decide (i < m) && g (p + i)) := by
    intro i hi
    simp [D, bs, hi]
  have hne : D ≠ 0#16 := by
    intro e
    have := hD (q - p) (by omega)
    rw [e] at this
    simp [show q - p < m by omega, show p + (q - p) = q by omega, hg] at this
  have e1 : run 0#16 g p = 0#16 := by
    rw [run_false _ _ _ (fun i hi => by
      cases hgi : g i with
      | false => rfl
      | true => have := h i hgi; omega), pow_zero]
  have e2 : run 0#16 g (p + m) = pow m D := by
    rw [run_add, e1]
    have := pow_run 0#16 D m hm1
    have hz : D <<< m = 0#16 := by
      apply BitVec.eq_of_getMsbD_eq
      intro i hi
      rw [BitVec.getMsbD_shiftLeft]
      rcases Nat.lt_or_ge (i + m) 16 with h1 | h1
      · rw [hD _ h1]
        simp [show ¬ i + m < m by omega]
      · rw [BitVec.getMsbD_of_ge _ _ h1]
        simp
    rw [hz] at this
    simp only [BitVec.zero_xor, BitVec.xor_zero] at this
    rw [this]
    refine run_congr _ _ _ _ fun i hi => ?_
    rw [hD i (by omega)]
    simp [hi]
  have e3 : run 0#16 g n = pow (n - (p + m)) (pow m D) := by
    have : n = (p + m) + (n - (p + m)) := by omega
    rw [this, run_add, e2, run_false]
    · congr 1
      omega
    · intro i hi
      cases hgi : g (p + m + i) with
      | false => rfl
      | true =>
        have := h _ hgi
        omega
  rw [e3]
  exact pow_ne _ _ (pow_ne _ _ hne)
def chk : Nat → BitVec 16 → Bool
  | 0, _ => true
  | n + 1, x => (T x != P) && chk n (T x)
theorem chk_ok : chk 2400 P = true := by decide +kernel
theorem chk_pow (n : Nat) : ∀ x, chk n x = true → ∀ k, 0 < k → k ≤ n → pow k x ≠ P := by
  induction n with
  | zero => intro x _ k h0 h1; omega
  | succ n ih =>
    intro x hx k h0 h1
    simp only [chk, Bool.and_eq_true, bne_iff_ne, ne_eq] at hx
    obtain ⟨k, rfl⟩ : ∃ m, k = 1 + m := ⟨k - 1, by omega⟩
    rw [pow_add]
    rcases Nat.eq_zero_or_pos k with h2 | h2
    · subst h2
      exact hx.1
    · exact ih (T x) hx.2 k h2 (by omega)
theorem two (g : Nat → Bool) (n i j : Nat) (hij : i < j) (hj : j < n) (hn : j - i ≤ 2400) (h : ∀ k, g k = true ↔ k = i ∨ k = j) : run 0#16 g n ≠ 0#16 := by
  have hf : ∀ k, k ≠ i → k ≠ j → g k = false := fun k h1 h2 => by
    cases hg : g k with
    | false => rfl
    | true => rcases (h k).1 hg with h3 | h3 <;> contradiction
  have e1 : run 0#16 g i = 0#16 := by rw [run_false _ _ _ (fun k hk => hf k (by omega) (by omega)), pow_zero]
  have e2 : run 0#16 g (i + 1) = P := by rw [run, e1, (h i).2 (.inl rfl)]; decide
  have e3 : run 0#16 g j = pow (j - i - 1) P := by
    have : j = (i + 1) + (j - i - 1) := by omega
    rw [this, run_add, e2, run_false _ _ _ (fun k hk => hf _ (by omega) (by omega))]
    congr 1
    omega
  have e4 : run 0#16 g (j + 1) = pow (j - i) P ^^^ P := by
    rw [run, e3, (h j).2 (.inr rfl), F_true]
    have : j - i = (j - i - 1) + 1 := by omega
    rw [this, pow]
    congr 3
  have e5 : run 0#16 g n = pow (n - (j + 1)) (pow (j - i) P ^^^ P) := by
    have : n = (j + 1) + (n - (j + 1)) := by omega
    rw [this, run_add, e4, run_false _ _ _ (fun k hk => hf _ (by omega) (by omega))]
    congr 1
    omega
  rw [e5]
  refine pow_ne _ _ fun e => ?_
  exact chk_pow 2400 P chk_ok (j - i) (by omega) hn ((xor_zero_iff _ _).1 e)
end Go.Proofs.YteepkanbiefpjaaGreatDoor.Crc
set_option linter.unusedVariables false
set_option linter.unusedSimpArgs false
namespace Go.Proofs.YteepkanbiefpjaaGreatDoor.Sm
open Go.RowKit K Crc
def n16 (x : BitVec 16) : Int := (x.toNat : Int)
theorem n16_bound (x : BitVec 16) : 0 ≤ n16 x ∧ n16 x < 65536 := by unfold n16; have := x.isLt; omega
theorem n16_inj {x y : BitVec 16} : n16 x = n16 y ↔ x = y := by
  unfold n16
  constructor
  · intro h; exact BitVec.eq_of_toNat_eq (by omega)
  · rintro rfl; rfl
theorem wrap16 (n : Int) : IntKind.u16.wrap n = n % 65536 := by simp [IntKind.wrap, IntKind.bits, IntKind.signed]
theorem ofInt_n16 (x : BitVec 16) : BitVec.ofInt 16 (n16 x) = x := by
  apply BitVec.eq_of_toNat_eq
  have := x.isLt
  unfold n16
  simp
theorem wrap_n16 (x : BitVec 16) : IntKind.u16.wrap ((x.toNat : Nat) : Int) = n16 x := by
  rw [wrap16]
  have := n16_bound x
  unfold n16 at this ⊢
  omega
theorem xor16 (x y : BitVec 16) : Go.bits .xor .u16 (n16 x) (n16 y) = n16 (x ^^^ y) := by
  unfold Go.bits
  simp only [IntKind.bits, ofInt_n16]
  exact wrap_n16 _
theorem and16 (x y : BitVec 16) : Go.bits .and .u16 (n16 x) (n16 y) = n16 (x &&& y) := by
  unfold Go.bits
  simp only [IntKind.bits, ofInt_n16]
  exact wrap_n16 _
theorem shl1 (x : BitVec 16) : IntKind.u16.wrap (n16 x * 2) = n16 (x <<< 1) := by
  rw [wrap16]
  unfold n16
  simp [Nat.shiftLeft_eq]
theorem wide16 (c : UInt8) : IntKind.u16.wrap (IntKind.u16.wrap (c.toNat : Int) * 256) = n16 (wide c) := by
  rw [wrap16, wrap16]
  have := c.toNat_lt
  unfold n16 wide
  simp [Nat.shiftLeft_eq]
  omega
theorem bit15 : ∀ i, i < 16 → (0x8000#16).getLsbD i = decide (i = 15) := by decide
theorem top_and (x : BitVec 16) : (x &&& 0x8000#16) = if x.msb then 0x8000#16 else 0#16 := by
  apply BitVec.eq_of_getLsbD_eq
  intro i hi
  rw [BitVec.getLsbD_and, bit15 i hi, BitVec.msb_eq_getLsbD_last]
  by_cases e : i = 15
  · subst e
    cases h : x.getLsbD 15 <;> simp [h]
  · cases h : x.getLsbD 15 <;> simp [h, e, bit15 i hi]
theorem top16 (x : BitVec 16) : (Go.bits .and .u16 (n16 x) 32768 != 0) = x.msb := by
  have h : (32768 : Int) = n16 0x8000#16 := rfl
  rw [h, and16, top_and]
  have h0 : (0 : Int) = n16 0#16 := rfl
  rw [h0]
  cases x.msb with
  | true =>
    simp only [if_true]
    rw [bne_iff_ne, ne_eq, n16_inj]
    exact fun e => absurd (congrArg (fun z : BitVec 16 => z.getLsbD 15) e) (by simp)
  | false => simp
theorem poly16 : (4129 : Int) = n16 P := rfl
theorem step16 (x : BitVec 16) (h : x.msb = true) : Go.bits .xor .u16 (IntKind.u16.wrap (n16 x * 2)) 4129 = n16 (T x) := by
  rw [shl1, poly16, xor16]
  unfold T
  rw [if_pos h]
theorem step16' (x : BitVec 16) (h : x.msb = false) : IntKind.u16.wrap (n16 x * 2) = n16 (T x) := by
  rw [shl1]
  unfold T
  rw [h]
  rfl
theorem _root_.Go.Proofs.YteepkanbiefpjaaGreatDoor.K.Dr.rd {w w' : World} {A : Option Addr} {n : Nat} {l : List UInt8} (h : Dr w w') (hr : Rd w A n l) : Rd w' A n l := hr.upd (h.upd (fun _ => False)) (fun _ _ h => h)
theorem crc_snoc (s : BitVec 16) (l : List UInt8) (k : Nat) (h : k < l.length) : crc s (l.take (k + 1)) = byte (crc s (l.take k)) l[k] := by
  rw [List.take_succ_eq_append_getElem h, crc_append]; rfl
set_option maxHeartbeats 1000000 in
set_option maxRecDepth 100000 in
theorem more_calls (s : BitVec 16) (A : Option Addr) (n c : Nat) (l : List UInt8) (w : World) (hr : Rd w A n l) :
    Calls Tryz.prog 109 #[.int .u16 (n16 s), .slice A n c] w fun e w' => e = .returned (.int .u16 (n16 (crc s l))) ∧ Dr w w' := by
  have HR := Asd.mk hr
  have hlim := hr.lim
  have HL := Asd.mk hr.len
  clear hr
  go_enter Tryz.func109, Tryz.ntmps109
  go_wp2
  go_loopw [0, 9] (fun v0 v9 w' => ∃ k : Nat, k ≤ n ∧ v9 = .int .i64 k ∧ v0 = .int .u16 (n16 (crc s (l.take k))) ∧ Dr w w') (fun _ v9 _ => n - (intOf v9).toNat)
  case atStart => exact ⟨0, Nat.zero_le _, rfl, rfl, 0, rfl⟩
  case round =>
    obtain ⟨k, hk, rfl, rfl, m, rfl⟩ := hrel
    by_cases hlt : k < n
    · obtain ⟨ad, e, hc⟩ := HR.out.at k hlt
      subst e
      have hkl : k < l.length := by rw [HL.out]; exact hlt
      obtain ⟨b, hb⟩ : ∃ b : UInt8, b = l[k] := ⟨_, rfl⟩
      have hc' : w.cell? (ad.add k) = some (.int .u8 (b.toNat : Int)) := by rw [hb]; exact hc
      clear hc
      obtain ⟨x, hx⟩ : ∃ x, x = crc s (l.take k) := ⟨_, rfl⟩
      have HX : Asd (byte x b = crc s (l.take (k + 1))) := ⟨by rw [hx, hb, crc_snoc s l k hkl]⟩
      rw [← hx]
      clear hx hb
      go_wp2
      go_loop [0, 18] (fun v0 v18 => ∃ j : Nat, j ≤ 8 ∧ v18 = .int .i64 j ∧ v0 = .int .u16 (n16 (pow j (x ^^^ wide b)))) (fun _ v18 => 8 - (intOf v18).toNat)
      case atStart => exact ⟨0, by omega, rfl, by simp only [pow]; rw [← xor16, ← wide16]⟩
      case round =>
        obtain ⟨j, hj, rfl, rfl⟩ := hrel
        obtain ⟨y, hy⟩ : ∃ y, y = pow j (x ^^^ wide b) := ⟨_, rfl⟩
        rw [← hy]
        have HY := Asd.mk hy
        clear hy
        by_cases hj8 : j < 8
        · have ht := top16 y
          cases hm : y.msb with
          | true =>
            rw [hm] at ht
            have HM := Asd.mk hm
            clear hm
            go_wp2
            go_round
            case rel => exact ⟨j + 1, by omega, by go_num, by rw [step16 y HM.out, pow, HY.out]⟩
            case measure => simp [intOf]; omega
          | false =>
            rw [hm] at ht
            have HM := Asd.mk hm
            clear hm
            go_wp2
            go_round
            case rel => exact ⟨j + 1, by omega, by go_num, by rw [step16' y HM.out, pow, HY.out]⟩
            case measure => simp [intOf]; omega
        · obtain rfl : j = 8 := by omega
          have HZ : Asd (y = crc s (l.take (k + 1))) := ⟨by rw [HY.out, byte_pow, HX.out]⟩
          clear HY
          go_wp2
          go_roundw
          case rel => exact ⟨k + 1, by omega, by go_num, by rw [HZ.out], m, rfl⟩
          case measure => simp [intOf]; omega
    · have HT : Asd (l.take k = l) := ⟨List.take_of_length_le (by rw [HL.out]; omega)⟩
      go_wp2
      go_ret
      exact ⟨by rw [HT.out]; rfl, m, rfl⟩
set_option maxHeartbeats 400000 in
theorem of_calls (A : Option Addr) (n c : Nat) (l : List UInt8) (w : World) (hr : Rd w A n l) :
    Calls Tryz.prog 86 #[.slice A n c] w fun e w' => e = .returned (.int .u16 (n16 (crc 0xffff#16 l))) ∧ Dr w w' := by
  have HR := Asd.mk hr
  clear hr
  go_enter Tryz.func86, Tryz.ntmps86
  go_wp2_with fail
  refine (more_calls 0xffff#16 A n c l _ HR.out).mono ?_
  rintro e w' ⟨rfl, m, rfl⟩
  go_wp2
  go_ret
  exact ⟨rfl, m, rfl⟩
end Go.Proofs.YteepkanbiefpjaaGreatDoor.Sm
set_option linter.unusedVariables false
set_option linter.unusedSimpArgs false
namespace Go.Proofs.YteepkanbiefpjaaGreatDoor.Fr
open Go.RowKit K Crc Sm
theorem info8 : (Tryz.prog.info? 5).map (fun i => (i.zero, i.size, i.bytes)) = some (some (.int .u8 0), 1, 1) := by kernel_rfl
def sumOf (kind : UInt8) (body : List UInt8) : BitVec 16 := crc 0xffff#16 (kind :: body)
def fbytes (kind : UInt8) (body : List UInt8) : List UInt8 :=
  [UInt8.ofNat ((body.length + 1) / 256), UInt8.ofNat (body.length + 1), kind] ++ body ++ [UInt8.ofNat ((sumOf kind body).toNat / 256), UInt8.ofNat (sumOf kind body).toNat]
set_option maxHeartbeats 400000 in
theorem right_calls (kind : Int) (A : Option Addr) (n c : Nat) (w : World) :
    Calls Tryz.prog 85 #[.agg #[.int .u8 kind, .slice A n c]] w fun e w' => e = .returned (.bool (decide (n ≤ 2048))) ∧ Upd (fun _ => False) w w' := by
  go_enter Tryz.func85, Tryz.ntmps85
  go_wp2
  go_ret
  have e : decide ((n : Int) ≤ 2048) = decide (n ≤ 2048) := by rw [decide_eq_decide]; omega
  exact ⟨by rw [← e]; rfl, (Upd.refl _ _).alloc _⟩
def PutPost (l : List UInt8) (w : World) (e : Ending) (w' : World) : Prop :=
  ∃ A c G, e = .returned (.slice A l.length c) ∧ Own w' 5 1 (.slice A l.length c) l.length (B l) G ∧ (∀ g, G = some g → w.heap.size ≤ g) ∧ l.length ≤ c ∧ c ≤ maxLen ∧ Upd (fun _ => False) w w'
theorem two_bytes (x : BitVec 16) : #[Value.int .u8 (n16 x / 256 % 256), .int .u8 (n16 x % 256)] = (B [UInt8.ofNat (x.toNat / 256), UInt8.ofNat x.toNat]).toArray := by
  have h1 : n16 x / 256 % 256 = ((UInt8.ofNat (x.toNat / 256)).toNat : Int) := by unfold n16; simp
  have h2 : n16 x % 256 = ((UInt8.ofNat x.toNat).toNat : Int) := by unfold n16; simp
  rw [h1, h2]; rfl
set_option maxHeartbeats 2000000 in
theorem put_ok (A : Option Addr) (n c : Nat) (b : List UInt8) (kind : UInt8) (A2 : Option Addr) (c2 : Nat) (body : List UInt8) (w : World) (hb : Rd w A n b) (hr : Rd w A2 body.length body) (hn : n ≤ 140737488351232) (h2 : body.length ≤ 2048) :
    Calls Tryz.prog 57 #[.slice A n c, .agg #[.int .u8 (kind.toNat : Int), .slice A2 body.length c2]] w (PutPost (b ++ fbytes kind body) w) := by
  have HB := Asd.mk hb
  have HR := Asd.mk hr
  clear hb hr
  go_enter Tryz.func57, Tryz.ntmps57
  go_wp2_with fail
  refine (right_calls _ _ _ _ _).mono ?_
  rintro e w1 ⟨rfl, hu⟩
  have hb1 := hu.blk (heap_alloc_new w _) (fun h => h)
  have hc0 : w1.cell? ⟨w.heap.size, 0, none⟩ = some (.int .u8 (kind.toNat : Int)) := by simp only [World.cell?, hb1]; rfl
  have hc1 : w1.cell? ⟨w.heap.size, 1, none⟩ = some (.slice A2 body.length c2) := by simp only [World.cell?, hb1]; rfl
  have HU1 := Asd.mk (((Upd.refl (fun _ => False) w).alloc (.cells #[.int .u8 (kind.toNat : Int), .slice A2 body.length c2] 105)).trans hu (fun _ _ h => h))
  have hlt : w.heap.size < w1.heap.size := blk_lt hb1
  have HB1 := Asd.mk hb1
  clear hu hb1
  have ht : decide (body.length ≤ 2048) = true := decide_eq_true h2
  rw [ht]
  obtain ⟨N2, hN2⟩ : ∃ N2, N2 = body.length := ⟨_, rfl⟩
  have hX : IntKind.u8.wrap (((body.length : Int) + 1) / 256) = ((UInt8.ofNat ((body.length + 1) / 256)).toNat : Int) := by rw [← u8_of]; rfl
  have hY : IntKind.u8.wrap ((body.length : Int) + 1) = ((UInt8.ofNat (body.length + 1)).toNat : Int) := by rw [← u8_of]; rfl
  have HC : Asd (#[Value.int .u8 (IntKind.u8.wrap (((body.length : Int) + 1) / 256)), .int .u8 (IntKind.u8.wrap ((body.length : Int) + 1)), .int .u8 (kind.toNat : Int)] = (B [UInt8.ofNat ((body.length + 1) / 256), UInt8.ofNat (body.length + 1), kind]).toArray) := ⟨by rw [hX, hY]; rfl⟩
  clear hX hY
  go_wp2
  go_region_law (first | (with_reducible refine gate_app (.const (.slice none 0 0)) (.tmp 16) 31 rfl ?_; refine step_appendF (S := fun _ => False) (w0 := w1) (by repeat (first | exact Upd.refl _ _ | refine Upd.drew ?_ | refine Upd.alloc ?_ _ | refine Upd.setCell ?_ (fun h => absurd h (Nat.lt_irrefl _)) _)) n 5 [] b none none 0 0 A n c (by rfl) (.const (.slice none 0 0)) (.tmp 16) 31 (by rfl) Tryz.underlying31 info8 (by simp [Act.eval, Act.put]) (by simp [Act.eval, Act.put]) (Own.nil _ _ _) (fun g e => by cases e) (by exact HB.out.up (by repeat (first | exact HU1.out | refine Upd.drew ?_ | refine Upd.drewN ?_ _ | refine Upd.alloc ?_ _))) (by omega) (by omega) ?_; intro A3 c3 w3 G3 hc3 hm3 hO3 hG3 hu3 hU3 _; rw [List.nil_append] at hO3; have HU3 := Asd.mk hu3; have HV3 := Asd.mk hU3; have HO3 := Asd.mk hO3; have HG3 := Asd.mk hG3; have hc0 := hu3.cell hc0 (fun h => h); clear hO3 hG3 hu3 hU3) | (with_reducible refine gate_app (.tmp 17) (.tmp 25) 31 rfl ?_; (first | (refine step_appendF (S := fun _ => False) (w0 := w1) (by exact (by repeat (first | exact HU3.out | refine Upd.drew ?_ | refine Upd.drewN ?_ _ | refine Upd.alloc ?_ _))) (n + 3) 5 b [UInt8.ofNat ((body.length + 1) / 256), UInt8.ofNat (body.length + 1), kind] G3 A3 n c3 (some ⟨w3.heap.size, 0, none⟩) 3 3 (by rfl) (.tmp 17) (.tmp 25) 31 (by rfl) Tryz.underlying31 info8 (by simp [Act.eval, Act.put]) (by simp [Act.eval, Act.put]) (HO3.out.upd (S := fun _ => False) (by repeat (first | exact Upd.refl _ _ | refine Upd.drew ?_ | refine Upd.alloc ?_ _ | refine Upd.setCell ?_ (fun h => absurd h (Nat.lt_irrefl _)) _)) (fun _ _ h => h)) HG3.out (by exact Rd.lit w3 _ _ _ 3 _ HC.out rfl (by omega)) (by omega) (by omega) ?_) | (refine step_appendF (S := fun _ => False) (w0 := w1) (by exact (by repeat (first | exact HU3.out | refine Upd.drew ?_ | refine Upd.drewN ?_ _ | refine Upd.alloc ?_ _))) (n + 3) 5 b [UInt8.ofNat ((body.length + 1) / 256), UInt8.ofNat (body.length + 1), kind] G3 A3 n c3 (some ⟨w1.heap.size, 0, none⟩) 3 3 (by rfl) (.tmp 17) (.tmp 25) 31 (by rfl) Tryz.underlying31 info8 (by simp [Act.eval, Act.put]) (by simp [Act.eval, Act.put]) (HO3.out.upd (S := fun _ => False) (by repeat (first | exact Upd.refl _ _ | refine Upd.drew ?_ | refine Upd.alloc ?_ _ | refine Upd.setCell ?_ (fun h => absurd h (Nat.lt_irrefl _)) _)) (fun _ _ h => h)) HG3.out (by have h0 := Rd.lit w1 _ 5 (0, 0) 3 _ HC.out rfl (by omega); exact Rd.upd (h0.upd ((Upd.refl (fun _ => False) _).drew) (fun _ _ h => h)) HV3.out (fun _ _ h => by cases h)) (by omega) (by omega) ?_)); intro A4 c4 w4 G4 hcw hm4 hO4 hG4 hu4 hU4 _; have HU4 := Asd.mk hu4; have HO4 := Asd.mk hO4; have HG4 := Asd.mk hG4; have hc1b := hu4.cell hc1 (fun h => h); clear hO4 hG4 hu4 hU4))
  all_goals
    go_wp2_with (first | (with_reducible refine stop_append _ _ _ _ rfl ?_) | (with_reducible refine stop_copy _ _ _ _ rfl ?_) | (with_reducible refine stop_make _ _ _ rfl ?_) | (with_reducible refine stop_conv 31 9 _ rfl ?_))
    refine wp_appendF HU4.out (n + 3 + body.length) 5 (b ++ [UInt8.ofNat ((body.length + 1) / 256), UInt8.ofNat (body.length + 1), kind]) body G4 A4 (n + 3) c4 A2 body.length c2 rfl _ _ 31 rfl Tryz.underlying31 info8 rfl rfl HO4.out HG4.out ((HR.out.up HU1.out).up HU4.out) rfl (by omega) ?_
    intro A5 c5 w5 G5 hc5 hm5 hO5 hG5 hu5 _ _
    have HU5 := Asd.mk hu5
    have HO5 := Asd.mk hO5
    have HG5 := Asd.mk hG5
    clear hO5 hG5 hu5 HU4 HO4 HG4
    obtain ⟨A6, hcut, _, hA6, _⟩ := cut_from' (P := Tryz.prog) 31 5 .i64 (sz := 1) Tryz.underlying31 (by kernel_rfl) A5 (n + 3 + body.length) c5 (n + 2) ((n : Int) + 2) (by omega) (by omega) hc5
    have hr6 := hA6 rfl _ _ HO5.out.rd
    have hbl : b.length = n := HB.out.len
    have hl6 : ((b ++ [UInt8.ofNat ((body.length + 1) / 256), UInt8.ofNat (body.length + 1), kind]) ++ body).drop (n + 2) = kind :: body := by
      rw [List.append_assoc, List.drop_append, List.drop_eq_nil_of_le (by omega), hbl]
      simp
    rw [hl6] at hr6
    have HR6 := Asd.mk hr6
    clear hA6 hr6 hbl hl6
    go_wp2_with fail
    refine (of_calls A6 _ _ (kind :: body) _ HR6.out).mono ?_
    rintro e w6 ⟨rfl, hd⟩
    have HU6 := Asd.mk (HU5.out.trans (hd.upd (fun _ => False)) (fun _ _ h => h))
    have HO6 := Asd.mk (HO5.out.upd (hd.upd (fun _ => False)) (fun _ _ h => h))
    clear hcut hd HR6 HO5 HU5
    go_wp2_with (first | (with_reducible refine stop_append _ _ _ _ rfl ?_) | (with_reducible refine stop_copy _ _ _ _ rfl ?_) | (with_reducible refine stop_make _ _ _ rfl ?_) | (with_reducible refine stop_conv 31 9 _ rfl ?_))
    refine wp_appendF (S := fun _ => False) (w0 := w1) (by exact (by repeat (first | exact HU6.out | refine Upd.drew ?_ | refine Upd.drewN ?_ _ | refine Upd.alloc ?_ _))) (n + 3 + body.length + 2) 5 ((b ++ [UInt8.ofNat ((body.length + 1) / 256), UInt8.ofNat (body.length + 1), kind]) ++ body) [UInt8.ofNat ((sumOf kind body).toNat / 256), UInt8.ofNat (sumOf kind body).toNat] G5 A5 (n + 3 + body.length) c5 (some ⟨w6.heap.size, 0, none⟩) 2 2 rfl _ _ 31 rfl Tryz.underlying31 info8 rfl rfl (HO6.out.upd ((Upd.refl (fun _ => False) _).alloc _) (fun _ _ h => h)) HG5.out (Rd.lit w6 _ _ _ 2 _ (two_bytes _) rfl (by omega)) rfl (by omega) ?_
    intro A7 c7 w7 G7 hc7 hm7 hO7 hG7 hu7 _ _
    have HU7 := Asd.mk (HU1.out.trans hu7 (fun _ _ h => h))
    have HO7 := Asd.mk hO7
    have HG7 : Asd (∀ g, G7 = some g → w.heap.size ≤ g) := ⟨fun g e => Nat.le_trans HU1.out.size (hG7 g e)⟩
    clear hO7 hG7 hu7 HU6 HO6 HG5
    go_wp2
    go_ret
    have hL : b ++ fbytes kind body = (b ++ [UInt8.ofNat ((body.length + 1) / 256), UInt8.ofNat (body.length + 1), kind]) ++ body ++ [UInt8.ofNat ((sumOf kind body).toNat / 256), UInt8.ofNat (sumOf kind body).toNat] := by simp [fbytes]
    have hlen : (b ++ fbytes kind body).length = n + 3 + body.length + 2 := by rw [hL]; simp [HB.out.len]; omega
    refine ⟨A7, c7, G7, ?_, ?_, HG7.out, by rw [hlen]; exact hc7, hm7, HU7.out⟩
    · rw [hlen]; rfl
    · rw [hlen, hL]; exact HO7.out
theorem fbytes_length (kind : UInt8) (body : List UInt8) : (fbytes kind body).length = body.length + 5 := by simp [fbytes]
def num2 (l : List UInt8) (i : Nat) : Nat := (l.getD i 0).toNat * 256 + (l.getD (i + 1) 0).toNat
def fget (b : List UInt8) : UInt8 × List UInt8 × Nat × Int :=
  if b.length < 2 then (0, [], 0, 5)
  else if num2 b 0 = 0 ∨ 2049 < num2 b 0 then (0, [], 0, 6)
  else if b.length < num2 b 0 + 4 then (0, [], 0, 5)
  else if (crc 0xffff#16 ((b.take (num2 b 0 + 2)).drop 2)).toNat ≠ num2 b (num2 b 0 + 2) then (0, [], 0, 7)
  else (b.getD 2 0, (b.take (num2 b 0 + 2)).drop 3, num2 b 0 + 4, 0)
def GetPost (r : UInt8 × List UInt8 × Nat × Int) (w : World) (e : Ending) (w' : World) : Prop :=
  ∃ A c G, e = .returned (.tuple #[.agg #[.int .u8 (r.1.toNat : Int), .slice A r.2.1.length c], .int .i64 (r.2.2.1 : Int), .int .i64 r.2.2.2]) ∧ Own w' 5 1 (.slice A r.2.1.length c) r.2.1.length (B r.2.1) G ∧ (∀ g, G = some g → w.heap.size ≤ g) ∧ r.2.1.length ≤ c ∧ c ≤ maxLen ∧ Upd (fun _ => False) w w'
theorem GetPost.none (r : UInt8 × List UInt8 × Nat × Int) (w w' : World) (k : Int) (h : r = (0, [], 0, k)) (hu : Upd (fun _ => False) w w') : GetPost r w (.returned (.tuple #[.agg #[.int .u8 0, .slice none 0 0], .int .i64 0, .int .i64 k])) w' := by
  subst h
  exact ⟨Option.none, 0, Option.none, rfl, Own.nil _ _ _, fun g e => (by cases e), Nat.le_refl _, (by simp [maxLen]), hu⟩
theorem or16 (a b : UInt8) : Go.bits .or .i64 ((a.toNat : Int) * 256) (b.toNat : Int) = ((a.toNat * 256 + b.toNat : Nat) : Int) := by
  have ha := a.toNat_lt
  have hb := b.toNat_lt
  show IntKind.i64.wrap (((BitVec.ofInt 64 ((a.toNat : Int) * 256) ||| BitVec.ofInt 64 (b.toNat : Int)).toNat : Nat) : Int) = _
  have e1 : BitVec.ofInt 64 ((a.toNat : Int) * 256) = BitVec.ofNat 64 (a.toNat <<< 8) := by
    apply BitVec.eq_of_toNat_eq
    simp [Nat.shiftLeft_eq]
    omega
  have e2 : BitVec.ofInt 64 (b.toNat : Int) = BitVec.ofNat 64 b.toNat := by
    apply BitVec.eq_of_toNat_eq
    simp
  rw [e1, e2, ← BitVec.ofNat_or, BitVec.toNat_ofNat, ← Nat.shiftLeft_add_eq_or_of_lt hb, Nat.shiftLeft_eq]
  simp only [IntKind.wrap, IntKind.bits, IntKind.signed]
  simp
  omega
theorem or16w (a b : UInt8) : Go.bits .or .i64 (wrap64 (wrap64 (a.toNat : Int) * 256)) (wrap64 (b.toNat : Int)) = ((a.toNat * 256 + b.toNat : Nat) : Int) := by
  have ha := a.toNat_lt
  have hb := b.toNat_lt
  have h1 : wrap64 (a.toNat : Int) = a.toNat := by unfold wrap64; omega
  have h2 : wrap64 (b.toNat : Int) = b.toNat := by unfold wrap64; omega
  have h3 : wrap64 ((a.toNat : Int) * 256) = (a.toNat : Int) * 256 := by unfold wrap64; omega
  rw [h1, h2, h3, or16]
theorem or16u (a b : UInt8) : Go.bits .or .u16 (IntKind.u16.wrap (IntKind.u16.wrap (a.toNat : Int) * 256)) (IntKind.u16.wrap (b.toNat : Int)) = n16 (BitVec.ofNat 16 (a.toNat * 256 + b.toNat)) := by
  have ha := a.toNat_lt
  have hb := b.toNat_lt
  have e1 : IntKind.u16.wrap (IntKind.u16.wrap (a.toNat : Int) * 256) = n16 (BitVec.ofNat 16 (a.toNat <<< 8)) := by
    rw [wrap16, wrap16]; unfold n16; simp [Nat.shiftLeft_eq]; omega
  have e2 : IntKind.u16.wrap (b.toNat : Int) = n16 (BitVec.ofNat 16 b.toNat) := by
    rw [wrap16]; unfold n16; simp; omega
  rw [e1, e2]
  have : Go.bits .or .u16 (n16 (BitVec.ofNat 16 (a.toNat <<< 8))) (n16 (BitVec.ofNat 16 b.toNat)) = n16 (BitVec.ofNat 16 (a.toNat <<< 8) ||| BitVec.ofNat 16 b.toNat) := by
    unfold Go.bits
    simp only [IntKind.bits, ofInt_n16]
    exact wrap_n16 _
  rw [this, ← BitVec.ofNat_or, ← Nat.shiftLeft_add_eq_or_of_lt hb, Nat.shiftLeft_eq]
theorem n16_num (x : BitVec 16) (a b : UInt8) : (n16 x == n16 (BitVec.ofNat 16 (a.toNat * 256 + b.toNat))) = decide (x.toNat = a.toNat * 256 + b.toNat) := by
  have ha := a.toNat_lt
  have hb := b.toNat_lt
  rw [Bool.eq_iff_iff, beq_iff_eq, decide_eq_true_eq, n16_inj]
  constructor
  · rintro rfl; simp; omega
  · intro h; apply BitVec.eq_of_toNat_eq; rw [h]; simp; omega
set_option maxHeartbeats 1000000 in
theorem get_calls (A : Option Addr) (n c : Nat) (b : List UInt8) (w : World) (hr : Rd w A n b) (hc : n ≤ c) :
    Calls Tryz.prog 62 #[.slice A n c] w (GetPost (fget b) w) := by
  have HR := Asd.mk hr
  have hlim := hr.lim
  obtain rfl := hr.len
  clear hr
  by_cases h1 : b.length < 2
  · have HG : Asd (fget b = (0, [], 0, 5)) := ⟨by unfold fget; rw [if_pos h1]⟩
    go_enter Tryz.func62, Tryz.ntmps62
    go_wp2
    exact bodyPost_ret (v := .tuple #[.agg #[.int .u8 0, .slice none 0 0], .int .i64 0, .int .i64 5]) (by simp [results, Tryz.results62, go_sem]) rfl (GetPost.none _ _ _ _ HG.out ((Upd.refl _ _).alloc _))
  obtain ⟨ad, rfl, hc0⟩ := HR.out.at 0 (by omega)
  obtain ⟨_, e, hc1⟩ := HR.out.at 1 (by omega)
  obtain rfl := Option.some.inj e
  obtain ⟨b0, hb0⟩ : ∃ x : UInt8, x = b[0] := ⟨_, rfl⟩
  obtain ⟨b1, hb1⟩ : ∃ x : UInt8, x = b[1] := ⟨_, rfl⟩
  rw [← hb0] at hc0
  rw [← hb1] at hc1
  obtain ⟨m, hm⟩ : ∃ m, m = b0.toNat * 256 + b1.toNat := ⟨_, rfl⟩
  have hor := or16w b0 b1
  rw [← hm] at hor
  have HN : Asd (num2 b 0 = m) := ⟨by rw [hm, hb0, hb1]; unfold num2; simp [List.getD_eq_getElem?_getD, List.getElem?_eq_getElem (show 0 < b.length by omega), List.getElem?_eq_getElem (show 1 < b.length by omega)]⟩
  have hm2 : m < 65536 := by have := b0.toNat_lt; have := b1.toNat_lt; omega
  clear hb0 hb1 hm e
  have hlt0 : 0 < b.length := by omega
  have hlt1 : 1 < b.length := by omega
  have hblk : ad.block < w.heap.size := by have := World.block_lt_of_cell? w _ hc0; rwa [add_block] at this
  have hc0 : w.cell? ad = some (.int .u8 (b0.toNat : Int)) := by simpa [Addr.add] using hc0
  have hc1 : w.cell? ⟨ad.block, ad.off + 1, none⟩ = some (.int .u8 (b1.toNat : Int)) := by simpa [Addr.add] using hc1
  by_cases h2 : m = 0
  · have HG : Asd (fget b = (0, [], 0, 6)) := ⟨by unfold fget; rw [if_neg h1, HN.out, if_pos (.inl h2)]⟩
    have h2b : ((m : Int) == 0) = true := beq_iff_eq.2 (by omega)
    clear h2
    go_enter Tryz.func62, Tryz.ntmps62
    go_wp2
    go_region
    go_wp2
    exact bodyPost_ret (v := .tuple #[.agg #[.int .u8 0, .slice none 0 0], .int .i64 0, .int .i64 6]) (by simp [results, Tryz.results62, go_sem]) rfl (GetPost.none _ _ _ _ HG.out (((Upd.refl _ _).alloc _).drew))
  have h2b : ((m : Int) == 0) = false := beq_eq_false_iff_ne.2 (by omega)
  have hm0 : 0 < m := by omega
  by_cases h3 : 2049 < m
  · have HG : Asd (fget b = (0, [], 0, 6)) := ⟨by unfold fget; rw [if_neg h1, HN.out, if_pos (.inr h3)]⟩
    clear h2
    go_enter Tryz.func62, Tryz.ntmps62
    go_wp2
    go_region
    go_wp2
    exact bodyPost_ret (v := .tuple #[.agg #[.int .u8 0, .slice none 0 0], .int .i64 0, .int .i64 6]) (by simp [results, Tryz.results62, go_sem]) rfl (GetPost.none _ _ _ _ HG.out (((Upd.refl _ _).alloc _).drew))
  by_cases h4 : b.length < m + 4
  · have HG : Asd (fget b = (0, [], 0, 5)) := ⟨by unfold fget; rw [if_neg h1, HN.out, if_neg (by omega), if_pos h4]⟩
    clear h2
    go_enter Tryz.func62, Tryz.ntmps62
    go_wp2
    go_region
    go_wp2
    exact bodyPost_ret (v := .tuple #[.agg #[.int .u8 0, .slice none 0 0], .int .i64 0, .int .i64 5]) (by simp [results, Tryz.results62, go_sem]) rfl (GetPost.none _ _ _ _ HG.out (((Upd.refl _ _).alloc _).drew))
  obtain ⟨A2, hcut, _, hA2, _⟩ := cut_both' (P := Tryz.prog) 31 5 .i64 .i64 (sz := 1) Tryz.underlying31 (by kernel_rfl) (some ad) b.length c 2 (m + 2) 2 ((m : Int) + 2) rfl (by omega) (by omega) (by omega) hc
  have HA2 := Asd.mk (hA2 rfl)
  obtain ⟨A3, hcut3, _, hA3, _⟩ := cut_both' (P := Tryz.prog) 31 5 .i64 .i64 (sz := 1) Tryz.underlying31 (by kernel_rfl) (some ad) b.length c 3 (m + 2) 3 ((m : Int) + 2) rfl (by omega) (by omega) (by omega) hc
  have HR3 : Asd (Rd w A3 (m - 1) ((b.take (m + 2)).drop 3)) := ⟨by have := hA3 rfl _ _ HR.out; rwa [show m + 2 - 3 = m - 1 by omega] at this⟩
  clear hA3
  obtain ⟨_, e, hc4⟩ := HR.out.at 2 (by omega)
  obtain rfl := Option.some.inj e
  obtain ⟨b4, hb4⟩ : ∃ x : UInt8, x = b[2] := ⟨_, rfl⟩
  rw [← hb4] at hc4
  have HB4 := Asd.mk hb4
  have hlt2 : (2 : Int) < (b.length : Int) := by omega
  have hc4 : w.cell? ⟨ad.block, ad.off + 2, none⟩ = some (.int .u8 (b4.toNat : Int)) := by rw [← hc4]; simp [Addr.add]
  clear hb4
  obtain ⟨_, e, hc2⟩ := HR.out.at (m + 2) (by omega)
  obtain rfl := Option.some.inj e
  obtain ⟨_, e, hc3⟩ := HR.out.at (m + 3) (by omega)
  obtain rfl := Option.some.inj e
  obtain ⟨b2, hb2⟩ : ∃ x : UInt8, x = b[m + 2] := ⟨_, rfl⟩
  obtain ⟨b3, hb3⟩ : ∃ x : UInt8, x = b[m + 3] := ⟨_, rfl⟩
  rw [← hb2] at hc2
  rw [← hb3] at hc3
  have HB2 := Asd.mk hb2
  have HB3 := Asd.mk hb3
  have hw2 : IntKind.i64.wrap ((m : Int) + 2) = (m : Int) + 2 := IntWalk.i64_in _ (by omega)
  have hw3 : IntKind.i64.wrap ((m : Int) + 3) = (m : Int) + 3 := IntWalk.i64_in _ (by omega)
  have hw4 : IntKind.i64.wrap ((m : Int) + 4) = (m : Int) + 4 := IntWalk.i64_in _ (by omega)
  have hn2 : ((m : Int) + 2).toNat = m + 2 := by omega
  have hn3 : ((m : Int) + 3).toNat = m + 3 := by omega
  have hp2 : 0 ≤ (m : Int) + 2 := by omega
  have hp3 : 0 ≤ (m : Int) + 3 := by omega
  have hl2 : (m : Int) + 2 < (b.length : Int) := by omega
  have hl3 : (m : Int) + 3 < (b.length : Int) := by omega
  have hc2 : w.cell? ⟨ad.block, ad.off + (m + 1 + 1), none⟩ = some (.int .u8 (b2.toNat : Int)) := by rw [← hc2]; simp [Addr.add]
  have hc3 : w.cell? ⟨ad.block, ad.off + (m + 1 + 1 + 1), none⟩ = some (.int .u8 (b3.toNat : Int)) := by rw [← hc3]; simp [Addr.add]
  clear hb2 hb3 e hA2 h2
  have hor3 := or16u b2 b3
  have HNum : Asd (num2 b (m + 2) = b2.toNat * 256 + b3.toNat) := ⟨by rw [HB2.out, HB3.out]; unfold num2; simp [List.getD_eq_getElem?_getD, List.getElem?_eq_getElem (show m + 2 < b.length by omega), List.getElem?_eq_getElem (show m + 3 < b.length by omega)]⟩
  obtain ⟨y, hy⟩ : ∃ y, y = BitVec.ofNat 16 (b2.toNat * 256 + b3.toNat) := ⟨_, rfl⟩
  rw [← hy] at hor3
  have HY := Asd.mk hy
  clear hy
  by_cases hsum : (crc 0xffff#16 ((b.take (m + 2)).drop 2)).toNat = b2.toNat * 256 + b3.toNat
  · have hq : (n16 (crc 0xffff#16 ((b.take (m + 2)).drop 2)) == n16 y) = true := by rw [HY.out, n16_num, decide_eq_true_eq]; exact hsum
    have HG : Asd (fget b = (b4, (b.take (m + 2)).drop 3, m + 4, 0)) := ⟨by
      unfold fget
      rw [if_neg h1, HN.out, if_neg (by omega), if_neg h4, HNum.out, if_neg (by simpa using hsum)]
      rw [HB4.out, List.getD_eq_getElem?_getD, List.getElem?_eq_getElem (show 2 < b.length by omega)]
      rfl⟩
    have HBL : Asd (((b.take (m + 2)).drop 3).length = m - 1) := ⟨by simp; omega⟩
    clear hsum
    go_enter Tryz.func62, Tryz.ntmps62
    go_wp2
    go_region
    go_wp2
    go_quiet ((go_at_call 86; refine (of_calls A2 m (c - 2) ((b.take (m + 2)).drop 2) _ ((HA2.out _ _ HR.out).up (by repeat (first | exact Upd.refl _ _ | refine Upd.drewN ?_ _ | refine Upd.drew ?_ | refine Upd.alloc ?_ _ | refine Upd.setCell ?_ (fun h => absurd h (Nat.lt_irrefl _)) _)))).mono ?_; rintro e w'' ⟨rfl, k, rfl⟩; exact ⟨rfl, _, by rw [World.drewN_drewN, Nat.add_assoc]⟩))
    go_wp2
    go_region_law (with_reducible refine gate_app (.const (.slice none 0 0)) (.tmp 63) 31 rfl ?_; refine step_appendF (S := fun _ => False) (w0 := w.alloc (.cells #[.int .u8 0, .slice none 0 0] 105)) (by repeat (first | exact Upd.refl _ _ | refine Upd.drewN ?_ _ | refine Upd.drew ?_ | refine Upd.alloc ?_ _ | refine Upd.setCell ?_ (fun h => absurd h (Nat.lt_irrefl _)) _)) (m - 1) 5 [] ((b.take (m + 2)).drop 3) none none 0 0 A3 (m - 1) (c - 3) (by rfl) (.const (.slice none 0 0)) (.tmp 63) 31 (by rfl) Tryz.underlying31 info8 (by simp [Act.eval, Act.put]) (by simp [Act.eval, Act.put]) (Own.nil _ _ _) (fun g e => by cases e) (by exact HR3.out.up (by repeat (first | exact Upd.refl _ _ | refine Upd.drewN ?_ _ | refine Upd.drew ?_ | refine Upd.alloc ?_ _ | refine Upd.setCell ?_ (fun h => absurd h (Nat.lt_irrefl _)) _))) (by omega) (by omega) ?_; intro A4 c4 w4 G4 hcw hm4 hO4 hG4 hu4 hU4 _; rw [List.nil_append] at hO4; have hb4 := hu4.blk (heap_alloc_new w _) (fun h => h); have hcc := hu4.cell (a := ⟨ad.block, ad.off + 2, none⟩) (v := .int .u8 (b4.toNat : Int)) (((Upd.refl (fun _ => False) w).alloc _).cell hc4 (fun h => h)) (fun h => h); have hx0 : w4.cell? ⟨w.heap.size, 0, none⟩ = some (.int .u8 0) := (by simp [World.cell?, hb4]); have hz0 : w4.frozen? ⟨w.heap.size, 0, none⟩ = false := (by simp [World.frozen?, hb4]); have hx1 : ∀ v, (w4.setCell ⟨w.heap.size, 0, none⟩ v).cell? ⟨w.heap.size, 1, none⟩ = some (.slice none 0 0) := (fun v => by simp [World.cell?, blk_setCell hb4]); have hz1 : ∀ v, (w4.setCell ⟨w.heap.size, 0, none⟩ v).frozen? ⟨w.heap.size, 1, none⟩ = false := (fun v => by simp [World.frozen?, blk_setCell hb4]); have HO4 := Asd.mk hO4; have HG4 := Asd.mk hG4; have HU4 := Asd.mk hu4; have HB4' := Asd.mk hb4; clear hO4 hG4 hu4 hU4 hb4)
    all_goals
      go_wp2
      have hbf := blk_setCell (o := 1) (blk_setCell (o := 0) HB4'.out (.int .u8 (b4.toNat : Int))) (.slice A4 (m - 1) c4)
      have q0 : ((w4.setCell ⟨w.heap.size, 0, none⟩ (.int .u8 (b4.toNat : Int))).setCell ⟨w.heap.size, 1, none⟩ (.slice A4 (m - 1) c4)).cell? ⟨w.heap.size, 0, none⟩ = some (.int .u8 (b4.toNat : Int)) := by simp [World.cell?, hbf]
      have q1 : ((w4.setCell ⟨w.heap.size, 0, none⟩ (.int .u8 (b4.toNat : Int))).setCell ⟨w.heap.size, 1, none⟩ (.slice A4 (m - 1) c4)).cell? ⟨w.heap.size, 1, none⟩ = some (.slice A4 (m - 1) c4) := by simp [World.cell?, hbf]
      have hGn : ∀ g, G4 = some g → w.heap.size ≤ g ∧ g ≠ w.heap.size := fun g e => by have := HG4.out g e; simp at this; omega
      refine bodyPost_ret (v := .tuple #[.agg #[.int .u8 (b4.toNat : Int), .slice A4 (m - 1) c4], .int .i64 ((m : Int) + 4), .int .i64 0]) (by simp [results, Tryz.results62, go_sem, Act.put, q0, q1, hw4]) rfl ?_
      rw [HG.out]
      refine ⟨A4, c4, G4, ?_, ?_, fun g e => (hGn g e).1, by rw [HBL.out]; exact hcw, hm4, ?_⟩
      · simp [HBL.out]
      · simp only [HBL.out]
        exact HO4.out.upd (((Upd.refl (fun k => k = w.heap.size) _).setCell (fun _ => rfl) _).setCell (fun _ => rfl) _) (fun g e e2 => (hGn g e).2 e2)
      · exact ((((Upd.refl _ _).alloc _).trans HU4.out (fun _ _ h => h)).setCell (fun h => absurd h (Nat.lt_irrefl _)) _).setCell (fun h => absurd h (Nat.lt_irrefl _)) _
  · have hq : (n16 (crc 0xffff#16 ((b.take (m + 2)).drop 2)) == n16 y) = false := by rw [HY.out, n16_num, decide_eq_false_iff_not]; exact hsum
    have HG : Asd (fget b = (0, [], 0, 7)) := ⟨by unfold fget; rw [if_neg h1, HN.out, if_neg (by omega), if_neg h4, HNum.out, if_pos hsum]⟩
    clear hsum
    go_enter Tryz.func62, Tryz.ntmps62
    go_wp2
    go_region
    go_wp2
    go_quiet ((go_at_call 86; refine (of_calls A2 m (c - 2) ((b.take (m + 2)).drop 2) _ ((HA2.out _ _ HR.out).up (by repeat (first | exact Upd.refl _ _ | refine Upd.drewN ?_ _ | refine Upd.drew ?_ | refine Upd.alloc ?_ _ | refine Upd.setCell ?_ (fun h => absurd h (Nat.lt_irrefl _)) _)))).mono ?_; rintro e w'' ⟨rfl, k, rfl⟩; exact ⟨rfl, _, by rw [World.drewN_drewN, Nat.add_assoc]⟩))
    go_wp2
    exact bodyPost_ret (v := .tuple #[.agg #[.int .u8 0, .slice none 0 0], .int .i64 0, .int .i64 7]) (by simp [results, Tryz.results62, go_sem]) rfl (GetPost.none _ _ _ _ HG.out (by repeat (first | exact Upd.refl _ _ | refine Upd.drewN ?_ _ | refine Upd.drew ?_ | refine Upd.alloc ?_ _ | refine Upd.setCell ?_ (fun h => absurd h (Nat.lt_irrefl _)) _)))
end Go.Proofs.YteepkanbiefpjaaGreatDoor.Fr
namespace Go.Proofs.YteepkanbiefpjaaGreatDoor.FrMath
open Go.RowKit K Crc Sm Fr
theorem getD_app (l m : List UInt8) (i : Nat) (h : i < l.length) : (l ++ m).getD i 0 = l.getD i 0 := by
  simp only [List.getD_eq_getElem?_getD]
  rw [List.getElem?_append_left h]
theorem ofNat_mod (n : Nat) : (UInt8.ofNat n).toNat = n % 256 := by simp
theorem num_sum (x : BitVec 16) : (UInt8.ofNat (x.toNat / 256)).toNat * 256 + (UInt8.ofNat x.toNat).toNat = x.toNat := by
  have := x.isLt
  rw [ofNat_mod, ofNat_mod]
  omega
def turn (l : List UInt8) (i : Nat) (y : UInt8) : List UInt8 := l.set i (l.getD i 0 ^^^ y)
end Go.Proofs.YteepkanbiefpjaaGreatDoor.FrMath
set_option linter.unusedVariables false
set_option linter.unusedSimpArgs false
namespace Go.Proofs.YteepkanbiefpjaaGreatDoor.MgPut
open Go.RowKit K Mg MgNum MgOf MgFr MgHead MgLawOf
open Fr (fbytes fbytes_length)
def mbytes (kind : UInt8) (a b : Nat) (t : List UInt8) : List UInt8 := fbytes kind (mbody (kind.toNat : Int) a b t)
theorem kind_exists (k : Int) (h : known k = true) : ∃ kind : UInt8, k = (kind.toNat : Int) := by
  have : 1 ≤ k ∧ k ≤ 15 := of_decide_eq_true h
  exact ⟨UInt8.ofNat k.toNat, by simp; omega⟩
theorem room_for (k : Int) : 6 * nums k + most k ≤ 2048 := by
  by_cases h : 1 ≤ k ∧ k ≤ 15
  · rcases kinds k h with rfl | rfl | rfl | rfl | rfl | rfl | rfl | rfl | rfl | rfl | rfl | rfl | rfl | rfl | rfl <;> decide
  · simp [nums, most, h]
set_option maxHeartbeats 1000000 in
theorem put_calls (A : Option Addr) (c : Nat) (l : List UInt8) (k a b : Int) (t : List UInt8) (w : World) (hr : right k a b t.length = true) (hl : Rd w A l.length l) (hll : l.length ≤ 1048576) :
    Calls Tryz.prog 21 #[.slice A l.length c, .agg #[.int .i64 k, .int .i64 a, .int .i64 b, .string (S t)]] w (Fr.PutPost (l ++ mbytes (UInt8.ofNat k.toNat) a.toNat b.toNat t) w) := by
  obtain ⟨hkn, htl, ha0, hb0, ha1, hb1, _, _⟩ := right_nat k a b t.length hr
  obtain ⟨kind, rfl⟩ := kind_exists k hkn
  have hk : UInt8.ofNat ((kind.toNat : Int)).toNat = kind := by simp
  rw [hk]
  have HR := Asd.mk hr
  have HL := Asd.mk hl
  have hml : (mbody (kind.toNat : Int) a.toNat b.toNat t).length ≤ 2048 := by
    rw [mbody_length]
    have := room_for (kind.toNat : Int)
    omega
  obtain ⟨body, hbody⟩ : ∃ body, body = mbody (kind.toNat : Int) a.toNat b.toNat t := ⟨_, rfl⟩
  have HB := Asd.mk (show mbytes kind a.toNat b.toNat t = fbytes kind body by rw [hbody]; rfl)
  have HBD := Asd.mk hbody
  rw [← hbody] at hml
  rw [HB.out]
  clear hr hl hk hkn htl ha0 hb0 ha1 hb1 hbody
  go_enter Tryz.func21, Tryz.ntmps21
  go_wp2_with fail
  refine (frame_calls (kind.toNat : Int) a b t _).mono ?_
  rintro e w1 ⟨hu, _, hy⟩
  rw [← HBD.out] at hy
  obtain ⟨A1, c1, G1, rfl, ho, hg, hc1, hm1⟩ := hy HR.out
  have HU := Asd.mk (((Upd.refl (fun _ => False) w).alloc (.cells #[.int .i64 (kind.toNat : Int), .int .i64 a, .int .i64 b, .string (S t)] 36)).trans hu (fun _ _ h => h))
  have HO := Asd.mk ho.rd
  clear hu hy ho hg
  go_wp2_with fail
  have hV := (Upd.refl (fun _ => False) w1).alloc (.cells #[.int .u8 (kind.toNat : Int), .slice A1 body.length c1] 105)
  refine (Fr.put_ok A l.length c l kind A1 c1 body _ ((HL.out.up HU.out).up hV) (HO.out.up hV) (by omega) hml).mono ?_
  unfold Fr.PutPost
  rintro e w2 ⟨A2, c2, G2, rfl, ho2, hg2, hc2, hm2, hu2⟩
  have HU2 := Asd.mk ((HU.out.trans hV (fun _ _ h => h)).trans hu2 (fun _ _ h => h))
  have HO2 := Asd.mk ho2
  have hs := HU.out.size
  have hs2 := hV.size
  have HG2 : Asd (∀ g, G2 = some g → w.heap.size ≤ g) := ⟨fun g e => by have := hg2 g e; omega⟩
  clear ho2 hg2 hu2 hV
  go_wp2
  go_ret
  exact ⟨A2, c2, G2, by rw [List.length_append]; rfl, HO2.out, HG2.out, hc2, hm2, HU2.out⟩
end Go.Proofs.YteepkanbiefpjaaGreatDoor.MgPut
set_option linter.unusedVariables false
set_option linter.unusedSimpArgs false
namespace Go.Proofs.YteepkanbiefpjaaGreatDoor.K
open Go.RowKit Go.ChangeShapes Go.WideShapes Go.Deep
def R4 {α β γ δ : Type} (R : Rdr α) (T : Rdr β) (U : Rdr γ) (V : Rdr δ) : Rdr (α × β × γ × δ) := fun w cs x => ∃ c0 c1 c2 c3, cs = [c0, c1, c2, c3] ∧ R w [c0] x.1 ∧ T w [c1] x.2.1 ∧ U w [c2] x.2.2.1 ∧ V w [c3] x.2.2.2
theorem R4.stays {α β γ δ : Type} {R : Rdr α} {T : Rdr β} {U : Rdr γ} {V : Rdr δ} (h : Stays R) (k : Stays T) (l : Stays U) (m : Stays V) : Stays (R4 R T U V) := by
  rintro w w1 cs a hu ⟨c0, c1, c2, c3, e, h0, h1, h2, h3⟩
  exact ⟨c0, c1, c2, c3, e, h _ _ _ _ hu h0, k _ _ _ _ hu h1, l _ _ _ _ hu h2, m _ _ _ _ hu h3⟩
section
variable {P : Program}
theorem R4.opens {α β γ δ : Type} {R : Rdr α} {T : Rdr β} {U : Rdr γ} {V : Rdr δ} {t : TypeId} {f0 f1 f2 f3 : Field} (ht : P.underlying t = some (.struct #[f0, f1, f2, f3])) (hn : P.cellsOf t = 4) (h0 : f0.offset = 0) (h1 : f1.offset = 1) (h2 : f2.offset = 2) (h3 : f3.offset = 3) (c0 : P.cellsOf f0.type = 1) (c1 : P.cellsOf f1.type = 1) (c2 : P.cellsOf f2.type = 1) (c3 : P.cellsOf f3.type = 1)
    (hR : Opens P f0.type R) (hT : Opens P f1.type T) (hU : Opens P f2.type U) (hV : Opens P f3.type V) : Opens P t (R4 R T U V) := fun H enc W fuel cs x h hw => by
  obtain ⟨y0, y1, y2, y3, n, rfl, hl, g0, g1, g2, g3⟩ := Go.Joins.trod_struct4 ht h
  rw [hn] at hl
  rw [h0, c0] at g0
  rw [h1, c1] at g1
  rw [h2, c2] at g2
  rw [h3, c3] at g3
  match cs, hl with
  | [v0, v1, v2, v3], _ =>
    simp only [List.drop_zero, List.drop_one, List.tail_cons, List.take_succ_cons, List.take_zero, List.drop_succ_cons] at g0 g1 g2 g3
    obtain ⟨a, ha⟩ := hR _ _ _ _ _ _ g0 (fun k hk => hw k (by simp [DataW.weights, ht, DataW.weightsEach, hk]))
    obtain ⟨b, hb⟩ := hT _ _ _ _ _ _ g1 (fun k hk => hw k (by simp [DataW.weights, ht, DataW.weightsEach, hk]))
    obtain ⟨c, hc⟩ := hU _ _ _ _ _ _ g2 (fun k hk => hw k (by simp [DataW.weights, ht, DataW.weightsEach, hk]))
    obtain ⟨d, hd⟩ := hV _ _ _ _ _ _ g3 (fun k hk => hw k (by simp [DataW.weights, ht, DataW.weightsEach, hk]))
    exact ⟨(a, b, c, d), v0, v1, v2, v3, rfl, ha, hb, hc, hd⟩
end
theorem msg_cells {w : World} {cs : Array Value} {x : Int × Int × Int × ByteArray} (h : R4 (RInt .i64) (RInt .i64) (RInt .i64) RStr w cs.toList x) : ∃ (k a b : Int) (t : List UInt8), cs = #[.int .i64 k, .int .i64 a, .int .i64 b, .string (S t)] ∧ t.length ≤ 9223372036854775807 := by
  obtain ⟨k, a, b, s⟩ := x
  obtain ⟨c0, c1, c2, c3, hcs, ⟨h0, _⟩, ⟨h1, _⟩, ⟨h2, _⟩, h3, hs⟩ := h
  simp only [List.cons.injEq, and_true] at h0 h1 h2 h3
  subst h0; subst h1; subst h2; subst h3
  refine ⟨k, a, b, s.data.toList, ?_, ?_⟩
  · apply Array.ext'
    rw [← S_of]
    simpa using hcs
  · have : s.data.toList.length = s.size := by rw [Array.length_toList]; rfl
    rw [this]
    exact Nat.le_trans hs (by simp [reach])
end Go.Proofs.YteepkanbiefpjaaGreatDoor.K
set_option linter.unusedVariables false
set_option linter.unusedSimpArgs false
namespace Go.Proofs.YteepkanbiefpjaaGreatDoor.MgApart
open Go.RowKit K Mg MgNum MgOf MgFr MgHead MgLawOf MgPut
@[go_sem] theorem S_toList (l : List UInt8) : (S l).toList = l := by
  rw [ByteArray.toList_eq]
  simp [S]
end Go.Proofs.YteepkanbiefpjaaGreatDoor.MgApart
set_option linter.unusedVariables false
set_option linter.unusedSimpArgs false
namespace Go.Proofs.YteepkanbiefpjaaGreatDoor.MgTwo
open Go.RowKit K Mg MgNum MgOf MgFr MgHead MgLawOf MgPut
open Fr (fbytes fbytes_length)
set_option maxHeartbeats 1000000 in
theorem put_no (v : Value) (k a b : Int) (t : List UInt8) (w : World) (hr : right k a b t.length = false) :
    Calls Tryz.prog 21 #[v, .agg #[.int .i64 k, .int .i64 a, .int .i64 b, .string (S t)]] w fun e w' => e = .returned v ∧ Upd (fun _ => False) w w' := by
  have HR := Asd.mk hr
  clear hr
  go_enter Tryz.func21, Tryz.ntmps21
  go_wp2_with fail
  refine (frame_calls k a b t _).mono ?_
  rintro e w1 ⟨hu, hn, _⟩
  obtain rfl := hn HR.out
  have HU := Asd.mk (((Upd.refl (fun _ => False) w).alloc (.cells #[.int .i64 k, .int .i64 a, .int .i64 b, .string (S t)] 36)).trans hu (fun _ _ h => h))
  clear hu hn
  go_wp2
  go_ret
  exact ⟨rfl, HU.out.alloc _⟩
set_option maxHeartbeats 1000000 in
theorem size_calls (k a b : Int) (t : List UInt8) (w : World) (ht : t.length ≤ 1048576) :
    Calls Tryz.prog 137 #[.agg #[.int .i64 k, .int .i64 a, .int .i64 b, .string (S t)]] w fun e w' => e = .returned (.int .i64 ((5 + 6 * nums k + t.length : Nat) : Int)) ∧ Upd (fun _ => False) w w' := by
  obtain ⟨N, hN⟩ : ∃ N, N = nums k := ⟨_, rfl⟩
  have hN2 : N ≤ 2 := by rw [hN]; exact nums_le k
  have HN := Asd.mk hN
  rw [← hN]
  clear hN
  go_enter Tryz.func137, Tryz.ntmps137
  go_wp2_with fail
  refine (shape_calls k _).mono ?_
  rw [← HN.out]
  rintro e w1 ⟨rfl, rfl⟩
  go_wp2
  go_ret
  exact ⟨congrArg (fun x => Ending.returned (Value.int IntKind.i64 x)) (by omega), (Upd.refl _ _).alloc _⟩
end Go.Proofs.YteepkanbiefpjaaGreatDoor.MgTwo
