/- The message of a frame (msg.Of): what its call comes to. -/
import Derived.Test.YtpphejjdgplalaaMsgNum
set_option linter.unusedVariables false
set_option linter.unusedSimpArgs false
namespace Go.Proofs.Ytpphejjdgplalaa.MgOf
open Go.RowKit K Mg MgNum

def val (l : List UInt8) : Nat := l.foldl (fun v x => v * 256 + x.toNat) 0
theorem val_snoc (l : List UInt8) (x : UInt8) : val (l ++ [x]) = val l * 256 + x.toNat := by simp [val, List.foldl_append]
theorem val_lt (l : List UInt8) : val l < 256 ^ l.length := by
  rw [← List.reverse_reverse l]
  induction l.reverse with
  | nil => simp [val]
  | cons x r ih =>
    rw [List.reverse_cons, val_snoc, List.length_append, List.length_reverse] at *
    have := x.toNat_lt
    simp only [List.length_cons, List.length_nil, Nat.zero_add, Nat.pow_succ, List.length_reverse] at *
    omega
theorem or_low (v : Nat) (hv : v < 1099511627776) (c : UInt8) : Go.bits .or .i64 ((v : Int) * 256) (c.toNat : Int) = ((v * 256 + c.toNat : Nat) : Int) := by
  have hc := c.toNat_lt
  show IntKind.i64.wrap (((BitVec.ofInt 64 ((v : Int) * 256) ||| BitVec.ofInt 64 (c.toNat : Int)).toNat : Nat) : Int) = _
  have e1 : BitVec.ofInt 64 ((v : Int) * 256) = BitVec.ofNat 64 (v <<< 8) := by
    apply BitVec.eq_of_toNat_eq
    simp [Nat.shiftLeft_eq]
    omega
  have e2 : BitVec.ofInt 64 (c.toNat : Int) = BitVec.ofNat 64 c.toNat := by
    apply BitVec.eq_of_toNat_eq
    simp
  rw [e1, e2, ← BitVec.ofNat_or, BitVec.toNat_ofNat, ← Nat.shiftLeft_add_eq_or_of_lt hc, Nat.shiftLeft_eq]
  rw [w64i _ (by omega) (by omega)]
  omega
/-- A frame's numbers. -/
def numA (n : Nat) (body : List UInt8) : Nat := if 0 < n then val (body.take 6) else 0
def numB (n : Nat) (body : List UInt8) : Nat := if 1 < n then val ((body.drop 6).take 6) else 0
def isMsg (k : Int) (body : List UInt8) : Bool := known k && (decide (6 * nums k ≤ body.length) && right k (numA (nums k) body) (numB (nums k) body) (body.drop (6 * nums k)).length)
def OfPost (k : Int) (body : List UInt8) (w : World) (e : Ending) (w' : World) : Prop :=
  Upd (fun _ => False) w w' ∧ e = .returned (.tuple #[if isMsg k body then .agg #[.int .i64 k, .int .i64 (numA (nums k) body : Int), .int .i64 (numB (nums k) body : Int), .string (S (body.drop (6 * nums k)))] else .agg #[.int .i64 0, .int .i64 0, .int .i64 0, .string (S [])], .bool (isMsg k body)])
/-- The four blocks of the call. -/
structure Lp (w wr : World) (k : Int) (a b : Nat) (A : Option Addr) (n c : Nat) : Prop where
  m : wr.heap[w.heap.size + 1 + 1]? = some (.cells #[.int .i64 k, .int .i64 (a : Int), .int .i64 (b : Int), .string { data := #[] }] 44 (0, 0))
  p : wr.heap[w.heap.size + 1 + 1 + 1]? = some (.cells #[.pointer (some ⟨w.heap.size + 1 + 1, 1, none⟩), .pointer (some ⟨w.heap.size + 1 + 1, 2, none⟩)] 78 (0, 0))
  f : wr.heap[w.heap.size]? = some (.cells #[.int .u8 k, .slice A n c] 53 (0, 0))
  r : wr.heap[w.heap.size + 1]? = some (.cells #[.int .i64 0, .int .i64 0, .int .i64 0, .string { data := #[] }] 44 (0, 0))
  upd : Upd (fun _ => False) w wr
section
variable {w wr : World} {k : Int} {a b : Nat} {A : Option Addr} {n c : Nat}
theorem Lp.start (w : World) (k : Int) (A : Option Addr) (n c : Nat) : Lp w ((((w.alloc (.cells #[.int .u8 k, .slice A n c] 53)).alloc (.cells #[.int .i64 0, .int .i64 0, .int .i64 0, .string { data := #[] }] 44)).alloc (.cells #[.int .i64 k, .int .i64 0, .int .i64 0, .string { data := #[] }] 44)).alloc (.cells #[.pointer (some ⟨w.heap.size + 1 + 1, 1, none⟩), .pointer (some ⟨w.heap.size + 1 + 1, 2, none⟩)] 78)) k 0 0 A n c := by
  have h1 := heap_alloc_new w (.cells #[.int .u8 k, .slice A n c] 53)
  have h2 := heap_alloc_new (w.alloc (.cells #[.int .u8 k, .slice A n c] 53)) (.cells #[.int .i64 0, .int .i64 0, .int .i64 0, .string { data := #[] }] 44)
  have h3 := heap_alloc_new ((w.alloc (.cells #[.int .u8 k, .slice A n c] 53)).alloc (.cells #[.int .i64 0, .int .i64 0, .int .i64 0, .string { data := #[] }] 44)) (.cells #[.int .i64 k, .int .i64 0, .int .i64 0, .string { data := #[] }] 44)
  have h4 := heap_alloc_new (((w.alloc (.cells #[.int .u8 k, .slice A n c] 53)).alloc (.cells #[.int .i64 0, .int .i64 0, .int .i64 0, .string { data := #[] }] 44)).alloc (.cells #[.int .i64 k, .int .i64 0, .int .i64 0, .string { data := #[] }] 44)) (.cells #[.pointer (some ⟨w.heap.size + 1 + 1, 1, none⟩), .pointer (some ⟨w.heap.size + 1 + 1, 2, none⟩)] 78)
  have s1 : (w.alloc (.cells #[.int .u8 k, .slice A n c] 53)).heap.size = w.heap.size + 1 := by simp
  have s2 : ((w.alloc (.cells #[.int .u8 k, .slice A n c] 53)).alloc (.cells #[.int .i64 0, .int .i64 0, .int .i64 0, .string { data := #[] }] 44)).heap.size = w.heap.size + 1 + 1 := by simp
  have s3 : (((w.alloc (.cells #[.int .u8 k, .slice A n c] 53)).alloc (.cells #[.int .i64 0, .int .i64 0, .int .i64 0, .string { data := #[] }] 44)).alloc (.cells #[.int .i64 k, .int .i64 0, .int .i64 0, .string { data := #[] }] 44)).heap.size = w.heap.size + 1 + 1 + 1 := by simp
  rw [s1] at h2
  rw [s2] at h3
  rw [s3] at h4
  exact ⟨((Upd.refl (fun _ => False) _).alloc _).blk h3 (fun h => h), h4, ((((Upd.refl (fun _ => False) _).alloc _).alloc _).alloc _).blk h1 (fun h => h), (((Upd.refl (fun _ => False) _).alloc _).alloc _).blk h2 (fun h => h), ((((Upd.refl _ _).alloc _).alloc _).alloc _).alloc _⟩
theorem Lp.setA (h : Lp w wr k a b A n c) (a2 : Nat) : Lp w (wr.setCell ⟨w.heap.size + 1 + 1, 1, none⟩ (.int .i64 (a2 : Int))) k a2 b A n c := by
  have k1 := (Upd.refl (fun i => i = w.heap.size + 1 + 1) wr).setCell (p := ⟨w.heap.size + 1 + 1, 1, none⟩) (fun _ => rfl) (.int .i64 (a2 : Int))
  refine ⟨?_, k1.blk h.p (by omega), k1.blk h.f (by omega), k1.blk h.r (by omega), h.upd.trans k1 (fun i hi e => by omega)⟩
  rw [blk_setCell h.m]
  rfl
theorem Lp.setB (h : Lp w wr k a b A n c) (b2 : Nat) : Lp w (wr.setCell ⟨w.heap.size + 1 + 1, 2, none⟩ (.int .i64 (b2 : Int))) k a b2 A n c := by
  have k1 := (Upd.refl (fun i => i = w.heap.size + 1 + 1) wr).setCell (p := ⟨w.heap.size + 1 + 1, 2, none⟩) (fun _ => rfl) (.int .i64 (b2 : Int))
  refine ⟨?_, k1.blk h.p (by omega), k1.blk h.f (by omega), k1.blk h.r (by omega), h.upd.trans k1 (fun i hi e => by omega)⟩
  rw [blk_setCell h.m]
  rfl
end
/-- A struct of four cells is stored into, cell by cell. -/
theorem four {w : World} {r : Nat} {x0 x1 x2 x3 : Value} {e : TypeId} (h : w.heap[r]? = some (.cells #[x0, x1, x2, x3] e (0, 0))) :
    (w.cell? ⟨r, 0, none⟩ = some x0 ∧ w.frozen? ⟨r, 0, none⟩ = false) ∧
    (∀ v0, (w.setCell ⟨r, 0, none⟩ v0).cell? ⟨r, 1, none⟩ = some x1 ∧ (w.setCell ⟨r, 0, none⟩ v0).frozen? ⟨r, 1, none⟩ = false) ∧
    (∀ v0 v1, ((w.setCell ⟨r, 0, none⟩ v0).setCell ⟨r, 1, none⟩ v1).cell? ⟨r, 2, none⟩ = some x2 ∧ ((w.setCell ⟨r, 0, none⟩ v0).setCell ⟨r, 1, none⟩ v1).frozen? ⟨r, 2, none⟩ = false) ∧
    (∀ v0 v1 v2, (((w.setCell ⟨r, 0, none⟩ v0).setCell ⟨r, 1, none⟩ v1).setCell ⟨r, 2, none⟩ v2).cell? ⟨r, 3, none⟩ = some x3 ∧ (((w.setCell ⟨r, 0, none⟩ v0).setCell ⟨r, 1, none⟩ v1).setCell ⟨r, 2, none⟩ v2).frozen? ⟨r, 3, none⟩ = false) ∧
    (∀ v0 v1 v2 v3, ((((w.setCell ⟨r, 0, none⟩ v0).setCell ⟨r, 1, none⟩ v1).setCell ⟨r, 2, none⟩ v2).setCell ⟨r, 3, none⟩ v3).heap[r]? = some (.cells #[v0, v1, v2, v3] e (0, 0))) := by
  have b0 := fun v0 => blk_setCell (o := 0) h v0
  have b1 := fun v0 v1 => blk_setCell (o := 1) (b0 v0) v1
  have b2 := fun v0 v1 v2 => blk_setCell (o := 2) (b1 v0 v1) v2
  have b3 := fun v0 v1 v2 v3 => blk_setCell (o := 3) (b2 v0 v1 v2) v3
  refine ⟨⟨by simp [World.cell?, h], by simp [World.frozen?, h]⟩, fun v0 => ⟨by simp [World.cell?, b0], by simp [World.frozen?, b0]⟩, fun v0 v1 => ⟨by simp [World.cell?, b1], by simp [World.frozen?, b1]⟩, fun v0 v1 v2 => ⟨by simp [World.cell?, b2], by simp [World.frozen?, b2]⟩, fun v0 v1 v2 v3 => ?_⟩
  rw [b3]
  rfl
theorem four_upd {w w5 : World} {r : Nat} (h : Upd (fun _ => False) w w5) (hr : w.heap.size ≤ r) (v0 v1 v2 v3 : Value) : Upd (fun _ => False) w ((((w5.setCell ⟨r, 0, none⟩ v0).setCell ⟨r, 1, none⟩ v1).setCell ⟨r, 2, none⟩ v2).setCell ⟨r, 3, none⟩ v3) :=
  (((h.setCell (p := ⟨r, 0, none⟩) (fun e => by simp only at e; omega) v0).setCell (p := ⟨r, 1, none⟩) (fun e => by simp only at e; omega) v1).setCell (p := ⟨r, 2, none⟩) (fun e => by simp only at e; omega) v2).setCell (p := ⟨r, 3, none⟩) (fun e => by simp only at e; omega) v3
set_option maxHeartbeats 4000000 in
set_option maxRecDepth 100000 in
theorem of_calls (kind : UInt8) (A : Option Addr) (c : Nat) (body : List UInt8) (w : World) (hr : Rd w A body.length body) (hc : body.length ≤ c) (hbl : body.length ≤ 1048576) :
    Calls Try.prog 31 #[.agg #[.int .u8 (kind.toNat : Int), .slice A body.length c]] w (OfPost (kind.toNat : Int) body w) := by
  have HB := Asd.mk hr
  obtain ⟨k, hk⟩ : ∃ k : Int, k = (kind.toNat : Int) := ⟨_, rfl⟩
  have hk0 : 0 ≤ k ∧ k ≤ 255 := by have := kind.toNat_lt; omega
  rw [← hk]
  clear hr hk
  obtain ⟨N, hN⟩ : ∃ N, N = nums k := ⟨_, rfl⟩
  have hN2 : N ≤ 2 := by rw [hN]; exact nums_le k
  have HN := Asd.mk hN
  clear hN
  go_enter Try.func31, Try.ntmps31
  go_wp2_with fail
  refine (shape_calls k _).mono ?_
  rw [← HN.out]
  obtain ⟨M, hM⟩ : ∃ M, M = most k := ⟨_, rfl⟩
  rw [← hM]
  clear hM
  rintro e w1 ⟨rfl, rfl⟩
  have none_ : ∀ w', isMsg k body = false → Upd (fun _ => False) w w' → OfPost k body w (.returned (.tuple #[.agg #[.int .i64 0, .int .i64 0, .int .i64 0, .string { data := #[] }], .bool false])) w' := fun w' h hu => ⟨hu, by rw [h]; rfl⟩
  have HNone := Asd.mk none_
  clear none_
  cases hkn : known k with
  | false =>
    have HI : Asd (isMsg k body = false) := ⟨by unfold isMsg; rw [hkn]; rfl⟩
    clear hkn
    go_wp2
    refine bodyPost_ret (v := .tuple #[.agg #[.int .i64 0, .int .i64 0, .int .i64 0, .string { data := #[] }], .bool false]) (by simp [results, Try.results31, go_sem]) rfl (HNone.out _ HI.out (by repeat (first | exact Upd.refl _ _ | refine Upd.alloc ?_ _ | refine Upd.setCell ?_ (fun h => absurd h (by simp)) _)))
  | true =>
    have HKN := Asd.mk hkn
    clear hkn
    by_cases hlen : body.length < 6 * N
    · have HI : Asd (isMsg k body = false) := ⟨by unfold isMsg; rw [← HN.out, decide_eq_false (by omega)]; simp⟩
      have hle : (body.length : Int) < 6 * (N : Int) := by omega
      have hw6 : IntKind.i64.wrap (6 * (N : Int)) = 6 * (N : Int) := w64i _ (by omega) (by omega)
      go_wp2
      refine bodyPost_ret (v := .tuple #[.agg #[.int .i64 0, .int .i64 0, .int .i64 0, .string { data := #[] }], .bool false]) (by simp [results, Try.results31, go_sem]) rfl (HNone.out _ HI.out (by repeat (first | exact Upd.refl _ _ | refine Upd.alloc ?_ _ | refine Upd.setCell ?_ (fun h => absurd h (by simp)) _)))
    · have hle : ¬ ((body.length : Int) < 6 * (N : Int)) := by omega
      have hw6 : IntKind.i64.wrap (6 * (N : Int)) = 6 * (N : Int) := w64i _ (by omega) (by omega)
      have hN2i : (N : Int) ≤ 2 := by omega
      go_wp2
      go_loopw [40] (fun v40 wr => ∃ j : Nat, v40 = .int .i64 (j : Int) ∧ j ≤ N ∧ Asd (Lp w wr k (numA j body) (numB j body) A body.length c)) (fun v40 _ => N - (intOf v40).toNat)
      case atStart => exact ⟨0, rfl, by omega, ⟨Lp.start w k A body.length c⟩⟩
      case round =>
        obtain ⟨j, rfl, hj, HL⟩ := hrel
        by_cases hjn : j < N
        · rcases (by omega : j = 0 ∨ j = 1) with rfl | rfl
          · obtain ⟨seg, hseg⟩ : ∃ seg, seg = (body.take 6).drop 0 := ⟨_, rfl⟩
            have h6l : 6 ≤ body.length := by omega
            obtain ⟨A6, hcut, _, hrd6, _⟩ := cut_both' (P := Try.prog) 27 5 .i64 .i64 (sz := 1) Try.underlying27 (by kernel_rfl) A body.length c 0 6 0 6 rfl rfl (by omega) h6l hc
            have hr6 := hrd6 rfl _ _ HB.out
            rw [← hseg] at hr6
            have HR6 := Asd.mk hr6
            have HSL := Asd.mk (show seg.length = 6 by rw [hseg, List.length_drop, List.length_take]; omega)
            have HSG := Asd.mk hseg
            have hp0 : wr.cell? ⟨w.heap.size + 1 + 1 + 1, 0, none⟩ = some (.pointer (some ⟨w.heap.size + 1 + 1, 1, none⟩)) := by simp [World.cell?, HL.out.p]
            have hf1 : wr.cell? ⟨w.heap.size, 1, none⟩ = some (.slice A body.length c) := by simp [World.cell?, HL.out.f]
            clear hr6 hrd6 hseg
            go_wp2
            clear hp0 hf1
            go_loopw [54] (fun v54 wr => ∃ i : Nat, v54 = .int .i64 (i : Int) ∧ i ≤ 6 ∧ Asd (Lp w wr k (val (seg.take i)) 0 A body.length c)) (fun v54 _ => 6 - (intOf v54).toNat)
            case atStart => exact ⟨0, rfl, by omega, HL⟩
            case round =>
              obtain ⟨i, rfl, hi, HI2⟩ := hrel
              by_cases hlt6 : i < 6
              · obtain ⟨ad, rfl, hc0⟩ := (HR6.out.up HI2.out.upd).at i hlt6
                obtain ⟨x, hx⟩ : ∃ x, x = seg[i]'(by rw [HSL.out]; exact hlt6) := ⟨_, rfl⟩
                rw [← hx] at hc0
                have HV := Asd.mk (show val (seg.take (i + 1)) = val (seg.take i) * 256 + x.toNat by rw [List.take_succ_eq_append_getElem (by rw [HSL.out]; exact hlt6), val_snoc, ← hx])
                obtain ⟨v, hv⟩ : ∃ v, v = val (seg.take i) := ⟨_, rfl⟩
                have hvl : v < 1099511627776 := by
                  rw [hv]
                  refine Nat.lt_of_lt_of_le (val_lt _) ?_
                  rw [List.length_take, HSL.out]
                  exact Nat.le_trans (Nat.pow_le_pow_right (by omega) (show min i 6 ≤ 5 by omega)) (by decide)
                rw [← hv] at HV HI2
                have hcm : wr.cell? ⟨w.heap.size + 1 + 1, 1, none⟩ = some (.int .i64 (v : Int)) := by simp [World.cell?, HI2.out.m]
                have hfm : wr.frozen? ⟨w.heap.size + 1 + 1, 1, none⟩ = false := by simp [World.frozen?, HI2.out.m]
                have hsh : IntKind.i64.wrap ((v : Int) * 256) = (v : Int) * 256 := w64i _ (by omega) (by omega)
                have hor := or_low v hvl x
                have hxw : wrap64 (x.toNat : Int) = (x.toNat : Int) := by have := x.toNat_lt; unfold wrap64; omega
                obtain ⟨v2, hv2⟩ : ∃ v2, v2 = v * 256 + x.toNat := ⟨_, rfl⟩
                rw [← hv2] at HV hor
                have hwi : IntKind.i64.wrap ((i : Int) + 1) = ((i + 1 : Nat) : Int) := by rw [w64i _ (by omega) (by omega)]; rfl
                have HN2 := Asd.mk (HI2.out.setA v2)
                clear hv hx hv2
                go_wp2
                go_roundw
                case rel => exact ⟨i + 1, rfl, by omega, by rw [HV.out]; exact HN2⟩
                case measure => (simp only [intOf]; omega)
              · have hi6 : i = 6 := by omega
                subst hi6
                have hT := List.take_of_length_le (show seg.length ≤ 6 by rw [HSL.out]; omega)
                rw [hT] at HI2
                have hwj : IntKind.i64.wrap (((0 : Nat) : Int) + 1) = ((0 + 1 : Nat) : Int) := rfl
                go_wp2
                go_roundw
                case rel => exact ⟨0 + 1, rfl, by omega, by have h9 := HI2; rw [HSG.out, List.drop_zero] at h9; exact h9⟩
                case measure => (simp only [intOf]; omega)
          · obtain ⟨seg, hseg⟩ : ∃ seg, seg = (body.take 12).drop 6 := ⟨_, rfl⟩
            have h6l : 12 ≤ body.length := by omega
            obtain ⟨A6, hcut, _, hrd6, _⟩ := cut_both' (P := Try.prog) 27 5 .i64 .i64 (sz := 1) Try.underlying27 (by kernel_rfl) A body.length c 6 12 6 12 rfl rfl (by omega) h6l hc
            have hr6 := hrd6 rfl _ _ HB.out
            rw [← hseg] at hr6
            have HR6 := Asd.mk hr6
            have HSL := Asd.mk (show seg.length = 6 by rw [hseg, List.length_drop, List.length_take]; omega)
            have HSG := Asd.mk hseg
            have hp0 : wr.cell? ⟨w.heap.size + 1 + 1 + 1, 1, none⟩ = some (.pointer (some ⟨w.heap.size + 1 + 1, 2, none⟩)) := by simp [World.cell?, HL.out.p]
            have hf1 : wr.cell? ⟨w.heap.size, 1, none⟩ = some (.slice A body.length c) := by simp [World.cell?, HL.out.f]
            clear hr6 hrd6 hseg
            go_wp2
            clear hp0 hf1
            go_loopw [54] (fun v54 wr => ∃ i : Nat, v54 = .int .i64 (i : Int) ∧ i ≤ 6 ∧ Asd (Lp w wr k (numA 2 body) (val (seg.take i)) A body.length c)) (fun v54 _ => 6 - (intOf v54).toNat)
            case atStart => exact ⟨0, rfl, by omega, HL⟩
            case round =>
              obtain ⟨i, rfl, hi, HI2⟩ := hrel
              by_cases hlt6 : i < 6
              · obtain ⟨ad, rfl, hc0⟩ := (HR6.out.up HI2.out.upd).at i hlt6
                obtain ⟨x, hx⟩ : ∃ x, x = seg[i]'(by rw [HSL.out]; exact hlt6) := ⟨_, rfl⟩
                rw [← hx] at hc0
                have HV := Asd.mk (show val (seg.take (i + 1)) = val (seg.take i) * 256 + x.toNat by rw [List.take_succ_eq_append_getElem (by rw [HSL.out]; exact hlt6), val_snoc, ← hx])
                obtain ⟨v, hv⟩ : ∃ v, v = val (seg.take i) := ⟨_, rfl⟩
                have hvl : v < 1099511627776 := by
                  rw [hv]
                  refine Nat.lt_of_lt_of_le (val_lt _) ?_
                  rw [List.length_take, HSL.out]
                  exact Nat.le_trans (Nat.pow_le_pow_right (by omega) (show min i 6 ≤ 5 by omega)) (by decide)
                rw [← hv] at HV HI2
                have hcm : wr.cell? ⟨w.heap.size + 1 + 1, 2, none⟩ = some (.int .i64 (v : Int)) := by simp [World.cell?, HI2.out.m]
                have hfm : wr.frozen? ⟨w.heap.size + 1 + 1, 2, none⟩ = false := by simp [World.frozen?, HI2.out.m]
                have hsh : IntKind.i64.wrap ((v : Int) * 256) = (v : Int) * 256 := w64i _ (by omega) (by omega)
                have hor := or_low v hvl x
                have hxw : wrap64 (x.toNat : Int) = (x.toNat : Int) := by have := x.toNat_lt; unfold wrap64; omega
                obtain ⟨v2, hv2⟩ : ∃ v2, v2 = v * 256 + x.toNat := ⟨_, rfl⟩
                rw [← hv2] at HV hor
                have hwi : IntKind.i64.wrap ((i : Int) + 1) = ((i + 1 : Nat) : Int) := by rw [w64i _ (by omega) (by omega)]; rfl
                have HN2 := Asd.mk (HI2.out.setB v2)
                clear hv hx hv2
                go_wp2
                go_roundw
                case rel => exact ⟨i + 1, rfl, by omega, by rw [HV.out]; exact HN2⟩
                case measure => (simp only [intOf]; omega)
              · have hi6 : i = 6 := by omega
                subst hi6
                have hT := List.take_of_length_le (show seg.length ≤ 6 by rw [HSL.out]; omega)
                rw [hT] at HI2
                have hwj : IntKind.i64.wrap (((1 : Nat) : Int) + 1) = ((1 + 1 : Nat) : Int) := rfl
                go_wp2
                go_roundw
                case rel => exact ⟨1 + 1, rfl, by omega, by have h9 := HI2; rw [HSG.out, List.drop_take] at h9; exact h9⟩
                case measure => (simp only [intOf]; omega)
        · have hjN : j = N := by omega
          subst hjN
          have hlen6 : 6 * j ≤ body.length := by omega
          obtain ⟨a, ha⟩ : ∃ a, a = numA j body := ⟨_, rfl⟩
          obtain ⟨b, hb⟩ : ∃ b, b = numB j body := ⟨_, rfl⟩
          obtain ⟨t, ht⟩ : ∃ t, t = body.drop (6 * j) := ⟨_, rfl⟩
          rw [← ha, ← hb] at HL
          have HABT := Asd.mk (And.intro ha (And.intro hb ht))
          clear ha hb ht
          obtain ⟨A7, hcut, _, hrd7, _⟩ := cut_from' (P := Try.prog) 27 5 .i64 (sz := 1) Try.underlying27 (by kernel_rfl) A body.length c (6 * j) (6 * (j : Int)) (by omega) hlen6 hc
          have hr7 := (hrd7 rfl _ _ HB.out).up HL.out.upd
          rw [← HABT.out.2.2] at hr7
          have hs7 := run_str (P := Try.prog) (c := c - 6 * j) Try.underlying27 Try.underlying5 Try.underlying9 hr7
          have hf1 : wr.cell? ⟨w.heap.size, 1, none⟩ = some (.slice A body.length c) := by simp [World.cell?, HL.out.f]
          have hm3 : wr.cell? ⟨w.heap.size + 1 + 1, 3, none⟩ = some (.string { data := #[] }) := by simp [World.cell?, HL.out.m]
          have hz3 : wr.frozen? ⟨w.heap.size + 1 + 1, 3, none⟩ = false := by simp [World.frozen?, HL.out.m]
          have k1 := (Upd.refl (fun i => i = w.heap.size + 1 + 1) wr).setCell (p := ⟨w.heap.size + 1 + 1, 3, none⟩) (fun _ => rfl) (.string (S t))
          have hM := blk_setCell (o := 3) HL.out.m (.string (S t))
          have hR := k1.blk HL.out.r (by omega)
          have HU1 : Asd (Upd (fun _ => False) w (wr.setCell ⟨w.heap.size + 1 + 1, 3, none⟩ (.string (S t)))) := ⟨HL.out.upd.trans k1 (fun i hi e => by omega)⟩
          have c0 : (wr.setCell ⟨w.heap.size + 1 + 1, 3, none⟩ (.string (S t))).cell? ⟨w.heap.size + 1 + 1, 0, none⟩ = some (.int .i64 k) := by simp [World.cell?, hM]
          have c1 : (wr.setCell ⟨w.heap.size + 1 + 1, 3, none⟩ (.string (S t))).cell? ⟨w.heap.size + 1 + 1, 1, none⟩ = some (.int .i64 (a : Int)) := by simp [World.cell?, hM]
          have c2 : (wr.setCell ⟨w.heap.size + 1 + 1, 3, none⟩ (.string (S t))).cell? ⟨w.heap.size + 1 + 1, 2, none⟩ = some (.int .i64 (b : Int)) := by simp [World.cell?, hM]
          have c3 : (wr.setCell ⟨w.heap.size + 1 + 1, 3, none⟩ (.string (S t))).cell? ⟨w.heap.size + 1 + 1, 3, none⟩ = some (.string (S t)) := by simp [World.cell?, hM]
          have HM := Asd.mk hM
          have HRr := Asd.mk hR
          clear hrd7 hr7 k1 hM hR HL
          go_wp2_with fail
          refine (right_calls k a b (S t) _).mono ?_
          rw [S_size]
          rintro e w5 ⟨rfl, hu5⟩
          have HM5 := Asd.mk (hu5.blk HM.out (fun h => h))
          have HR5 := Asd.mk (hu5.blk HRr.out (fun h => h))
          have HU5 : Asd (Upd (fun _ => False) w w5) := ⟨HU1.out.trans hu5 (fun _ _ h => h)⟩
          have HI9 : Asd (isMsg k body = right k a b t.length) := ⟨by unfold isMsg; rw [← HN.out, HKN.out, ← HABT.out.1, ← HABT.out.2.1, ← HABT.out.2.2, decide_eq_true hlen6]; simp⟩
          clear hu5 HM HRr HU1 c0 c1 c2 c3 hs7 hf1 hm3 hz3 hcut
          have d0 : w5.cell? ⟨w.heap.size + 1 + 1, 0, none⟩ = some (.int .i64 k) := by simp [World.cell?, HM5.out]
          have d1 : w5.cell? ⟨w.heap.size + 1 + 1, 1, none⟩ = some (.int .i64 (a : Int)) := by simp [World.cell?, HM5.out]
          have d2 : w5.cell? ⟨w.heap.size + 1 + 1, 2, none⟩ = some (.int .i64 (b : Int)) := by simp [World.cell?, HM5.out]
          have d3 : w5.cell? ⟨w.heap.size + 1 + 1, 3, none⟩ = some (.string (S t)) := by simp [World.cell?, HM5.out]
          obtain ⟨⟨z0, y0⟩, g1, g2, g3, g4⟩ := four HR5.out
          have z1 := fun v0 => (g1 v0).1
          have y1 := fun v0 => (g1 v0).2
          have z2 := fun v0 v1 => (g2 v0 v1).1
          have y2 := fun v0 v1 => (g2 v0 v1).2
          have z3 := fun v0 v1 v2 => (g3 v0 v1 v2).1
          have y3 := fun v0 v1 v2 => (g3 v0 v1 v2).2
          have G4 := Asd.mk g4
          clear g1 g2 g3 g4
          cases hrt : right k a b t.length with
          | false =>
            rw [hrt] at HI9
            clear hrt
            go_wp2
            have q := G4.out (.int .i64 0) (.int .i64 0) (.int .i64 0) (.string { data := #[] })
            refine bodyPost_ret (v := .tuple #[.agg #[.int .i64 0, .int .i64 0, .int .i64 0, .string { data := #[] }], .bool false]) (by simp [results, Try.results31, go_sem, World.cell?, q]) rfl (HNone.out _ HI9.out (four_upd HU5.out (by omega) _ _ _ _))
          | true =>
            rw [hrt] at HI9
            clear hrt
            go_wp2
            have q := G4.out (.int .i64 k) (.int .i64 (a : Int)) (.int .i64 (b : Int)) (.string (S t))
            refine bodyPost_ret (v := .tuple #[.agg #[.int .i64 k, .int .i64 (a : Int), .int .i64 (b : Int), .string (S t)], .bool true]) (by simp [results, Try.results31, go_sem, World.cell?, q]) rfl ⟨four_upd HU5.out (by omega) _ _ _ _, ?_⟩
            rw [HI9.out, ← HN.out, ← HABT.out.1, ← HABT.out.2.1, ← HABT.out.2.2]
            rfl
end Go.Proofs.Ytpphejjdgplalaa.MgOf
