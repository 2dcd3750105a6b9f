/- The last bytes of an output (package ring): what each of its functions comes to. -/
import Derived.Test.YtpphejjdgplalaaK3
set_option linter.unusedVariables false
set_option linter.unusedSimpArgs false
namespace Go.Proofs.Ytpphejjdgplalaa.Rg
open Go.RowKit K

theorem info8 : (Try.prog.info? 5).map (fun i => (i.zero, i.size, i.bytes)) = some (some (.int .u8 0), 1, 1) := by kernel_rfl
/-- A ring at block q, its bytes in block g, for n bytes; l came in all; 'base' is what stands in its cell. -/
structure Bare (w : World) (q g n : Nat) (l : List UInt8) (base : Nat) : Prop where
  blk : w.heap[q]? = some (.cells #[.slice (some ⟨g, 0, none⟩) n n, .int .i64 (base : Int), .int .i64 (l.length : Int)] 70 (0, 0))
  own : ∃ cs : List UInt8, Own w 5 1 (.slice (some ⟨g, 0, none⟩) n n) n (B cs) (some g) ∧ ∀ i (h : i < l.length), l.length ≤ i + n → cs[i % n]? = some l[i]
  ne : q ≠ g
  lo : 1 ≤ n
  hi : n ≤ 65536
  few : l.length ≤ 1099511627776
def Ring (w : World) (q g n : Nat) (l : List UInt8) : Prop := Bare w q g n l (l.length - n)
def Its (q g k : Nat) : Prop := k = q ∨ k = g
section
variable {w w1 : World} {q g n base : Nat} {l : List UInt8} {S : Nat → Prop}
theorem Bare.upd (h : Bare w q g n l base) (k : Upd S w w1) (hn : ∀ i, Its q g i → ¬ S i) : Bare w1 q g n l base := by
  obtain ⟨cs, ho, hcs⟩ := h.own
  exact ⟨k.blk h.blk (hn q (.inl rfl)), ⟨cs, ho.upd k (fun g' e => by obtain rfl := Option.some.inj e; exact hn _ (.inr rfl)), hcs⟩, h.ne, h.lo, h.hi, h.few⟩
theorem Bare.up (h : Bare w q g n l base) (k : Upd (fun _ => False) w w1) : Bare w1 q g n l base := h.upd k (fun _ _ h => h)
theorem Ring.upd (h : Ring w q g n l) (k : Upd S w w1) (hn : ∀ i, Its q g i → ¬ S i) : Ring w1 q g n l := Bare.upd h k hn
theorem Ring.up (h : Ring w q g n l) (k : Upd (fun _ => False) w w1) : Ring w1 q g n l := Bare.up h k
theorem Bare.lt (h : Bare w q g n l base) : ∀ k, Its q g k → k < w.heap.size := by
  obtain ⟨cs, ho, hcs⟩ := h.own
  rintro k (rfl | rfl)
  · exact blk_lt h.blk
  · exact ho.lt k rfl
theorem Bare.cells (h : Bare w q g n l base) : w.cell? ⟨q, 0, none⟩ = some (.slice (some ⟨g, 0, none⟩) n n) ∧ w.cell? ⟨q, 1, none⟩ = some (.int .i64 (base : Int)) ∧ w.cell? ⟨q, 2, none⟩ = some (.int .i64 (l.length : Int)) := by
  have := h.blk
  exact ⟨by simp [World.cell?, this], by simp [World.cell?, this], by simp [World.cell?, this]⟩
end
def roomN (size : Int) : Nat := (mx 1 (mn size 65536)).toNat
theorem roomN_le (size : Int) : 1 ≤ roomN size ∧ roomN size ≤ 65536 ∧ mx 1 (mn size 65536) = (roomN size : Int) := by
  unfold roomN mx mn
  split <;> split <;> omega
def NewPost (n : Nat) (w : World) (e : Ending) (w' : World) : Prop := ∃ q g, e = .returned (.pointer (some ⟨q, 0, none⟩)) ∧ Ring w' q g n [] ∧ Upd (fun _ => False) w w' ∧ w.heap.size ≤ q ∧ w.heap.size ≤ g
set_option maxHeartbeats 400000 in
theorem new_calls (size : Int) (w : World) : Calls Try.prog 16 #[.int .i64 size] w (NewPost (roomN size) w) := by
  obtain ⟨h1, h2, h3⟩ := roomN_le size
  obtain ⟨n, hn⟩ : ∃ n, n = roomN size := ⟨_, rfl⟩
  rw [← hn] at h1 h2 h3
  rw [← hn]
  have H3 := Asd.mk h3
  clear h3 hn
  go_enter Try.func16, Try.ntmps16
  go_wp2_with (first | (with_reducible refine stop_append _ _ _ _ rfl ?_) | (with_reducible refine stop_copy _ _ _ _ rfl ?_) | (with_reducible refine stop_make _ _ _ rfl ?_) | (with_reducible refine stop_conv 27 9 _ rfl ?_))
  rw [H3.out]
  refine wp_makeB n 5 rfl _ _ 27 rfl Try.underlying27 info8 rfl rfl (by omega) ?_
  intro w1 hO1 hU1 hs1
  have HO1 := Asd.mk hO1
  have HU1 := Asd.mk hU1
  have HS1 := Asd.mk hs1
  clear hO1 hU1 hs1
  go_wp2
  go_ret
  have hs := HS1.out
  refine ⟨w1.heap.size, w.heap.size, rfl, ⟨?_, ⟨List.replicate n 0, HO1.out.upd ((Upd.refl (fun _ => False) _).alloc _) (fun _ _ h => h), fun i h => absurd h (by simp)⟩, by omega, h1, h2, by simp⟩, HU1.out.alloc _, by omega, Nat.le_refl _⟩
  have := heap_alloc_new w1 (.cells #[.slice (some ⟨w.heap.size, 0, none⟩) n n, .int .i64 0, .int .i64 0] 70)
  simpa using this
section
variable {w : World} {q g n base : Nat} {l : List UInt8}
set_option maxHeartbeats 400000 in
theorem base_calls (h : Bare w q g n l base) : Calls Try.prog 19 #[.pointer (some ⟨q, 0, none⟩)] w fun e w' => e = .returned (.int .i64 (base : Int)) ∧ w = w' := by
  obtain ⟨h0, h1, h2⟩ := h.cells
  clear h
  go_enter Try.func19, Try.ntmps19
  go_wp2
  go_ret
  exact ⟨rfl, rfl⟩
set_option maxHeartbeats 400000 in
theorem end_calls (h : Bare w q g n l base) : Calls Try.prog 20 #[.pointer (some ⟨q, 0, none⟩)] w fun e w' => e = .returned (.int .i64 (l.length : Int)) ∧ w = w' := by
  obtain ⟨h0, h1, h2⟩ := h.cells
  clear h
  go_enter Try.func20, Try.ntmps20
  go_wp2
  go_ret
  exact ⟨rfl, rfl⟩
set_option maxHeartbeats 400000 in
theorem at_calls (h : Bare w q g n l base) (i : Nat) (hi : i < l.length) (hb : l.length ≤ i + n) : Calls Try.prog 42 #[.pointer (some ⟨q, 0, none⟩), .int .i64 (i : Int)] w fun e w' => e = .returned (.int .u8 (l[i].toNat : Int)) ∧ Dr w w' := by
  obtain ⟨h0, h1, h2⟩ := h.cells
  have hlo := h.lo
  have hhi := h.hi
  obtain ⟨cs, ho, hcs⟩ := h.own
  have hm : i % n < n := Nat.mod_lt _ (by omega)
  have hx := hcs i hi hb
  have hc := (ho.cellB (i % n) hm).1
  rw [List.getElem?_eq_getElem (by rw [ho.llen]; exact hm), Option.some.injEq] at hx
  rw [hx, Nat.zero_add] at hc
  have hnb : ((n : Int) == 0) = false := beq_eq_false_iff_ne.2 (by omega)
  obtain ⟨c, hcc⟩ : ∃ c, c = l[i] := ⟨_, rfl⟩
  rw [← hcc] at hc
  rw [← hcc]
  clear h ho hcs hx hcc
  go_enter Try.func42, Try.ntmps42
  go_wp2
  go_quiet (fail)
  go_wp2
  go_ret
  exact ⟨rfl, _, rfl⟩
theorem mod_apart (a b n : Nat) (h1 : a < b) (h2 : b < a + n) : a % n ≠ b % n := by
  intro e
  have h3 := Nat.div_add_mod a n
  have h4 := Nat.div_add_mod b n
  rw [e] at h3
  have : n * (b / n) - n * (a / n) = b - a := by omega
  rw [← Nat.mul_sub] at this
  rcases Nat.eq_zero_or_pos (b / n - a / n) with h | h
  · rw [h] at this; omega
  · have := Nat.mul_le_mul_left n h
    omega
/-- One byte more, in its place. -/
theorem Bare.put (h : Bare w q g n l base) (c : UInt8) (hf : (l ++ [c]).length ≤ 1099511627776) :
    Bare ((w.setCell ⟨g, l.length % n, none⟩ (.int .u8 (c.toNat : Int))).setCell ⟨q, 2, none⟩ (.int .i64 ((l.length : Int) + 1))) q g n (l ++ [c]) base := by
  have hlo := h.lo
  have hm : l.length % n < n := Nat.mod_lt _ (by omega)
  obtain ⟨cs, ho, hcs⟩ := h.own
  have h1 := ho.setB (l.length % n) hm c
  rw [Nat.zero_add] at h1
  have hb1 := ((Upd.refl (fun k => k = g) w).setCell (p := ⟨g, l.length % n, none⟩) (fun _ => rfl) (.int .u8 (c.toNat : Int))).blk h.blk h.ne
  have hb2 := blk_setCell (o := 2) hb1 (.int .i64 ((l.length : Int) + 1))
  refine ⟨?_, ⟨cs.set (l.length % n) c, h1.upd ((Upd.refl (fun k => k = q) _).setCell (fun _ => rfl) _) (fun g' e e2 => by obtain rfl := Option.some.inj e; exact h.ne e2.symm), fun i hi hb => ?_⟩, h.ne, h.lo, h.hi, hf⟩
  · rw [hb2]
    simp
  · rw [List.length_append] at hi hb
    simp only [List.length_cons, List.length_nil] at hi hb
    have hcl : cs.length = n := ho.llen
    by_cases e : i = l.length
    · subst e
      rw [List.getElem?_set_self (by omega)]
      simp
    · rw [List.getElem?_set_ne (fun e2 => mod_apart i l.length n (by omega) (by omega) e2.symm), hcs i (by omega) (by omega)]
      rw [List.getElem_append_left]
/-- The first byte that is there is told anew. -/
theorem Bare.based (h : Bare w q g n l base) (b2 : Nat) : Bare (w.setCell ⟨q, 1, none⟩ (.int .i64 (b2 : Int))) q g n l b2 := by
  obtain ⟨cs, ho, hcs⟩ := h.own
  have hb2 := blk_setCell (o := 1) h.blk (.int .i64 (b2 : Int))
  refine ⟨?_, ⟨cs, ho.upd ((Upd.refl (fun k => k = q) _).setCell (fun _ => rfl) _) (fun g' e e2 => by obtain rfl := Option.some.inj e; exact h.ne e2.symm), hcs⟩, h.ne, h.lo, h.hi, h.few⟩
  rw [hb2]
  simp
def AppPost (q g n : Nat) (l : List UInt8) (w : World) (e : Ending) (w' : World) : Prop := e = .returned (.bool true) ∧ Ring w' q g n l ∧ Upd (Its q g) w w'
set_option maxHeartbeats 2000000 in
theorem append_still (h : Ring w q g n l) (A : Option Addr) (m c : Nat) (b : List UInt8) (hst : ∀ W, Upd (Its q g) w W → Rd W A m b) (hN : l.length + m ≤ 1099511627776) :
    Calls Try.prog 17 #[.pointer (some ⟨q, 0, none⟩), .slice A m c] w (AppPost q g n (l ++ b) w) := by
  obtain ⟨h0, h1, h2⟩ := Bare.cells h
  have hlo := h.lo
  have hhi := h.hi
  obtain ⟨base, hbase⟩ : ∃ base, base = l.length - n := ⟨_, rfl⟩
  have HB : Asd (Bare w q g n l base) := ⟨by rw [hbase]; exact h⟩
  have HBE := Asd.mk hbase
  have HST := Asd.mk hst
  obtain rfl := (hst w (Upd.refl _ _)).len
  have hlim := (hst w (Upd.refl _ _)).lim
  rw [← hbase] at h1
  have hle : base ≤ l.length := by omega
  clear h hst hbase
  have hcmp : ¬ (1099511627776 - (l.length : Int) < (b.length : Int)) := by omega
  have hw0 : IntKind.i64.wrap (1099511627776 - (l.length : Int)) = 1099511627776 - (l.length : Int) := w64i _ (by omega) (by omega)
  go_enter Try.func17, Try.ntmps17
  go_wp2
  clear h0 h1 h2 hw0
  go_loopw [17] (fun v17 wr => ∃ i : Nat, v17 = .int .i64 i ∧ i ≤ b.length ∧ Asd (Bare wr q g n (l ++ b.take i) base) ∧ Asd (Upd (Its q g) w wr)) (fun v17 _ => b.length - (intOf v17).toNat)
  case atStart => exact ⟨0, rfl, by omega, by simpa using HB, ⟨Upd.refl _ _⟩⟩
  case round =>
    obtain ⟨i, rfl, hi, HBr, HU⟩ := hrel
    by_cases hlt : i < b.length
    · obtain ⟨ad, rfl, hc0⟩ := (HST.out _ HU.out).at i hlt
      obtain ⟨x, hx⟩ : ∃ x, x = b[i] := ⟨_, rfl⟩
      rw [← hx] at hc0
      have HX : Asd (b.take (i + 1) = b.take i ++ [x]) := ⟨by rw [List.take_succ_eq_append_getElem hlt, hx]⟩
      clear hx
      obtain ⟨l2, hl2⟩ : ∃ l2, l2 = l ++ b.take i := ⟨_, rfl⟩
      rw [← hl2] at HBr
      have hll : l2.length ≤ l.length + i := by rw [hl2, List.length_append, List.length_take]; omega
      have HL2 := Asd.mk hl2
      clear hl2
      obtain ⟨h0, h1, h2⟩ := HBr.out.cells
      obtain ⟨cs, ho, hcs⟩ := HBr.out.own
      have hm : l2.length % n < n := Nat.mod_lt _ (by omega)
      obtain ⟨y, hd0, hz0⟩ : ∃ y : Int, wr.cell? ⟨g, l2.length % n, none⟩ = some (.int .u8 y) ∧ wr.frozen? ⟨g, l2.length % n, none⟩ = false := by
        have := ho.cellB (l2.length % n) hm
        rw [Nat.zero_add] at this
        exact ⟨_, this⟩
      have hnb : ((n : Int) == 0) = false := beq_eq_false_iff_ne.2 (by omega)
      have hwi : IntKind.i64.wrap ((i : Int) + 1) = ((i + 1 : Nat) : Int) := by rw [w64i _ (by omega) (by omega)]; rfl
      have hwl : IntKind.i64.wrap ((l2.length : Int) + 1) = (l2.length : Int) + 1 := w64i _ (by omega) (by omega)
      clear ho hcs h1
      go_wp2
      go_region
      have hb1 := ((Upd.refl (fun k => k = g) wr).setCell (p := ⟨g, l2.length % n, none⟩) (fun _ => rfl) (.int .u8 (x.toNat : Int))).blk HBr.out.blk HBr.out.ne
      have hq2 : (wr.setCell ⟨g, l2.length % n, none⟩ (.int .u8 (x.toNat : Int))).cell? ⟨q, 2, none⟩ = some (.int .i64 (l2.length : Int)) := by simp [World.cell?, hb1]
      have hf2 : (wr.setCell ⟨g, l2.length % n, none⟩ (.int .u8 (x.toNat : Int))).frozen? ⟨q, 2, none⟩ = false := by simp [World.frozen?, hb1]
      have HP := Asd.mk (HBr.out.put x (by rw [List.length_append]; simp only [List.length_cons, List.length_nil]; omega))
      have HW : Asd (Upd (Its q g) w ((wr.setCell ⟨g, l2.length % n, none⟩ (.int .u8 (x.toNat : Int))).setCell ⟨q, 2, none⟩ (.int .i64 ((l2.length : Int) + 1)))) := ⟨(HU.out.setCell (p := ⟨g, l2.length % n, none⟩) (fun _ => .inr rfl) _).setCell (p := ⟨q, 2, none⟩) (fun _ => .inl rfl) _⟩
      clear hb1
      go_wp2
      go_roundw
      case rel => exact ⟨i + 1, rfl, by omega, by rw [HX.out, ← List.append_assoc, ← HL2.out]; exact ⟨by first | exact HP.out | exact HP.out.up ((Upd.refl _ _).drew)⟩, ⟨by first | exact HW.out | exact HW.out.drew⟩⟩
      case measure => simp only [intOf]; omega
    · have hi2 : i = b.length := by omega
      subst hi2
      rw [List.take_length] at HBr
      obtain ⟨l2, hl2⟩ : ∃ l2, l2 = l ++ b := ⟨_, rfl⟩
      rw [← hl2] at HBr
      have HL3 := Asd.mk hl2
      have hll : l2.length = l.length + b.length := by rw [hl2, List.length_append]
      have hll1 : l.length ≤ l2.length := by omega
      have hll2 : l2.length ≤ 1099511627776 := by omega
      clear hl2 hll
      obtain ⟨h0, h1, h2⟩ := HBr.out.cells
      have hz1 : wr.frozen? ⟨q, 1, none⟩ = false := by simp [World.frozen?, HBr.out.blk]
      have hws : IntKind.i64.wrap ((l2.length : Int) - (n : Int)) = (l2.length : Int) - (n : Int) := w64i _ (by omega) (by omega)
      have HMX : Asd (mx (base : Int) ((l2.length : Int) - (n : Int)) = ((l2.length - n : Nat) : Int)) := ⟨by have := HBE.out; unfold mx; split <;> omega⟩
      have hmx := HMX.out
      have HP := Asd.mk (HBr.out.based (l2.length - n))
      have HW : Asd (Upd (Its q g) w (wr.setCell ⟨q, 1, none⟩ (.int .i64 ((l2.length - n : Nat) : Int)))) := ⟨HU.out.setCell (p := ⟨q, 1, none⟩) (fun _ => .inl rfl) _⟩
      go_wp2
      go_region
      go_wp2
      go_ret
      exact ⟨rfl, by unfold Ring; rw [← HL3.out]; first | exact HP.out | exact Bare.up HP.out ((Upd.refl _ _).drew), by first | exact HW.out | exact HW.out.drew⟩
theorem append_calls (h : Ring w q g n l) (A : Option Addr) (m c : Nat) (b : List UInt8) (hr : Rd w A m b) (hA : ∀ ad, A = some ad → ¬ Its q g ad.block) (hN : l.length + m ≤ 1099511627776) :
    Calls Try.prog 17 #[.pointer (some ⟨q, 0, none⟩), .slice A m c] w (AppPost q g n (l ++ b) w) :=
  append_still h A m c b (fun W k => hr.upd k hA) hN
/-- What is read: nothing, if from there nothing is there; else new memory. -/
def ReadPost (l : List UInt8) (n : Nat) (off k : Int) (w : World) (e : Ending) (w' : World) : Prop :=
  Upd (fun _ => False) w w' ∧ ((off < ((l.length - n : Nat) : Int) ∨ (l.length : Int) < off) → e = .returned (.tuple #[.slice none 0 0, .bool false])) ∧
    (((l.length - n : Nat) : Int) ≤ off → off ≤ (l.length : Int) → ∃ A c G, e = .returned (.tuple #[.slice A ((l.drop off.toNat).take k.toNat).length c, .bool true]) ∧ Own w' 5 1 (.slice A ((l.drop off.toNat).take k.toNat).length c) ((l.drop off.toNat).take k.toNat).length (B ((l.drop off.toNat).take k.toNat)) G ∧ (∀ g, G = some g → w.heap.size ≤ g))
set_option maxHeartbeats 2000000 in
theorem read_calls (h : Ring w q g n l) (off k : Int) (hk : -9223372036854775808 ≤ k ∧ k ≤ 9223372036854775807) :
    Calls Try.prog 21 #[.pointer (some ⟨q, 0, none⟩), .int .i64 off, .int .i64 k] w (ReadPost l n off k w) := by
  obtain ⟨h0, h1, h2⟩ := Bare.cells h
  obtain ⟨base, hbase⟩ : ∃ base, base = l.length - n := ⟨_, rfl⟩
  have HR := Asd.mk h
  have HBE := Asd.mk hbase
  have hlo := h.lo
  have hhi := h.hi
  have hfew := h.few
  rw [← hbase] at h1
  have hle : base ≤ l.length := by omega
  have hnb : l.length ≤ base + n := by omega
  clear h hbase
  by_cases hno : off < (base : Int) ∨ (l.length : Int) < off
  · have HNo := Asd.mk hno
    by_cases hx : off < (base : Int)
    · go_enter Try.func21, Try.ntmps21
      clear hno
      go_wp2
      refine bodyPost_ret (v := .tuple #[.slice none 0 0, .bool false]) (by simp [results, Try.results21, go_sem]) rfl ?_
      exact ⟨Upd.refl _ _, fun _ => rfl, fun a b => by have := HNo.out; have := HBE.out; omega⟩
    · have hx2 : (l.length : Int) < off := by omega
      go_enter Try.func21, Try.ntmps21
      clear hno
      go_wp2
      refine bodyPost_ret (v := .tuple #[.slice none 0 0, .bool false]) (by simp [results, Try.results21, go_sem]) rfl ?_
      exact ⟨Upd.refl _ _, fun _ => rfl, fun a b => by have := HNo.out; have := HBE.out; omega⟩
  obtain ⟨o, rfl⟩ : ∃ o : Nat, off = (o : Int) := ⟨off.toNat, by omega⟩
  have ho1 : base ≤ o := by omega
  have ho2 : o ≤ l.length := by omega
  have hq1 : ¬ o < base := by omega
  have hq2 : ¬ l.length < o := by omega
  clear hno
  go_enter Try.func21, Try.ntmps21
  go_wp2
  clear h0 h1 h2
  go_loopw [1, 2, 8] (fun v1 v2 v8 wr => ∃ (i : Nat) (A : Option Addr) (c : Nat) (G : Option Nat), v1 = .int .i64 ((o + i : Nat) : Int) ∧ v2 = .int .i64 (k - i) ∧ v8 = .slice A i c ∧ o + i ≤ l.length ∧ (i = 0 ∨ (i : Int) ≤ k) ∧ i ≤ c ∧ c ≤ maxLen ∧ Asd (Own wr 5 1 (.slice A i c) i (B ((l.drop o).take i)) G) ∧ Asd (∀ g, G = some g → w.heap.size ≤ g) ∧ Asd (Upd (fun _ => False) w wr)) (fun v1 _ _ _ => l.length - (intOf v1).toNat)
  case atStart => exact ⟨0, none, 0, none, by simp, by simp, rfl, by omega, .inl rfl, by omega, by simp [maxLen], ⟨Own.nil _ _ _⟩, ⟨fun g e => by cases e⟩, ⟨Upd.refl _ _⟩⟩
  case round =>
    obtain ⟨i, A, c, G, rfl, rfl, rfl, hi, hik, hic, hcm, HO, HG, HU⟩ := hrel
    obtain ⟨h0, h1, h2⟩ := Bare.cells (HR.out.up HU.out)
    have HRr := Asd.mk (HR.out.up HU.out)
    by_cases hgo : (i : Int) < k ∧ o + i < l.length
    · obtain ⟨hg1, hg2⟩ := hgo
      have hp1 : 0 < k - (i : Int) := by omega
      have hp2 : ((o + i : Nat) : Int) < (l.length : Int) := by omega
      have hw1 : IntKind.i64.wrap (((o + i : Nat) : Int) + 1) = ((o + (i + 1) : Nat) : Int) := by rw [w64i _ (by omega) (by omega)]; omega
      have hw2 : IntKind.i64.wrap (k - (i : Int) - 1) = k - ((i + 1 : Nat) : Int) := by rw [w64i _ (by omega) (by omega)]; omega
      obtain ⟨j, hj⟩ : ∃ j, j = o + i := ⟨_, rfl⟩
      rw [← hj] at hg2 hp2 hw1
      rw [← hj]
      have HT : Asd ((l.drop o).take (i + 1) = (l.drop o).take i ++ [l[j]]) := ⟨by
        have h9 : i < (l.drop o).length := by rw [List.length_drop]; omega
        rw [List.take_succ_eq_append_getElem h9, List.getElem_drop]
        simp only [hj]⟩
      have HJ := Asd.mk hj
      have hjb : l.length ≤ j + n := by omega
      have hli := Asd.mk (show ((l.drop o).take i).length = i by rw [List.length_take, List.length_drop]; omega)
      clear hj
      go_wp2_with fail
      refine (at_calls HRr.out j hg2 hjb).mono ?_
      obtain ⟨x, hx⟩ : ∃ x, x = l[j] := ⟨_, rfl⟩
      rw [← hx] at HT
      rw [← hx]
      clear hx
      rintro e w2 ⟨rfl, hd⟩
      have hu2 := hd.upd (fun _ => False)
      have HO2 := Asd.mk (HO.out.upd hu2 (fun _ _ h => h))
      have HW2 : Asd (Upd (fun _ => False) w w2) := ⟨HU.out.trans hu2 (fun _ _ h => h)⟩
      clear hd hu2 HO HU h0 h1 h2 HRr
      go_wp2_with (first | (with_reducible refine stop_append _ _ _ _ rfl ?_) | (with_reducible refine stop_copy _ _ _ _ rfl ?_) | (with_reducible refine stop_make _ _ _ rfl ?_) | (with_reducible refine stop_conv 27 9 _ rfl ?_))
      refine wp_appendF (S := fun _ => False) (w0 := w) (by exact (by repeat (first | exact HW2.out | refine Upd.drew ?_ | refine Upd.drewN ?_ _ | refine Upd.alloc ?_ _))) (i + 1) 5 ((l.drop o).take i) [x] G A i c (some ⟨w2.heap.size, 0, none⟩) 1 1 rfl _ _ 27 rfl Try.underlying27 info8 rfl rfl (HO2.out.upd ((Upd.refl (fun _ => False) _).alloc _) (fun _ _ h => h)) HG.out (Rd.lit w2 _ _ _ 1 _ rfl rfl (by omega)) rfl (by omega) ?_
      intro A5 c5 w5 G5 hc5 hm5 hO5 hG5 hu5 _ _
      rw [← HT.out] at hO5
      have HO5 := Asd.mk hO5
      have HG5 := Asd.mk hG5
      have HU5 := Asd.mk hu5
      clear hO5 hG5 hu5 HO2 HW2 HT HG
      go_wp2
      go_roundw
      case rel => exact ⟨i + 1, A5, c5, G5, rfl, rfl, rfl, by have := HJ.out; omega, .inr (by omega), hc5, hm5, HO5, HG5, HU5⟩
      case measure => have := HJ.out; simp only [intOf]; omega
    · have HEnd : Asd ((l.drop o).take i = (l.drop o).take k.toNat) := ⟨by
        by_cases hk2 : (i : Int) < k
        · rw [List.take_of_length_le (by rw [List.length_drop]; omega), List.take_of_length_le (by rw [List.length_drop]; omega)]
        · congr 1
          omega⟩
      have hli := Asd.mk (show ((l.drop o).take i).length = i by rw [List.length_take, List.length_drop]; omega)
      have fin : ReadPost l n (o : Int) k w (.returned (.tuple #[.slice A i c, .bool true])) wr := by
        refine ⟨HU.out, fun hx => by have := HBE.out; omega, fun _ _ => ⟨A, c, G, ?_, ?_, HG.out⟩⟩
        · rw [Int.toNat_natCast, ← HEnd.out, hli.out]
        · rw [Int.toNat_natCast, ← HEnd.out, hli.out]; exact HO.out
      have FIN := Asd.mk fin
      clear fin
      by_cases hk2 : 0 < k - (i : Int)
      · have hp2 : ¬ (((o + i : Nat) : Int) < (l.length : Int)) := by omega
        clear hgo
        go_wp2
        refine bodyPost_ret (v := .tuple #[.slice A i c, .bool true]) (by simp [results, Try.results21, go_sem]) rfl FIN.out
      · clear hgo
        go_wp2
        refine bodyPost_ret (v := .tuple #[.slice A i c, .bool true]) (by simp [results, Try.results21, go_sem]) rfl FIN.out
/-- From a place on: where a line begins. -/
def lineFrom (l : List UInt8) (base : Nat) : Nat → Nat → Nat
  | 0, i => i
  | k + 1, i => if i = 0 ∨ (base < i ∧ l.getD (i - 1) 0 = 10) then i else lineFrom l base k (i + 1)
def lineOf (l : List UInt8) (base : Nat) (off : Int) : Nat := if (l.length : Int) ≤ mx off (base : Int) then l.length else lineFrom l base (l.length - (mx off (base : Int)).toNat) (mx off (base : Int)).toNat
set_option maxHeartbeats 2000000 in
theorem line_calls (h : Ring w q g n l) (off : Int) :
    Calls Try.prog 23 #[.pointer (some ⟨q, 0, none⟩), .int .i64 off] w fun e w' => e = .returned (.int .i64 ((lineOf l (l.length - n) off : Nat) : Int)) ∧ Upd (fun _ => False) w w' := by
  obtain ⟨h0, h1, h2⟩ := Bare.cells h
  obtain ⟨base, hbase⟩ : ∃ base, base = l.length - n := ⟨_, rfl⟩
  have HR := Asd.mk h
  have HBE := Asd.mk hbase
  have hlo := h.lo
  have hhi := h.hi
  have hfew := h.few
  rw [← hbase] at h1
  rw [← hbase]
  have hle : base ≤ l.length := by omega
  have hnb : l.length ≤ base + n := by omega
  clear h hbase
  by_cases hbig : (l.length : Int) ≤ mx off (base : Int)
  · have hlf : lineOf l base off = l.length := if_pos hbig
    rw [hlf]
    have hbig2 : ¬ (mx off (base : Int) < (l.length : Int)) := by omega
    clear hlf
    go_enter Try.func23, Try.ntmps23
    go_wp2
    go_loopw [1] (fun v1 wr => v1 = .int .i64 (mx off (base : Int)) ∧ wr = w) (fun _ _ => 0)
    case atStart => exact ⟨rfl, rfl⟩
    case round =>
      obtain ⟨rfl, rfl⟩ := hrel
      go_wp2
      go_ret
      exact ⟨rfl, Upd.refl _ _⟩
  have hmb : (base : Int) ≤ mx off (base : Int) := by unfold mx; split <;> omega
  obtain ⟨s, hs⟩ : ∃ s : Nat, mx off (base : Int) = (s : Int) := ⟨(mx off (base : Int)).toNat, by omega⟩
  have hlf : lineOf l base off = lineFrom l base (l.length - s) s := by
    unfold lineOf
    rw [if_neg hbig, hs, Int.toNat_natCast]
  have hsb : base ≤ s := by omega
  have hsl : s < l.length := by omega
  rw [hlf]
  clear hlf hbig hmb
  obtain ⟨r, hr⟩ : ∃ r, r = lineFrom l base (l.length - s) s := ⟨_, rfl⟩
  rw [← hr]
  have HRes := Asd.mk hr
  clear hr
  go_enter Try.func23, Try.ntmps23
  go_wp2
  clear hs h0 h1 h2
  go_loopw [1] (fun v1 wr => ∃ i : Nat, v1 = .int .i64 (i : Int) ∧ base ≤ i ∧ i ≤ l.length ∧ Asd (r = lineFrom l base (l.length - i) i) ∧ Asd (Upd (fun _ => False) w wr)) (fun v1 _ => l.length - (intOf v1).toNat)
  case atStart => exact ⟨s, rfl, hsb, by omega, HRes, ⟨Upd.refl _ _⟩⟩
  case round =>
    obtain ⟨i, rfl, hbi, hil, HI, HU⟩ := hrel
    obtain ⟨h0, h1, h2⟩ := Bare.cells (HR.out.up HU.out)
    rw [← HBE.out] at h1
    by_cases hlt : i < l.length
    · have hst : lineFrom l base (l.length - i) i = if i = 0 ∨ (base < i ∧ l.getD (i - 1) 0 = 10) then i else lineFrom l base (l.length - (i + 1)) (i + 1) := by
        rw [show l.length - i = (l.length - (i + 1)) + 1 by omega]
        rfl
      have hw1 : IntKind.i64.wrap ((i : Int) + 1) = ((i + 1 : Nat) : Int) := by rw [w64i _ (by omega) (by omega)]; rfl
      by_cases hz : i = 0
      · rw [if_pos (.inl hz)] at hst
        have HF : Asd (r = i) := ⟨HI.out.trans hst⟩
        subst hz
        clear hst
        go_wp2
        go_ret
        exact ⟨by rw [HF.out]; rfl, HU.out⟩
      have hzb : ((i : Int) == 0) = false := beq_eq_false_iff_ne.2 (by omega)
      by_cases hb : base < i
      · obtain ⟨j, rfl⟩ : ∃ j, i = j + 1 := ⟨i - 1, by omega⟩
        have hj1 : IntKind.i64.wrap (((j + 1 : Nat) : Int) - 1) = (j : Int) := by rw [w64i _ (by omega) (by omega)]; omega
        have hjl : j < l.length := by omega
        have hjn : l.length ≤ j + n := by omega
        have HRr := Asd.mk (HR.out.up HU.out)
        have HST := Asd.mk hst
        clear hst hz
        go_wp2_with fail
        refine (at_calls HRr.out j hjl hjn).mono ?_
        have hgd : l.getD (j + 1 - 1) 0 = l[j] := by simp [List.getD_eq_getElem?_getD, List.getElem?_eq_getElem hjl]
        obtain ⟨x, hx⟩ : ∃ x, x = l[j] := ⟨_, rfl⟩
        rw [← hx] at hgd
        rw [← hx]
        rintro e w2 ⟨rfl, hd⟩
        have HW2 : Asd (Upd (fun _ => False) w w2) := ⟨HU.out.trans (hd.upd _) (fun _ _ h => h)⟩
        have HGD := Asd.mk hgd
        clear hx hgd hd h0 h1 h2 HRr HU
        by_cases hc : x = 10
        · have HF : Asd (r = j + 1) := ⟨by rw [HI.out, HST.out, if_pos (.inr ⟨hb, by rw [HGD.out, hc]⟩)]⟩
          subst hc
          go_wp2
          go_ret
          exact ⟨by rw [HF.out]; rfl, HW2.out⟩
        · have HF : Asd (r = lineFrom l base (l.length - (j + 1 + 1)) (j + 1 + 1)) := ⟨by rw [HI.out, HST.out, if_neg (fun h => h.elim (fun e => by omega) (fun h => hc (by rw [← HGD.out, h.2])))]⟩
          have hcb : ((x.toNat : Int) == 10) = false := beq_eq_false_iff_ne.2 (fun e => hc (UInt8.toNat_inj.1 (by show x.toNat = 10; omega)))
          go_wp2
          go_roundw
          case rel => exact ⟨j + 1 + 1, rfl, by omega, by omega, HF, HW2⟩
          case measure => simp only [intOf]; omega
      · have HF : Asd (r = lineFrom l base (l.length - (i + 1)) (i + 1)) := ⟨by rw [HI.out, hst, if_neg (by rintro (e | ⟨e, _⟩) <;> omega)]⟩
        clear hst hz
        go_wp2
        go_roundw
        case rel => exact ⟨i + 1, rfl, by omega, by omega, HF, HU⟩
        case measure => simp only [intOf]; omega
    · have hi2 : i = l.length := by omega
      subst hi2
      have HF : Asd (r = l.length) := ⟨by rw [HI.out, Nat.sub_self]; rfl⟩
      go_wp2
      go_ret
      exact ⟨by rw [HF.out]; rfl, HU.out⟩
end
end Go.Proofs.Ytpphejjdgplalaa.Rg
