/- What these laws lean on, part Vd: contracts of the given program's functions and plain lists. No condition. -/
import Derived.Test.YteepkanbiefpjaaGreatDoorVc
import Derived.Test.YteepkanbiefpjaaGreatDoorVa
import Derived.Lib.AppendStr
import Derived.Deep.RegionHeld3
set_option linter.unusedVariables false
set_option linter.unusedSimpArgs false
namespace Go.Proofs.YteepkanbiefpjaaGreatDoor.Iq
open Go.RowKit K Fl
structure QS where
  buf : List UInt8
  size : Int
  ended : Bool
  total : Int
structure QI (w : World) (p : Nat) (F : Nat → Prop) (x : QS) : Prop where
  mk ::
  has : ∃ q Fq, w.heap[p]? = some (.cells #[.pointer (some ⟨q, 0, none⟩), .bool x.ended, .int .i64 x.total] 129 (0, 0)) ∧ Oq.Que w q x.buf x.size Fq ∧ ¬ Fq p ∧ ∀ k, F k ↔ k = p ∨ Fq k
section
variable {w w1 : World} {p : Nat} {x : QS} {F S : Nat → Prop}
theorem QI.upd (h : QI w p F x) (k : Upd S w w1) (hn : ∀ i, F i → ¬ S i) : QI w1 p F x := by
  obtain ⟨q, Fq, hb, ho, h1, hF⟩ := h.has
  exact ⟨q, Fq, k.blk hb (hn p ((hF p).2 (.inl rfl))), ho.upd k (fun i hi => hn i ((hF i).2 (.inr hi))), h1, hF⟩
theorem QI.up (h : QI w p F x) (k : Upd (fun _ => False) w w1) : QI w1 p F x := h.upd k (fun _ _ h => h)
theorem QI.lt (h : QI w p F x) : ∀ k, F k → k < w.heap.size := by
  obtain ⟨q, Fq, hb, ho, h1, hF⟩ := h.has
  intro k hk
  rcases (hF k).1 hk with rfl | e
  · exact blk_lt hb
  · exact ho.lt k e
theorem QI.own (h : QI w p F x) : F p := by obtain ⟨q, Fq, hb, ho, h1, hF⟩ := h.has; exact (hF p).2 (.inl rfl)
theorem QI.cells (h : QI w p F x) : ∃ q Fq, Asd (w.heap[p]? = some (.cells #[.pointer (some ⟨q, 0, none⟩), .bool x.ended, .int .i64 x.total] 129 (0, 0))) ∧ Asd (Oq.Que w q x.buf x.size Fq) ∧ Asd (¬ Fq p ∧ ∀ k, F k ↔ k = p ∨ Fq k) ∧ p < w.heap.size := by
  obtain ⟨q, Fq, hb, ho, h1, hF⟩ := h.has
  exact ⟨q, Fq, ⟨hb⟩, ⟨ho⟩, ⟨h1, hF⟩, blk_lt hb⟩
end
def QTurns (v : Value) (x : QS) (p : Nat) (F : Nat → Prop) (w : World) (e : Ending) (w' : World) : Prop :=
  e = .returned v ∧ ∃ F', QI w' p F' x ∧ Upd F w w' ∧ ∀ k, F' k → F k ∨ w.heap.size ≤ k
def QNew (x : QS) (w : World) (e : Ending) (w' : World) : Prop := ∃ p F, e = .returned (.pointer (some ⟨p, 0, none⟩)) ∧ QI w' p F x ∧ Upd (fun _ => False) w w' ∧ ∀ k, F k → w.heap.size ≤ k
set_option maxHeartbeats 400000 in
theorem new_calls (n : Int) (w : World) : Calls Tryz.prog 46 #[.int .i64 n] w (QNew ⟨[], Oq.clampSize n, false, 0⟩ w) := by
  go_enter Tryz.func46, Tryz.ntmps46
  go_wp2_with fail
  refine (Oq.new_calls n w).mono ?_
  rintro e w1 ⟨q, F, rfl, hq, hu, hf⟩
  have HQ := Asd.mk hq
  have HU := Asd.mk (And.intro hu hf)
  clear hq hu hf
  go_wp2
  go_ret
  have h1 := heap_alloc_new w1 (.cells #[.pointer (some ⟨q, 0, none⟩), .bool false, .int .i64 0] 129)
  have hk := (Upd.refl (fun _ => False) w1).alloc (.cells #[.pointer (some ⟨q, 0, none⟩), .bool false, .int .i64 0] 129)
  have hF := HQ.out.lt
  refine ⟨w1.heap.size, fun k => k = w1.heap.size ∨ F k, rfl, ⟨q, F, h1, HQ.out.upd hk (fun _ _ h => h), fun h => by have := hF _ h; omega, fun k => Iff.rfl⟩, HU.out.1.trans hk (fun _ _ h => h), fun k hk => ?_⟩
  rcases hk with rfl | h
  · exact HU.out.1.size
  · exact HU.out.2 k h
section
variable {w : World} {p t : Nat} {x : QS} {s : T} {F Ft : Nat → Prop}
def why (x : QS) (s : T) (id : Int) (n : Nat) : Int :=
  if x.ended then 1 else match rget s.roles id with
  | none => 2
  | some r => if r = 0 then 3 else if s.holder ≠ id then 4 else if x.size - x.buf.length < (n : Int) then 5 else 0
set_option maxHeartbeats 2000000 in
theorem why_calls (h : QI w p F x) (ht : TB w t Ft s) (id : Int) (hid : idOk id) (A : Option Addr) (n c : Nat) : Calls Tryz.prog 125 #[.pointer (some ⟨p, 0, none⟩), .pointer (some ⟨t, 0, none⟩), .int .i64 id, .slice A n c] w fun e w' => e = .returned (.int .i64 (why x s id n)) ∧ Upd (fun _ => False) w w' := by
  obtain ⟨q, Fq, HB, HQ, _⟩ := h.cells
  have HT := Asd.mk ht
  have c0 := keepsC (o := 0) HB.out rfl
  have c1 := keepsC (o := 1) HB.out rfl
  have hk : Upd (fun _ => False) w w := Upd.refl _ _
  obtain ⟨y, hy⟩ : ∃ y, y = why x s id n := ⟨_, rfl⟩
  rw [← hy]
  unfold why at hy
  obtain ⟨rr, hrr⟩ : ∃ rr, rr = rget s.roles id := ⟨_, rfl⟩
  rw [← hrr] at hy
  have HR := Asd.mk hrr
  clear h ht HB hrr
  cases hen : x.ended with
  | true =>
    rw [hen] at hy c1
    simp only [if_true] at hy
    subst hy
    clear hen
    go_enter Tryz.func125, Tryz.ntmps125
    go_wp2_with fail
    refine (role_calls HT.out id hid).mono ?_
    rintro e w1 ⟨rfl, rfl⟩
    go_wp2
    go_ret
    exact ⟨rfl, hk⟩
  | false =>
    rw [hen] at hy c1
    simp only [Bool.false_eq_true, if_false] at hy
    clear hen
    cases hr : rr with
    | none =>
      rw [hr] at hy HR
      simp only at hy
      subst hy
      go_enter Tryz.func125, Tryz.ntmps125
      go_wp2_with fail
      refine (role_calls HT.out id hid).mono ?_
      rw [← HR.out]
      simp only [Option.getD_none, Option.isSome_none]
      rintro e w1 ⟨rfl, rfl⟩
      go_wp2
      go_ret
      exact ⟨rfl, hk⟩
    | some r =>
      rw [hr] at hy HR
      simp only at hy
      by_cases h0 : r = 0
      · rw [if_pos h0] at hy
        subst hy
        rw [h0] at HR
        go_enter Tryz.func125, Tryz.ntmps125
        go_wp2_with fail
        refine (role_calls HT.out id hid).mono ?_
        rw [← HR.out]
        simp only [Option.getD_some, Option.isSome_some]
        rintro e w1 ⟨rfl, rfl⟩
        go_wp2
        go_ret
        exact ⟨rfl, hk⟩
      · rw [if_neg h0] at hy
        have hb0 : (r == 0) = false := beq_eq_false_iff_ne.2 h0
        by_cases hh : s.holder = id
        · have hhb : (id != id) = false := by simp
          rw [if_neg (fun h => h hh)] at hy
          have HH := Asd.mk hh
          by_cases hrm : x.size - x.buf.length < (n : Int)
          · rw [if_pos hrm] at hy
            subst hy
            clear h0 hh hr
            go_enter Tryz.func125, Tryz.ntmps125
            go_wp2_with fail
            refine (role_calls HT.out id hid).mono ?_
            rw [← HR.out]
            simp only [Option.getD_some, Option.isSome_some]
            rintro e w1 ⟨rfl, rfl⟩
            go_wp2_with fail
            refine (holder_calls HT.out).mono ?_
            rw [HH.out]
            rintro e w1 ⟨rfl, rfl⟩
            go_wp2_with fail
            refine (Oq.room_calls HQ.out).mono ?_
            rintro e w1 ⟨rfl, hd⟩
            go_wp2
            go_ret
            exact ⟨rfl, hd.upd _⟩
          · rw [if_neg hrm] at hy
            subst hy
            clear h0 hh hr
            go_enter Tryz.func125, Tryz.ntmps125
            go_wp2_with fail
            refine (role_calls HT.out id hid).mono ?_
            rw [← HR.out]
            simp only [Option.getD_some, Option.isSome_some]
            rintro e w1 ⟨rfl, rfl⟩
            go_wp2_with fail
            refine (holder_calls HT.out).mono ?_
            rw [HH.out]
            rintro e w1 ⟨rfl, rfl⟩
            go_wp2_with fail
            refine (Oq.room_calls HQ.out).mono ?_
            rintro e w1 ⟨rfl, hd⟩
            go_wp2
            go_ret
            exact ⟨rfl, hd.upd _⟩
        · have hhb : (s.holder != id) = true := bne_iff_ne.2 hh
          rw [if_pos hh] at hy
          subst hy
          clear h0 hh hr
          go_enter Tryz.func125, Tryz.ntmps125
          go_wp2_with fail
          refine (role_calls HT.out id hid).mono ?_
          rw [← HR.out]
          simp only [Option.getD_some, Option.isSome_some]
          rintro e w1 ⟨rfl, rfl⟩
          go_wp2_with fail
          refine (holder_calls HT.out).mono ?_
          rintro e w1 ⟨rfl, rfl⟩
          go_wp2
          go_ret
          exact ⟨rfl, hk⟩
def offer (x : QS) (s : T) (id : Int) (l : List UInt8) : QS := if why x s id l.length = 0 then { x with buf := x.buf ++ l, total := x.total + l.length } else x
theorem why_fits {id : Int} {n : Nat} (h : why x s id n = 0) : (n : Int) ≤ x.size - x.buf.length := by
  unfold why at h
  split at h
  · cases h
  · split at h
    · cases h
    · split at h
      · cases h
      · split at h
        · cases h
        · split at h
          · cases h
          · omega
set_option maxHeartbeats 2000000 in
theorem offer_calls (h : QI w p F x) (ht : TB w t Ft s) (id : Int) (hid : idOk id) (A : Option Addr) (n c : Nat) (l : List UInt8) (hr : Rd w A n l) (hl : l.length = n) (hb : 0 ≤ x.total ∧ x.total + n ≤ 1000000000) : Calls Tryz.prog 103 #[.pointer (some ⟨p, 0, none⟩), .pointer (some ⟨t, 0, none⟩), .int .i64 id, .slice A n c] w (QTurns (.int .i64 (why x s id n)) (offer x s id l) p F w) := by
  have H := Asd.mk h
  have HT := Asd.mk ht
  have HR := Asd.mk hr
  have HL := Asd.mk hl
  obtain ⟨y, hy⟩ : ∃ y, y = why x s id n := ⟨_, rfl⟩
  have HY := Asd.mk hy
  rw [← hy]
  clear h ht hr hy hl
  by_cases hz : y = 0
  · have HO : Asd (offer x s id l = { x with buf := x.buf ++ l, total := x.total + n }) := ⟨by unfold offer; rw [HL.out, ← HY.out, if_pos hz]⟩
    have HW := Asd.mk (why_fits (HY.out.symm.trans hz))
    subst hz
    rw [HO.out]
    clear HO
    go_enter Tryz.func103, Tryz.ntmps103
    go_wp2_with fail
    refine (why_calls H.out HT.out id hid A n c).mono ?_
    rw [← HY.out]
    rintro e w1 ⟨rfl, hu⟩
    have H1 := Asd.mk (H.out.up hu)
    have HU1 := Asd.mk hu
    have HR1 := Asd.mk (HR.out.upd hu (fun _ _ h => h))
    obtain ⟨q, Fq, HB, HQ, HF, hps⟩ := H1.out.cells
    have c0 := keepsC (o := 0) HB.out rfl
    have hk1 : Upd (fun _ => False) w1 w1 := Upd.refl _ _
    clear hu
    go_wp2_with fail
    refine (Oq.put_yes HQ.out A n c l HR1.out HW.out).mono ?_
    rintro e w2 ⟨rfl, F2, hq2, hu2, hf2⟩
    have hb2 := hu2.blk HB.out HF.out.1
    have c2 := keepsC (o := 2) hb2 rfl
    have ff := fun o => keepsF (o := o) hb2
    have hk2 : Upd (fun _ => False) w2 w2 := Upd.refl _ _
    have HQ2 := Asd.mk hq2
    have HB2 := Asd.mk hb2
    have HU2 := Asd.mk (And.intro hu2 hf2)
    clear hq2 hb2 hu2 hf2 c0 hk1
    go_wp2
    go_ret
    have hu3 : Upd (fun i => i = p) w2 (w2.setCell ⟨p, 2, none⟩ (.int .i64 (x.total + n))) := (Upd.refl (fun i => i = p) w2).setAt (.inl rfl)
    have hn2 : ¬ F2 p := fun h => (HU2.out.2 p h).elim HF.out.1 (fun h => by omega)
    refine ⟨rfl, fun k => k = p ∨ F2 k, ⟨q, F2, by rw [hp_same HB2.out]; rfl, HQ2.out.upd hu3 (fun i hi e => hn2 (by rw [← e]; exact hi)), hn2, fun k => Iff.rfl⟩, ?_, fun k hk => ?_⟩
    · exact ((HU1.out.mono (T := F) (fun _ _ h => h.elim)).trans HU2.out.1 (fun i hi h => (HF.out.2 i).2 (.inr h))).trans hu3 (fun i hi e => (HF.out.2 i).2 (.inl e))
    · rcases hk with rfl | h
      · exact .inl ((HF.out.2 _).2 (.inl rfl))
      · exact (HU2.out.2 k h).elim (fun h => .inl ((HF.out.2 k).2 (.inr h))) (fun h => .inr (Nat.le_trans HU1.out.size h))
  · have HO : Asd (offer x s id l = x) := ⟨by unfold offer; rw [HL.out, ← HY.out, if_neg hz]⟩
    rw [HO.out]
    have hzb : (y == 0) = false := beq_eq_false_iff_ne.2 hz
    clear HO hz
    go_enter Tryz.func103, Tryz.ntmps103
    go_wp2_with fail
    refine (why_calls H.out HT.out id hid A n c).mono ?_
    rw [← HY.out]
    rintro e w1 ⟨rfl, hu⟩
    have H1 := Asd.mk (H.out.up hu)
    have HU1 := Asd.mk hu
    clear hu
    go_wp2
    go_ret
    exact ⟨rfl, F, H1.out, HU1.out.mono (fun _ _ h => h.elim), fun k h => .inl h⟩
end
end Go.Proofs.YteepkanbiefpjaaGreatDoor.Iq
set_option linter.unusedVariables false
set_option linter.unusedSimpArgs false
namespace Go.Proofs.YteepkanbiefpjaaGreatDoor.Rg
open Go.RowKit K
theorem info8 : (Tryz.prog.info? 5).map (fun i => (i.zero, i.size, i.bytes)) = some (some (.int .u8 0), 1, 1) := by kernel_rfl
structure Bare (w : World) (q g n : Nat) (l : List UInt8) (base : Nat) : Prop where
  blk : w.heap[q]? = some (.cells #[.slice (some ⟨g, 0, none⟩) n n, .int .i64 (base : Int), .int .i64 (l.length : Int)] 134 (0, 0))
  own : ∃ cs : List UInt8, Own w 5 1 (.slice (some ⟨g, 0, none⟩) n n) n (B cs) (some g) ∧ ∀ i (h : i < l.length), l.length ≤ i + n → cs[i % n]? = some l[i]
  ne : q ≠ g
  lo : 1 ≤ n
  hi : n ≤ 65536
  few : l.length ≤ 1099511627776
def Ring (w : World) (q g n : Nat) (l : List UInt8) : Prop := Bare w q g n l (l.length - n)
def Its (q g k : Nat) : Prop := k = q ∨ k = g
section
variable {w w1 : World} {q g n base : Nat} {l : List UInt8} {S : Nat → Prop}
theorem Bare.upd (h : Bare w q g n l base) (k : Upd S w w1) (hn : ∀ i, Its q g i → ¬ S i) : Bare w1 q g n l base := by
  obtain ⟨cs, ho, hcs⟩ := h.own
  exact ⟨k.blk h.blk (hn q (.inl rfl)), ⟨cs, ho.upd k (fun g' e => by obtain rfl := Option.some.inj e; exact hn _ (.inr rfl)), hcs⟩, h.ne, h.lo, h.hi, h.few⟩
theorem Bare.up (h : Bare w q g n l base) (k : Upd (fun _ => False) w w1) : Bare w1 q g n l base := h.upd k (fun _ _ h => h)
theorem Ring.upd (h : Ring w q g n l) (k : Upd S w w1) (hn : ∀ i, Its q g i → ¬ S i) : Ring w1 q g n l := Bare.upd h k hn
theorem Ring.up (h : Ring w q g n l) (k : Upd (fun _ => False) w w1) : Ring w1 q g n l := Bare.up h k
theorem Bare.lt (h : Bare w q g n l base) : ∀ k, Its q g k → k < w.heap.size := by
  obtain ⟨cs, ho, hcs⟩ := h.own
  rintro k (rfl | rfl)
  · exact blk_lt h.blk
  · exact ho.lt k rfl
theorem Bare.cells (h : Bare w q g n l base) : w.cell? ⟨q, 0, none⟩ = some (.slice (some ⟨g, 0, none⟩) n n) ∧ w.cell? ⟨q, 1, none⟩ = some (.int .i64 (base : Int)) ∧ w.cell? ⟨q, 2, none⟩ = some (.int .i64 (l.length : Int)) := by
  have := h.blk
  exact ⟨by simp [World.cell?, this], by simp [World.cell?, this], by simp [World.cell?, this]⟩
end
def roomN (size : Int) : Nat := (mx 1 (mn size 65536)).toNat
theorem roomN_le (size : Int) : 1 ≤ roomN size ∧ roomN size ≤ 65536 ∧ mx 1 (mn size 65536) = (roomN size : Int) := by
  unfold roomN mx mn
  split <;> split <;> omega
def NewPost (n : Nat) (w : World) (e : Ending) (w' : World) : Prop := ∃ q g, e = .returned (.pointer (some ⟨q, 0, none⟩)) ∧ Ring w' q g n [] ∧ Upd (fun _ => False) w w' ∧ w.heap.size ≤ q ∧ w.heap.size ≤ g
set_option maxHeartbeats 400000 in
theorem new_calls (size : Int) (w : World) : Calls Tryz.prog 43 #[.int .i64 size] w (NewPost (roomN size) w) := by
  obtain ⟨h1, h2, h3⟩ := roomN_le size
  obtain ⟨n, hn⟩ : ∃ n, n = roomN size := ⟨_, rfl⟩
  rw [← hn] at h1 h2 h3
  rw [← hn]
  have H3 := Asd.mk h3
  clear h3 hn
  go_enter Tryz.func43, Tryz.ntmps43
  go_wp2_with (first | (with_reducible refine stop_append _ _ _ _ rfl ?_) | (with_reducible refine stop_copy _ _ _ _ rfl ?_) | (with_reducible refine stop_make _ _ _ rfl ?_) | (with_reducible refine stop_conv 31 9 _ rfl ?_))
  rw [H3.out]
  refine wp_makeB n 5 rfl _ _ 31 rfl Tryz.underlying31 info8 rfl rfl (by omega) ?_
  intro w1 hO1 hU1 hs1
  have HO1 := Asd.mk hO1
  have HU1 := Asd.mk hU1
  have HS1 := Asd.mk hs1
  clear hO1 hU1 hs1
  go_wp2
  go_ret
  have hs := HS1.out
  refine ⟨w1.heap.size, w.heap.size, rfl, ⟨?_, ⟨List.replicate n 0, HO1.out.upd ((Upd.refl (fun _ => False) _).alloc _) (fun _ _ h => h), fun i h => absurd h (by simp)⟩, by omega, h1, h2, by simp⟩, HU1.out.alloc _, by omega, Nat.le_refl _⟩
  have := heap_alloc_new w1 (.cells #[.slice (some ⟨w.heap.size, 0, none⟩) n n, .int .i64 0, .int .i64 0] 134)
  simpa using this
section
variable {w : World} {q g n base : Nat} {l : List UInt8}
set_option maxHeartbeats 400000 in
theorem base_calls (h : Bare w q g n l base) : Calls Tryz.prog 136 #[.pointer (some ⟨q, 0, none⟩)] w fun e w' => e = .returned (.int .i64 (base : Int)) ∧ w = w' := by
  obtain ⟨h0, h1, h2⟩ := h.cells
  clear h
  go_enter Tryz.func136, Tryz.ntmps136
  go_wp2
  go_ret
  exact ⟨rfl, rfl⟩
set_option maxHeartbeats 400000 in
theorem end_calls (h : Bare w q g n l base) : Calls Tryz.prog 156 #[.pointer (some ⟨q, 0, none⟩)] w fun e w' => e = .returned (.int .i64 (l.length : Int)) ∧ w = w' := by
  obtain ⟨h0, h1, h2⟩ := h.cells
  clear h
  go_enter Tryz.func156, Tryz.ntmps156
  go_wp2
  go_ret
  exact ⟨rfl, rfl⟩
set_option maxHeartbeats 400000 in
theorem at_calls (h : Bare w q g n l base) (i : Nat) (hi : i < l.length) (hb : l.length ≤ i + n) : Calls Tryz.prog 166 #[.pointer (some ⟨q, 0, none⟩), .int .i64 (i : Int)] w fun e w' => e = .returned (.int .u8 (l[i].toNat : Int)) ∧ Dr w w' := by
  obtain ⟨h0, h1, h2⟩ := h.cells
  have hlo := h.lo
  have hhi := h.hi
  obtain ⟨cs, ho, hcs⟩ := h.own
  have hm : i % n < n := Nat.mod_lt _ (by omega)
  have hx := hcs i hi hb
  have hc := (ho.cellB (i % n) hm).1
  rw [List.getElem?_eq_getElem (by rw [ho.llen]; exact hm), Option.some.injEq] at hx
  rw [hx, Nat.zero_add] at hc
  have hnb : ((n : Int) == 0) = false := beq_eq_false_iff_ne.2 (by omega)
  obtain ⟨c, hcc⟩ : ∃ c, c = l[i] := ⟨_, rfl⟩
  rw [← hcc] at hc
  rw [← hcc]
  clear h ho hcs hx hcc
  go_enter Tryz.func166, Tryz.ntmps166
  go_wp2
  go_quiet (fail)
  go_wp2
  go_ret
  exact ⟨rfl, _, rfl⟩
theorem mod_apart (a b n : Nat) (h1 : a < b) (h2 : b < a + n) : a % n ≠ b % n := by
  intro e
  have h3 := Nat.div_add_mod a n
  have h4 := Nat.div_add_mod b n
  rw [e] at h3
  have : n * (b / n) - n * (a / n) = b - a := by omega
  rw [← Nat.mul_sub] at this
  rcases Nat.eq_zero_or_pos (b / n - a / n) with h | h
  · rw [h] at this; omega
  · have := Nat.mul_le_mul_left n h
    omega
theorem Bare.put (h : Bare w q g n l base) (c : UInt8) (hf : (l ++ [c]).length ≤ 1099511627776) :
    Bare ((w.setCell ⟨g, l.length % n, none⟩ (.int .u8 (c.toNat : Int))).setCell ⟨q, 2, none⟩ (.int .i64 ((l.length : Int) + 1))) q g n (l ++ [c]) base := by
  have hlo := h.lo
  have hm : l.length % n < n := Nat.mod_lt _ (by omega)
  obtain ⟨cs, ho, hcs⟩ := h.own
  have h1 := ho.setB (l.length % n) hm c
  rw [Nat.zero_add] at h1
  have hb1 := ((Upd.refl (fun k => k = g) w).setCell (p := ⟨g, l.length % n, none⟩) (fun _ => rfl) (.int .u8 (c.toNat : Int))).blk h.blk h.ne
  have hb2 := blk_setCell (o := 2) hb1 (.int .i64 ((l.length : Int) + 1))
  refine ⟨?_, ⟨cs.set (l.length % n) c, h1.upd ((Upd.refl (fun k => k = q) _).setCell (fun _ => rfl) _) (fun g' e e2 => by obtain rfl := Option.some.inj e; exact h.ne e2.symm), fun i hi hb => ?_⟩, h.ne, h.lo, h.hi, hf⟩
  · rw [hb2]
    simp
  · rw [List.length_append] at hi hb
    simp only [List.length_cons, List.length_nil] at hi hb
    have hcl : cs.length = n := ho.llen
    by_cases e : i = l.length
    · subst e
      rw [List.getElem?_set_self (by omega)]
      simp
    · rw [List.getElem?_set_ne (fun e2 => mod_apart i l.length n (by omega) (by omega) e2.symm), hcs i (by omega) (by omega)]
      rw [List.getElem_append_left]
theorem Bare.based (h : Bare w q g n l base) (b2 : Nat) : Bare (w.setCell ⟨q, 1, none⟩ (.int .i64 (b2 : Int))) q g n l b2 := by
  obtain ⟨cs, ho, hcs⟩ := h.own
  have hb2 := blk_setCell (o := 1) h.blk (.int .i64 (b2 : Int))
  refine ⟨?_, ⟨cs, ho.upd ((Upd.refl (fun k => k = q) _).setCell (fun _ => rfl) _) (fun g' e e2 => by obtain rfl := Option.some.inj e; exact h.ne e2.symm), hcs⟩, h.ne, h.lo, h.hi, h.few⟩
  rw [hb2]
  simp
def AppPost (q g n : Nat) (l : List UInt8) (w : World) (e : Ending) (w' : World) : Prop := e = .returned (.bool true) ∧ Ring w' q g n l ∧ Upd (Its q g) w w'
set_option maxHeartbeats 2000000 in
theorem append_still (h : Ring w q g n l) (A : Option Addr) (m c : Nat) (b : List UInt8) (hst : ∀ W, Upd (Its q g) w W → Rd W A m b) (hN : l.length + m ≤ 1099511627776) :
    Calls Tryz.prog 71 #[.pointer (some ⟨q, 0, none⟩), .slice A m c] w (AppPost q g n (l ++ b) w) := by
  obtain ⟨h0, h1, h2⟩ := Bare.cells h
  have hlo := h.lo
  have hhi := h.hi
  obtain ⟨base, hbase⟩ : ∃ base, base = l.length - n := ⟨_, rfl⟩
  have HB : Asd (Bare w q g n l base) := ⟨by rw [hbase]; exact h⟩
  have HBE := Asd.mk hbase
  have HST := Asd.mk hst
  obtain rfl := (hst w (Upd.refl _ _)).len
  have hlim := (hst w (Upd.refl _ _)).lim
  rw [← hbase] at h1
  have hle : base ≤ l.length := by omega
  clear h hst hbase
  have hcmp : ¬ (1099511627776 - (l.length : Int) < (b.length : Int)) := by omega
  have hw0 : IntKind.i64.wrap (1099511627776 - (l.length : Int)) = 1099511627776 - (l.length : Int) := w64i _ (by omega) (by omega)
  go_enter Tryz.func71, Tryz.ntmps71
  go_wp2
  clear h0 h1 h2 hw0
  go_loopw [17] (fun v17 wr => ∃ i : Nat, v17 = .int .i64 i ∧ i ≤ b.length ∧ Asd (Bare wr q g n (l ++ b.take i) base) ∧ Asd (Upd (Its q g) w wr)) (fun v17 _ => b.length - (intOf v17).toNat)
  case atStart => exact ⟨0, rfl, by omega, by simpa using HB, ⟨Upd.refl _ _⟩⟩
  case round =>
    obtain ⟨i, rfl, hi, HBr, HU⟩ := hrel
    by_cases hlt : i < b.length
    · obtain ⟨ad, rfl, hc0⟩ := (HST.out _ HU.out).at i hlt
      obtain ⟨x, hx⟩ : ∃ x, x = b[i] := ⟨_, rfl⟩
      rw [← hx] at hc0
      have HX : Asd (b.take (i + 1) = b.take i ++ [x]) := ⟨by rw [List.take_succ_eq_append_getElem hlt, hx]⟩
      clear hx
      obtain ⟨l2, hl2⟩ : ∃ l2, l2 = l ++ b.take i := ⟨_, rfl⟩
      rw [← hl2] at HBr
      have hll : l2.length ≤ l.length + i := by rw [hl2, List.length_append, List.length_take]; omega
      have HL2 := Asd.mk hl2
      clear hl2
      obtain ⟨h0, h1, h2⟩ := HBr.out.cells
      obtain ⟨cs, ho, hcs⟩ := HBr.out.own
      have hm : l2.length % n < n := Nat.mod_lt _ (by omega)
      obtain ⟨y, hd0, hz0⟩ : ∃ y : Int, wr.cell? ⟨g, l2.length % n, none⟩ = some (.int .u8 y) ∧ wr.frozen? ⟨g, l2.length % n, none⟩ = false := by
        have := ho.cellB (l2.length % n) hm
        rw [Nat.zero_add] at this
        exact ⟨_, this⟩
      have hnb : ((n : Int) == 0) = false := beq_eq_false_iff_ne.2 (by omega)
      have hwi : IntKind.i64.wrap ((i : Int) + 1) = ((i + 1 : Nat) : Int) := by rw [w64i _ (by omega) (by omega)]; rfl
      have hwl : IntKind.i64.wrap ((l2.length : Int) + 1) = (l2.length : Int) + 1 := w64i _ (by omega) (by omega)
      clear ho hcs h1
      go_wp2
      go_region
      have hb1 := ((Upd.refl (fun k => k = g) wr).setCell (p := ⟨g, l2.length % n, none⟩) (fun _ => rfl) (.int .u8 (x.toNat : Int))).blk HBr.out.blk HBr.out.ne
      have hq2 : (wr.setCell ⟨g, l2.length % n, none⟩ (.int .u8 (x.toNat : Int))).cell? ⟨q, 2, none⟩ = some (.int .i64 (l2.length : Int)) := by simp [World.cell?, hb1]
      have hf2 : (wr.setCell ⟨g, l2.length % n, none⟩ (.int .u8 (x.toNat : Int))).frozen? ⟨q, 2, none⟩ = false := by simp [World.frozen?, hb1]
      have HP := Asd.mk (HBr.out.put x (by rw [List.length_append]; simp only [List.length_cons, List.length_nil]; omega))
      have HW : Asd (Upd (Its q g) w ((wr.setCell ⟨g, l2.length % n, none⟩ (.int .u8 (x.toNat : Int))).setCell ⟨q, 2, none⟩ (.int .i64 ((l2.length : Int) + 1)))) := ⟨(HU.out.setCell (p := ⟨g, l2.length % n, none⟩) (fun _ => .inr rfl) _).setCell (p := ⟨q, 2, none⟩) (fun _ => .inl rfl) _⟩
      clear hb1
      go_wp2
      go_roundw
      case rel => exact ⟨i + 1, rfl, by omega, by rw [HX.out, ← List.append_assoc, ← HL2.out]; exact ⟨by first | exact HP.out | exact HP.out.up ((Upd.refl _ _).drew)⟩, ⟨by first | exact HW.out | exact HW.out.drew⟩⟩
      case measure => simp only [intOf]; omega
    · have hi2 : i = b.length := by omega
      subst hi2
      rw [List.take_length] at HBr
      obtain ⟨l2, hl2⟩ : ∃ l2, l2 = l ++ b := ⟨_, rfl⟩
      rw [← hl2] at HBr
      have HL3 := Asd.mk hl2
      have hll : l2.length = l.length + b.length := by rw [hl2, List.length_append]
      have hll1 : l.length ≤ l2.length := by omega
      have hll2 : l2.length ≤ 1099511627776 := by omega
      clear hl2 hll
      obtain ⟨h0, h1, h2⟩ := HBr.out.cells
      have hz1 : wr.frozen? ⟨q, 1, none⟩ = false := by simp [World.frozen?, HBr.out.blk]
      have hws : IntKind.i64.wrap ((l2.length : Int) - (n : Int)) = (l2.length : Int) - (n : Int) := w64i _ (by omega) (by omega)
      have HMX : Asd (mx (base : Int) ((l2.length : Int) - (n : Int)) = ((l2.length - n : Nat) : Int)) := ⟨by have := HBE.out; unfold mx; split <;> omega⟩
      have hmx := HMX.out
      have HP := Asd.mk (HBr.out.based (l2.length - n))
      have HW : Asd (Upd (Its q g) w (wr.setCell ⟨q, 1, none⟩ (.int .i64 ((l2.length - n : Nat) : Int)))) := ⟨HU.out.setCell (p := ⟨q, 1, none⟩) (fun _ => .inl rfl) _⟩
      go_wp2
      go_region
      go_wp2
      go_ret
      exact ⟨rfl, by unfold Ring; rw [← HL3.out]; first | exact HP.out | exact Bare.up HP.out ((Upd.refl _ _).drew), by first | exact HW.out | exact HW.out.drew⟩
def ReadPost (l : List UInt8) (n : Nat) (off k : Int) (w : World) (e : Ending) (w' : World) : Prop :=
  Upd (fun _ => False) w w' ∧ ((off < ((l.length - n : Nat) : Int) ∨ (l.length : Int) < off) → e = .returned (.tuple #[.slice none 0 0, .bool false])) ∧
    (((l.length - n : Nat) : Int) ≤ off → off ≤ (l.length : Int) → ∃ A c G, e = .returned (.tuple #[.slice A ((l.drop off.toNat).take k.toNat).length c, .bool true]) ∧ Own w' 5 1 (.slice A ((l.drop off.toNat).take k.toNat).length c) ((l.drop off.toNat).take k.toNat).length (B ((l.drop off.toNat).take k.toNat)) G ∧ (∀ g, G = some g → w.heap.size ≤ g))
set_option maxHeartbeats 2000000 in
theorem read_calls (h : Ring w q g n l) (off k : Int) (hk : -9223372036854775808 ≤ k ∧ k ≤ 9223372036854775807) :
    Calls Tryz.prog 138 #[.pointer (some ⟨q, 0, none⟩), .int .i64 off, .int .i64 k] w (ReadPost l n off k w) := by
  obtain ⟨h0, h1, h2⟩ := Bare.cells h
  obtain ⟨base, hbase⟩ : ∃ base, base = l.length - n := ⟨_, rfl⟩
  have HR := Asd.mk h
  have HBE := Asd.mk hbase
  have hlo := h.lo
  have hhi := h.hi
  have hfew := h.few
  rw [← hbase] at h1
  have hle : base ≤ l.length := by omega
  have hnb : l.length ≤ base + n := by omega
  clear h hbase
  by_cases hno : off < (base : Int) ∨ (l.length : Int) < off
  · have HNo := Asd.mk hno
    by_cases hx : off < (base : Int)
    · go_enter Tryz.func138, Tryz.ntmps138
      clear hno
      go_wp2
      refine bodyPost_ret (v := .tuple #[.slice none 0 0, .bool false]) (by simp [results, Tryz.results138, go_sem]) rfl ?_
      exact ⟨Upd.refl _ _, fun _ => rfl, fun a b => by have := HNo.out; have := HBE.out; omega⟩
    · have hx2 : (l.length : Int) < off := by omega
      go_enter Tryz.func138, Tryz.ntmps138
      clear hno
      go_wp2
      refine bodyPost_ret (v := .tuple #[.slice none 0 0, .bool false]) (by simp [results, Tryz.results138, go_sem]) rfl ?_
      exact ⟨Upd.refl _ _, fun _ => rfl, fun a b => by have := HNo.out; have := HBE.out; omega⟩
  obtain ⟨o, rfl⟩ : ∃ o : Nat, off = (o : Int) := ⟨off.toNat, by omega⟩
  have ho1 : base ≤ o := by omega
  have ho2 : o ≤ l.length := by omega
  have hq1 : ¬ o < base := by omega
  have hq2 : ¬ l.length < o := by omega
  clear hno
  go_enter Tryz.func138, Tryz.ntmps138
  go_wp2
  clear h0 h1 h2
  go_loopw [1, 2, 8] (fun v1 v2 v8 wr => ∃ (i : Nat) (A : Option Addr) (c : Nat) (G : Option Nat), v1 = .int .i64 ((o + i : Nat) : Int) ∧ v2 = .int .i64 (k - i) ∧ v8 = .slice A i c ∧ o + i ≤ l.length ∧ (i = 0 ∨ (i : Int) ≤ k) ∧ i ≤ c ∧ c ≤ maxLen ∧ Asd (Own wr 5 1 (.slice A i c) i (B ((l.drop o).take i)) G) ∧ Asd (∀ g, G = some g → w.heap.size ≤ g) ∧ Asd (Upd (fun _ => False) w wr)) (fun v1 _ _ _ => l.length - (intOf v1).toNat)
  case atStart => exact ⟨0, none, 0, none, by simp, by simp, rfl, by omega, .inl rfl, by omega, by simp [maxLen], ⟨Own.nil _ _ _⟩, ⟨fun g e => by cases e⟩, ⟨Upd.refl _ _⟩⟩
  case round =>
    obtain ⟨i, A, c, G, rfl, rfl, rfl, hi, hik, hic, hcm, HO, HG, HU⟩ := hrel
    obtain ⟨h0, h1, h2⟩ := Bare.cells (HR.out.up HU.out)
    have HRr := Asd.mk (HR.out.up HU.out)
    by_cases hgo : (i : Int) < k ∧ o + i < l.length
    · obtain ⟨hg1, hg2⟩ := hgo
      have hp1 : 0 < k - (i : Int) := by omega
      have hp2 : ((o + i : Nat) : Int) < (l.length : Int) := by omega
      have hw1 : IntKind.i64.wrap (((o + i : Nat) : Int) + 1) = ((o + (i + 1) : Nat) : Int) := by rw [w64i _ (by omega) (by omega)]; omega
      have hw2 : IntKind.i64.wrap (k - (i : Int) - 1) = k - ((i + 1 : Nat) : Int) := by rw [w64i _ (by omega) (by omega)]; omega
      obtain ⟨j, hj⟩ : ∃ j, j = o + i := ⟨_, rfl⟩
      rw [← hj] at hg2 hp2 hw1
      rw [← hj]
      have HT : Asd ((l.drop o).take (i + 1) = (l.drop o).take i ++ [l[j]]) := ⟨by
        have h9 : i < (l.drop o).length := by rw [List.length_drop]; omega
        rw [List.take_succ_eq_append_getElem h9, List.getElem_drop]
        simp only [hj]⟩
      have HJ := Asd.mk hj
      have hjb : l.length ≤ j + n := by omega
      have hli := Asd.mk (show ((l.drop o).take i).length = i by rw [List.length_take, List.length_drop]; omega)
      clear hj
      go_wp2_with fail
      refine (at_calls HRr.out j hg2 hjb).mono ?_
      obtain ⟨x, hx⟩ : ∃ x, x = l[j] := ⟨_, rfl⟩
      rw [← hx] at HT
      rw [← hx]
      clear hx
      rintro e w2 ⟨rfl, hd⟩
      have hu2 := hd.upd (fun _ => False)
      have HO2 := Asd.mk (HO.out.upd hu2 (fun _ _ h => h))
      have HW2 : Asd (Upd (fun _ => False) w w2) := ⟨HU.out.trans hu2 (fun _ _ h => h)⟩
      clear hd hu2 HO HU h0 h1 h2 HRr
      go_wp2_with (first | (with_reducible refine stop_append _ _ _ _ rfl ?_) | (with_reducible refine stop_copy _ _ _ _ rfl ?_) | (with_reducible refine stop_make _ _ _ rfl ?_) | (with_reducible refine stop_conv 31 9 _ rfl ?_))
      refine wp_appendF (S := fun _ => False) (w0 := w) (by exact (by repeat (first | exact HW2.out | refine Upd.drew ?_ | refine Upd.drewN ?_ _ | refine Upd.alloc ?_ _))) (i + 1) 5 ((l.drop o).take i) [x] G A i c (some ⟨w2.heap.size, 0, none⟩) 1 1 rfl _ _ 31 rfl Tryz.underlying31 info8 rfl rfl (HO2.out.upd ((Upd.refl (fun _ => False) _).alloc _) (fun _ _ h => h)) HG.out (Rd.lit w2 _ _ _ 1 _ rfl rfl (by omega)) rfl (by omega) ?_
      intro A5 c5 w5 G5 hc5 hm5 hO5 hG5 hu5 _ _
      rw [← HT.out] at hO5
      have HO5 := Asd.mk hO5
      have HG5 := Asd.mk hG5
      have HU5 := Asd.mk hu5
      clear hO5 hG5 hu5 HO2 HW2 HT HG
      go_wp2
      go_roundw
      case rel => exact ⟨i + 1, A5, c5, G5, rfl, rfl, rfl, by have := HJ.out; omega, .inr (by omega), hc5, hm5, HO5, HG5, HU5⟩
      case measure => have := HJ.out; simp only [intOf]; omega
    · have HEnd : Asd ((l.drop o).take i = (l.drop o).take k.toNat) := ⟨by
        by_cases hk2 : (i : Int) < k
        · rw [List.take_of_length_le (by rw [List.length_drop]; omega), List.take_of_length_le (by rw [List.length_drop]; omega)]
        · congr 1
          omega⟩
      have hli := Asd.mk (show ((l.drop o).take i).length = i by rw [List.length_take, List.length_drop]; omega)
      have fin : ReadPost l n (o : Int) k w (.returned (.tuple #[.slice A i c, .bool true])) wr := by
        refine ⟨HU.out, fun hx => by have := HBE.out; omega, fun _ _ => ⟨A, c, G, ?_, ?_, HG.out⟩⟩
        · rw [Int.toNat_natCast, ← HEnd.out, hli.out]
        · rw [Int.toNat_natCast, ← HEnd.out, hli.out]; exact HO.out
      have FIN := Asd.mk fin
      clear fin
      by_cases hk2 : 0 < k - (i : Int)
      · have hp2 : ¬ (((o + i : Nat) : Int) < (l.length : Int)) := by omega
        clear hgo
        go_wp2
        refine bodyPost_ret (v := .tuple #[.slice A i c, .bool true]) (by simp [results, Tryz.results138, go_sem]) rfl FIN.out
      · clear hgo
        go_wp2
        refine bodyPost_ret (v := .tuple #[.slice A i c, .bool true]) (by simp [results, Tryz.results138, go_sem]) rfl FIN.out
def lineFrom (l : List UInt8) (base : Nat) : Nat → Nat → Nat
  | 0, i => i
  | k + 1, i => if i = 0 ∨ (base < i ∧ l.getD (i - 1) 0 = 10) then i else lineFrom l base k (i + 1)
def lineOf (l : List UInt8) (base : Nat) (off : Int) : Nat := if (l.length : Int) ≤ mx off (base : Int) then l.length else lineFrom l base (l.length - (mx off (base : Int)).toNat) (mx off (base : Int)).toNat
set_option maxHeartbeats 2000000 in
theorem line_calls (h : Ring w q g n l) (off : Int) :
    Calls Tryz.prog 157 #[.pointer (some ⟨q, 0, none⟩), .int .i64 off] w fun e w' => e = .returned (.int .i64 ((lineOf l (l.length - n) off : Nat) : Int)) ∧ Upd (fun _ => False) w w' := by
  obtain ⟨h0, h1, h2⟩ := Bare.cells h
  obtain ⟨base, hbase⟩ : ∃ base, base = l.length - n := ⟨_, rfl⟩
  have HR := Asd.mk h
  have HBE := Asd.mk hbase
  have hlo := h.lo
  have hhi := h.hi
  have hfew := h.few
  rw [← hbase] at h1
  rw [← hbase]
  have hle : base ≤ l.length := by omega
  have hnb : l.length ≤ base + n := by omega
  clear h hbase
  by_cases hbig : (l.length : Int) ≤ mx off (base : Int)
  · have hlf : lineOf l base off = l.length := if_pos hbig
    rw [hlf]
    have hbig2 : ¬ (mx off (base : Int) < (l.length : Int)) := by omega
    clear hlf
    go_enter Tryz.func157, Tryz.ntmps157
    go_wp2
    go_loopw [1] (fun v1 wr => v1 = .int .i64 (mx off (base : Int)) ∧ wr = w) (fun _ _ => 0)
    case atStart => exact ⟨rfl, rfl⟩
    case round =>
      obtain ⟨rfl, rfl⟩ := hrel
      go_wp2
      go_ret
      exact ⟨rfl, Upd.refl _ _⟩
  have hmb : (base : Int) ≤ mx off (base : Int) := by unfold mx; split <;> omega
  obtain ⟨s, hs⟩ : ∃ s : Nat, mx off (base : Int) = (s : Int) := ⟨(mx off (base : Int)).toNat, by omega⟩
  have hlf : lineOf l base off = lineFrom l base (l.length - s) s := by
    unfold lineOf
    rw [if_neg hbig, hs, Int.toNat_natCast]
  have hsb : base ≤ s := by omega
  have hsl : s < l.length := by omega
  rw [hlf]
  clear hlf hbig hmb
  obtain ⟨r, hr⟩ : ∃ r, r = lineFrom l base (l.length - s) s := ⟨_, rfl⟩
  rw [← hr]
  have HRes := Asd.mk hr
  clear hr
  go_enter Tryz.func157, Tryz.ntmps157
  go_wp2
  clear hs h0 h1 h2
  go_loopw [1] (fun v1 wr => ∃ i : Nat, v1 = .int .i64 (i : Int) ∧ base ≤ i ∧ i ≤ l.length ∧ Asd (r = lineFrom l base (l.length - i) i) ∧ Asd (Upd (fun _ => False) w wr)) (fun v1 _ => l.length - (intOf v1).toNat)
  case atStart => exact ⟨s, rfl, hsb, by omega, HRes, ⟨Upd.refl _ _⟩⟩
  case round =>
    obtain ⟨i, rfl, hbi, hil, HI, HU⟩ := hrel
    obtain ⟨h0, h1, h2⟩ := Bare.cells (HR.out.up HU.out)
    rw [← HBE.out] at h1
    by_cases hlt : i < l.length
    · have hst : lineFrom l base (l.length - i) i = if i = 0 ∨ (base < i ∧ l.getD (i - 1) 0 = 10) then i else lineFrom l base (l.length - (i + 1)) (i + 1) := by
        rw [show l.length - i = (l.length - (i + 1)) + 1 by omega]
        rfl
      have hw1 : IntKind.i64.wrap ((i : Int) + 1) = ((i + 1 : Nat) : Int) := by rw [w64i _ (by omega) (by omega)]; rfl
      by_cases hz : i = 0
      · rw [if_pos (.inl hz)] at hst
        have HF : Asd (r = i) := ⟨HI.out.trans hst⟩
        subst hz
        clear hst
        go_wp2
        go_ret
        exact ⟨by rw [HF.out]; rfl, HU.out⟩
      have hzb : ((i : Int) == 0) = false := beq_eq_false_iff_ne.2 (by omega)
      by_cases hb : base < i
      · obtain ⟨j, rfl⟩ : ∃ j, i = j + 1 := ⟨i - 1, by omega⟩
        have hj1 : IntKind.i64.wrap (((j + 1 : Nat) : Int) - 1) = (j : Int) := by rw [w64i _ (by omega) (by omega)]; omega
        have hjl : j < l.length := by omega
        have hjn : l.length ≤ j + n := by omega
        have HRr := Asd.mk (HR.out.up HU.out)
        have HST := Asd.mk hst
        clear hst hz
        go_wp2_with fail
        refine (at_calls HRr.out j hjl hjn).mono ?_
        have hgd : l.getD (j + 1 - 1) 0 = l[j] := by simp [List.getD_eq_getElem?_getD, List.getElem?_eq_getElem hjl]
        obtain ⟨x, hx⟩ : ∃ x, x = l[j] := ⟨_, rfl⟩
        rw [← hx] at hgd
        rw [← hx]
        rintro e w2 ⟨rfl, hd⟩
        have HW2 : Asd (Upd (fun _ => False) w w2) := ⟨HU.out.trans (hd.upd _) (fun _ _ h => h)⟩
        have HGD := Asd.mk hgd
        clear hx hgd hd h0 h1 h2 HRr HU
        by_cases hc : x = 10
        · have HF : Asd (r = j + 1) := ⟨by rw [HI.out, HST.out, if_pos (.inr ⟨hb, by rw [HGD.out, hc]⟩)]⟩
          subst hc
          go_wp2
          go_ret
          exact ⟨by rw [HF.out]; rfl, HW2.out⟩
        · have HF : Asd (r = lineFrom l base (l.length - (j + 1 + 1)) (j + 1 + 1)) := ⟨by rw [HI.out, HST.out, if_neg (fun h => h.elim (fun e => by omega) (fun h => hc (by rw [← HGD.out, h.2])))]⟩
          have hcb : ((x.toNat : Int) == 10) = false := beq_eq_false_iff_ne.2 (fun e => hc (UInt8.toNat_inj.1 (by show x.toNat = 10; omega)))
          go_wp2
          go_roundw
          case rel => exact ⟨j + 1 + 1, rfl, by omega, by omega, HF, HW2⟩
          case measure => simp only [intOf]; omega
      · have HF : Asd (r = lineFrom l base (l.length - (i + 1)) (i + 1)) := ⟨by rw [HI.out, hst, if_neg (by rintro (e | ⟨e, _⟩) <;> omega)]⟩
        clear hst hz
        go_wp2
        go_roundw
        case rel => exact ⟨i + 1, rfl, by omega, by omega, HF, HU⟩
        case measure => simp only [intOf]; omega
    · have hi2 : i = l.length := by omega
      subst hi2
      have HF : Asd (r = l.length) := ⟨by rw [HI.out, Nat.sub_self]; rfl⟩
      go_wp2
      go_ret
      exact ⟨by rw [HF.out]; rfl, HU.out⟩
end
end Go.Proofs.YteepkanbiefpjaaGreatDoor.Rg
set_option linter.unusedVariables false
set_option linter.unusedSimpArgs false
namespace Go.Proofs.YteepkanbiefpjaaGreatDoor.Mg
open Go.RowKit K
def nums (k : Int) : Nat := if 1 ≤ k ∧ k ≤ 15 then [0, 2, 1, 0, 0, 2, 1, 2, 2, 1, 0, 0, 0, 1, 0, 1].getD k.toNat 0 else 0
def most (k : Int) : Nat := if 1 ≤ k ∧ k ≤ 15 then [0, 20, 2042, 0, 0, 20, 2042, 0, 0, 0, 80, 80, 0, 0, 0, 0].getD k.toNat 0 else 0
def known (k : Int) : Bool := decide (1 ≤ k ∧ k ≤ 15)
theorem kinds (k : Int) (h : 1 ≤ k ∧ k ≤ 15) : k = 1 ∨ k = 2 ∨ k = 3 ∨ k = 4 ∨ k = 5 ∨ k = 6 ∨ k = 7 ∨ k = 8 ∨ k = 9 ∨ k = 10 ∨ k = 11 ∨ k = 12 ∨ k = 13 ∨ k = 14 ∨ k = 15 := by omega
theorem nums_le (k : Int) : nums k ≤ 2 := by
  by_cases h : 1 ≤ k ∧ k ≤ 15
  · rcases kinds k h with rfl | rfl | rfl | rfl | rfl | rfl | rfl | rfl | rfl | rfl | rfl | rfl | rfl | rfl | rfl <;> decide
  · simp [nums, h]
theorem most_le (k : Int) : most k ≤ 2042 := by
  by_cases h : 1 ≤ k ∧ k ≤ 15
  · rcases kinds k h with rfl | rfl | rfl | rfl | rfl | rfl | rfl | rfl | rfl | rfl | rfl | rfl | rfl | rfl | rfl <;> decide
  · simp [most, h]
set_option maxHeartbeats 1000000 in
theorem shape_calls (k : Int) (w : World) : Calls Tryz.prog 67 #[.int .i64 k] w fun e w' => e = .returned (.tuple #[.int .i64 (nums k : Int), .int .i64 (most k : Int), .bool (known k)]) ∧ w = w' := by
  by_cases h : 1 ≤ k ∧ k ≤ 15
  · have hk := kinds k h
    have HP := Asd.mk (show known k = true from decide_eq_true h)
    clear h
    rcases hk with rfl | rfl | rfl | rfl | rfl | rfl | rfl | rfl | rfl | rfl | rfl | rfl | rfl | rfl | rfl
    all_goals
      rw [HP.out]
      go_enter Tryz.func67, Tryz.ntmps67
      go_wp2
      refine bodyPost_ret (by simp [results, Tryz.results67, go_sem]; rfl) rfl ?_
      exact ⟨by simp [nums, most], rfl⟩
  · have hn : nums k = 0 := if_neg h
    have hm : most k = 0 := if_neg h
    have hf : known k = false := decide_eq_false h
    rw [hn, hm, hf]
    have hne : ∀ j : Int, 1 ≤ j → j ≤ 15 → (k == j) = false := fun j h1 h2 => beq_eq_false_iff_ne.2 (by omega)
    obtain ⟨h1, h2, h3, h4, h5⟩ : (k == 1) = false ∧ (k == 2) = false ∧ (k == 3) = false ∧ (k == 4) = false ∧ (k == 5) = false := ⟨hne 1 (by omega) (by omega), hne 2 (by omega) (by omega), hne 3 (by omega) (by omega), hne 4 (by omega) (by omega), hne 5 (by omega) (by omega)⟩
    obtain ⟨h6, h7, h8, h9, h10⟩ : (k == 6) = false ∧ (k == 7) = false ∧ (k == 8) = false ∧ (k == 9) = false ∧ (k == 10) = false := ⟨hne 6 (by omega) (by omega), hne 7 (by omega) (by omega), hne 8 (by omega) (by omega), hne 9 (by omega) (by omega), hne 10 (by omega) (by omega)⟩
    obtain ⟨h11, h12, h13, h14, h15⟩ : (k == 11) = false ∧ (k == 12) = false ∧ (k == 13) = false ∧ (k == 14) = false ∧ (k == 15) = false := ⟨hne 11 (by omega) (by omega), hne 12 (by omega) (by omega), hne 13 (by omega) (by omega), hne 14 (by omega) (by omega), hne 15 (by omega) (by omega)⟩
    clear hn hm hf hne h
    go_enter Tryz.func67, Tryz.ntmps67
    go_wp2
    refine bodyPost_ret (v := .tuple #[.int .i64 0, .int .i64 0, .bool false]) (by simp [results, Tryz.results67, go_sem]) rfl ?_
    exact ⟨rfl, rfl⟩
def right (k a b : Int) (n : Nat) : Bool := known k && (decide (n ≤ most k) && (decide (0 ≤ a) && (decide (0 ≤ b) && (decide (a ≤ 1099511627776) && (decide (b ≤ 1099511627776) && ((decide (0 < nums k) || a == 0) && (decide (1 < nums k) || b == 0)))))))
set_option maxHeartbeats 2000000 in
theorem right_calls (k a b : Int) (s : ByteArray) (w : World) : Calls Tryz.prog 29 #[.agg #[.int .i64 k, .int .i64 a, .int .i64 b, .string s]] w fun e w' => e = .returned (.bool (right k a b s.size)) ∧ Upd (fun _ => False) w w' := by
  obtain ⟨r, hr⟩ : ∃ r : Bool, r = right k a b s.size := ⟨_, rfl⟩
  rw [← hr]
  obtain ⟨N, hN⟩ : ∃ N, N = nums k := ⟨_, rfl⟩
  obtain ⟨M, hM⟩ : ∃ M, M = most k := ⟨_, rfl⟩
  have HR : Asd (r = (known k && (decide (s.size ≤ M) && (decide (0 ≤ a) && (decide (0 ≤ b) && (decide (a ≤ 1099511627776) && (decide (b ≤ 1099511627776) && ((decide (0 < N) || a == 0) && (decide (1 < N) || b == 0))))))))) := ⟨by rw [hr, hN, hM]; rfl⟩
  have HS := Asd.mk (And.intro hN hM)
  clear hr hN hM
  go_enter Tryz.func29, Tryz.ntmps29
  go_wp2_with fail
  refine (shape_calls k _).mono ?_
  rw [← HS.out.1, ← HS.out.2]
  rintro e w2 ⟨rfl, rfl⟩
  cases hk : known k with
  | false =>
    have HF : Asd (r = false) := ⟨by rw [HR.out, hk]; rfl⟩
    clear hk
    go_wp2
    go_ret
    exact ⟨by rw [HF.out]; rfl, (Upd.refl _ _).alloc _⟩
  | true =>
    rw [hk, Bool.true_and] at HR
    clear hk
    go_wp2
    all_goals go_ret
    all_goals refine ⟨?_, (Upd.refl _ _).alloc _⟩
    all_goals rw [HR.out]
    all_goals clear HR HS
    all_goals refine congrArg (fun x => Ending.returned (Value.bool x)) (Bool.eq_iff_iff.2 ?_)
    all_goals simp only [Bool.and_eq_true, Bool.or_eq_true, decide_eq_true_eq, beq_iff_eq, Bool.false_eq_true, false_iff, true_iff]
    all_goals omega
end Go.Proofs.YteepkanbiefpjaaGreatDoor.Mg
set_option linter.unusedVariables false
set_option linter.unusedSimpArgs false
namespace Go.Proofs.YteepkanbiefpjaaGreatDoor.K
open Go.RowKit
theorem strCells_S (l : List UInt8) : Lib.strCells (S l) = B l := by
  simp [Lib.strCells, S, B]
section
variable {P : Program} {w : World} {t u ty e : TypeId} {v : Value} {n : Nat} {l tl : List UInt8} {G : Option Nat}
theorem run_appendS (ht : P.underlying t = some (.slice e)) (hu : P.underlying u = some .string) (hinfo : (P.info? e).map (fun i => (i.zero, i.size, i.bytes)) = some (some (.int .u8 0), 1, 1))
    (HO : Own w e 1 v n (B l) G) (hlim : n + tl.length ≤ 140737488355328) :
    ∃ v' w' G', (Builtin.append_ #[t, u] ty #[v, .string (S tl)]).run P w = .ok v' w' ∧ Own w' e 1 v' (n + tl.length) (B (l ++ tl)) G' ∧ Upd (fun k => some k = G) w w' ∧ (G' = G ∨ ∃ g, G' = some g ∧ w.heap.size ≤ g ∧ g < w'.heap.size) := by
  obtain ⟨i0, hi, hzz⟩ := Option.map_eq_some_iff.1 hinfo
  simp only [Prod.mk.injEq] at hzz
  obtain ⟨hz0, hz1, hz2⟩ := hzz
  have hnl : l.length = n := HO.llen
  have hml : n + (S tl).size ≤ maxLen := by rw [S_size]; simp only [maxLen]; omega
  rcases HO.form with ⟨rfl, rfl, hG⟩ | ⟨g, o, c', cur, rfl, hG, hb, hc, hm, hs, hcell⟩
  · obtain rfl : l = [] := List.eq_nil_of_length_eq_zero hnl
    obtain ⟨v', w', hr, ho, hg, hiff⟩ := Lib.run_append_own_string (P := P) w w.heap.size t u ty e i0 ht hu hi hz0 hz1 hz2 (.slice none 0 0) 0 [] (World.ownsRow_nil w _ e 1) (S tl) hml (by rw [S_size]; omega) (Nat.le_refl _)
    rw [strCells_S, List.nil_append, S_size] at ho
    obtain ⟨G', hO, _, hbG⟩ := Own.ofRow ho
    refine ⟨v', w', G', hr, hO, ⟨hg.os, hg.tape, hg.output, hg.size, fun i hi _ => hg.block i hi (by simp [Value.ownBlock])⟩, ?_⟩
    rcases hO.form with ⟨_, _, h0⟩ | ⟨g, o, c, cur, hv, hG', hbk, r⟩
    · exact .inl (by rw [h0, hG])
    · exact .inr ⟨g, hG', hbG g hG', blk_lt hbk⟩
  · by_cases hroom : n + tl.length ≤ c'
    · have hfc := Lib.run_firstCells_string (P := P) w 1 (S tl)
      rw [strCells_S, S_size] at hfc
      have hst := run_storeCells_cells (P := P) g (o + n * 1) (B tl) 0 w (fun j hj => by rw [B_length] at hj; simp [World.cell?, hb]; omega) (fun j hj => by simp [World.frozen?, hb]) (B_one tl)
      simp only [Nat.add_zero] at hst
      have hr : (Builtin.append_ #[t, u] ty #[.slice (some ⟨g, o, none⟩) n c', .string (S tl)]).run P w = .ok (.slice (some ⟨g, o, none⟩) (n + tl.length) c') (w.setCells g (o + n * 1) (B tl)) := by
        simp only [Nat.mul_one] at hst ⊢
        simp [Builtin.append_, run_underlying ht, run_underlying hu, sizeOf, typeInfo, hi, hz1, Builtin.lenOf, S_size, hroom, hfc, Addr.add_lit, hst]
      obtain ⟨cur', hb', hsz', ha', hm', hz'⟩ := blk_setCells (B tl) g (o + n * 1) w cur e (0, 0) hb (by rw [B_length]; omega)
      refine ⟨_, _, some g, hr, ⟨by rw [B_length, List.length_append, hnl, Nat.mul_one], .inr ⟨g, o, c', cur', rfl, rfl, hb', hroom, hm, by rw [hsz']; exact hs, fun j u hj => ?_⟩⟩, ?_, .inl hG.symm⟩
      · rw [B_append] at hj
        have hcl : (B l).length = n := by rw [B_length, hnl]
        rcases Nat.lt_or_ge j (B l).length with hj1 | hj1
        · rw [List.getElem?_append_left hj1] at hj
          rw [ha' _ (by omega)]
          exact hcell j u hj
        · rw [List.getElem?_append_right hj1] at hj
          have := hm' _ u hj
          rwa [show o + n * 1 + (j - (B l).length) = o + j by omega] at this
      · subst hG
        exact Upd.setCells w g (o + n * 1) (B tl)
    · have holds : ∀ j u, (B l)[j]? = some u → w.cell? ((⟨g, o, none⟩ : Addr).add j) = some u := fun j u hj => by
        rw [add_lit]
        simp [World.cell?, hb, hcell j u hj]
      have hr := Lib.run_append_grow_string (P := P) w t u ty e i0 (.int .u8 0) ht hu hi hz0 ⟨g, o, none⟩ n c' (B l) (by rw [B_length, hnl, hz1, Nat.mul_one]) holds (S tl) (by rw [S_size]; omega) (by rw [S_size]; omega) (by rw [hz2]; exact growslice_fits (by rw [S_size]; omega) (by rw [S_size]; omega))
      rw [strCells_S, S_size] at hr
      have hge := grownCap_ge w (n + tl.length) c' e
      have hcm : grownCap w (n + tl.length) c' e ≤ maxLen := grownCap_le_maxLen w (n + tl.length) c' e (by rw [S_size] at hml; exact hml)
      refine ⟨_, _, some w.heap.size, hr, ⟨by rw [B_length, List.length_append, hnl, Nat.mul_one], .inr ⟨w.heap.size, 0, _, _, rfl, rfl, heap_alloc_new w.drew _, hge, hcm, ?_, fun j u hj => ?_⟩⟩, ((Upd.refl _ _).drew).alloc _, .inr ⟨w.heap.size, rfl, Nat.le_refl _, by simp [World.alloc]⟩⟩
      · have hz1 : (Value.int IntKind.u8 0).cells.size = 1 := rfl
        simp only [Array.size_append, List.size_toArray, size_zeroCells, hz1, B_length, hnl]
        omega
      · rw [B_append] at hj
        rw [Nat.zero_add, ← Array.getElem?_toList, Array.toList_append, Array.toList_append]
        rw [List.getElem?_append_left]
        · exact hj
        · rcases Nat.lt_or_ge j (B l ++ B tl).length with h | h
          · simpa using h
          · rw [List.getElem?_eq_none h] at hj; cases hj
end
section
variable {P : Program} {ops : Array Oper} {rest : List Oper} {o : Oper} {a : Act} {Q : Exit → Act → World → Prop} {K : Act → World → Prop} {W : World} {E : Prop}
theorem wp_appendS {S' : Nat → Prop} {w0 : World} (HU : Upd S' w0 W) (N : Nat) (e : TypeId) (l tl : List UInt8) (G : Option Nat) (A0 : Option Addr) (n c0 : Nat) (hgd : o.guard = none) (s x : Operand) (t u : TypeId)
    (ho : o.op = .call { callee := .builtin .append, args := #[s, x], argTypes := #[t, u] })
    (ht : P.underlying t = some (.slice e)) (hu : P.underlying u = some .string) (hinfo : (P.info? e).map (fun i => (i.zero, i.size, i.bytes)) = some (some (.int .u8 0), 1, 1))
    (hs : a.eval s = .slice A0 n c0) (hx : a.eval x = .string (S tl)) (HO : Own W e 1 (.slice A0 n c0) n (B l) G) (hG : ∀ g, G = some g → w0.heap.size ≤ g) (hN : N = n + tl.length) (hlim : N ≤ 140737488355328)
    (h : ∀ A1 c1 w1 G1, N ≤ c1 → c1 ≤ maxLen → Own w1 e 1 (.slice A1 N c1) N (B (l ++ tl)) G1 → (∀ g, G1 = some g → w0.heap.size ≤ g) → Upd S' w0 w1 → wpList P ops Q rest (a.put o.dst (.slice A1 N c1)) w1) :
    Stop (wpList P ops Q (o :: rest) a W) := by
  constructor
  subst hN
  obtain ⟨v', w', G', hr, hO, hU, hg⟩ := run_appendS (P := P) (ty := o.type) ht hu hinfo HO hlim
  obtain ⟨A1, c1, rfl, h1, h2, _, _⟩ := hO.slice
  refine wpList_plain hgd fun K hK => ?_
  unfold Oper.wp execOp
  simp only [ho, resolve, invoke, builtin, Sem.run_bind, Sem.run_pure, Result.andThen_ok, List.map_toArray, List.map_cons, List.map_nil, hs, hx, hr]
  refine hK _ _ (h A1 c1 w' G' h1 h2 hO ?_ (HU.trans hU fun i hi e => ?_))
  · intro g e
    rcases hg with rfl | ⟨g', rfl, h3, _⟩
    · exact hG g e
    · obtain rfl := Option.some.inj e
      exact Nat.le_trans HU.size h3
  · have := hG i e.symm
    omega
theorem gate_appS (s x : Operand) (t u : TypeId) (_ho : o.op = .call { callee := .builtin .append, args := #[s, x], argTypes := #[t, u] }) (h : if Region.wanted o (yielded ops a.tmps) = true then Oper.wp P o a W K Q else E) : if Region.wanted o (yielded ops a.tmps) = true then Oper.wp P o a W K Q else E := h
theorem step_appendS {S' : Nat → Prop} {w0 : World} (HU : Upd S' w0 W) (N : Nat) (e : TypeId) (l tl : List UInt8) (G : Option Nat) (A0 : Option Addr) (n c0 : Nat) (hgd : o.guard = none) (s x : Operand) (t u : TypeId)
    (ho : o.op = .call { callee := .builtin .append, args := #[s, x], argTypes := #[t, u] })
    (ht : P.underlying t = some (.slice e)) (hu : P.underlying u = some .string) (hinfo : (P.info? e).map (fun i => (i.zero, i.size, i.bytes)) = some (some (.int .u8 0), 1, 1))
    (hs : a.eval s = .slice A0 n c0) (hx : a.eval x = .string (S tl)) (HO : Own W e 1 (.slice A0 n c0) n (B l) G) (hG : ∀ g, G = some g → w0.heap.size ≤ g) (hN : N = n + tl.length) (hlim : N ≤ 140737488355328)
    (h : ∀ A1 c1 w1 G1, N ≤ c1 → c1 ≤ maxLen → Own w1 e 1 (.slice A1 N c1) N (B (l ++ tl)) G1 → (∀ g, G1 = some g → w0.heap.size ≤ g) → Upd S' w0 w1 → K (a.put o.dst (.slice A1 N c1)) w1) :
    if Region.wanted o (yielded ops a.tmps) = true then Oper.wp P o a W K Q else E := by
  have hw : Region.wanted o (yielded ops a.tmps) = true := by simp [Region.wanted, hgd]
  rw [if_pos hw]
  subst hN
  obtain ⟨v', w', G', hr, hO, hU, hg⟩ := run_appendS (P := P) (ty := o.type) ht hu hinfo HO hlim
  obtain ⟨A1, c1, rfl, h1, h2, _, _⟩ := hO.slice
  unfold Oper.wp execOp
  simp only [ho, resolve, invoke, builtin, Sem.run_bind, Sem.run_pure, Result.andThen_ok, List.map_toArray, List.map_cons, List.map_nil, hs, hx, hr]
  refine h A1 c1 w' G' h1 h2 hO ?_ (HU.trans hU fun i hi e => ?_)
  · intro g e
    rcases hg with rfl | ⟨g', rfl, h3, _⟩
    · exact hG g e
    · obtain rfl := Option.some.inj e
      exact Nat.le_trans HU.size h3
  · have := hG i e.symm
    omega
end
end Go.Proofs.YteepkanbiefpjaaGreatDoor.K
set_option linter.unusedVariables false
set_option linter.unusedSimpArgs false
namespace Go.Proofs.YteepkanbiefpjaaGreatDoor.MgNum
open Go.RowKit K Mg
theorem info8 : (Tryz.prog.info? 5).map (fun i => (i.zero, i.size, i.bytes)) = some (some (.int .u8 0), 1, 1) := by kernel_rfl
def num6 (x : Nat) : List UInt8 := [UInt8.ofNat (x / 1099511627776), UInt8.ofNat (x / 4294967296), UInt8.ofNat (x / 16777216), UInt8.ofNat (x / 65536), UInt8.ofNat (x / 256), UInt8.ofNat x]
theorem num6_length (x : Nat) : (num6 x).length = 6 := rfl
set_option maxHeartbeats 2000000 in
theorem number_calls (A : Option Addr) (c : Nat) (l : List UInt8) (x : Nat) (G : Option Nat) (w0 w : World) (hu : Upd (fun _ => False) w0 w) (ho : Own w 5 1 (.slice A l.length c) l.length (B l) G) (hG : ∀ g, G = some g → w0.heap.size ≤ g) (hx : x ≤ 1099511627776) (hl : l.length ≤ 1000) :
    Calls Tryz.prog 84 #[.slice A l.length c, .int .i64 (x : Int)] w fun e w' => ∃ A' c' G', e = .returned (.slice A' (l.length + 6) c') ∧ Own w' 5 1 (.slice A' (l.length + 6) c') (l.length + 6) (B (l ++ num6 x)) G' ∧ (∀ g, G' = some g → w0.heap.size ≤ g) ∧ Upd (fun _ => False) w0 w' := by
  have HU := Asd.mk hu
  have HO := Asd.mk ho
  have HG := Asd.mk hG
  obtain ⟨_, _, hv, hc, hm, _, _⟩ := ho.slice
  injection hv with e1 e2 e3
  subst e3
  obtain ⟨n, hn⟩ : ∃ n, n = l.length := ⟨_, rfl⟩
  rw [← hn] at HO hc hl
  rw [← hn]
  have HN := Asd.mk hn
  clear hu ho hG e2 e1 hn
  go_enter Tryz.func84, Tryz.ntmps84
  go_wp2
  go_loopw [0, 5] (fun v0 v5 wr => ∃ (j pl : Nat) (Ab : Option Addr) (cb : Nat) (Gb : Option Nat), j ≤ 6 ∧ v5 = .int .i64 (40 - 8 * (j : Int)) ∧ v0 = .slice Ab pl cb ∧ pl = n + j ∧ pl ≤ cb ∧ cb ≤ maxLen ∧ Asd (Own wr 5 1 (.slice Ab pl cb) pl (B (l ++ (num6 x).take j)) Gb) ∧ Asd (∀ g, Gb = some g → w0.heap.size ≤ g) ∧ Asd (Upd (fun _ => False) w0 wr)) (fun _ v5 _ => (intOf v5 + 8).toNat)
  case atStart => exact ⟨0, n, A, _, G, by omega, rfl, rfl, rfl, hc, hm, by simpa using HO, HG, HU⟩
  case round =>
    obtain ⟨j, pl, Ab, cb, Gb, hj, rfl, rfl, hpl, hplc, hcm, HOb, HGb, HUb⟩ := hrel
    by_cases h6 : j = 6
    · subst h6
      have HL := Asd.mk (show pl = n + 6 from hpl)
      have HT := Asd.mk (show (num6 x).take 6 = num6 x from rfl)
      clear hpl
      go_wp2
      go_ret
      have h1 := HOb.out
      rw [HT.out, HL.out] at h1
      exact ⟨Ab, cb, Gb, by rw [HL.out]; rfl, h1, HGb.out, HUb.out⟩
    · have HPl := Asd.mk hpl
      have hpb : pl ≤ 1006 := by omega
      clear hpl
      rcases (by omega : j = 0 ∨ j = 1 ∨ j = 2 ∨ j = 3 ∨ j = 4 ∨ j = 5) with rfl | rfl | rfl | rfl | rfl | rfl
      · go_wp2_with (first | (with_reducible refine stop_append _ _ _ _ rfl ?_) | (with_reducible refine stop_copy _ _ _ _ rfl ?_) | (with_reducible refine stop_make _ _ _ rfl ?_) | (with_reducible refine stop_conv 31 9 _ rfl ?_))
        refine wp_appendF (S := fun _ => False) (w0 := w0) (by exact (by repeat (first | exact HUb.out | refine Upd.drew ?_ | refine Upd.drewN ?_ _ | refine Upd.alloc ?_ _))) (pl + 1) 5 (l ++ (num6 x).take 0) [(num6 x).getD 0 0] Gb Ab pl cb (some ⟨wr.heap.size, 0, none⟩) 1 1 rfl _ _ 31 rfl Tryz.underlying31 info8 rfl rfl (HOb.out.upd ((Upd.refl (fun _ => False) _).alloc _) (fun _ _ h => h)) HGb.out (Rd.lit wr _ _ _ 1 _ (by simp [B, num6] <;> omega) rfl (by omega)) rfl (by omega) ?_
        intro A5 c5 w5 G5 hc5 hm5 hO5 hG5 hu5 _ _
        rw [List.append_assoc, show (num6 x).take 0 ++ [(num6 x).getD 0 0] = (num6 x).take 1 from rfl] at hO5
        have HO5 := Asd.mk hO5
        have HG5 := Asd.mk hG5
        have HU5 := Asd.mk hu5
        clear hO5 hG5 hu5 HOb HGb HUb
        go_wp2
        go_roundw
        case rel => exact ⟨1, pl + 1, A5, c5, G5, by omega, rfl, rfl, by have := HPl.out; omega, hc5, hm5, HO5, HG5, HU5⟩
        case measure => (simp only [intOf]; decide)
      · go_wp2_with (first | (with_reducible refine stop_append _ _ _ _ rfl ?_) | (with_reducible refine stop_copy _ _ _ _ rfl ?_) | (with_reducible refine stop_make _ _ _ rfl ?_) | (with_reducible refine stop_conv 31 9 _ rfl ?_))
        refine wp_appendF (S := fun _ => False) (w0 := w0) (by exact (by repeat (first | exact HUb.out | refine Upd.drew ?_ | refine Upd.drewN ?_ _ | refine Upd.alloc ?_ _))) (pl + 1) 5 (l ++ (num6 x).take 1) [(num6 x).getD 1 0] Gb Ab pl cb (some ⟨wr.heap.size, 0, none⟩) 1 1 rfl _ _ 31 rfl Tryz.underlying31 info8 rfl rfl (HOb.out.upd ((Upd.refl (fun _ => False) _).alloc _) (fun _ _ h => h)) HGb.out (Rd.lit wr _ _ _ 1 _ (by simp [B, num6] <;> omega) rfl (by omega)) rfl (by omega) ?_
        intro A5 c5 w5 G5 hc5 hm5 hO5 hG5 hu5 _ _
        rw [List.append_assoc, show (num6 x).take 1 ++ [(num6 x).getD 1 0] = (num6 x).take 2 from rfl] at hO5
        have HO5 := Asd.mk hO5
        have HG5 := Asd.mk hG5
        have HU5 := Asd.mk hu5
        clear hO5 hG5 hu5 HOb HGb HUb
        go_wp2
        go_roundw
        case rel => exact ⟨2, pl + 1, A5, c5, G5, by omega, rfl, rfl, by have := HPl.out; omega, hc5, hm5, HO5, HG5, HU5⟩
        case measure => (simp only [intOf]; decide)
      · go_wp2_with (first | (with_reducible refine stop_append _ _ _ _ rfl ?_) | (with_reducible refine stop_copy _ _ _ _ rfl ?_) | (with_reducible refine stop_make _ _ _ rfl ?_) | (with_reducible refine stop_conv 31 9 _ rfl ?_))
        refine wp_appendF (S := fun _ => False) (w0 := w0) (by exact (by repeat (first | exact HUb.out | refine Upd.drew ?_ | refine Upd.drewN ?_ _ | refine Upd.alloc ?_ _))) (pl + 1) 5 (l ++ (num6 x).take 2) [(num6 x).getD 2 0] Gb Ab pl cb (some ⟨wr.heap.size, 0, none⟩) 1 1 rfl _ _ 31 rfl Tryz.underlying31 info8 rfl rfl (HOb.out.upd ((Upd.refl (fun _ => False) _).alloc _) (fun _ _ h => h)) HGb.out (Rd.lit wr _ _ _ 1 _ (by simp [B, num6] <;> omega) rfl (by omega)) rfl (by omega) ?_
        intro A5 c5 w5 G5 hc5 hm5 hO5 hG5 hu5 _ _
        rw [List.append_assoc, show (num6 x).take 2 ++ [(num6 x).getD 2 0] = (num6 x).take 3 from rfl] at hO5
        have HO5 := Asd.mk hO5
        have HG5 := Asd.mk hG5
        have HU5 := Asd.mk hu5
        clear hO5 hG5 hu5 HOb HGb HUb
        go_wp2
        go_roundw
        case rel => exact ⟨3, pl + 1, A5, c5, G5, by omega, rfl, rfl, by have := HPl.out; omega, hc5, hm5, HO5, HG5, HU5⟩
        case measure => (simp only [intOf]; decide)
      · go_wp2_with (first | (with_reducible refine stop_append _ _ _ _ rfl ?_) | (with_reducible refine stop_copy _ _ _ _ rfl ?_) | (with_reducible refine stop_make _ _ _ rfl ?_) | (with_reducible refine stop_conv 31 9 _ rfl ?_))
        refine wp_appendF (S := fun _ => False) (w0 := w0) (by exact (by repeat (first | exact HUb.out | refine Upd.drew ?_ | refine Upd.drewN ?_ _ | refine Upd.alloc ?_ _))) (pl + 1) 5 (l ++ (num6 x).take 3) [(num6 x).getD 3 0] Gb Ab pl cb (some ⟨wr.heap.size, 0, none⟩) 1 1 rfl _ _ 31 rfl Tryz.underlying31 info8 rfl rfl (HOb.out.upd ((Upd.refl (fun _ => False) _).alloc _) (fun _ _ h => h)) HGb.out (Rd.lit wr _ _ _ 1 _ (by simp [B, num6] <;> omega) rfl (by omega)) rfl (by omega) ?_
        intro A5 c5 w5 G5 hc5 hm5 hO5 hG5 hu5 _ _
        rw [List.append_assoc, show (num6 x).take 3 ++ [(num6 x).getD 3 0] = (num6 x).take 4 from rfl] at hO5
        have HO5 := Asd.mk hO5
        have HG5 := Asd.mk hG5
        have HU5 := Asd.mk hu5
        clear hO5 hG5 hu5 HOb HGb HUb
        go_wp2
        go_roundw
        case rel => exact ⟨4, pl + 1, A5, c5, G5, by omega, rfl, rfl, by have := HPl.out; omega, hc5, hm5, HO5, HG5, HU5⟩
        case measure => (simp only [intOf]; decide)
      · go_wp2_with (first | (with_reducible refine stop_append _ _ _ _ rfl ?_) | (with_reducible refine stop_copy _ _ _ _ rfl ?_) | (with_reducible refine stop_make _ _ _ rfl ?_) | (with_reducible refine stop_conv 31 9 _ rfl ?_))
        refine wp_appendF (S := fun _ => False) (w0 := w0) (by exact (by repeat (first | exact HUb.out | refine Upd.drew ?_ | refine Upd.drewN ?_ _ | refine Upd.alloc ?_ _))) (pl + 1) 5 (l ++ (num6 x).take 4) [(num6 x).getD 4 0] Gb Ab pl cb (some ⟨wr.heap.size, 0, none⟩) 1 1 rfl _ _ 31 rfl Tryz.underlying31 info8 rfl rfl (HOb.out.upd ((Upd.refl (fun _ => False) _).alloc _) (fun _ _ h => h)) HGb.out (Rd.lit wr _ _ _ 1 _ (by simp [B, num6] <;> omega) rfl (by omega)) rfl (by omega) ?_
        intro A5 c5 w5 G5 hc5 hm5 hO5 hG5 hu5 _ _
        rw [List.append_assoc, show (num6 x).take 4 ++ [(num6 x).getD 4 0] = (num6 x).take 5 from rfl] at hO5
        have HO5 := Asd.mk hO5
        have HG5 := Asd.mk hG5
        have HU5 := Asd.mk hu5
        clear hO5 hG5 hu5 HOb HGb HUb
        go_wp2
        go_roundw
        case rel => exact ⟨5, pl + 1, A5, c5, G5, by omega, rfl, rfl, by have := HPl.out; omega, hc5, hm5, HO5, HG5, HU5⟩
        case measure => (simp only [intOf]; decide)
      · go_wp2_with (first | (with_reducible refine stop_append _ _ _ _ rfl ?_) | (with_reducible refine stop_copy _ _ _ _ rfl ?_) | (with_reducible refine stop_make _ _ _ rfl ?_) | (with_reducible refine stop_conv 31 9 _ rfl ?_))
        refine wp_appendF (S := fun _ => False) (w0 := w0) (by exact (by repeat (first | exact HUb.out | refine Upd.drew ?_ | refine Upd.drewN ?_ _ | refine Upd.alloc ?_ _))) (pl + 1) 5 (l ++ (num6 x).take 5) [(num6 x).getD 5 0] Gb Ab pl cb (some ⟨wr.heap.size, 0, none⟩) 1 1 rfl _ _ 31 rfl Tryz.underlying31 info8 rfl rfl (HOb.out.upd ((Upd.refl (fun _ => False) _).alloc _) (fun _ _ h => h)) HGb.out (Rd.lit wr _ _ _ 1 _ (by simp [B, num6] <;> omega) rfl (by omega)) rfl (by omega) ?_
        intro A5 c5 w5 G5 hc5 hm5 hO5 hG5 hu5 _ _
        rw [List.append_assoc, show (num6 x).take 5 ++ [(num6 x).getD 5 0] = (num6 x).take 6 from rfl] at hO5
        have HO5 := Asd.mk hO5
        have HG5 := Asd.mk hG5
        have HU5 := Asd.mk hu5
        clear hO5 hG5 hu5 HOb HGb HUb
        go_wp2
        go_roundw
        case rel => exact ⟨6, pl + 1, A5, c5, G5, by omega, rfl, rfl, by have := HPl.out; omega, hc5, hm5, HO5, HG5, HU5⟩
        case measure => (simp only [intOf]; decide)
def mbody (k : Int) (a b : Nat) (t : List UInt8) : List UInt8 := (num6 a ++ num6 b).take (6 * nums k) ++ t
theorem mbody_length (k : Int) (a b : Nat) (t : List UInt8) : (mbody k a b t).length = 6 * nums k + t.length := by
  unfold mbody
  have := nums_le k
  rw [List.length_append, List.length_take, List.length_append, num6_length, num6_length]
  omega
end Go.Proofs.YteepkanbiefpjaaGreatDoor.MgNum
set_option linter.unusedVariables false
set_option linter.unusedSimpArgs false
namespace Go.Proofs.YteepkanbiefpjaaGreatDoor.MgOf
open Go.RowKit K Mg MgNum
def val (l : List UInt8) : Nat := l.foldl (fun v x => v * 256 + x.toNat) 0
theorem val_snoc (l : List UInt8) (x : UInt8) : val (l ++ [x]) = val l * 256 + x.toNat := by simp [val, List.foldl_append]
theorem val_lt (l : List UInt8) : val l < 256 ^ l.length := by
  rw [← List.reverse_reverse l]
  induction l.reverse with
  | nil => simp [val]
  | cons x r ih =>
    rw [List.reverse_cons, val_snoc, List.length_append, List.length_reverse] at *
    have := x.toNat_lt
    simp only [List.length_cons, List.length_nil, Nat.zero_add, Nat.pow_succ, List.length_reverse] at *
    omega
theorem or_low (v : Nat) (hv : v < 1099511627776) (c : UInt8) : Go.bits .or .i64 ((v : Int) * 256) (c.toNat : Int) = ((v * 256 + c.toNat : Nat) : Int) := by
  have hc := c.toNat_lt
  show IntKind.i64.wrap (((BitVec.ofInt 64 ((v : Int) * 256) ||| BitVec.ofInt 64 (c.toNat : Int)).toNat : Nat) : Int) = _
  have e1 : BitVec.ofInt 64 ((v : Int) * 256) = BitVec.ofNat 64 (v <<< 8) := by
    apply BitVec.eq_of_toNat_eq
    simp [Nat.shiftLeft_eq]
    omega
  have e2 : BitVec.ofInt 64 (c.toNat : Int) = BitVec.ofNat 64 c.toNat := by
    apply BitVec.eq_of_toNat_eq
    simp
  rw [e1, e2, ← BitVec.ofNat_or, BitVec.toNat_ofNat, ← Nat.shiftLeft_add_eq_or_of_lt hc, Nat.shiftLeft_eq]
  rw [w64i _ (by omega) (by omega)]
  omega
def numA (n : Nat) (body : List UInt8) : Nat := if 0 < n then val (body.take 6) else 0
def numB (n : Nat) (body : List UInt8) : Nat := if 1 < n then val ((body.drop 6).take 6) else 0
def isMsg (k : Int) (body : List UInt8) : Bool := known k && (decide (6 * nums k ≤ body.length) && right k (numA (nums k) body) (numB (nums k) body) (body.drop (6 * nums k)).length)
def OfPost (k : Int) (body : List UInt8) (w : World) (e : Ending) (w' : World) : Prop :=
  Upd (fun _ => False) w w' ∧ e = .returned (.tuple #[if isMsg k body then .agg #[.int .i64 k, .int .i64 (numA (nums k) body : Int), .int .i64 (numB (nums k) body : Int), .string (S (body.drop (6 * nums k)))] else .agg #[.int .i64 0, .int .i64 0, .int .i64 0, .string (S [])], .bool (isMsg k body)])
structure Lp (w wr : World) (k : Int) (a b : Nat) (A : Option Addr) (n c : Nat) : Prop where
  m : wr.heap[w.heap.size + 1 + 1]? = some (.cells #[.int .i64 k, .int .i64 (a : Int), .int .i64 (b : Int), .string { data := #[] }] 36 (0, 0))
  p : wr.heap[w.heap.size + 1 + 1 + 1]? = some (.cells #[.pointer (some ⟨w.heap.size + 1 + 1, 1, none⟩), .pointer (some ⟨w.heap.size + 1 + 1, 2, none⟩)] 154 (0, 0))
  f : wr.heap[w.heap.size]? = some (.cells #[.int .u8 k, .slice A n c] 105 (0, 0))
  r : wr.heap[w.heap.size + 1]? = some (.cells #[.int .i64 0, .int .i64 0, .int .i64 0, .string { data := #[] }] 36 (0, 0))
  upd : Upd (fun _ => False) w wr
section
variable {w wr : World} {k : Int} {a b : Nat} {A : Option Addr} {n c : Nat}
theorem Lp.start (w : World) (k : Int) (A : Option Addr) (n c : Nat) : Lp w ((((w.alloc (.cells #[.int .u8 k, .slice A n c] 105)).alloc (.cells #[.int .i64 0, .int .i64 0, .int .i64 0, .string { data := #[] }] 36)).alloc (.cells #[.int .i64 k, .int .i64 0, .int .i64 0, .string { data := #[] }] 36)).alloc (.cells #[.pointer (some ⟨w.heap.size + 1 + 1, 1, none⟩), .pointer (some ⟨w.heap.size + 1 + 1, 2, none⟩)] 154)) k 0 0 A n c := by
  have h1 := heap_alloc_new w (.cells #[.int .u8 k, .slice A n c] 105)
  have h2 := heap_alloc_new (w.alloc (.cells #[.int .u8 k, .slice A n c] 105)) (.cells #[.int .i64 0, .int .i64 0, .int .i64 0, .string { data := #[] }] 36)
  have h3 := heap_alloc_new ((w.alloc (.cells #[.int .u8 k, .slice A n c] 105)).alloc (.cells #[.int .i64 0, .int .i64 0, .int .i64 0, .string { data := #[] }] 36)) (.cells #[.int .i64 k, .int .i64 0, .int .i64 0, .string { data := #[] }] 36)
  have h4 := heap_alloc_new (((w.alloc (.cells #[.int .u8 k, .slice A n c] 105)).alloc (.cells #[.int .i64 0, .int .i64 0, .int .i64 0, .string { data := #[] }] 36)).alloc (.cells #[.int .i64 k, .int .i64 0, .int .i64 0, .string { data := #[] }] 36)) (.cells #[.pointer (some ⟨w.heap.size + 1 + 1, 1, none⟩), .pointer (some ⟨w.heap.size + 1 + 1, 2, none⟩)] 154)
  have s1 : (w.alloc (.cells #[.int .u8 k, .slice A n c] 105)).heap.size = w.heap.size + 1 := by simp
  have s2 : ((w.alloc (.cells #[.int .u8 k, .slice A n c] 105)).alloc (.cells #[.int .i64 0, .int .i64 0, .int .i64 0, .string { data := #[] }] 36)).heap.size = w.heap.size + 1 + 1 := by simp
  have s3 : (((w.alloc (.cells #[.int .u8 k, .slice A n c] 105)).alloc (.cells #[.int .i64 0, .int .i64 0, .int .i64 0, .string { data := #[] }] 36)).alloc (.cells #[.int .i64 k, .int .i64 0, .int .i64 0, .string { data := #[] }] 36)).heap.size = w.heap.size + 1 + 1 + 1 := by simp
  rw [s1] at h2
  rw [s2] at h3
  rw [s3] at h4
  exact ⟨((Upd.refl (fun _ => False) _).alloc _).blk h3 (fun h => h), h4, ((((Upd.refl (fun _ => False) _).alloc _).alloc _).alloc _).blk h1 (fun h => h), (((Upd.refl (fun _ => False) _).alloc _).alloc _).blk h2 (fun h => h), ((((Upd.refl _ _).alloc _).alloc _).alloc _).alloc _⟩
theorem Lp.setA (h : Lp w wr k a b A n c) (a2 : Nat) : Lp w (wr.setCell ⟨w.heap.size + 1 + 1, 1, none⟩ (.int .i64 (a2 : Int))) k a2 b A n c := by
  have k1 := (Upd.refl (fun i => i = w.heap.size + 1 + 1) wr).setCell (p := ⟨w.heap.size + 1 + 1, 1, none⟩) (fun _ => rfl) (.int .i64 (a2 : Int))
  refine ⟨?_, k1.blk h.p (by omega), k1.blk h.f (by omega), k1.blk h.r (by omega), h.upd.trans k1 (fun i hi e => by omega)⟩
  rw [blk_setCell h.m]
  rfl
theorem Lp.setB (h : Lp w wr k a b A n c) (b2 : Nat) : Lp w (wr.setCell ⟨w.heap.size + 1 + 1, 2, none⟩ (.int .i64 (b2 : Int))) k a b2 A n c := by
  have k1 := (Upd.refl (fun i => i = w.heap.size + 1 + 1) wr).setCell (p := ⟨w.heap.size + 1 + 1, 2, none⟩) (fun _ => rfl) (.int .i64 (b2 : Int))
  refine ⟨?_, k1.blk h.p (by omega), k1.blk h.f (by omega), k1.blk h.r (by omega), h.upd.trans k1 (fun i hi e => by omega)⟩
  rw [blk_setCell h.m]
  rfl
end
theorem four {w : World} {r : Nat} {x0 x1 x2 x3 : Value} {e : TypeId} (h : w.heap[r]? = some (.cells #[x0, x1, x2, x3] e (0, 0))) :
    (w.cell? ⟨r, 0, none⟩ = some x0 ∧ w.frozen? ⟨r, 0, none⟩ = false) ∧
    (∀ v0, (w.setCell ⟨r, 0, none⟩ v0).cell? ⟨r, 1, none⟩ = some x1 ∧ (w.setCell ⟨r, 0, none⟩ v0).frozen? ⟨r, 1, none⟩ = false) ∧
    (∀ v0 v1, ((w.setCell ⟨r, 0, none⟩ v0).setCell ⟨r, 1, none⟩ v1).cell? ⟨r, 2, none⟩ = some x2 ∧ ((w.setCell ⟨r, 0, none⟩ v0).setCell ⟨r, 1, none⟩ v1).frozen? ⟨r, 2, none⟩ = false) ∧
    (∀ v0 v1 v2, (((w.setCell ⟨r, 0, none⟩ v0).setCell ⟨r, 1, none⟩ v1).setCell ⟨r, 2, none⟩ v2).cell? ⟨r, 3, none⟩ = some x3 ∧ (((w.setCell ⟨r, 0, none⟩ v0).setCell ⟨r, 1, none⟩ v1).setCell ⟨r, 2, none⟩ v2).frozen? ⟨r, 3, none⟩ = false) ∧
    (∀ v0 v1 v2 v3, ((((w.setCell ⟨r, 0, none⟩ v0).setCell ⟨r, 1, none⟩ v1).setCell ⟨r, 2, none⟩ v2).setCell ⟨r, 3, none⟩ v3).heap[r]? = some (.cells #[v0, v1, v2, v3] e (0, 0))) := by
  have b0 := fun v0 => blk_setCell (o := 0) h v0
  have b1 := fun v0 v1 => blk_setCell (o := 1) (b0 v0) v1
  have b2 := fun v0 v1 v2 => blk_setCell (o := 2) (b1 v0 v1) v2
  have b3 := fun v0 v1 v2 v3 => blk_setCell (o := 3) (b2 v0 v1 v2) v3
  refine ⟨⟨by simp [World.cell?, h], by simp [World.frozen?, h]⟩, fun v0 => ⟨by simp [World.cell?, b0], by simp [World.frozen?, b0]⟩, fun v0 v1 => ⟨by simp [World.cell?, b1], by simp [World.frozen?, b1]⟩, fun v0 v1 v2 => ⟨by simp [World.cell?, b2], by simp [World.frozen?, b2]⟩, fun v0 v1 v2 v3 => ?_⟩
  rw [b3]
  rfl
theorem four_upd {w w5 : World} {r : Nat} (h : Upd (fun _ => False) w w5) (hr : w.heap.size ≤ r) (v0 v1 v2 v3 : Value) : Upd (fun _ => False) w ((((w5.setCell ⟨r, 0, none⟩ v0).setCell ⟨r, 1, none⟩ v1).setCell ⟨r, 2, none⟩ v2).setCell ⟨r, 3, none⟩ v3) :=
  (((h.setCell (p := ⟨r, 0, none⟩) (fun e => by simp only at e; omega) v0).setCell (p := ⟨r, 1, none⟩) (fun e => by simp only at e; omega) v1).setCell (p := ⟨r, 2, none⟩) (fun e => by simp only at e; omega) v2).setCell (p := ⟨r, 3, none⟩) (fun e => by simp only at e; omega) v3
set_option maxHeartbeats 4000000 in
set_option maxRecDepth 100000 in
theorem of_calls (kind : UInt8) (A : Option Addr) (c : Nat) (body : List UInt8) (w : World) (hr : Rd w A body.length body) (hc : body.length ≤ c) (hbl : body.length ≤ 1048576) :
    Calls Tryz.prog 63 #[.agg #[.int .u8 (kind.toNat : Int), .slice A body.length c]] w (OfPost (kind.toNat : Int) body w) := by
  have HB := Asd.mk hr
  obtain ⟨k, hk⟩ : ∃ k : Int, k = (kind.toNat : Int) := ⟨_, rfl⟩
  have hk0 : 0 ≤ k ∧ k ≤ 255 := by have := kind.toNat_lt; omega
  rw [← hk]
  clear hr hk
  obtain ⟨N, hN⟩ : ∃ N, N = nums k := ⟨_, rfl⟩
  have hN2 : N ≤ 2 := by rw [hN]; exact nums_le k
  have HN := Asd.mk hN
  clear hN
  go_enter Tryz.func63, Tryz.ntmps63
  go_wp2_with fail
  refine (shape_calls k _).mono ?_
  rw [← HN.out]
  obtain ⟨M, hM⟩ : ∃ M, M = most k := ⟨_, rfl⟩
  rw [← hM]
  clear hM
  rintro e w1 ⟨rfl, rfl⟩
  have none_ : ∀ w', isMsg k body = false → Upd (fun _ => False) w w' → OfPost k body w (.returned (.tuple #[.agg #[.int .i64 0, .int .i64 0, .int .i64 0, .string { data := #[] }], .bool false])) w' := fun w' h hu => ⟨hu, by rw [h]; rfl⟩
  have HNone := Asd.mk none_
  clear none_
  cases hkn : known k with
  | false =>
    have HI : Asd (isMsg k body = false) := ⟨by unfold isMsg; rw [hkn]; rfl⟩
    clear hkn
    go_wp2
    refine bodyPost_ret (v := .tuple #[.agg #[.int .i64 0, .int .i64 0, .int .i64 0, .string { data := #[] }], .bool false]) (by simp [results, Tryz.results63, go_sem]) rfl (HNone.out _ HI.out (by repeat (first | exact Upd.refl _ _ | refine Upd.alloc ?_ _ | refine Upd.setCell ?_ (fun h => absurd h (by simp)) _)))
  | true =>
    have HKN := Asd.mk hkn
    clear hkn
    by_cases hlen : body.length < 6 * N
    · have HI : Asd (isMsg k body = false) := ⟨by unfold isMsg; rw [← HN.out, decide_eq_false (by omega)]; simp⟩
      have hle : (body.length : Int) < 6 * (N : Int) := by omega
      have hw6 : IntKind.i64.wrap (6 * (N : Int)) = 6 * (N : Int) := w64i _ (by omega) (by omega)
      go_wp2
      refine bodyPost_ret (v := .tuple #[.agg #[.int .i64 0, .int .i64 0, .int .i64 0, .string { data := #[] }], .bool false]) (by simp [results, Tryz.results63, go_sem]) rfl (HNone.out _ HI.out (by repeat (first | exact Upd.refl _ _ | refine Upd.alloc ?_ _ | refine Upd.setCell ?_ (fun h => absurd h (by simp)) _)))
    · have hle : ¬ ((body.length : Int) < 6 * (N : Int)) := by omega
      have hw6 : IntKind.i64.wrap (6 * (N : Int)) = 6 * (N : Int) := w64i _ (by omega) (by omega)
      have hN2i : (N : Int) ≤ 2 := by omega
      go_wp2
      go_loopw [40] (fun v40 wr => ∃ j : Nat, v40 = .int .i64 (j : Int) ∧ j ≤ N ∧ Asd (Lp w wr k (numA j body) (numB j body) A body.length c)) (fun v40 _ => N - (intOf v40).toNat)
      case atStart => exact ⟨0, rfl, by omega, ⟨Lp.start w k A body.length c⟩⟩
      case round =>
        obtain ⟨j, rfl, hj, HL⟩ := hrel
        by_cases hjn : j < N
        · rcases (by omega : j = 0 ∨ j = 1) with rfl | rfl
          · obtain ⟨seg, hseg⟩ : ∃ seg, seg = (body.take 6).drop 0 := ⟨_, rfl⟩
            have h6l : 6 ≤ body.length := by omega
            obtain ⟨A6, hcut, _, hrd6, _⟩ := cut_both' (P := Tryz.prog) 31 5 .i64 .i64 (sz := 1) Tryz.underlying31 (by kernel_rfl) A body.length c 0 6 0 6 rfl rfl (by omega) h6l hc
            have hr6 := hrd6 rfl _ _ HB.out
            rw [← hseg] at hr6
            have HR6 := Asd.mk hr6
            have HSL := Asd.mk (show seg.length = 6 by rw [hseg, List.length_drop, List.length_take]; omega)
            have HSG := Asd.mk hseg
            have hp0 : wr.cell? ⟨w.heap.size + 1 + 1 + 1, 0, none⟩ = some (.pointer (some ⟨w.heap.size + 1 + 1, 1, none⟩)) := by simp [World.cell?, HL.out.p]
            have hf1 : wr.cell? ⟨w.heap.size, 1, none⟩ = some (.slice A body.length c) := by simp [World.cell?, HL.out.f]
            clear hr6 hrd6 hseg
            go_wp2
            clear hp0 hf1
            go_loopw [54] (fun v54 wr => ∃ i : Nat, v54 = .int .i64 (i : Int) ∧ i ≤ 6 ∧ Asd (Lp w wr k (val (seg.take i)) 0 A body.length c)) (fun v54 _ => 6 - (intOf v54).toNat)
            case atStart => exact ⟨0, rfl, by omega, HL⟩
            case round =>
              obtain ⟨i, rfl, hi, HI2⟩ := hrel
              by_cases hlt6 : i < 6
              · obtain ⟨ad, rfl, hc0⟩ := (HR6.out.up HI2.out.upd).at i hlt6
                obtain ⟨x, hx⟩ : ∃ x, x = seg[i]'(by rw [HSL.out]; exact hlt6) := ⟨_, rfl⟩
                rw [← hx] at hc0
                have HV := Asd.mk (show val (seg.take (i + 1)) = val (seg.take i) * 256 + x.toNat by rw [List.take_succ_eq_append_getElem (by rw [HSL.out]; exact hlt6), val_snoc, ← hx])
                obtain ⟨v, hv⟩ : ∃ v, v = val (seg.take i) := ⟨_, rfl⟩
                have hvl : v < 1099511627776 := by
                  rw [hv]
                  refine Nat.lt_of_lt_of_le (val_lt _) ?_
                  rw [List.length_take, HSL.out]
                  exact Nat.le_trans (Nat.pow_le_pow_right (by omega) (show min i 6 ≤ 5 by omega)) (by decide)
                rw [← hv] at HV HI2
                have hcm : wr.cell? ⟨w.heap.size + 1 + 1, 1, none⟩ = some (.int .i64 (v : Int)) := by simp [World.cell?, HI2.out.m]
                have hfm : wr.frozen? ⟨w.heap.size + 1 + 1, 1, none⟩ = false := by simp [World.frozen?, HI2.out.m]
                have hsh : IntKind.i64.wrap ((v : Int) * 256) = (v : Int) * 256 := w64i _ (by omega) (by omega)
                have hor := or_low v hvl x
                have hxw : wrap64 (x.toNat : Int) = (x.toNat : Int) := by have := x.toNat_lt; unfold wrap64; omega
                obtain ⟨v2, hv2⟩ : ∃ v2, v2 = v * 256 + x.toNat := ⟨_, rfl⟩
                rw [← hv2] at HV hor
                have hwi : IntKind.i64.wrap ((i : Int) + 1) = ((i + 1 : Nat) : Int) := by rw [w64i _ (by omega) (by omega)]; rfl
                have HN2 := Asd.mk (HI2.out.setA v2)
                clear hv hx hv2
                go_wp2
                go_roundw
                case rel => exact ⟨i + 1, rfl, by omega, by rw [HV.out]; exact HN2⟩
                case measure => (simp only [intOf]; omega)
              · have hi6 : i = 6 := by omega
                subst hi6
                have hT := List.take_of_length_le (show seg.length ≤ 6 by rw [HSL.out]; omega)
                rw [hT] at HI2
                have hwj : IntKind.i64.wrap (((0 : Nat) : Int) + 1) = ((0 + 1 : Nat) : Int) := rfl
                go_wp2
                go_roundw
                case rel => exact ⟨0 + 1, rfl, by omega, by have h9 := HI2; rw [HSG.out, List.drop_zero] at h9; exact h9⟩
                case measure => (simp only [intOf]; omega)
          · obtain ⟨seg, hseg⟩ : ∃ seg, seg = (body.take 12).drop 6 := ⟨_, rfl⟩
            have h6l : 12 ≤ body.length := by omega
            obtain ⟨A6, hcut, _, hrd6, _⟩ := cut_both' (P := Tryz.prog) 31 5 .i64 .i64 (sz := 1) Tryz.underlying31 (by kernel_rfl) A body.length c 6 12 6 12 rfl rfl (by omega) h6l hc
            have hr6 := hrd6 rfl _ _ HB.out
            rw [← hseg] at hr6
            have HR6 := Asd.mk hr6
            have HSL := Asd.mk (show seg.length = 6 by rw [hseg, List.length_drop, List.length_take]; omega)
            have HSG := Asd.mk hseg
            have hp0 : wr.cell? ⟨w.heap.size + 1 + 1 + 1, 1, none⟩ = some (.pointer (some ⟨w.heap.size + 1 + 1, 2, none⟩)) := by simp [World.cell?, HL.out.p]
            have hf1 : wr.cell? ⟨w.heap.size, 1, none⟩ = some (.slice A body.length c) := by simp [World.cell?, HL.out.f]
            clear hr6 hrd6 hseg
            go_wp2
            clear hp0 hf1
            go_loopw [54] (fun v54 wr => ∃ i : Nat, v54 = .int .i64 (i : Int) ∧ i ≤ 6 ∧ Asd (Lp w wr k (numA 2 body) (val (seg.take i)) A body.length c)) (fun v54 _ => 6 - (intOf v54).toNat)
            case atStart => exact ⟨0, rfl, by omega, HL⟩
            case round =>
              obtain ⟨i, rfl, hi, HI2⟩ := hrel
              by_cases hlt6 : i < 6
              · obtain ⟨ad, rfl, hc0⟩ := (HR6.out.up HI2.out.upd).at i hlt6
                obtain ⟨x, hx⟩ : ∃ x, x = seg[i]'(by rw [HSL.out]; exact hlt6) := ⟨_, rfl⟩
                rw [← hx] at hc0
                have HV := Asd.mk (show val (seg.take (i + 1)) = val (seg.take i) * 256 + x.toNat by rw [List.take_succ_eq_append_getElem (by rw [HSL.out]; exact hlt6), val_snoc, ← hx])
                obtain ⟨v, hv⟩ : ∃ v, v = val (seg.take i) := ⟨_, rfl⟩
                have hvl : v < 1099511627776 := by
                  rw [hv]
                  refine Nat.lt_of_lt_of_le (val_lt _) ?_
                  rw [List.length_take, HSL.out]
                  exact Nat.le_trans (Nat.pow_le_pow_right (by omega) (show min i 6 ≤ 5 by omega)) (by decide)
                rw [← hv] at HV HI2
                have hcm : wr.cell? ⟨w.heap.size + 1 + 1, 2, none⟩ = some (.int .i64 (v : Int)) := by simp [World.cell?, HI2.out.m]
                have hfm : wr.frozen? ⟨w.heap.size + 1 + 1, 2, none⟩ = false := by simp [World.frozen?, HI2.out.m]
                have hsh : IntKind.i64.wrap ((v : Int) * 256) = (v : Int) * 256 := w64i _ (by omega) (by omega)
                have hor := or_low v hvl x
                have hxw : wrap64 (x.toNat : Int) = (x.toNat : Int) := by have := x.toNat_lt; unfold wrap64; omega
                obtain ⟨v2, hv2⟩ : ∃ v2, v2 = v * 256 + x.toNat := ⟨_, rfl⟩
                rw [← hv2] at HV hor
                have hwi : IntKind.i64.wrap ((i : Int) + 1) = ((i + 1 : Nat) : Int) := by rw [w64i _ (by omega) (by omega)]; rfl
                have HN2 := Asd.mk (HI2.out.setB v2)
                clear hv hx hv2
                go_wp2
                go_roundw
                case rel => exact ⟨i + 1, rfl, by omega, by rw [HV.out]; exact HN2⟩
                case measure => (simp only [intOf]; omega)
              · have hi6 : i = 6 := by omega
                subst hi6
                have hT := List.take_of_length_le (show seg.length ≤ 6 by rw [HSL.out]; omega)
                rw [hT] at HI2
                have hwj : IntKind.i64.wrap (((1 : Nat) : Int) + 1) = ((1 + 1 : Nat) : Int) := rfl
                go_wp2
                go_roundw
                case rel => exact ⟨1 + 1, rfl, by omega, by have h9 := HI2; rw [HSG.out, List.drop_take] at h9; exact h9⟩
                case measure => (simp only [intOf]; omega)
        · have hjN : j = N := by omega
          subst hjN
          have hlen6 : 6 * j ≤ body.length := by omega
          obtain ⟨a, ha⟩ : ∃ a, a = numA j body := ⟨_, rfl⟩
          obtain ⟨b, hb⟩ : ∃ b, b = numB j body := ⟨_, rfl⟩
          obtain ⟨t, ht⟩ : ∃ t, t = body.drop (6 * j) := ⟨_, rfl⟩
          rw [← ha, ← hb] at HL
          have HABT := Asd.mk (And.intro ha (And.intro hb ht))
          clear ha hb ht
          obtain ⟨A7, hcut, _, hrd7, _⟩ := cut_from' (P := Tryz.prog) 31 5 .i64 (sz := 1) Tryz.underlying31 (by kernel_rfl) A body.length c (6 * j) (6 * (j : Int)) (by omega) hlen6 hc
          have hr7 := (hrd7 rfl _ _ HB.out).up HL.out.upd
          rw [← HABT.out.2.2] at hr7
          have hs7 := run_str (P := Tryz.prog) (c := c - 6 * j) Tryz.underlying31 Tryz.underlying5 Tryz.underlying9 hr7
          have hf1 : wr.cell? ⟨w.heap.size, 1, none⟩ = some (.slice A body.length c) := by simp [World.cell?, HL.out.f]
          have hm3 : wr.cell? ⟨w.heap.size + 1 + 1, 3, none⟩ = some (.string { data := #[] }) := by simp [World.cell?, HL.out.m]
          have hz3 : wr.frozen? ⟨w.heap.size + 1 + 1, 3, none⟩ = false := by simp [World.frozen?, HL.out.m]
          have k1 := (Upd.refl (fun i => i = w.heap.size + 1 + 1) wr).setCell (p := ⟨w.heap.size + 1 + 1, 3, none⟩) (fun _ => rfl) (.string (S t))
          have hM := blk_setCell (o := 3) HL.out.m (.string (S t))
          have hR := k1.blk HL.out.r (by omega)
          have HU1 : Asd (Upd (fun _ => False) w (wr.setCell ⟨w.heap.size + 1 + 1, 3, none⟩ (.string (S t)))) := ⟨HL.out.upd.trans k1 (fun i hi e => by omega)⟩
          have c0 : (wr.setCell ⟨w.heap.size + 1 + 1, 3, none⟩ (.string (S t))).cell? ⟨w.heap.size + 1 + 1, 0, none⟩ = some (.int .i64 k) := by simp [World.cell?, hM]
          have c1 : (wr.setCell ⟨w.heap.size + 1 + 1, 3, none⟩ (.string (S t))).cell? ⟨w.heap.size + 1 + 1, 1, none⟩ = some (.int .i64 (a : Int)) := by simp [World.cell?, hM]
          have c2 : (wr.setCell ⟨w.heap.size + 1 + 1, 3, none⟩ (.string (S t))).cell? ⟨w.heap.size + 1 + 1, 2, none⟩ = some (.int .i64 (b : Int)) := by simp [World.cell?, hM]
          have c3 : (wr.setCell ⟨w.heap.size + 1 + 1, 3, none⟩ (.string (S t))).cell? ⟨w.heap.size + 1 + 1, 3, none⟩ = some (.string (S t)) := by simp [World.cell?, hM]
          have HM := Asd.mk hM
          have HRr := Asd.mk hR
          clear hrd7 hr7 k1 hM hR HL
          go_wp2_with fail
          refine (right_calls k a b (S t) _).mono ?_
          rw [S_size]
          rintro e w5 ⟨rfl, hu5⟩
          have HM5 := Asd.mk (hu5.blk HM.out (fun h => h))
          have HR5 := Asd.mk (hu5.blk HRr.out (fun h => h))
          have HU5 : Asd (Upd (fun _ => False) w w5) := ⟨HU1.out.trans hu5 (fun _ _ h => h)⟩
          have HI9 : Asd (isMsg k body = right k a b t.length) := ⟨by unfold isMsg; rw [← HN.out, HKN.out, ← HABT.out.1, ← HABT.out.2.1, ← HABT.out.2.2, decide_eq_true hlen6]; simp⟩
          clear hu5 HM HRr HU1 c0 c1 c2 c3 hs7 hf1 hm3 hz3 hcut
          have d0 : w5.cell? ⟨w.heap.size + 1 + 1, 0, none⟩ = some (.int .i64 k) := by simp [World.cell?, HM5.out]
          have d1 : w5.cell? ⟨w.heap.size + 1 + 1, 1, none⟩ = some (.int .i64 (a : Int)) := by simp [World.cell?, HM5.out]
          have d2 : w5.cell? ⟨w.heap.size + 1 + 1, 2, none⟩ = some (.int .i64 (b : Int)) := by simp [World.cell?, HM5.out]
          have d3 : w5.cell? ⟨w.heap.size + 1 + 1, 3, none⟩ = some (.string (S t)) := by simp [World.cell?, HM5.out]
          obtain ⟨⟨z0, y0⟩, g1, g2, g3, g4⟩ := four HR5.out
          have z1 := fun v0 => (g1 v0).1
          have y1 := fun v0 => (g1 v0).2
          have z2 := fun v0 v1 => (g2 v0 v1).1
          have y2 := fun v0 v1 => (g2 v0 v1).2
          have z3 := fun v0 v1 v2 => (g3 v0 v1 v2).1
          have y3 := fun v0 v1 v2 => (g3 v0 v1 v2).2
          have G4 := Asd.mk g4
          clear g1 g2 g3 g4
          cases hrt : right k a b t.length with
          | false =>
            rw [hrt] at HI9
            clear hrt
            go_wp2
            have q := G4.out (.int .i64 0) (.int .i64 0) (.int .i64 0) (.string { data := #[] })
            refine bodyPost_ret (v := .tuple #[.agg #[.int .i64 0, .int .i64 0, .int .i64 0, .string { data := #[] }], .bool false]) (by simp [results, Tryz.results63, go_sem, World.cell?, q]) rfl (HNone.out _ HI9.out (four_upd HU5.out (by omega) _ _ _ _))
          | true =>
            rw [hrt] at HI9
            clear hrt
            go_wp2
            have q := G4.out (.int .i64 k) (.int .i64 (a : Int)) (.int .i64 (b : Int)) (.string (S t))
            refine bodyPost_ret (v := .tuple #[.agg #[.int .i64 k, .int .i64 (a : Int), .int .i64 (b : Int), .string (S t)], .bool true]) (by simp [results, Tryz.results63, go_sem, World.cell?, q]) rfl ⟨four_upd HU5.out (by omega) _ _ _ _, ?_⟩
            rw [HI9.out, ← HN.out, ← HABT.out.1, ← HABT.out.2.1, ← HABT.out.2.2]
            rfl
end Go.Proofs.YteepkanbiefpjaaGreatDoor.MgOf
set_option linter.unusedVariables false
set_option linter.unusedSimpArgs false
namespace Go.Proofs.YteepkanbiefpjaaGreatDoor.MgFr
open Go.RowKit K Mg MgNum MgOf
theorem right_nat (k a b : Int) (n : Nat) (h : right k a b n = true) : known k = true ∧ n ≤ most k ∧ 0 ≤ a ∧ 0 ≤ b ∧ a ≤ 1099511627776 ∧ b ≤ 1099511627776 ∧ (0 < nums k ∨ a = 0) ∧ (1 < nums k ∨ b = 0) := by
  unfold right at h
  simpa only [Bool.and_eq_true, Bool.or_eq_true, decide_eq_true_eq, beq_iff_eq] using h
theorem two {w : World} {r : Nat} {x0 x1 : Value} {e : TypeId} (h : w.heap[r]? = some (.cells #[x0, x1] e (0, 0))) :
    (w.cell? ⟨r, 0, none⟩ = some x0 ∧ w.frozen? ⟨r, 0, none⟩ = false) ∧
    (∀ v0, (w.setCell ⟨r, 0, none⟩ v0).cell? ⟨r, 1, none⟩ = some x1 ∧ (w.setCell ⟨r, 0, none⟩ v0).frozen? ⟨r, 1, none⟩ = false) ∧
    (∀ v0 v1, ((w.setCell ⟨r, 0, none⟩ v0).setCell ⟨r, 1, none⟩ v1).heap[r]? = some (.cells #[v0, v1] e (0, 0))) := by
  have b0 := fun v0 => blk_setCell (o := 0) h v0
  have b1 := fun v0 v1 => blk_setCell (o := 1) (b0 v0) v1
  refine ⟨⟨by simp [World.cell?, h], by simp [World.frozen?, h]⟩, fun v0 => ⟨by simp [World.cell?, b0], by simp [World.frozen?, b0]⟩, fun v0 v1 => ?_⟩
  rw [b1]
  rfl
def FramePost (k a b : Int) (t : List UInt8) (w : World) (e : Ending) (w' : World) : Prop :=
  Upd (fun _ => False) w w' ∧ (right k a b t.length = false → e = .returned (.tuple #[.agg #[.int .u8 0, .slice none 0 0], .bool false])) ∧
    (right k a b t.length = true → ∃ A c G, e = .returned (.tuple #[.agg #[.int .u8 k, .slice A (mbody k a.toNat b.toNat t).length c], .bool true]) ∧ Own w' 5 1 (.slice A (mbody k a.toNat b.toNat t).length c) (mbody k a.toNat b.toNat t).length (B (mbody k a.toNat b.toNat t)) G ∧ (∀ g, G = some g → w.heap.size ≤ g) ∧ (mbody k a.toNat b.toNat t).length ≤ c ∧ c ≤ maxLen)
set_option maxHeartbeats 4000000 in
set_option maxRecDepth 100000 in
theorem frame_calls (k a b : Int) (t : List UInt8) (w : World) :
    Calls Tryz.prog 56 #[.agg #[.int .i64 k, .int .i64 a, .int .i64 b, .string (S t)]] w (FramePost k a b t w) := by
  obtain ⟨N, hN⟩ : ∃ N, N = nums k := ⟨_, rfl⟩
  have hN2 : N ≤ 2 := by rw [hN]; exact nums_le k
  have HN := Asd.mk hN
  clear hN
  go_enter Tryz.func56, Tryz.ntmps56
  go_wp2_with fail
  refine (shape_calls k _).mono ?_
  rw [← HN.out]
  obtain ⟨M, hM⟩ : ∃ M, M = most k := ⟨_, rfl⟩
  rw [← hM]
  clear hM
  rintro e w1 ⟨rfl, rfl⟩
  have h1 := heap_alloc_new w (.cells #[.int .i64 k, .int .i64 a, .int .i64 b, .string (S t)] 36)
  have h2 := heap_alloc_new (w.alloc (.cells #[.int .i64 k, .int .i64 a, .int .i64 b, .string (S t)] 36)) (.cells #[.int .u8 0, .slice none 0 0] 105)
  rw [show (w.alloc (.cells #[.int .i64 k, .int .i64 a, .int .i64 b, .string (S t)] 36)).heap.size = w.heap.size + 1 by simp] at h2
  have h1 := ((Upd.refl (fun _ => False) _).alloc (.cells #[.int .u8 0, .slice none 0 0] 105)).blk h1 (fun h => h)
  have hU := ((Upd.refl (fun _ => False) w).alloc (.cells #[.int .i64 k, .int .i64 a, .int .i64 b, .string (S t)] 36)).alloc (.cells #[.int .u8 0, .slice none 0 0] 105)
  have H1 := Asd.mk h1
  have H2 := Asd.mk h2
  have HU := Asd.mk hU
  clear h1 h2 hU
  go_wp2_with fail
  refine (right_calls k a b (S t) _).mono ?_
  rw [S_size]
  rintro e w2 ⟨rfl, hu⟩
  have HM2 := Asd.mk (hu.blk H1.out (fun h => h))
  have HR2 := Asd.mk (hu.blk H2.out (fun h => h))
  have HU2 := Asd.mk (HU.out.trans hu (fun _ _ h => h))
  have hs2 : w.heap.size + 2 ≤ w2.heap.size := by have := hu.size; simp at this; omega
  clear hu H1 H2 HU
  cases hrt : right k a b t.length with
  | false =>
    have HF := Asd.mk hrt
    obtain ⟨⟨z0, y0⟩, g1, g2⟩ := two HR2.out
    have z1 := fun v0 => (g1 v0).1
    have y1 := fun v0 => (g1 v0).2
    have G2 := Asd.mk g2
    clear g1 g2 hrt
    go_wp2
    have q := G2.out (.int .u8 0) (.slice none 0 0)
    refine bodyPost_ret (v := .tuple #[.agg #[.int .u8 0, .slice none 0 0], .bool false]) (by simp [results, Tryz.results56, go_sem, World.cell?, q]) rfl ⟨?_, fun _ => rfl, fun h => by rw [HF.out] at h; cases h⟩
    exact (HU2.out.setCell (p := ⟨w.heap.size + 1, 0, none⟩) (fun e => by simp only at e; omega) _).setCell (p := ⟨w.heap.size + 1, 1, none⟩) (fun e => by simp only at e; omega) _
  | true =>
    have HF := Asd.mk hrt
    obtain ⟨hkn, htl, ha0, hb0, ha1, hb1, _, _⟩ := right_nat k a b t.length hrt
    obtain ⟨a, rfl⟩ : ∃ x : Nat, a = (x : Int) := ⟨a.toNat, by omega⟩
    obtain ⟨b, rfl⟩ : ∃ x : Nat, b = (x : Int) := ⟨b.toNat, by omega⟩
    have hk15 : 1 ≤ k ∧ k ≤ 15 := of_decide_eq_true hkn
    have htl2 : t.length ≤ 2042 := Nat.le_trans htl (most_le k)
    have ha : a ≤ 1099511627776 := by omega
    have hb : b ≤ 1099511627776 := by omega
    have hx1 : w2.cell? ⟨w.heap.size, 1, none⟩ = some (.int .i64 (a : Int)) := by simp [World.cell?, HM2.out]
    have hx2 : w2.cell? ⟨w.heap.size, 2, none⟩ = some (.int .i64 (b : Int)) := by simp [World.cell?, HM2.out]
    obtain ⟨R, hR⟩ : ∃ R, R = mbody k a b t := ⟨_, rfl⟩
    have HR := Asd.mk (show R = (num6 a ++ num6 b).take (6 * N) ++ t by rw [hR, HN.out]; rfl)
    have HRL := Asd.mk (show R.length = 6 * N + t.length by rw [hR, mbody_length, HN.out])
    have HRD := Asd.mk hR
    have hN2i : (N : Int) ≤ 2 := by omega
    clear hR hrt hkn htl ha0 hb0 ha1 hb1
    go_wp2
    clear hx1 hx2
    go_loopw [7, 29] (fun v7 v29 wr => ∃ (j pl : Nat) (Ab : Option Addr) (cb : Nat) (Gb : Option Nat), j ≤ N ∧ v29 = .int .i64 (j : Int) ∧ v7 = .slice Ab pl cb ∧ Asd (pl = 6 * j) ∧ pl ≤ 12 ∧ pl ≤ cb ∧ cb ≤ maxLen ∧ Asd (Own wr 5 1 (.slice Ab pl cb) pl (B ((num6 a ++ num6 b).take (6 * j))) Gb) ∧ Asd (∀ g, Gb = some g → (w2.alloc (.cells #[.int .i64 (a : Int), .int .i64 (b : Int)] 2)).heap.size ≤ g) ∧ Asd (Upd (fun _ => False) (w2.alloc (.cells #[.int .i64 (a : Int), .int .i64 (b : Int)] 2)) wr)) (fun _ v29 _ => N - (intOf v29).toNat)
    case atStart => exact ⟨0, 0, none, 0, none, by omega, rfl, rfl, ⟨rfl⟩, by omega, by omega, by simp [maxLen], ⟨Own.nil _ _ _⟩, ⟨fun g e => by cases e⟩, ⟨Upd.refl _ _⟩⟩
    case round =>
      obtain ⟨j, pl, Ab, cb, Gb, hj, rfl, rfl, HPl, hpl, hplc, hcm, HO, HG, HW⟩ := hrel
      have HAr := Asd.mk (HW.out.blk (heap_alloc_new w2 (.cells #[.int .i64 (a : Int), .int .i64 (b : Int)] 2)) (fun h => h))
      by_cases hlt : j < N
      · rcases (by omega : j = 0 ∨ j = 1) with rfl | rfl
        · have hp := HPl.out
          subst hp
          have hc0 : wr.cell? ⟨w2.heap.size, 0, none⟩ = some (.int .i64 (a : Int)) := by simp [World.cell?, HAr.out]
          have hwi : IntKind.i64.wrap (((0 : Nat) : Int) + 1) = ((1 : Nat) : Int) := rfl
          go_wp2_with fail
          refine (number_calls Ab cb ((num6 a ++ num6 b).take 0) a Gb (w2.alloc (.cells #[.int .i64 (a : Int), .int .i64 (b : Int)] 2)) wr HW.out HO.out HG.out ha (by rw [show ((num6 a ++ num6 b).take 0).length = 0 from rfl]; omega)).mono ?_
          rw [show ((num6 a ++ num6 b).take 0).length + 6 = 6 from rfl, show (num6 a ++ num6 b).take 0 ++ num6 a = (num6 a ++ num6 b).take (6 * 1) from rfl]
          rintro e w5 ⟨A5, c5, G5, rfl, ho5, hg5, hu5⟩
          obtain ⟨_, _, hv, hc5, hm5, _, _⟩ := ho5.slice
          injection hv with e1 e2 e3
          subst e1
          subst e3
          have HO5 := Asd.mk ho5
          have HG5 := Asd.mk hg5
          have HU5 := Asd.mk hu5
          clear ho5 hg5 hu5 HO HG HW HAr hc0
          go_wp2
          go_roundw
          case rel => exact ⟨1, 6, A5, c5, G5, by omega, rfl, rfl, ⟨rfl⟩, by omega, hc5, hm5, HO5, HG5, HU5⟩
          case measure => (simp only [intOf]; omega)
        · have hp := HPl.out
          subst hp
          have hc0 : wr.cell? ⟨w2.heap.size, 1, none⟩ = some (.int .i64 (b : Int)) := by simp [World.cell?, HAr.out]
          have hwi : IntKind.i64.wrap (((1 : Nat) : Int) + 1) = ((2 : Nat) : Int) := rfl
          go_wp2_with fail
          refine (number_calls Ab cb ((num6 a ++ num6 b).take 6) b Gb (w2.alloc (.cells #[.int .i64 (a : Int), .int .i64 (b : Int)] 2)) wr HW.out HO.out HG.out hb (by rw [show ((num6 a ++ num6 b).take 6).length = 6 from rfl]; omega)).mono ?_
          rw [show ((num6 a ++ num6 b).take 6).length + 6 = 12 from rfl, show (num6 a ++ num6 b).take 6 ++ num6 b = (num6 a ++ num6 b).take (6 * 2) from rfl]
          rintro e w5 ⟨A5, c5, G5, rfl, ho5, hg5, hu5⟩
          obtain ⟨_, _, hv, hc5, hm5, _, _⟩ := ho5.slice
          injection hv with e1 e2 e3
          subst e1
          subst e3
          have HO5 := Asd.mk ho5
          have HG5 := Asd.mk hg5
          have HU5 := Asd.mk hu5
          clear ho5 hg5 hu5 HO HG HW HAr hc0
          go_wp2
          go_roundw
          case rel => exact ⟨2, 12, A5, c5, G5, by omega, rfl, rfl, ⟨rfl⟩, by omega, hc5, hm5, HO5, HG5, HU5⟩
          case measure => (simp only [intOf]; omega)
      · have hjN : j = N := by omega
        subst hjN
        have hu3 := ((Upd.refl (fun _ => False) w2).alloc (.cells #[.int .i64 (a : Int), .int .i64 (b : Int)] 2)).trans HW.out (fun _ _ h => h)
        have HM3 := Asd.mk (hu3.blk HM2.out (fun h => h))
        have HR3 := Asd.mk (hu3.blk HR2.out (fun h => h))
        have HU3 := Asd.mk (HU2.out.trans hu3 (fun _ _ h => h))
        have HU23 := Asd.mk hu3
        have hs3 : w.heap.size + 2 ≤ wr.heap.size := by have := hu3.size; omega
        have hx0 : wr.cell? ⟨w.heap.size, 0, none⟩ = some (.int .i64 k) := by simp [World.cell?, HM3.out]
        have hx3 : wr.cell? ⟨w.heap.size, 3, none⟩ = some (.string (S t)) := by simp [World.cell?, HM3.out]
        have hkm : k % 256 = k := by omega
        have hku : IntKind.u8.wrap k = k := by simp only [IntKind.wrap, IntKind.signed, IntKind.bits]; simp; omega
        have HG3 : Asd (∀ g, Gb = some g → w2.heap.size ≤ g) := ⟨fun g e => by have := HG.out g e; simp at this; omega⟩
        clear hu3 HG HAr
        go_wp2
        go_region_law (with_reducible refine gate_appS (.tmp 40) (.tmp 42) 31 9 rfl ?_; refine step_appendS (S' := fun _ => False) (w0 := w2) (by repeat (first | exact HU23.out | refine Upd.drewN ?_ _ | refine Upd.drew ?_)) (pl + t.length) 5 ((num6 a ++ num6 b).take (6 * j)) t Gb Ab pl cb (by rfl) (.tmp 40) (.tmp 42) 31 9 (by rfl) Tryz.underlying31 Tryz.underlying9 info8 (by simp [Act.eval, Act.put]) (by simp [Act.eval, Act.put]) (HO.out.upd (S := fun _ => False) (by repeat (first | exact Upd.refl _ _ | refine Upd.drewN ?_ _ | refine Upd.drew ?_)) (fun _ _ h => h)) HG3.out (by rfl) (by omega) ?_; intro A5 c5 w5 G5 hc5 hm5 hO5 hG5 hu5; rw [← HR.out] at hO5; have hm5b := hu5.blk HM2.out (fun h => h); have hy0 : w5.cell? ⟨w.heap.size, 0, none⟩ = some (.int .i64 k) := (by simp [World.cell?, hm5b]); obtain ⟨⟨z0, y0⟩, g1, g2⟩ := two (hu5.blk HR2.out (fun h => h)); have z1 := (fun v0 => (g1 v0).1); have y1 := (fun v0 => (g1 v0).2); have G2 := Asd.mk g2; have HO5 := Asd.mk hO5; have HG5 := Asd.mk hG5; have HU5 := Asd.mk hu5; clear hO5 hG5 hu5 g1 g2 hm5b)
        all_goals
          go_wp2
          have q := G2.out (.int .u8 k) (.slice A5 (pl + t.length) c5)
          have hRl : R.length = pl + t.length := by rw [HRL.out, HPl.out]
          refine bodyPost_ret (v := .tuple #[.agg #[.int .u8 k, .slice A5 (pl + t.length) c5], .bool true]) (by simp [results, Tryz.results56, go_sem, World.cell?, q, hkm]) rfl ⟨?_, fun h => by (rw [HF.out] at h; cases h), fun _ => ⟨A5, c5, G5, ?_, ?_, fun g e => ?_, ?_, hm5⟩⟩
          · exact ((HU2.out.trans HU5.out (fun _ _ h => h)).setCell (p := ⟨w.heap.size + 1, 0, none⟩) (fun e => by simp only at e; omega) _).setCell (p := ⟨w.heap.size + 1, 1, none⟩) (fun e => by simp only at e; omega) _
          · rw [Int.toNat_natCast, Int.toNat_natCast, ← HRD.out, hRl]
          · rw [Int.toNat_natCast, Int.toNat_natCast, ← HRD.out, hRl]
            exact HO5.out.upd (((Upd.refl (fun i => i = w.heap.size + 1) _).setCell (fun _ => rfl) _).setCell (fun _ => rfl) _) (fun g e e2 => by have := HG5.out g e; omega)
          · have := HG5.out g e
            omega
          · rw [Int.toNat_natCast, Int.toNat_natCast, ← HRD.out, hRl]
            exact hc5
end Go.Proofs.YteepkanbiefpjaaGreatDoor.MgFr
set_option linter.unusedVariables false
set_option linter.unusedSimpArgs false
namespace Go.Proofs.YteepkanbiefpjaaGreatDoor.MgHead
open Go.RowKit K Mg MgNum MgOf MgFr
end Go.Proofs.YteepkanbiefpjaaGreatDoor.MgHead
set_option linter.unusedVariables false
set_option linter.unusedSimpArgs false
namespace Go.Proofs.YteepkanbiefpjaaGreatDoor.RgLasts
open Go.RowKit K Rg
theorem Its.far {w w1 : World} {q g : Nat} (h1 : w.heap.size ≤ q) (h2 : w.heap.size ≤ g) (k : Upd (Its q g) w w1) : Upd (fun _ => False) w w1 :=
  k.mono (fun i hi h => by rcases h with rfl | rfl <;> omega)
def fb (c i : Nat) : UInt8 := UInt8.ofNat (c + i % 128)
end Go.Proofs.YteepkanbiefpjaaGreatDoor.RgLasts
set_option linter.unusedVariables false
set_option linter.unusedSimpArgs false
namespace Go.Proofs.YteepkanbiefpjaaGreatDoor.MgLawOf
open Go.RowKit K Mg MgNum MgOf MgFr MgHead
end Go.Proofs.YteepkanbiefpjaaGreatDoor.MgLawOf
