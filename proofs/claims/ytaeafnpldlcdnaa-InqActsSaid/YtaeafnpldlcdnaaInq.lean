/- The keystrokes' queue (package inq): what each of its functions comes to. -/
import Derived.Test.YtaeafnpldlcdnaaOutq
import Derived.Test.YtaeafnpldlcdnaaFlInv
set_option linter.unusedVariables false
set_option linter.unusedSimpArgs false
namespace Go.Proofs.Ytaeafnpldlcdnaa.Iq
open Go.RowKit K Fl
/-- What a queue is. -/
structure QS where
  buf : List UInt8
  size : Int
  ended : Bool
  total : Int
structure QI (w : World) (p : Nat) (F : Nat → Prop) (x : QS) : Prop where
  mk ::
  has : ∃ q Fq, w.heap[p]? = some (.cells #[.pointer (some ⟨q, 0, none⟩), .bool x.ended, .int .i64 x.total] 55 (0, 0)) ∧ Oq.Que w q x.buf x.size Fq ∧ ¬ Fq p ∧ ∀ k, F k ↔ k = p ∨ Fq k
section
variable {w w1 : World} {p : Nat} {x : QS} {F S : Nat → Prop}
theorem QI.upd (h : QI w p F x) (k : Upd S w w1) (hn : ∀ i, F i → ¬ S i) : QI w1 p F x := by
  obtain ⟨q, Fq, hb, ho, h1, hF⟩ := h.has
  exact ⟨q, Fq, k.blk hb (hn p ((hF p).2 (.inl rfl))), ho.upd k (fun i hi => hn i ((hF i).2 (.inr hi))), h1, hF⟩
theorem QI.up (h : QI w p F x) (k : Upd (fun _ => False) w w1) : QI w1 p F x := h.upd k (fun _ _ h => h)
theorem QI.lt (h : QI w p F x) : ∀ k, F k → k < w.heap.size := by
  obtain ⟨q, Fq, hb, ho, h1, hF⟩ := h.has
  intro k hk
  rcases (hF k).1 hk with rfl | e
  · exact blk_lt hb
  · exact ho.lt k e
theorem QI.own (h : QI w p F x) : F p := by obtain ⟨q, Fq, hb, ho, h1, hF⟩ := h.has; exact (hF p).2 (.inl rfl)
theorem QI.cells (h : QI w p F x) : ∃ q Fq, Asd (w.heap[p]? = some (.cells #[.pointer (some ⟨q, 0, none⟩), .bool x.ended, .int .i64 x.total] 55 (0, 0))) ∧ Asd (Oq.Que w q x.buf x.size Fq) ∧ Asd (¬ Fq p ∧ ∀ k, F k ↔ k = p ∨ Fq k) ∧ p < w.heap.size := by
  obtain ⟨q, Fq, hb, ho, h1, hF⟩ := h.has
  exact ⟨q, Fq, ⟨hb⟩, ⟨ho⟩, ⟨h1, hF⟩, blk_lt hb⟩
end
def QTurns (v : Value) (x : QS) (p : Nat) (F : Nat → Prop) (w : World) (e : Ending) (w' : World) : Prop :=
  e = .returned v ∧ ∃ F', QI w' p F' x ∧ Upd F w w' ∧ ∀ k, F' k → F k ∨ w.heap.size ≤ k
def QNew (x : QS) (w : World) (e : Ending) (w' : World) : Prop := ∃ p F, e = .returned (.pointer (some ⟨p, 0, none⟩)) ∧ QI w' p F x ∧ Upd (fun _ => False) w w' ∧ ∀ k, F k → w.heap.size ≤ k
set_option maxHeartbeats 400000 in
theorem new_calls (n : Int) (w : World) : Calls Try.prog 35 #[.int .i64 n] w (QNew ⟨[], Oq.clampSize n, false, 0⟩ w) := by
  go_enter Try.func35, Try.ntmps35
  go_wp2_with fail
  refine (Oq.new_calls n w).mono ?_
  rintro e w1 ⟨q, F, rfl, hq, hu, hf⟩
  have HQ := Asd.mk hq
  have HU := Asd.mk (And.intro hu hf)
  clear hq hu hf
  go_wp2
  go_ret
  have h1 := heap_alloc_new w1 (.cells #[.pointer (some ⟨q, 0, none⟩), .bool false, .int .i64 0] 55)
  have hk := (Upd.refl (fun _ => False) w1).alloc (.cells #[.pointer (some ⟨q, 0, none⟩), .bool false, .int .i64 0] 55)
  have hF := HQ.out.lt
  refine ⟨w1.heap.size, fun k => k = w1.heap.size ∨ F k, rfl, ⟨q, F, h1, HQ.out.upd hk (fun _ _ h => h), fun h => by have := hF _ h; omega, fun k => Iff.rfl⟩, HU.out.1.trans hk (fun _ _ h => h), fun k hk => ?_⟩
  rcases hk with rfl | h
  · exact HU.out.1.size
  · exact HU.out.2 k h
section
variable {w : World} {p t : Nat} {x : QS} {s : T} {F Ft : Nat → Prop}
set_option maxHeartbeats 400000 in
theorem total_calls (h : QI w p F x) : Calls Try.prog 37 #[.pointer (some ⟨p, 0, none⟩)] w fun e w' => e = .returned (.int .i64 x.total) ∧ w = w' := by
  obtain ⟨q, Fq, HB, _⟩ := h.cells
  have c2 := keepsC (o := 2) HB.out rfl
  clear h HB
  go_enter Try.func37, Try.ntmps37
  go_wp2
  go_ret
  exact ⟨rfl, rfl⟩
/-- Why keystrokes are not taken. -/
def why (x : QS) (s : T) (id : Int) (n : Nat) : Int :=
  if x.ended then 1 else match rget s.roles id with
  | none => 2
  | some r => if r = 0 then 3 else if s.holder ≠ id then 4 else if x.size - x.buf.length < (n : Int) then 5 else 0
set_option maxHeartbeats 2000000 in
theorem why_calls (h : QI w p F x) (ht : TB w t Ft s) (id : Int) (hid : idOk id) (A : Option Addr) (n c : Nat) : Calls Try.prog 52 #[.pointer (some ⟨p, 0, none⟩), .pointer (some ⟨t, 0, none⟩), .int .i64 id, .slice A n c] w fun e w' => e = .returned (.int .i64 (why x s id n)) ∧ Upd (fun _ => False) w w' := by
  obtain ⟨q, Fq, HB, HQ, _⟩ := h.cells
  have HT := Asd.mk ht
  have c0 := keepsC (o := 0) HB.out rfl
  have c1 := keepsC (o := 1) HB.out rfl
  have hk : Upd (fun _ => False) w w := Upd.refl _ _
  obtain ⟨y, hy⟩ : ∃ y, y = why x s id n := ⟨_, rfl⟩
  rw [← hy]
  unfold why at hy
  obtain ⟨rr, hrr⟩ : ∃ rr, rr = rget s.roles id := ⟨_, rfl⟩
  rw [← hrr] at hy
  have HR := Asd.mk hrr
  clear h ht HB hrr
  cases hen : x.ended with
  | true =>
    rw [hen] at hy c1
    simp only [if_true] at hy
    subst hy
    clear hen
    go_enter Try.func52, Try.ntmps52
    go_wp2_with fail
    refine (role_calls HT.out id hid).mono ?_
    rintro e w1 ⟨rfl, rfl⟩
    go_wp2
    go_ret
    exact ⟨rfl, hk⟩
  | false =>
    rw [hen] at hy c1
    simp only [Bool.false_eq_true, if_false] at hy
    clear hen
    cases hr : rr with
    | none =>
      rw [hr] at hy HR
      simp only at hy
      subst hy
      go_enter Try.func52, Try.ntmps52
      go_wp2_with fail
      refine (role_calls HT.out id hid).mono ?_
      rw [← HR.out]
      simp only [Option.getD_none, Option.isSome_none]
      rintro e w1 ⟨rfl, rfl⟩
      go_wp2
      go_ret
      exact ⟨rfl, hk⟩
    | some r =>
      rw [hr] at hy HR
      simp only at hy
      by_cases h0 : r = 0
      · rw [if_pos h0] at hy
        subst hy
        rw [h0] at HR
        go_enter Try.func52, Try.ntmps52
        go_wp2_with fail
        refine (role_calls HT.out id hid).mono ?_
        rw [← HR.out]
        simp only [Option.getD_some, Option.isSome_some]
        rintro e w1 ⟨rfl, rfl⟩
        go_wp2
        go_ret
        exact ⟨rfl, hk⟩
      · rw [if_neg h0] at hy
        have hb0 : (r == 0) = false := beq_eq_false_iff_ne.2 h0
        by_cases hh : s.holder = id
        · have hhb : (id != id) = false := by simp
          rw [if_neg (fun h => h hh)] at hy
          have HH := Asd.mk hh
          by_cases hrm : x.size - x.buf.length < (n : Int)
          · rw [if_pos hrm] at hy
            subst hy
            clear h0 hh hr
            go_enter Try.func52, Try.ntmps52
            go_wp2_with fail
            refine (role_calls HT.out id hid).mono ?_
            rw [← HR.out]
            simp only [Option.getD_some, Option.isSome_some]
            rintro e w1 ⟨rfl, rfl⟩
            go_wp2_with fail
            refine (holder_calls HT.out).mono ?_
            rw [HH.out]
            rintro e w1 ⟨rfl, rfl⟩
            go_wp2_with fail
            refine (Oq.room_calls HQ.out).mono ?_
            rintro e w1 ⟨rfl, hd⟩
            go_wp2
            go_ret
            exact ⟨rfl, hd.upd _⟩
          · rw [if_neg hrm] at hy
            subst hy
            clear h0 hh hr
            go_enter Try.func52, Try.ntmps52
            go_wp2_with fail
            refine (role_calls HT.out id hid).mono ?_
            rw [← HR.out]
            simp only [Option.getD_some, Option.isSome_some]
            rintro e w1 ⟨rfl, rfl⟩
            go_wp2_with fail
            refine (holder_calls HT.out).mono ?_
            rw [HH.out]
            rintro e w1 ⟨rfl, rfl⟩
            go_wp2_with fail
            refine (Oq.room_calls HQ.out).mono ?_
            rintro e w1 ⟨rfl, hd⟩
            go_wp2
            go_ret
            exact ⟨rfl, hd.upd _⟩
        · have hhb : (s.holder != id) = true := bne_iff_ne.2 hh
          rw [if_pos hh] at hy
          subst hy
          clear h0 hh hr
          go_enter Try.func52, Try.ntmps52
          go_wp2_with fail
          refine (role_calls HT.out id hid).mono ?_
          rw [← HR.out]
          simp only [Option.getD_some, Option.isSome_some]
          rintro e w1 ⟨rfl, rfl⟩
          go_wp2_with fail
          refine (holder_calls HT.out).mono ?_
          rintro e w1 ⟨rfl, rfl⟩
          go_wp2
          go_ret
          exact ⟨rfl, hk⟩
/-- What is offered. -/
def offer (x : QS) (s : T) (id : Int) (l : List UInt8) : QS := if why x s id l.length = 0 then { x with buf := x.buf ++ l, total := x.total + l.length } else x
theorem why_fits {id : Int} {n : Nat} (h : why x s id n = 0) : (n : Int) ≤ x.size - x.buf.length := by
  unfold why at h
  split at h
  · cases h
  · split at h
    · cases h
    · split at h
      · cases h
      · split at h
        · cases h
        · split at h
          · cases h
          · omega
set_option maxHeartbeats 2000000 in
theorem offer_calls (h : QI w p F x) (ht : TB w t Ft s) (id : Int) (hid : idOk id) (A : Option Addr) (n c : Nat) (l : List UInt8) (hr : Rd w A n l) (hl : l.length = n) (hb : 0 ≤ x.total ∧ x.total + n ≤ 1000000000) : Calls Try.prog 36 #[.pointer (some ⟨p, 0, none⟩), .pointer (some ⟨t, 0, none⟩), .int .i64 id, .slice A n c] w (QTurns (.int .i64 (why x s id n)) (offer x s id l) p F w) := by
  have H := Asd.mk h
  have HT := Asd.mk ht
  have HR := Asd.mk hr
  have HL := Asd.mk hl
  obtain ⟨y, hy⟩ : ∃ y, y = why x s id n := ⟨_, rfl⟩
  have HY := Asd.mk hy
  rw [← hy]
  clear h ht hr hy hl
  by_cases hz : y = 0
  · have HO : Asd (offer x s id l = { x with buf := x.buf ++ l, total := x.total + n }) := ⟨by unfold offer; rw [HL.out, ← HY.out, if_pos hz]⟩
    have HW := Asd.mk (why_fits (HY.out.symm.trans hz))
    subst hz
    rw [HO.out]
    clear HO
    go_enter Try.func36, Try.ntmps36
    go_wp2_with fail
    refine (why_calls H.out HT.out id hid A n c).mono ?_
    rw [← HY.out]
    rintro e w1 ⟨rfl, hu⟩
    have H1 := Asd.mk (H.out.up hu)
    have HU1 := Asd.mk hu
    have HR1 := Asd.mk (HR.out.upd hu (fun _ _ h => h))
    obtain ⟨q, Fq, HB, HQ, HF, hps⟩ := H1.out.cells
    have c0 := keepsC (o := 0) HB.out rfl
    have hk1 : Upd (fun _ => False) w1 w1 := Upd.refl _ _
    clear hu
    go_wp2_with fail
    refine (Oq.put_yes HQ.out A n c l HR1.out HW.out).mono ?_
    rintro e w2 ⟨rfl, F2, hq2, hu2, hf2⟩
    have hb2 := hu2.blk HB.out HF.out.1
    have c2 := keepsC (o := 2) hb2 rfl
    have ff := fun o => keepsF (o := o) hb2
    have hk2 : Upd (fun _ => False) w2 w2 := Upd.refl _ _
    have HQ2 := Asd.mk hq2
    have HB2 := Asd.mk hb2
    have HU2 := Asd.mk (And.intro hu2 hf2)
    clear hq2 hb2 hu2 hf2 c0 hk1
    go_wp2
    go_ret
    have hu3 : Upd (fun i => i = p) w2 (w2.setCell ⟨p, 2, none⟩ (.int .i64 (x.total + n))) := (Upd.refl (fun i => i = p) w2).setAt (.inl rfl)
    have hn2 : ¬ F2 p := fun h => (HU2.out.2 p h).elim HF.out.1 (fun h => by omega)
    refine ⟨rfl, fun k => k = p ∨ F2 k, ⟨q, F2, by rw [hp_same HB2.out]; rfl, HQ2.out.upd hu3 (fun i hi e => hn2 (by rw [← e]; exact hi)), hn2, fun k => Iff.rfl⟩, ?_, fun k hk => ?_⟩
    · exact ((HU1.out.mono (T := F) (fun _ _ h => h.elim)).trans HU2.out.1 (fun i hi h => (HF.out.2 i).2 (.inr h))).trans hu3 (fun i hi e => (HF.out.2 i).2 (.inl e))
    · rcases hk with rfl | h
      · exact .inl ((HF.out.2 _).2 (.inl rfl))
      · exact (HU2.out.2 k h).elim (fun h => .inl ((HF.out.2 k).2 (.inr h))) (fun h => .inr (Nat.le_trans HU1.out.size h))
  · have HO : Asd (offer x s id l = x) := ⟨by unfold offer; rw [HL.out, ← HY.out, if_neg hz]⟩
    rw [HO.out]
    have hzb : (y == 0) = false := beq_eq_false_iff_ne.2 hz
    clear HO hz
    go_enter Try.func36, Try.ntmps36
    go_wp2_with fail
    refine (why_calls H.out HT.out id hid A n c).mono ?_
    rw [← HY.out]
    rintro e w1 ⟨rfl, hu⟩
    have H1 := Asd.mk (H.out.up hu)
    have HU1 := Asd.mk hu
    clear hu
    go_wp2
    go_ret
    exact ⟨rfl, F, H1.out, HU1.out.mono (fun _ _ h => h.elim), fun k h => .inl h⟩
/-- What is taken. -/
def QTake (x : QS) (k : Nat) (p : Nat) (F : Nat → Prop) (w : World) (e : Ending) (w' : World) : Prop :=
  ∃ g F', e = .returned (.slice (some ⟨g, 0, none⟩) k k) ∧ w.heap.size ≤ g ∧ ¬ F' g ∧ Own w' 5 1 (.slice (some ⟨g, 0, none⟩) k k) k (B (x.buf.take k)) (some g) ∧ QI w' p F' { x with buf := x.buf.drop k } ∧ Upd F w w' ∧ ∀ k, F' k → F k ∨ w.heap.size ≤ k
/-- Of the queue within: a take. -/
theorem take_in {q : Nat} {Fq : Nat → Prop} (HB : Asd (w.heap[p]? = some (.cells #[.pointer (some ⟨q, 0, none⟩), .bool x.ended, .int .i64 x.total] 55 (0, 0)))) (HQ : Asd (Oq.Que w q x.buf x.size Fq)) (HF : Asd (¬ Fq p ∧ ∀ k, F k ↔ k = p ∨ Fq k)) (n : Int) :
    Calls Try.prog 40 #[.pointer (some ⟨q, 0, none⟩), .int .i64 n] w (QTake x (Oq.takeN n x.buf.length) p F w) := by
  have hp := blk_lt HB.out
  refine (Oq.take_calls HQ.out n).mono fun e w' ⟨g, F', he, hg, hn, ho, hq, hu, hf⟩ => ?_
  have hn2 : ¬ F' p := fun h => (hf p h).elim HF.out.1 (fun h => by omega)
  refine ⟨g, fun k => k = p ∨ F' k, he, hg, fun h => h.elim (fun e => by omega) hn, ho, ⟨q, F', hu.blk HB.out HF.out.1, hq, hn2, fun k => Iff.rfl⟩, hu.mono (fun i hi h => (HF.out.2 i).2 (.inr h)), fun k hk => ?_⟩
  rcases hk with rfl | h
  · exact .inl ((HF.out.2 _).2 (.inl rfl))
  · exact (hf k h).imp (fun h => (HF.out.2 k).2 (.inr h)) (fun h => h)
end
end Go.Proofs.Ytaeafnpldlcdnaa.Iq
