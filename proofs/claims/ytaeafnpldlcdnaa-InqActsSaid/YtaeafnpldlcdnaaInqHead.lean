/- The keystrokes' queue beside a table; the head of its laws. -/
import Derived.Test.YtaeafnpldlcdnaaInq
import Derived.Deep.RegionHeld3
set_option linter.unusedVariables false
set_option linter.unusedSimpArgs false
namespace Go.Proofs.Ytaeafnpldlcdnaa.Iq
open Go.RowKit K Fl
theorem takeN_all (n : Nat) : Oq.takeN (n : Int) n = n := by unfold Oq.takeN mx mn; split <;> split <;> omega
section
variable {w : World} {p t : Nat} {x : QS} {s : T} {F Ft : Nat → Prop}
/-- The end: nothing waits any more. -/
def fin (x : QS) : QS := { x with buf := [], ended := true }
set_option maxHeartbeats 2000000 in
theorem end_calls (h : QI w p F x) : Calls Try.prog 38 #[.pointer (some ⟨p, 0, none⟩)] w (QTurns (.tuple #[]) (fin x) p F w) := by
  have HOWN := Asd.mk h.own
  obtain ⟨q, Fq, HB, HQ, HF, hps⟩ := h.cells
  have ff := fun o => keepsF (o := o) HB.out
  have c1 := keepsC (o := 1) HB.out rfl
  have hk : Upd (fun _ => False) w w := Upd.refl _ _
  have hb2 : (w.setCell ⟨p, 1, none⟩ (.bool true)).heap[p]? = some (.cells #[.pointer (some ⟨q, 0, none⟩), .bool true, .int .i64 x.total] 55 (0, 0)) := by rw [hp_same HB.out]; rfl
  have hu2 : Upd (fun i => i = p) w (w.setCell ⟨p, 1, none⟩ (.bool true)) := (Upd.refl (fun i => i = p) w).setAt (.inl rfl)
  have HU2 := Asd.mk hu2
  have hd2 : Upd (fun _ => False) (w.setCell ⟨p, 1, none⟩ (.bool true)) (w.setCell ⟨p, 1, none⟩ (.bool true)).drew := (by repeat (first | assumption | with_reducible exact Upd.refl _ _ | with_reducible refine Upd.drewN ?_ _ | with_reducible refine Upd.drew ?_ | with_reducible refine Upd.alloc ?_ _ | with_reducible refine Upd.setAt ?_ ?_ | exact Or.inl rfl | exact Or.inr (by simp) | exact Or.inr (by omega)))
  have HB2 := Asd.mk (hd2.blk hb2 (fun h => h))
  have HQ2 := Asd.mk ((HQ.out.upd hu2 (fun i hi e => HF.out.1 (by rw [← e]; exact hi))).upd hd2 (fun _ _ h => h))
  have HC := Asd.mk (fun W k => keepsC (o := 0) hb2 rfl W k)
  have HD2 := Asd.mk hd2
  have hp2 := blk_lt HB2.out
  have hp3 : p < (w.setCell ⟨p, 1, none⟩ (.bool true)).heap.size := blk_lt hb2
  have HS2 : Asd (w.heap.size ≤ (w.setCell ⟨p, 1, none⟩ (.bool true)).drew.heap.size) := ⟨Nat.le_trans hu2.size hd2.size⟩
  clear h hb2 hu2 hd2
  go_enter Try.func38, Try.ntmps38
  go_wp2
  refine wp_region_held_drew (S := fun W => W.cell? ⟨p, 0, none⟩ = some (.pointer (some ⟨q, 0, none⟩))) (by kernel_rfl) (by exact HC.out _ HD2.out) (fun hHeld => ?_)
  refine wpAnyH_take (i := 0) (oi := ?_) (v := ?_) ?_ (by kernel_rfl) (by kernel_rfl) (by kernel_rfl) ?_ (Or.inl ⟨?_, ?_⟩) (by assumption) ?_
  rotate_left 2
  · (simp only [List.getElem?_toArray, List.getElem?_cons_succ, List.getElem?_cons_zero]; exact rfl)
  · exact (fun _ _ _ h => h)
  · rfl
  · (intro w hSw; (try dsimp only at hSw); go_simp; (try with_reducible rfl))
  try simp only [Act.put, List.setIfInBounds_toArray, List.set_cons_zero, List.set_cons_succ]
  refine wpAnyH_take (i := 1) (oi := ?_) (v := ?_) ?_ (by kernel_rfl) (by kernel_rfl) (by kernel_rfl) ?_ (Or.inl ⟨?_, ?_⟩) (by assumption) ?_
  rotate_left 2
  · (simp only [List.getElem?_toArray, List.getElem?_cons_succ, List.getElem?_cons_zero]; exact rfl)
  · exact (fun _ _ _ h => h)
  · rfl
  · (intro w hSw; (try dsimp only at hSw); go_simp; (try with_reducible rfl))
  try simp only [Act.put, List.setIfInBounds_toArray, List.set_cons_zero, List.set_cons_succ]
  refine wpAnyH_take (i := 2) (oi := ?_) (v := ?_) ?_ (by kernel_rfl) (by kernel_rfl) (by kernel_rfl) ?_ (Or.inl ⟨?_, ?_⟩) (by assumption) ?_
  rotate_left 2
  · (simp only [List.getElem?_toArray, List.getElem?_cons_succ, List.getElem?_cons_zero]; exact rfl)
  · exact (fun _ _ _ h => h)
  · rfl
  · (intro w hSw; (try dsimp only at hSw); go_simp; (try with_reducible rfl))
  try simp only [Act.put, List.setIfInBounds_toArray, List.set_cons_zero, List.set_cons_succ]
  refine wpAnyH_take (i := 3) (oi := ?_) (v := ?_) ?_ (by kernel_rfl) (by kernel_rfl) (by kernel_rfl) ?_ (Or.inl ⟨?_, ?_⟩) (by assumption) ?_
  rotate_left 2
  · (simp only [List.getElem?_toArray, List.getElem?_cons_succ, List.getElem?_cons_zero]; exact rfl)
  · exact (fun _ _ _ h => h)
  · rfl
  · (intro w hSw; (try dsimp only at hSw); go_simp; (try with_reducible rfl))
  try simp only [Act.put, List.setIfInBounds_toArray, List.set_cons_zero, List.set_cons_succ]
  refine wpAnyH_take (i := 4) (oi := ?_) (v := ?_) ?_ (by kernel_rfl) (by kernel_rfl) (by kernel_rfl) ?_ (Or.inl ⟨?_, ?_⟩) (by assumption) ?_
  rotate_left 2
  · (simp only [List.getElem?_toArray, List.getElem?_cons_succ, List.getElem?_cons_zero]; exact rfl)
  · exact (fun _ _ _ h => h)
  · rfl
  · (intro w hSw; (try dsimp only at hSw); go_simp; (try with_reducible rfl))
  try simp only [Act.put, List.setIfInBounds_toArray, List.set_cons_zero, List.set_cons_succ]
  refine wpAnyH_take (i := 5) (oi := ?_) (v := ?_) ?_ (by kernel_rfl) (by kernel_rfl) (by kernel_rfl) ?_ (Or.inl ⟨?_, ?_⟩) (by assumption) ?_
  rotate_left 2
  · (simp only [List.getElem?_toArray, List.getElem?_cons_succ, List.getElem?_cons_zero]; exact rfl)
  · exact (fun _ _ _ h => h)
  · rfl
  · (intro w hSw; (try dsimp only at hSw); go_simp; (try with_reducible rfl))
  try simp only [Act.put, List.setIfInBounds_toArray, List.set_cons_zero, List.set_cons_succ]
  refine wpAnyH_take (i := 6) (oi := ?_) (v := ?_) ?_ (by kernel_rfl) (by kernel_rfl) (by kernel_rfl) ?_ (Or.inl ⟨?_, ?_⟩) (by assumption) ?_
  rotate_left 2
  · (simp only [List.getElem?_toArray, List.getElem?_cons_succ, List.getElem?_cons_zero]; exact rfl)
  · exact (fun _ _ _ h => h)
  · rfl
  · (intro w hSw; (try dsimp only at hSw); go_simp; (try with_reducible rfl))
  try simp only [Act.put, List.setIfInBounds_toArray, List.set_cons_zero, List.set_cons_succ]
  refine wpAnyH_take (i := 7) (oi := ?_) (v := ?_) ?_ (by kernel_rfl) (by kernel_rfl) (by kernel_rfl) ?_ (Or.inl ⟨?_, ?_⟩) (by assumption) ?_
  rotate_left 2
  · (simp only [List.getElem?_toArray, List.getElem?_cons_succ, List.getElem?_cons_zero]; exact rfl)
  · exact (fun _ _ _ h => h)
  · rfl
  · (intro w hSw; (try dsimp only at hSw); go_simp; (try with_reducible rfl))
  try simp only [Act.put, List.setIfInBounds_toArray, List.set_cons_zero, List.set_cons_succ]
  refine wpAnyH_ready (rs := [8]) (by kernel_rfl) (by simp) (AllReadyH.cons (o := ?_) ?_ (fun K hK => ?_) AllReadyH.nil)
  rotate_left 1
  · (simp only [List.getElem?_toArray, List.getElem?_cons_succ, List.getElem?_cons_zero]; exact rfl)
  (go_simp; (go_at_call 39; refine (Oq.len_calls HQ2.out).mono ?_; rintro e w4 ⟨rfl, rfl⟩))
  refine hK.out _ _ (by exact hHeld) (fun hHeld => ?_)
  clear hK K
  try simp only [Act.put, List.setIfInBounds_toArray, List.set_cons_zero, List.set_cons_succ]
  refine wpAnyH_ready (rs := [9]) (by kernel_rfl) (by simp) (AllReadyH.cons (o := ?_) ?_ (fun K hK => ?_) AllReadyH.nil)
  rotate_left 1
  · (simp only [List.getElem?_toArray, List.getElem?_cons_succ, List.getElem?_cons_zero]; exact rfl)
  (go_simp; (go_at_call 40; refine (Oq.take_calls HQ2.out _).mono ?_; rw [takeN_all]; rintro e w5 ⟨g5, F5, rfl, _, _, _, hq5, hu5, hf5⟩; rw [List.drop_length] at hq5; have HQ5 := Asd.mk hq5; have hb5 := hu5.blk HB2.out HF.out.1; have HB5 := Asd.mk hb5; have hc5 := keepsC (o := 0) hb5 rfl _ (Upd.refl _ _); have HC5 := Asd.mk hc5; have HN5 : Asd (¬ F5 p) := ⟨fun h => (hf5 p h).elim HF.out.1 (fun h => by omega)⟩; have HU5 := Asd.mk (And.intro hu5 hf5); clear hq5 hb5 hc5 hu5 hf5))
  refine hK.out _ _ (by exact HC5.out) (fun hHeld => ?_)
  clear hK K
  try simp only [Act.put, List.setIfInBounds_toArray, List.set_cons_zero, List.set_cons_succ]
  refine wpAnyH_done (by kernel_rfl) ?_ _
  go_wp2
  go_end0
  refine ⟨rfl, fun k => k = p ∨ F5 k, ⟨q, F5, HB5.out, HQ5.out, HN5.out, fun k => Iff.rfl⟩, ?_, fun k hk => ?_⟩
  · refine (HU2.out.trans HD2.out (fun _ _ h => h.elim)).mono (T := F) (fun i hi e => by rw [e]; exact HOWN.out) |>.trans HU5.out.1 (fun i hi h => (HF.out.2 i).2 (.inr h))
  · rcases hk with rfl | h
    · exact .inl HOWN.out
    · exact (HU5.out.2 k h).elim (fun h => .inl ((HF.out.2 k).2 (.inr h))) (fun h => .inr (Nat.le_trans HS2.out h))
end
/-- A table and a queue, made since w0, apart. -/
def At3 (w0 w : World) (t p : Nat) (s : T) (x : QS) : Prop := ∃ F Fq, TB w t F s ∧ QI w p Fq x ∧ Upd (fun _ => False) w0 w ∧ (∀ k, F k → w0.heap.size ≤ k) ∧ (∀ k, Fq k → w0.heap.size ≤ k) ∧ ∀ k, F k → ¬ Fq k
section
variable {w0 w w1 : World} {t p : Nat} {s s' : T} {x x' : QS} {v : Value} {f : FuncId} {args : Array Value}
theorem At3.up (h : At3 w0 w t p s x) (k : Upd (fun _ => False) w w1) : At3 w0 w1 t p s x := by
  obtain ⟨F, Fq, h1, h2, h3, h4, h5, h6⟩ := h
  exact ⟨F, Fq, h1.up k, h2.up k, h3.trans k (fun _ _ h => h), h4, h5, h6⟩
theorem At3.out (h : At3 w0 w t p s x) : Upd (fun _ => False) w0 w := by obtain ⟨F, Fq, h1, h2, h3, h4, h5, h6⟩ := h; exact h3
theorem At3.turnT (h : At3 w0 w t p s x) (hc : ∀ F, TB w t F s → Calls Try.prog f args w (Turns v s' t F w)) : Calls Try.prog f args w fun e w' => e = .returned v ∧ At3 w0 w' t p s' x := by
  obtain ⟨F, Fq, h1, h2, h3, h4, h5, h6⟩ := h
  refine (hc F h1).mono fun e w' ⟨he, F', ht', hu', hf'⟩ => ⟨he, F', Fq, ht', h2.upd hu' (fun i hi hf => h6 i hf hi), h3.trans hu' (fun i hi h => by have := h4 i h; omega), fun k hk => (hf' k hk).elim (fun h => h4 k h) (fun h => Nat.le_trans h3.size h), h5, fun k hk hm => (hf' k hk).elim (fun h => h6 k h hm) (fun h => by have := h2.lt k hm; omega)⟩
theorem At3.turnQ (h : At3 w0 w t p s x) (hc : ∀ F Fq, TB w t F s → QI w p Fq x → Calls Try.prog f args w (QTurns v x' p Fq w)) : Calls Try.prog f args w fun e w' => e = .returned v ∧ At3 w0 w' t p s x' := by
  obtain ⟨F, Fq, h1, h2, h3, h4, h5, h6⟩ := h
  refine (hc F Fq h1 h2).mono fun e w' ⟨he, F', ht', hu', hf'⟩ => ⟨he, F, F', h1.upd hu' (fun i hi hf => h6 i hi hf), ht', h3.trans hu' (fun i hi h => by have := h5 i h; omega), h4, fun k hk => (hf' k hk).elim (fun h => h5 k h) (fun h => Nat.le_trans h3.size h), fun k hk hm => (hf' k hm).elim (fun h => h6 k hk h) (fun h => by have := h1.lt k hk; omega)⟩
theorem At3.total (h : At3 w0 w t p s x) : Calls Try.prog 37 #[.pointer (some ⟨p, 0, none⟩)] w fun e w' => e = .returned (.int .i64 x.total) ∧ w = w' := by
  obtain ⟨F, Fq, h1, h2, _⟩ := h
  exact total_calls h2
theorem At3.offer (h : At3 w0 w t p s x) (id : Int) (hid : idOk id) (A : Option Addr) (n c : Nat) (l : List UInt8) (hr : Rd w A n l) (hb : 0 ≤ x.total ∧ x.total + n ≤ 1000000000) : Calls Try.prog 36 #[.pointer (some ⟨p, 0, none⟩), .pointer (some ⟨t, 0, none⟩), .int .i64 id, .slice A n c] w fun e w' => e = .returned (.int .i64 (why x s id n)) ∧ At3 w0 w' t p s (offer x s id l) :=
  h.turnQ fun F Fq ht hq => offer_calls hq ht id hid A n c l hr hr.len hb
theorem At3.finish (h : At3 w0 w t p s x) : Calls Try.prog 38 #[.pointer (some ⟨p, 0, none⟩)] w fun e w' => e = .returned (.tuple #[]) ∧ At3 w0 w' t p s (fin x) :=
  h.turnQ fun F Fq ht hq => end_calls hq
/-- What a take leaves. -/
def Took (w0 : World) (t p : Nat) (s : T) (x : QS) (k : Nat) (e : Ending) (w' : World) : Prop := ∃ g, e = .returned (.slice (some ⟨g, 0, none⟩) k k) ∧ Rd w' (some ⟨g, 0, none⟩) k (x.buf.take k) ∧ At3 w0 w' t p s { x with buf := x.buf.drop k }
/-- The queue within. -/
theorem At3.inner (h : At3 w0 w t p s x) : ∃ q, (∀ W, Upd (fun _ => False) w W → W.cell? ⟨p, 0, none⟩ = some (.pointer (some ⟨q, 0, none⟩))) ∧ Asd (Calls Try.prog 39 #[.pointer (some ⟨q, 0, none⟩)] w fun e w' => e = .returned (.int .i64 (x.buf.length : Int)) ∧ w = w') ∧ Asd (∀ n, Calls Try.prog 40 #[.pointer (some ⟨q, 0, none⟩), .int .i64 n] w (Took w0 t p s x (Oq.takeN n x.buf.length))) := by
  obtain ⟨F, Fq, h1, h2, h3, h4, h5, h6⟩ := h
  obtain ⟨q, F2, HB, HQ, HF, _⟩ := h2.cells
  refine ⟨q, keepsC (o := 0) HB.out rfl, ⟨Oq.len_calls HQ.out⟩, ⟨fun n => ?_⟩⟩
  refine (take_in HB HQ HF n).mono fun e w' ⟨g, F', he, hg, hn, ho, hq, hu, hf⟩ => ⟨g, he, ho.rd, F, F', h1.upd hu (fun i hi hf => h6 i hi hf), hq, h3.trans hu (fun i hi h => by have := h5 i h; omega), h4, fun k hk => (hf k hk).elim (fun h => h5 k h) (fun h => Nat.le_trans h3.size h), fun k hk hm => (hf k hm).elim (fun h => h6 k hk h) (fun h => by have := h1.lt k hk; omega)⟩
end
/-- A queue is made beside a table. -/
def At3New (w0 : World) (t : Nat) (s : T) (x : QS) (e : Ending) (w' : World) : Prop := ∃ p, e = .returned (.pointer (some ⟨p, 0, none⟩)) ∧ At3 w0 w' t p s x
theorem qnew_at (n : Int) {w0 w : World} {t : Nat} {s : T} (h : At w0 w t s) : Calls Try.prog 35 #[.int .i64 n] w (At3New w0 t s ⟨[], Oq.clampSize n, false, 0⟩) := by
  obtain ⟨F, h1, h3, h4⟩ := h
  refine (new_calls n w).mono fun e w' ⟨p, Fq, he, hq, hu, hf⟩ => ⟨p, he, F, Fq, h1.up hu, hq, h3.trans hu (fun _ _ h => h), h4, fun k hk => Nat.le_trans h3.size (hf k hk), fun k hk hk2 => by have := h1.lt k hk; have := hf k hk2; omega⟩
theorem id1 : idOk 1 := by unfold idOk; omega
set_option maxHeartbeats 4000000 in
theorem head_calls (w : World) : Calls Try.prog 34 #[] w fun e w' => e = .returned (.bool true) ∧ Upd (fun _ => False) w w' := by
  have kc := fun (w : World) (C : Array Value) (n c : Nat) => Lib.run_convert_bytes_const (P := Try.prog) w 47 5 C n c Try.underlying47 Try.underlying5
  go_enter Try.func34, Try.ntmps34
  go_wp2_with fail
  refine (new_at 5 (Upd.refl (fun _ => False) w)).mono ?_
  rintro e w1 ⟨t, rfl, h⟩
  have H1 := Asd.mk h
  clear h
  go_wp2_with fail
  refine (qnew_at 4 H1.out).mono ?_
  rintro e w2 ⟨p, rfl, h⟩
  have H2 := Asd.mk h
  clear h H1
  go_wp2_with fail
  refine (H2.out.turnT (fun F h => join_calls h 1 1 id1 (by decide))).mono ?_
  rintro e w3 ⟨rfl, h⟩
  have e3 : joins (Fl.new 5) 1 1 = true := by decide
  rw [e3]
  have H3 := Asd.mk h
  clear h H2 e3
  go_wp2_with fail
  refine (H3.out.turnT (fun F h => ask_calls h 1 id1 (by decide))).mono ?_
  rintro e w4 ⟨rfl, h⟩
  have e4 : asks (Fl.join (Fl.new 5) 1 1) 1 = 0 := by decide
  rw [e4]
  have H4 := Asd.mk h
  clear h H3 e4
  go_wp2_with fail
  have hu1 := (Upd.refl (fun _ => False) w4).alloc (.cells #[.int .u8 97, .int .u8 98, .int .u8 99] 5 (3, 4))
  refine ((H4.out.up hu1).offer 1 id1 (some ⟨w4.heap.size, 0, none⟩) 3 3 [97, 98, 99] (Rd.lit w4 _ _ _ 3 _ rfl rfl (by omega)) (by decide)).mono ?_
  rintro e w5 ⟨rfl, h⟩
  have e5 : why ⟨[], Oq.clampSize 4, false, 0⟩ (Fl.ask (Fl.join (Fl.new 5) 1 1) 1) 1 3 = 0 := by decide
  have e6 : offer ⟨[], Oq.clampSize 4, false, 0⟩ (Fl.ask (Fl.join (Fl.new 5) 1 1) 1) 1 [97, 98, 99] = ⟨[97, 98, 99], 4, false, 3⟩ := by unfold offer; rw [if_pos (show why _ _ 1 ([97, 98, 99] : List UInt8).length = 0 from e5)]; rfl
  rw [e5]
  rw [e6] at h
  have H5 := Asd.mk h
  clear h hu1 H4 e5 e6
  go_wp2_with fail
  have hu1 := (Upd.refl (fun _ => False) w5).alloc (.cells #[.int .u8 100, .int .u8 101] 5 (2, 3))
  refine ((H5.out.up hu1).offer 1 id1 (some ⟨w5.heap.size, 0, none⟩) 2 2 [100, 101] (Rd.lit w5 _ _ _ 2 _ rfl rfl (by omega)) (by decide)).mono ?_
  rintro e w6 ⟨rfl, h⟩
  have e5 : why ⟨[97, 98, 99], 4, false, 3⟩ (Fl.ask (Fl.join (Fl.new 5) 1 1) 1) 1 2 = 5 := by decide
  have e6 : offer ⟨[97, 98, 99], 4, false, 3⟩ (Fl.ask (Fl.join (Fl.new 5) 1 1) 1) 1 [100, 101] = ⟨[97, 98, 99], 4, false, 3⟩ := by unfold offer; rw [if_neg (show ¬ why _ _ 1 ([100, 101] : List UInt8).length = 0 from by rw [show ([100, 101] : List UInt8).length = 2 from rfl, e5]; omega)]
  rw [e5]
  rw [e6] at h
  have H6 := Asd.mk h
  clear h hu1 H5 e5 e6
  obtain ⟨q, hq, _, HTk⟩ := H6.out.inner
  have hk6 : Upd (fun _ => False) w6 w6 := Upd.refl _ _
  go_wp2_with fail
  refine (HTk.out 9).mono ?_
  rintro e w7 ⟨g, rfl, hr, h⟩
  have e7 : Oq.takeN 9 ([97, 98, 99] : List UInt8).length = 3 := by decide
  simp only at hr
  rw [e7] at hr ⊢
  have HR := Asd.mk hr
  have H7 := Asd.mk h.out
  clear hr h e7 hq hk6
  have hst := run_str (c := 3) Try.underlying47 Try.underlying5 Try.underlying9 HR.out
  have hS : S ([97, 98, 99] : List UInt8) = { data := #[97, 98, 99] } := rfl
  rw [show ([97, 98, 99] : List UInt8).take 3 = [97, 98, 99] from rfl, hS] at hst
  clear hS
  go_wp2
  go_ret
  exact ⟨rfl, H7.out⟩
end Go.Proofs.Ytaeafnpldlcdnaa.Iq
