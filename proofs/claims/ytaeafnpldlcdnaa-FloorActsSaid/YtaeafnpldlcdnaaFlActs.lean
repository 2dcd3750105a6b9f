/- The law FloorActs: what its call comes to, for every input. -/
import Derived.Test.YtaeafnpldlcdnaaFlLink
import Derived.Deep.DeepCutAuto
import Derived.Deep.CutBlock
import Derived.Deep.RegionHeld3
set_option linter.unusedVariables false
set_option linter.unusedSimpArgs false
namespace Go.Proofs.Ytaeafnpldlcdnaa.Fl
open Go.RowKit K
abbrev RAct := R3 (RInt .i64) (RInt .i64) (RInt .i64)
theorem RAct.stays : Stays RAct := R3.stays (RInt.stays _) (RInt.stays _) (RInt.stays _)
theorem wf_ok {x : Int} (h : (Lit.int .i64 x).wf = true) : idOk x := by
  simp only [Lit.wf, Bool.and_eq_true, decide_eq_true_eq] at h
  exact h
/-- A table and a model, made since w0, apart. -/
def At2 (w0 w : World) (t m : Nat) (s : T) (sm : MT) : Prop := ∃ F Fm, TB w t F s ∧ MB w m Fm sm ∧ Upd (fun _ => False) w0 w ∧ (∀ k, F k → w0.heap.size ≤ k) ∧ (∀ k, Fm k → w0.heap.size ≤ k) ∧ ∀ k, F k → ¬ Fm k
/-- The act at hand. -/
structure Actb where
  k : Int
  id : Int
  r : Int
def Actb.obj (a : Actb) : Obj := .cells #[.int .i64 a.k, .int .i64 a.id, .int .i64 a.r] 39 (0, 0)
def Two (w0 : World) (b : Nat) (a : Actb) (w : World) (t m : Nat) (s : T) (sm : MT) : Prop := w.heap[b]? = some a.obj ∧ ∃ F Fm, TB w t F s ∧ MB w m Fm sm ∧ Upd (fun _ => False) w0 w ∧ (∀ k, F k → w0.heap.size ≤ k) ∧ (∀ k, Fm k → w0.heap.size ≤ k) ∧ (∀ k, F k → ¬ Fm k) ∧ ¬ F b ∧ ¬ Fm b
section
variable {w0 w w1 : World} {b t m : Nat} {a : Actb} {s s' : T} {sm sm' : MT} {v : Value} {f : FuncId} {args : Array Value}
theorem Two.back (h : Two w0 b a w t m s sm) : At2 w0 w t m s sm := by
  obtain ⟨_, F, Fm, h1, h2, h3, h4, h5, h6, _⟩ := h
  exact ⟨F, Fm, h1, h2, h3, h4, h5, h6⟩
theorem At2.up (h : At2 w0 w t m s sm) (k : Upd (fun _ => False) w w1) : At2 w0 w1 t m s sm := by
  obtain ⟨F, Fm, h1, h2, h3, h4, h5, h6⟩ := h
  exact ⟨F, Fm, h1.up k, h2.up k, h3.trans k (fun _ _ h => h), h4, h5, h6⟩
theorem At2.out (h : At2 w0 w t m s sm) : Upd (fun _ => False) w0 w := by obtain ⟨F, Fm, h1, h2, h3, h4, h5, h6⟩ := h; exact h3
theorem At2.act (h : At2 w0 w t m s sm) (k : Upd (fun _ => False) w w1) (hb : w1.heap[b]? = some a.obj) (hn : w.heap.size ≤ b) : Two w0 b a w1 t m s sm := by
  obtain ⟨F, Fm, h1, h2, h3, h4, h5, h6⟩ := h
  exact ⟨hb, F, Fm, h1.up k, h2.up k, h3.trans k (fun _ _ h => h), h4, h5, h6, fun hf => by have := h1.lt b hf; omega, fun hf => by have := h2.lt b hf; omega⟩
theorem Two.up (h : Two w0 b a w t m s sm) (k : Upd (fun _ => False) w w1) : Two w0 b a w1 t m s sm := by
  obtain ⟨hb, F, Fm, h1, h2, h3, h4, h5, h6, h7, h8⟩ := h
  exact ⟨k.blk hb (fun h => h), F, Fm, h1.up k, h2.up k, h3.trans k (fun _ _ h => h), h4, h5, h6, h7, h8⟩
theorem Two.drew (h : Two w0 b a w t m s sm) : Two w0 b a w.drew t m s sm := h.up (by repeat (first | assumption | with_reducible exact Upd.refl _ _ | with_reducible refine Upd.drewN ?_ _ | with_reducible refine Upd.drew ?_ | with_reducible refine Upd.alloc ?_ _ | with_reducible refine Upd.setAt ?_ ?_ | exact Or.inl rfl | exact Or.inr (by simp) | exact Or.inr (by omega)))
theorem Two.cell (h : Two w0 b a w t m s sm) : w.cell? ⟨b, 1, none⟩ = some (.int .i64 a.id) := keepsC (o := 1) h.1 rfl _ (Upd.refl _ _)
theorem Two.cellr (h : Two w0 b a w t m s sm) : ∀ W, Upd (fun _ => False) w W → W.cell? ⟨b, 2, none⟩ = some (.int .i64 a.r) := keepsC (o := 2) h.1 rfl
theorem Two.turnT (h : Two w0 b a w t m s sm) (hc : ∀ F, TB w t F s → Calls Try.prog f args w (Turns v s' t F w)) : Calls Try.prog f args w fun e w' => e = .returned v ∧ Two w0 b a w' t m s' sm := by
  obtain ⟨hb, F, Fm, h1, h2, h3, h4, h5, h6, h7, h8⟩ := h
  have hbs := blk_lt hb
  refine (hc F h1).mono fun e w' ⟨he, F', ht', hu', hf'⟩ => ⟨he, hu'.blk hb h7, F', Fm, ht', h2.upd hu' (fun i hi hf => h6 i hf hi), h3.trans hu' (fun i hi h => by have := h4 i h; omega), fun k hk => (hf' k hk).elim (fun h => h4 k h) (fun h => Nat.le_trans h3.size h), h5, fun k hk hm => (hf' k hk).elim (fun h => h6 k h hm) (fun h => by have := h2.lt k hm; omega), fun h => (hf' b h).elim h7 (fun h => by omega), h8⟩
theorem Two.turnM (h : Two w0 b a w t m s sm) (hc : ∀ F, MB w m F sm → Calls Try.prog f args w (MTurns v sm' m F w)) : Calls Try.prog f args w fun e w' => e = .returned v ∧ Two w0 b a w' t m s sm' := by
  obtain ⟨hb, F, Fm, h1, h2, h3, h4, h5, h6, h7, h8⟩ := h
  have hbs := blk_lt hb
  refine (hc Fm h2).mono fun e w' ⟨he, F', ht', hu', hf'⟩ => ⟨he, hu'.blk hb h8, F, F', h1.upd hu' (fun i hi hf => h6 i hi hf), ht', h3.trans hu' (fun i hi h => by have := h5 i h; omega), h4, fun k hk => (hf' k hk).elim (fun h => h5 k h) (fun h => Nat.le_trans h3.size h), fun k hk hm => (hf' k hm).elim (fun h => h6 k hk h) (fun h => by have := h1.lt k hk; omega), h7, fun h => (hf' b h).elim h8 (fun h => by omega)⟩
end
/-- The model too is made. -/
def At2New (w0 : World) (t : Nat) (s : T) (sm : MT) (e : Ending) (w' : World) : Prop := ∃ m, e = .returned (.pointer (some ⟨m, 0, none⟩)) ∧ At2 w0 w' t m s sm
theorem mnew_at (n : Int) {w0 w : World} {t : Nat} {s : T} (h : At w0 w t s) : Calls Try.prog 24 #[.int .i64 n] w (At2New w0 t s ⟨clampLease n, 0, [], []⟩) := by
  obtain ⟨F, h1, h3, h4⟩ := h
  refine (mnew_calls n w).mono fun e w' ⟨m, Fm, he, hm, hu, hf⟩ => ⟨m, he, F, Fm, h1.up hu, hm, h3.trans hu (fun _ _ h => h), h4, fun k hk => Nat.le_trans h3.size (hf k hk), fun k hk hk2 => by have := h1.lt k hk; have := hf k hk2; omega⟩
theorem Same.lens {s : T} {sm : MT} {n : Nat} (h : Same s sm) (hG : G s n 0) : sm.line.length ≤ n + 1 ∧ sm.roles.length ≤ n := by
  have h1 := hG.lens
  have h2 := h.line
  rw [h.roles]
  refine ⟨?_, h1.2⟩
  rw [h2]
  split
  · simp
  · simp; omega
set_option maxHeartbeats 8000000 in
set_option maxRecDepth 100000 in
theorem acts_walk (w : World) (lease : Int) (wl : (Lit.int .i64 lease).wf = true) (A : Option Addr) (n c : Nat) (X : List (Int × Int × Int)) (hX : RSlice RAct 3 w [.slice A n c] X) :
    Calls Try.prog 6 #[.int .i64 lease, .slice A n c] w fun e w' => e = .returned (.bool true) ∧ Upd (fun _ => False) w w' := by
  obtain ⟨A', c', he, hE, hc, hm, _⟩ := hX
  simp only [List.cons.injEq, Value.slice.injEq, and_true] at he
  obtain ⟨rfl, rfl, rfl⟩ := he
  obtain ⟨n, hn⟩ : ∃ n, n = X.length := ⟨_, rfl⟩
  rw [← hn] at hc hE
  rw [← hn]
  have HE := Asd.mk hE
  have hlim := hE.lim
  have HNX := Asd.mk hn
  clear hE hm wl hn
  go_enter Try.func6, Try.ntmps6
  go_wp2_with fail
  refine (head_calls _).mono ?_
  rintro e w1 ⟨rfl, hu⟩
  by_cases hbig : 150 < n
  · go_wp2
    go_ret
    exact ⟨rfl, hu⟩
  have HU := Asd.mk hu
  clear hu
  go_wp2_with fail
  refine (new_at lease HU.out).mono ?_
  rintro e w2 ⟨t, rfl, h⟩
  have HA0 := Asd.mk h
  clear h HU
  go_wp2_with fail
  refine (mnew_at lease HA0.out).mono ?_
  rintro e w3 ⟨m, rfl, h⟩
  have HA := Asd.mk h
  clear h HA0
  go_wp2
  go_loopw [22] (fun v22 wr => ∃ (i : Nat) (s : T) (sm : MT), v22 = .int .i64 (i : Int) ∧ i ≤ n ∧ Asd (G s i 0) ∧ Asd (Same s sm) ∧ Asd (At2 w wr t m s sm)) (fun v22 _ => n - (intOf v22).toNat)
  case atStart => exact ⟨0, new lease, _, rfl, by omega, ⟨G.new lease⟩, ⟨Same.new lease⟩, HA⟩
  case round =>
    clear HA
    obtain ⟨i, s, sm, rfl, hi, HG, HS, HA⟩ := hrel
    by_cases hlt : i < n
    · obtain ⟨ad, cs, e, hlen, hr, hcell⟩ := (HE.out.up RAct.stays HA.out.out).at_ i hlt
      subst e
      obtain ⟨x, hx⟩ : ∃ x, x = X[i]'(by rw [← HNX.out]; exact hlt) := ⟨_, rfl⟩
      rw [← hx] at hr
      obtain ⟨k, id, r⟩ := x
      obtain ⟨c0, c1, c2, rfl, ⟨h0, _⟩, ⟨h1, w1d⟩, ⟨h2, w2d⟩⟩ := hr
      simp only [List.cons.injEq, and_true] at h0 h1 h2
      subst h0; subst h1; subst h2
      have HC := Asd.mk hcell
      have hid := wf_ok w1d
      have HID := Asd.mk hid
      obtain ⟨rm, hrm, hand0⟩ := and_le k 15 (by omega)
      have hand : Go.bits .and .i64 k 15 = (rm : Int) := hand0
      have hql : s.queue.length ≤ 1000000 := by have := HG.out.lens; omega
      have hrl : s.roles.length ≤ 1000000 := by have := HG.out.lens; omega
      have hqm : sm.line.length ≤ 1000000 := by have := HS.out.lens HG.out; omega
      have hrm' : sm.roles.length ≤ 1000000 := by have := HS.out.lens HG.out; omega
      have hll : -1000 ≤ s.left ∧ s.left ≤ 1000000 := by have := HG.out.left; have := HG.out.lease; omega
      have hlm : -1000 ≤ sm.left ∧ sm.left ≤ 1000000 := by rw [HS.out.left]; exact hll
      clear hcell hlen hx hand0 w1d w2d hid
      go_wp2_with (with_reducible refine stop_load 39 _ rfl ?_)
      refine wp_loadAgg _ (ad.add (i * 3)) 3 rfl _ _ rfl rfl Try.underlying39 rfl (by kernel_rfl) rfl (fun j u hj => by rw [add_add]; exact HC.out j u hj) ?_
      have hb := heap_alloc_new wr (.cells #[.int .i64 k, .int .i64 id, .int .i64 r] 39)
      have b2 := keepsC (o := 2) hb rfl
      have b0 := keepsC (o := 0) hb rfl
      have HW := Asd.mk (HA.out.act (a := ⟨k, id, r⟩) ((Upd.refl (fun _ => False) _).alloc (.cells #[.int .i64 k, .int .i64 id, .int .i64 r] 39)) hb (Nat.le_refl _))
      go_upto_block 2 with fail
      go_cut [9] (fun v9 wx => v9 = .bool true ∧ ∃ s2 sm2, Asd (G s2 (i + 1) 0) ∧ Asd (Same s2 sm2) ∧ Asd (Two w wr.heap.size ⟨k, id, r⟩ wx t m s2 sm2))
      case first =>
        have b1 := HW.out.cellr
        rcases (by omega : rm = 0 ∨ rm = 1 ∨ rm = 2 ∨ rm = 3 ∨ rm = 4 ∨ rm = 5 ∨ rm = 6 ∨ rm = 7 ∨ rm = 8 ∨ rm = 9 ∨ rm = 10 ∨ rm = 11 ∨ rm = 12 ∨ rm = 13 ∨ rm = 14 ∨ rm = 15) with rfl | rfl | rfl | rfl | rfl | rfl | rfl | rfl | rfl | rfl | rfl | rfl | rfl | rfl | rfl | rfl
        · obtain ⟨bb, hbb⟩ : ∃ bb, bb = joins s id r := ⟨_, rfl⟩
          have CT : Asd (∀ W sm1, Two w wr.heap.size ⟨k, id, r⟩ W t m s sm1 → Calls Try.prog 12 #[.pointer (some ⟨t, 0, none⟩), .int .i64 id, .int .i64 r] W fun e w' => e = .returned (.bool bb) ∧ Two w wr.heap.size ⟨k, id, r⟩ w' t m (join s id r) sm1) := ⟨fun W sm1 h => by rw [hbb]; exact h.turnT (fun F h => join_calls h id r HID.out hrl)⟩
          have CM : Asd (∀ W s1, Two w wr.heap.size ⟨k, id, r⟩ W t m s1 sm → Calls Try.prog 25 #[.pointer (some ⟨m, 0, none⟩), .int .i64 id, .int .i64 r] W fun e w' => e = .returned (.bool bb) ∧ Two w wr.heap.size ⟨k, id, r⟩ w' t m s1 (mjoin sm id r)) := ⟨fun W s1 h => by rw [hbb, HS.out.joins]; exact h.turnM (fun F h => mjoin_calls h id r HID.out hrm')⟩
          have HE : Asd (Same (join s id r) (mjoin sm id r)) := ⟨HS.out.join id r⟩
          clear hbb
          go_wp2
          refine wp_region_held_drew (S := fun W => W.cell? ⟨wr.heap.size, 1, none⟩ = some (.int .i64 id)) (by kernel_rfl) (by exact HW.out.cell) (fun hHeld => ?_)
          have HWd := Asd.mk HW.out.drew
          refine wpAnyH_take (i := 0) (oi := ?_) (v := ?_) ?_ (by kernel_rfl) (by kernel_rfl) (by kernel_rfl) ?_ (Or.inl ⟨?_, ?_⟩) (by assumption) ?_
          rotate_left 2
          · (simp only [List.getElem?_toArray, List.getElem?_cons_succ, List.getElem?_cons_zero]; exact rfl)
          · exact (fun _ _ _ h => h)
          · rfl
          · (intro w hSw; (try dsimp only at hSw); go_simp; (try with_reducible rfl))
          try simp only [Act.put, List.setIfInBounds_toArray, List.set_cons_zero, List.set_cons_succ]
          refine wpAnyH_take (i := 1) (oi := ?_) (v := ?_) ?_ (by kernel_rfl) (by kernel_rfl) (by kernel_rfl) ?_ (Or.inl ⟨?_, ?_⟩) (by assumption) ?_
          rotate_left 2
          · (simp only [List.getElem?_toArray, List.getElem?_cons_succ, List.getElem?_cons_zero]; exact rfl)
          · exact (fun _ _ _ h => h)
          · rfl
          · (intro w hSw; (try dsimp only at hSw); go_simp; (try with_reducible rfl))
          try simp only [Act.put, List.setIfInBounds_toArray, List.set_cons_zero, List.set_cons_succ]
          refine wpAnyH_take (i := 2) (oi := ?_) (v := ?_) ?_ (by kernel_rfl) (by kernel_rfl) (by kernel_rfl) ?_ (Or.inl ⟨?_, ?_⟩) (by assumption) ?_
          rotate_left 2
          · (simp only [List.getElem?_toArray, List.getElem?_cons_succ, List.getElem?_cons_zero]; exact rfl)
          · exact (fun _ _ _ h => h)
          · rfl
          · (intro w hSw; (try dsimp only at hSw); go_simp; (try with_reducible rfl))
          try simp only [Act.put, List.setIfInBounds_toArray, List.set_cons_zero, List.set_cons_succ]
          refine wpAnyH_take (i := 3) (oi := ?_) (v := ?_) ?_ (by kernel_rfl) (by kernel_rfl) (by kernel_rfl) ?_ (Or.inl ⟨?_, ?_⟩) (by assumption) ?_
          rotate_left 2
          · (simp only [List.getElem?_toArray, List.getElem?_cons_succ, List.getElem?_cons_zero]; exact rfl)
          · exact (fun _ _ _ h => h)
          · rfl
          · (intro w hSw; (try dsimp only at hSw); go_simp; (try with_reducible rfl))
          try simp only [Act.put, List.setIfInBounds_toArray, List.set_cons_zero, List.set_cons_succ]
          refine wpAnyH_take (i := 5) (oi := ?_) (v := ?_) ?_ (by kernel_rfl) (by kernel_rfl) (by kernel_rfl) ?_ (Or.inl ⟨?_, ?_⟩) (by assumption) ?_
          rotate_left 2
          · (simp only [List.getElem?_toArray, List.getElem?_cons_succ, List.getElem?_cons_zero]; exact rfl)
          · exact (fun _ _ _ h => h)
          · rfl
          · (intro w hSw; (try dsimp only at hSw); go_simp; (try with_reducible rfl))
          try simp only [Act.put, List.setIfInBounds_toArray, List.set_cons_zero, List.set_cons_succ]
          refine wpAnyH_take (i := 6) (oi := ?_) (v := ?_) ?_ (by kernel_rfl) (by kernel_rfl) (by kernel_rfl) ?_ (Or.inl ⟨?_, ?_⟩) (by assumption) ?_
          rotate_left 2
          · (simp only [List.getElem?_toArray, List.getElem?_cons_succ, List.getElem?_cons_zero]; exact rfl)
          · exact (fun _ _ _ h => h)
          · rfl
          · (intro w hSw; (try dsimp only at hSw); go_simp; (try with_reducible rfl))
          try simp only [Act.put, List.setIfInBounds_toArray, List.set_cons_zero, List.set_cons_succ]
          refine wpAnyH_take (i := 7) (oi := ?_) (v := ?_) ?_ (by kernel_rfl) (by kernel_rfl) (by kernel_rfl) ?_ (Or.inl ⟨?_, ?_⟩) (by assumption) ?_
          rotate_left 2
          · (simp only [List.getElem?_toArray, List.getElem?_cons_succ, List.getElem?_cons_zero]; exact rfl)
          · exact (fun _ _ _ h => h)
          · rfl
          · (intro w hSw; (try dsimp only at hSw); go_simp; (try with_reducible rfl))
          try simp only [Act.put, List.setIfInBounds_toArray, List.set_cons_zero, List.set_cons_succ]
          refine wpAnyH_take (i := 8) (oi := ?_) (v := ?_) ?_ (by kernel_rfl) (by kernel_rfl) (by kernel_rfl) ?_ (Or.inl ⟨?_, ?_⟩) (by assumption) ?_
          rotate_left 2
          · (simp only [List.getElem?_toArray, List.getElem?_cons_succ, List.getElem?_cons_zero]; exact rfl)
          · exact (fun _ _ _ h => h)
          · rfl
          · (intro w hSw; (try dsimp only at hSw); go_simp; (try with_reducible rfl))
          try simp only [Act.put, List.setIfInBounds_toArray, List.set_cons_zero, List.set_cons_succ]
          refine wpAnyH_ready (rs := [4]) (by kernel_rfl) (by simp) (AllReadyH.cons (o := ?_) ?_ (fun K hK => ?_) AllReadyH.nil)
          rotate_left 1
          · (simp only [List.getElem?_toArray, List.getElem?_cons_succ, List.getElem?_cons_zero]; exact rfl)
          (go_simp; (go_at_call 12; refine (CT.out _ _ HWd.out).mono ?_; rintro e w6 ⟨rfl, h6⟩; have H6 := Asd.mk h6; clear h6))
          refine hK.out _ _ (by exact H6.out.cell) (fun hHeld => ?_)
          clear hK K
          try simp only [Act.put, List.setIfInBounds_toArray, List.set_cons_zero, List.set_cons_succ]
          refine wpAnyH_ready (rs := [9]) (by kernel_rfl) (by simp) (AllReadyH.cons (o := ?_) ?_ (fun K hK => ?_) AllReadyH.nil)
          rotate_left 1
          · (simp only [List.getElem?_toArray, List.getElem?_cons_succ, List.getElem?_cons_zero]; exact rfl)
          (go_simp; (go_at_call 25; refine (CM.out _ _ H6.out).mono ?_; rintro e w7 ⟨rfl, h7⟩; have H7 := Asd.mk h7; clear h7))
          refine hK.out _ _ (by exact H7.out.cell) (fun hHeld => ?_)
          clear hK K
          try simp only [Act.put, List.setIfInBounds_toArray, List.set_cons_zero, List.set_cons_succ]
          refine wpAnyH_take (i := 10) (oi := ?_) (v := ?_) ?_ (by kernel_rfl) (by kernel_rfl) (by kernel_rfl) ?_ (Or.inl ⟨?_, ?_⟩) (by assumption) ?_
          rotate_left 2
          · (simp only [List.getElem?_toArray, List.getElem?_cons_succ, List.getElem?_cons_zero]; exact rfl)
          · exact (fun _ _ _ h => h)
          · rfl
          · (intro w hSw; (try dsimp only at hSw); go_simp; (try with_reducible rfl))
          try simp only [Act.put, List.setIfInBounds_toArray, List.set_cons_zero, List.set_cons_succ]
          refine wpAnyH_take (i := 11) (oi := ?_) (v := ?_) ?_ (by kernel_rfl) (by kernel_rfl) (by kernel_rfl) ?_ (Or.inl ⟨?_, ?_⟩) (by assumption) ?_
          rotate_left 2
          · (simp only [List.getElem?_toArray, List.getElem?_cons_succ, List.getElem?_cons_zero]; exact rfl)
          · exact (fun _ _ _ h => h)
          · rfl
          · (intro w hSw; (try dsimp only at hSw); go_simp; (try with_reducible rfl))
          try simp only [Act.put, List.setIfInBounds_toArray, List.set_cons_zero, List.set_cons_succ]
          refine wpAnyH_done (by kernel_rfl) ?_ _
          go_wp2
          go_meet
          exact ⟨rfl, _, _, ⟨HG.out.join id r HID.out.2⟩, HE, H7⟩
        · obtain ⟨bb, hbb⟩ : ∃ bb, bb = joins s id r := ⟨_, rfl⟩
          have CT : Asd (∀ W sm1, Two w wr.heap.size ⟨k, id, r⟩ W t m s sm1 → Calls Try.prog 12 #[.pointer (some ⟨t, 0, none⟩), .int .i64 id, .int .i64 r] W fun e w' => e = .returned (.bool bb) ∧ Two w wr.heap.size ⟨k, id, r⟩ w' t m (join s id r) sm1) := ⟨fun W sm1 h => by rw [hbb]; exact h.turnT (fun F h => join_calls h id r HID.out hrl)⟩
          have CM : Asd (∀ W s1, Two w wr.heap.size ⟨k, id, r⟩ W t m s1 sm → Calls Try.prog 25 #[.pointer (some ⟨m, 0, none⟩), .int .i64 id, .int .i64 r] W fun e w' => e = .returned (.bool bb) ∧ Two w wr.heap.size ⟨k, id, r⟩ w' t m s1 (mjoin sm id r)) := ⟨fun W s1 h => by rw [hbb, HS.out.joins]; exact h.turnM (fun F h => mjoin_calls h id r HID.out hrm')⟩
          have HE : Asd (Same (join s id r) (mjoin sm id r)) := ⟨HS.out.join id r⟩
          clear hbb
          go_wp2
          refine wp_region_held_drew (S := fun W => W.cell? ⟨wr.heap.size, 1, none⟩ = some (.int .i64 id)) (by kernel_rfl) (by exact HW.out.cell) (fun hHeld => ?_)
          have HWd := Asd.mk HW.out.drew
          refine wpAnyH_take (i := 0) (oi := ?_) (v := ?_) ?_ (by kernel_rfl) (by kernel_rfl) (by kernel_rfl) ?_ (Or.inl ⟨?_, ?_⟩) (by assumption) ?_
          rotate_left 2
          · (simp only [List.getElem?_toArray, List.getElem?_cons_succ, List.getElem?_cons_zero]; exact rfl)
          · exact (fun _ _ _ h => h)
          · rfl
          · (intro w hSw; (try dsimp only at hSw); go_simp; (try with_reducible rfl))
          try simp only [Act.put, List.setIfInBounds_toArray, List.set_cons_zero, List.set_cons_succ]
          refine wpAnyH_take (i := 1) (oi := ?_) (v := ?_) ?_ (by kernel_rfl) (by kernel_rfl) (by kernel_rfl) ?_ (Or.inl ⟨?_, ?_⟩) (by assumption) ?_
          rotate_left 2
          · (simp only [List.getElem?_toArray, List.getElem?_cons_succ, List.getElem?_cons_zero]; exact rfl)
          · exact (fun _ _ _ h => h)
          · rfl
          · (intro w hSw; (try dsimp only at hSw); go_simp; (try with_reducible rfl))
          try simp only [Act.put, List.setIfInBounds_toArray, List.set_cons_zero, List.set_cons_succ]
          refine wpAnyH_take (i := 2) (oi := ?_) (v := ?_) ?_ (by kernel_rfl) (by kernel_rfl) (by kernel_rfl) ?_ (Or.inl ⟨?_, ?_⟩) (by assumption) ?_
          rotate_left 2
          · (simp only [List.getElem?_toArray, List.getElem?_cons_succ, List.getElem?_cons_zero]; exact rfl)
          · exact (fun _ _ _ h => h)
          · rfl
          · (intro w hSw; (try dsimp only at hSw); go_simp; (try with_reducible rfl))
          try simp only [Act.put, List.setIfInBounds_toArray, List.set_cons_zero, List.set_cons_succ]
          refine wpAnyH_take (i := 3) (oi := ?_) (v := ?_) ?_ (by kernel_rfl) (by kernel_rfl) (by kernel_rfl) ?_ (Or.inl ⟨?_, ?_⟩) (by assumption) ?_
          rotate_left 2
          · (simp only [List.getElem?_toArray, List.getElem?_cons_succ, List.getElem?_cons_zero]; exact rfl)
          · exact (fun _ _ _ h => h)
          · rfl
          · (intro w hSw; (try dsimp only at hSw); go_simp; (try with_reducible rfl))
          try simp only [Act.put, List.setIfInBounds_toArray, List.set_cons_zero, List.set_cons_succ]
          refine wpAnyH_take (i := 5) (oi := ?_) (v := ?_) ?_ (by kernel_rfl) (by kernel_rfl) (by kernel_rfl) ?_ (Or.inl ⟨?_, ?_⟩) (by assumption) ?_
          rotate_left 2
          · (simp only [List.getElem?_toArray, List.getElem?_cons_succ, List.getElem?_cons_zero]; exact rfl)
          · exact (fun _ _ _ h => h)
          · rfl
          · (intro w hSw; (try dsimp only at hSw); go_simp; (try with_reducible rfl))
          try simp only [Act.put, List.setIfInBounds_toArray, List.set_cons_zero, List.set_cons_succ]
          refine wpAnyH_take (i := 6) (oi := ?_) (v := ?_) ?_ (by kernel_rfl) (by kernel_rfl) (by kernel_rfl) ?_ (Or.inl ⟨?_, ?_⟩) (by assumption) ?_
          rotate_left 2
          · (simp only [List.getElem?_toArray, List.getElem?_cons_succ, List.getElem?_cons_zero]; exact rfl)
          · exact (fun _ _ _ h => h)
          · rfl
          · (intro w hSw; (try dsimp only at hSw); go_simp; (try with_reducible rfl))
          try simp only [Act.put, List.setIfInBounds_toArray, List.set_cons_zero, List.set_cons_succ]
          refine wpAnyH_take (i := 7) (oi := ?_) (v := ?_) ?_ (by kernel_rfl) (by kernel_rfl) (by kernel_rfl) ?_ (Or.inl ⟨?_, ?_⟩) (by assumption) ?_
          rotate_left 2
          · (simp only [List.getElem?_toArray, List.getElem?_cons_succ, List.getElem?_cons_zero]; exact rfl)
          · exact (fun _ _ _ h => h)
          · rfl
          · (intro w hSw; (try dsimp only at hSw); go_simp; (try with_reducible rfl))
          try simp only [Act.put, List.setIfInBounds_toArray, List.set_cons_zero, List.set_cons_succ]
          refine wpAnyH_take (i := 8) (oi := ?_) (v := ?_) ?_ (by kernel_rfl) (by kernel_rfl) (by kernel_rfl) ?_ (Or.inl ⟨?_, ?_⟩) (by assumption) ?_
          rotate_left 2
          · (simp only [List.getElem?_toArray, List.getElem?_cons_succ, List.getElem?_cons_zero]; exact rfl)
          · exact (fun _ _ _ h => h)
          · rfl
          · (intro w hSw; (try dsimp only at hSw); go_simp; (try with_reducible rfl))
          try simp only [Act.put, List.setIfInBounds_toArray, List.set_cons_zero, List.set_cons_succ]
          refine wpAnyH_ready (rs := [4]) (by kernel_rfl) (by simp) (AllReadyH.cons (o := ?_) ?_ (fun K hK => ?_) AllReadyH.nil)
          rotate_left 1
          · (simp only [List.getElem?_toArray, List.getElem?_cons_succ, List.getElem?_cons_zero]; exact rfl)
          (go_simp; (go_at_call 12; refine (CT.out _ _ HWd.out).mono ?_; rintro e w6 ⟨rfl, h6⟩; have H6 := Asd.mk h6; clear h6))
          refine hK.out _ _ (by exact H6.out.cell) (fun hHeld => ?_)
          clear hK K
          try simp only [Act.put, List.setIfInBounds_toArray, List.set_cons_zero, List.set_cons_succ]
          refine wpAnyH_ready (rs := [9]) (by kernel_rfl) (by simp) (AllReadyH.cons (o := ?_) ?_ (fun K hK => ?_) AllReadyH.nil)
          rotate_left 1
          · (simp only [List.getElem?_toArray, List.getElem?_cons_succ, List.getElem?_cons_zero]; exact rfl)
          (go_simp; (go_at_call 25; refine (CM.out _ _ H6.out).mono ?_; rintro e w7 ⟨rfl, h7⟩; have H7 := Asd.mk h7; clear h7))
          refine hK.out _ _ (by exact H7.out.cell) (fun hHeld => ?_)
          clear hK K
          try simp only [Act.put, List.setIfInBounds_toArray, List.set_cons_zero, List.set_cons_succ]
          refine wpAnyH_take (i := 10) (oi := ?_) (v := ?_) ?_ (by kernel_rfl) (by kernel_rfl) (by kernel_rfl) ?_ (Or.inl ⟨?_, ?_⟩) (by assumption) ?_
          rotate_left 2
          · (simp only [List.getElem?_toArray, List.getElem?_cons_succ, List.getElem?_cons_zero]; exact rfl)
          · exact (fun _ _ _ h => h)
          · rfl
          · (intro w hSw; (try dsimp only at hSw); go_simp; (try with_reducible rfl))
          try simp only [Act.put, List.setIfInBounds_toArray, List.set_cons_zero, List.set_cons_succ]
          refine wpAnyH_take (i := 11) (oi := ?_) (v := ?_) ?_ (by kernel_rfl) (by kernel_rfl) (by kernel_rfl) ?_ (Or.inl ⟨?_, ?_⟩) (by assumption) ?_
          rotate_left 2
          · (simp only [List.getElem?_toArray, List.getElem?_cons_succ, List.getElem?_cons_zero]; exact rfl)
          · exact (fun _ _ _ h => h)
          · rfl
          · (intro w hSw; (try dsimp only at hSw); go_simp; (try with_reducible rfl))
          try simp only [Act.put, List.setIfInBounds_toArray, List.set_cons_zero, List.set_cons_succ]
          refine wpAnyH_done (by kernel_rfl) ?_ _
          go_wp2
          go_meet
          exact ⟨rfl, _, _, ⟨HG.out.join id r HID.out.2⟩, HE, H7⟩
        · obtain ⟨bb, hbb⟩ : ∃ bb, bb = leaves s id := ⟨_, rfl⟩
          have CT : Asd (∀ W sm1, Two w wr.heap.size ⟨k, id, r⟩ W t m s sm1 → Calls Try.prog 18 #[.pointer (some ⟨t, 0, none⟩), .int .i64 id] W fun e w' => e = .returned (.bool bb) ∧ Two w wr.heap.size ⟨k, id, r⟩ w' t m (leave s id) sm1) := ⟨fun W sm1 h => by rw [hbb]; exact h.turnT (fun F h => leave_calls h id HID.out hql)⟩
          have CM : Asd (∀ W s1, Two w wr.heap.size ⟨k, id, r⟩ W t m s1 sm → Calls Try.prog 26 #[.pointer (some ⟨m, 0, none⟩), .int .i64 id] W fun e w' => e = .returned (.bool bb) ∧ Two w wr.heap.size ⟨k, id, r⟩ w' t m s1 (mleave sm id)) := ⟨fun W s1 h => by rw [hbb, HS.out.leaves]; exact h.turnM (fun F h => mleave_calls h id HID.out hqm)⟩
          have HE : Asd (Same (leave s id) (mleave sm id)) := ⟨HS.out.leave HG.out id⟩
          clear hbb
          go_wp2
          refine wp_region_held_drew (S := fun W => W.cell? ⟨wr.heap.size, 1, none⟩ = some (.int .i64 id)) (by kernel_rfl) (by exact HW.out.cell) (fun hHeld => ?_)
          have HWd := Asd.mk HW.out.drew
          refine wpAnyH_take (i := 0) (oi := ?_) (v := ?_) ?_ (by kernel_rfl) (by kernel_rfl) (by kernel_rfl) ?_ (Or.inl ⟨?_, ?_⟩) (by assumption) ?_
          rotate_left 2
          · (simp only [List.getElem?_toArray, List.getElem?_cons_succ, List.getElem?_cons_zero]; exact rfl)
          · exact (fun _ _ _ h => h)
          · rfl
          · (intro w hSw; (try dsimp only at hSw); go_simp; (try with_reducible rfl))
          try simp only [Act.put, List.setIfInBounds_toArray, List.set_cons_zero, List.set_cons_succ]
          refine wpAnyH_take (i := 1) (oi := ?_) (v := ?_) ?_ (by kernel_rfl) (by kernel_rfl) (by kernel_rfl) ?_ (Or.inl ⟨?_, ?_⟩) (by assumption) ?_
          rotate_left 2
          · (simp only [List.getElem?_toArray, List.getElem?_cons_succ, List.getElem?_cons_zero]; exact rfl)
          · exact (fun _ _ _ h => h)
          · rfl
          · (intro w hSw; (try dsimp only at hSw); go_simp; (try with_reducible rfl))
          try simp only [Act.put, List.setIfInBounds_toArray, List.set_cons_zero, List.set_cons_succ]
          refine wpAnyH_take (i := 2) (oi := ?_) (v := ?_) ?_ (by kernel_rfl) (by kernel_rfl) (by kernel_rfl) ?_ (Or.inl ⟨?_, ?_⟩) (by assumption) ?_
          rotate_left 2
          · (simp only [List.getElem?_toArray, List.getElem?_cons_succ, List.getElem?_cons_zero]; exact rfl)
          · exact (fun _ _ _ h => h)
          · rfl
          · (intro w hSw; (try dsimp only at hSw); go_simp; (try with_reducible rfl))
          try simp only [Act.put, List.setIfInBounds_toArray, List.set_cons_zero, List.set_cons_succ]
          refine wpAnyH_take (i := 4) (oi := ?_) (v := ?_) ?_ (by kernel_rfl) (by kernel_rfl) (by kernel_rfl) ?_ (Or.inl ⟨?_, ?_⟩) (by assumption) ?_
          rotate_left 2
          · (simp only [List.getElem?_toArray, List.getElem?_cons_succ, List.getElem?_cons_zero]; exact rfl)
          · exact (fun _ _ _ h => h)
          · rfl
          · (intro w hSw; (try dsimp only at hSw); go_simp; (try with_reducible rfl))
          try simp only [Act.put, List.setIfInBounds_toArray, List.set_cons_zero, List.set_cons_succ]
          refine wpAnyH_take (i := 5) (oi := ?_) (v := ?_) ?_ (by kernel_rfl) (by kernel_rfl) (by kernel_rfl) ?_ (Or.inl ⟨?_, ?_⟩) (by assumption) ?_
          rotate_left 2
          · (simp only [List.getElem?_toArray, List.getElem?_cons_succ, List.getElem?_cons_zero]; exact rfl)
          · exact (fun _ _ _ h => h)
          · rfl
          · (intro w hSw; (try dsimp only at hSw); go_simp; (try with_reducible rfl))
          try simp only [Act.put, List.setIfInBounds_toArray, List.set_cons_zero, List.set_cons_succ]
          refine wpAnyH_take (i := 6) (oi := ?_) (v := ?_) ?_ (by kernel_rfl) (by kernel_rfl) (by kernel_rfl) ?_ (Or.inl ⟨?_, ?_⟩) (by assumption) ?_
          rotate_left 2
          · (simp only [List.getElem?_toArray, List.getElem?_cons_succ, List.getElem?_cons_zero]; exact rfl)
          · exact (fun _ _ _ h => h)
          · rfl
          · (intro w hSw; (try dsimp only at hSw); go_simp; (try with_reducible rfl))
          try simp only [Act.put, List.setIfInBounds_toArray, List.set_cons_zero, List.set_cons_succ]
          refine wpAnyH_ready (rs := [3]) (by kernel_rfl) (by simp) (AllReadyH.cons (o := ?_) ?_ (fun K hK => ?_) AllReadyH.nil)
          rotate_left 1
          · (simp only [List.getElem?_toArray, List.getElem?_cons_succ, List.getElem?_cons_zero]; exact rfl)
          (go_simp; (go_at_call 18; refine (CT.out _ _ HWd.out).mono ?_; rintro e w6 ⟨rfl, h6⟩; have H6 := Asd.mk h6; clear h6))
          refine hK.out _ _ (by exact H6.out.cell) (fun hHeld => ?_)
          clear hK K
          try simp only [Act.put, List.setIfInBounds_toArray, List.set_cons_zero, List.set_cons_succ]
          refine wpAnyH_ready (rs := [7]) (by kernel_rfl) (by simp) (AllReadyH.cons (o := ?_) ?_ (fun K hK => ?_) AllReadyH.nil)
          rotate_left 1
          · (simp only [List.getElem?_toArray, List.getElem?_cons_succ, List.getElem?_cons_zero]; exact rfl)
          (go_simp; (go_at_call 26; refine (CM.out _ _ H6.out).mono ?_; rintro e w7 ⟨rfl, h7⟩; have H7 := Asd.mk h7; clear h7))
          refine hK.out _ _ (by exact H7.out.cell) (fun hHeld => ?_)
          clear hK K
          try simp only [Act.put, List.setIfInBounds_toArray, List.set_cons_zero, List.set_cons_succ]
          refine wpAnyH_take (i := 8) (oi := ?_) (v := ?_) ?_ (by kernel_rfl) (by kernel_rfl) (by kernel_rfl) ?_ (Or.inl ⟨?_, ?_⟩) (by assumption) ?_
          rotate_left 2
          · (simp only [List.getElem?_toArray, List.getElem?_cons_succ, List.getElem?_cons_zero]; exact rfl)
          · exact (fun _ _ _ h => h)
          · rfl
          · (intro w hSw; (try dsimp only at hSw); go_simp; (try with_reducible rfl))
          try simp only [Act.put, List.setIfInBounds_toArray, List.set_cons_zero, List.set_cons_succ]
          refine wpAnyH_take (i := 9) (oi := ?_) (v := ?_) ?_ (by kernel_rfl) (by kernel_rfl) (by kernel_rfl) ?_ (Or.inl ⟨?_, ?_⟩) (by assumption) ?_
          rotate_left 2
          · (simp only [List.getElem?_toArray, List.getElem?_cons_succ, List.getElem?_cons_zero]; exact rfl)
          · exact (fun _ _ _ h => h)
          · rfl
          · (intro w hSw; (try dsimp only at hSw); go_simp; (try with_reducible rfl))
          try simp only [Act.put, List.setIfInBounds_toArray, List.set_cons_zero, List.set_cons_succ]
          refine wpAnyH_done (by kernel_rfl) ?_ _
          go_wp2
          go_meet
          exact ⟨rfl, _, _, ⟨(HG.out.leave id).mono (Nat.le_succ _)⟩, HE, H7⟩
        · obtain ⟨bb, hbb⟩ : ∃ bb, bb = sets s id r := ⟨_, rfl⟩
          have CT : Asd (∀ W sm1, Two w wr.heap.size ⟨k, id, r⟩ W t m s sm1 → Calls Try.prog 19 #[.pointer (some ⟨t, 0, none⟩), .int .i64 id, .int .i64 r] W fun e w' => e = .returned (.bool bb) ∧ Two w wr.heap.size ⟨k, id, r⟩ w' t m (setRole s id r) sm1) := ⟨fun W sm1 h => by rw [hbb]; exact h.turnT (fun F h => set_calls h id r HID.out hql hrl)⟩
          have CM : Asd (∀ W s1, Two w wr.heap.size ⟨k, id, r⟩ W t m s1 sm → Calls Try.prog 27 #[.pointer (some ⟨m, 0, none⟩), .int .i64 id, .int .i64 r] W fun e w' => e = .returned (.bool bb) ∧ Two w wr.heap.size ⟨k, id, r⟩ w' t m s1 (msetRole sm id r)) := ⟨fun W s1 h => by rw [hbb, HS.out.sets]; exact h.turnM (fun F h => mset_calls h id r HID.out hqm hrm')⟩
          have HE : Asd (Same (setRole s id r) (msetRole sm id r)) := ⟨HS.out.setRole HG.out id r⟩
          clear hbb
          go_wp2
          refine wp_region_held_drew (S := fun W => W.cell? ⟨wr.heap.size, 1, none⟩ = some (.int .i64 id)) (by kernel_rfl) (by exact HW.out.cell) (fun hHeld => ?_)
          have HWd := Asd.mk HW.out.drew
          refine wpAnyH_take (i := 0) (oi := ?_) (v := ?_) ?_ (by kernel_rfl) (by kernel_rfl) (by kernel_rfl) ?_ (Or.inl ⟨?_, ?_⟩) (by assumption) ?_
          rotate_left 2
          · (simp only [List.getElem?_toArray, List.getElem?_cons_succ, List.getElem?_cons_zero]; exact rfl)
          · exact (fun _ _ _ h => h)
          · rfl
          · (intro w hSw; (try dsimp only at hSw); go_simp; (try with_reducible rfl))
          try simp only [Act.put, List.setIfInBounds_toArray, List.set_cons_zero, List.set_cons_succ]
          refine wpAnyH_take (i := 1) (oi := ?_) (v := ?_) ?_ (by kernel_rfl) (by kernel_rfl) (by kernel_rfl) ?_ (Or.inl ⟨?_, ?_⟩) (by assumption) ?_
          rotate_left 2
          · (simp only [List.getElem?_toArray, List.getElem?_cons_succ, List.getElem?_cons_zero]; exact rfl)
          · exact (fun _ _ _ h => h)
          · rfl
          · (intro w hSw; (try dsimp only at hSw); go_simp; (try with_reducible rfl))
          try simp only [Act.put, List.setIfInBounds_toArray, List.set_cons_zero, List.set_cons_succ]
          refine wpAnyH_take (i := 2) (oi := ?_) (v := ?_) ?_ (by kernel_rfl) (by kernel_rfl) (by kernel_rfl) ?_ (Or.inl ⟨?_, ?_⟩) (by assumption) ?_
          rotate_left 2
          · (simp only [List.getElem?_toArray, List.getElem?_cons_succ, List.getElem?_cons_zero]; exact rfl)
          · exact (fun _ _ _ h => h)
          · rfl
          · (intro w hSw; (try dsimp only at hSw); go_simp; (try with_reducible rfl))
          try simp only [Act.put, List.setIfInBounds_toArray, List.set_cons_zero, List.set_cons_succ]
          refine wpAnyH_take (i := 3) (oi := ?_) (v := ?_) ?_ (by kernel_rfl) (by kernel_rfl) (by kernel_rfl) ?_ (Or.inl ⟨?_, ?_⟩) (by assumption) ?_
          rotate_left 2
          · (simp only [List.getElem?_toArray, List.getElem?_cons_succ, List.getElem?_cons_zero]; exact rfl)
          · exact (fun _ _ _ h => h)
          · rfl
          · (intro w hSw; (try dsimp only at hSw); go_simp; (try with_reducible rfl))
          try simp only [Act.put, List.setIfInBounds_toArray, List.set_cons_zero, List.set_cons_succ]
          refine wpAnyH_take (i := 5) (oi := ?_) (v := ?_) ?_ (by kernel_rfl) (by kernel_rfl) (by kernel_rfl) ?_ (Or.inl ⟨?_, ?_⟩) (by assumption) ?_
          rotate_left 2
          · (simp only [List.getElem?_toArray, List.getElem?_cons_succ, List.getElem?_cons_zero]; exact rfl)
          · exact (fun _ _ _ h => h)
          · rfl
          · (intro w hSw; (try dsimp only at hSw); go_simp; (try with_reducible rfl))
          try simp only [Act.put, List.setIfInBounds_toArray, List.set_cons_zero, List.set_cons_succ]
          refine wpAnyH_take (i := 6) (oi := ?_) (v := ?_) ?_ (by kernel_rfl) (by kernel_rfl) (by kernel_rfl) ?_ (Or.inl ⟨?_, ?_⟩) (by assumption) ?_
          rotate_left 2
          · (simp only [List.getElem?_toArray, List.getElem?_cons_succ, List.getElem?_cons_zero]; exact rfl)
          · exact (fun _ _ _ h => h)
          · rfl
          · (intro w hSw; (try dsimp only at hSw); go_simp; (try with_reducible rfl))
          try simp only [Act.put, List.setIfInBounds_toArray, List.set_cons_zero, List.set_cons_succ]
          refine wpAnyH_take (i := 7) (oi := ?_) (v := ?_) ?_ (by kernel_rfl) (by kernel_rfl) (by kernel_rfl) ?_ (Or.inl ⟨?_, ?_⟩) (by assumption) ?_
          rotate_left 2
          · (simp only [List.getElem?_toArray, List.getElem?_cons_succ, List.getElem?_cons_zero]; exact rfl)
          · exact (fun _ _ _ h => h)
          · rfl
          · (intro w hSw; (try dsimp only at hSw); go_simp; (try with_reducible rfl))
          try simp only [Act.put, List.setIfInBounds_toArray, List.set_cons_zero, List.set_cons_succ]
          refine wpAnyH_take (i := 8) (oi := ?_) (v := ?_) ?_ (by kernel_rfl) (by kernel_rfl) (by kernel_rfl) ?_ (Or.inl ⟨?_, ?_⟩) (by assumption) ?_
          rotate_left 2
          · (simp only [List.getElem?_toArray, List.getElem?_cons_succ, List.getElem?_cons_zero]; exact rfl)
          · exact (fun _ _ _ h => h)
          · rfl
          · (intro w hSw; (try dsimp only at hSw); go_simp; (try with_reducible rfl))
          try simp only [Act.put, List.setIfInBounds_toArray, List.set_cons_zero, List.set_cons_succ]
          refine wpAnyH_ready (rs := [4]) (by kernel_rfl) (by simp) (AllReadyH.cons (o := ?_) ?_ (fun K hK => ?_) AllReadyH.nil)
          rotate_left 1
          · (simp only [List.getElem?_toArray, List.getElem?_cons_succ, List.getElem?_cons_zero]; exact rfl)
          (go_simp; (go_at_call 19; refine (CT.out _ _ HWd.out).mono ?_; rintro e w6 ⟨rfl, h6⟩; have H6 := Asd.mk h6; clear h6))
          refine hK.out _ _ (by exact H6.out.cell) (fun hHeld => ?_)
          clear hK K
          try simp only [Act.put, List.setIfInBounds_toArray, List.set_cons_zero, List.set_cons_succ]
          refine wpAnyH_ready (rs := [9]) (by kernel_rfl) (by simp) (AllReadyH.cons (o := ?_) ?_ (fun K hK => ?_) AllReadyH.nil)
          rotate_left 1
          · (simp only [List.getElem?_toArray, List.getElem?_cons_succ, List.getElem?_cons_zero]; exact rfl)
          (go_simp; (go_at_call 27; refine (CM.out _ _ H6.out).mono ?_; rintro e w7 ⟨rfl, h7⟩; have H7 := Asd.mk h7; clear h7))
          refine hK.out _ _ (by exact H7.out.cell) (fun hHeld => ?_)
          clear hK K
          try simp only [Act.put, List.setIfInBounds_toArray, List.set_cons_zero, List.set_cons_succ]
          refine wpAnyH_take (i := 10) (oi := ?_) (v := ?_) ?_ (by kernel_rfl) (by kernel_rfl) (by kernel_rfl) ?_ (Or.inl ⟨?_, ?_⟩) (by assumption) ?_
          rotate_left 2
          · (simp only [List.getElem?_toArray, List.getElem?_cons_succ, List.getElem?_cons_zero]; exact rfl)
          · exact (fun _ _ _ h => h)
          · rfl
          · (intro w hSw; (try dsimp only at hSw); go_simp; (try with_reducible rfl))
          try simp only [Act.put, List.setIfInBounds_toArray, List.set_cons_zero, List.set_cons_succ]
          refine wpAnyH_take (i := 11) (oi := ?_) (v := ?_) ?_ (by kernel_rfl) (by kernel_rfl) (by kernel_rfl) ?_ (Or.inl ⟨?_, ?_⟩) (by assumption) ?_
          rotate_left 2
          · (simp only [List.getElem?_toArray, List.getElem?_cons_succ, List.getElem?_cons_zero]; exact rfl)
          · exact (fun _ _ _ h => h)
          · rfl
          · (intro w hSw; (try dsimp only at hSw); go_simp; (try with_reducible rfl))
          try simp only [Act.put, List.setIfInBounds_toArray, List.set_cons_zero, List.set_cons_succ]
          refine wpAnyH_done (by kernel_rfl) ?_ _
          go_wp2
          go_meet
          exact ⟨rfl, _, _, ⟨HG.out.setRole id r⟩, HE, H7⟩
        · obtain ⟨bb, hbb⟩ : ∃ bb, bb = asks s id := ⟨_, rfl⟩
          have CT : Asd (∀ W sm1, Two w wr.heap.size ⟨k, id, r⟩ W t m s sm1 → Calls Try.prog 13 #[.pointer (some ⟨t, 0, none⟩), .int .i64 id] W fun e w' => e = .returned (.int .i64 bb) ∧ Two w wr.heap.size ⟨k, id, r⟩ w' t m (ask s id) sm1) := ⟨fun W sm1 h => by rw [hbb]; exact h.turnT (fun F h => ask_calls h id HID.out hql)⟩
          have CM : Asd (∀ W s1, Two w wr.heap.size ⟨k, id, r⟩ W t m s1 sm → Calls Try.prog 28 #[.pointer (some ⟨m, 0, none⟩), .int .i64 id] W fun e w' => e = .returned (.int .i64 bb) ∧ Two w wr.heap.size ⟨k, id, r⟩ w' t m s1 (mask sm id)) := ⟨fun W s1 h => by rw [hbb, HS.out.asks HG.out]; exact h.turnM (fun F h => mask_calls h id HID.out hqm)⟩
          have HE : Asd (Same (ask s id) (mask sm id)) := ⟨HS.out.ask HG.out id⟩
          clear hbb
          go_wp2
          refine wp_region_held_drew (S := fun W => W.cell? ⟨wr.heap.size, 1, none⟩ = some (.int .i64 id)) (by kernel_rfl) (by exact HW.out.cell) (fun hHeld => ?_)
          have HWd := Asd.mk HW.out.drew
          refine wpAnyH_take (i := 0) (oi := ?_) (v := ?_) ?_ (by kernel_rfl) (by kernel_rfl) (by kernel_rfl) ?_ (Or.inl ⟨?_, ?_⟩) (by assumption) ?_
          rotate_left 2
          · (simp only [List.getElem?_toArray, List.getElem?_cons_succ, List.getElem?_cons_zero]; exact rfl)
          · exact (fun _ _ _ h => h)
          · rfl
          · (intro w hSw; (try dsimp only at hSw); go_simp; (try with_reducible rfl))
          try simp only [Act.put, List.setIfInBounds_toArray, List.set_cons_zero, List.set_cons_succ]
          refine wpAnyH_take (i := 1) (oi := ?_) (v := ?_) ?_ (by kernel_rfl) (by kernel_rfl) (by kernel_rfl) ?_ (Or.inl ⟨?_, ?_⟩) (by assumption) ?_
          rotate_left 2
          · (simp only [List.getElem?_toArray, List.getElem?_cons_succ, List.getElem?_cons_zero]; exact rfl)
          · exact (fun _ _ _ h => h)
          · rfl
          · (intro w hSw; (try dsimp only at hSw); go_simp; (try with_reducible rfl))
          try simp only [Act.put, List.setIfInBounds_toArray, List.set_cons_zero, List.set_cons_succ]
          refine wpAnyH_take (i := 2) (oi := ?_) (v := ?_) ?_ (by kernel_rfl) (by kernel_rfl) (by kernel_rfl) ?_ (Or.inl ⟨?_, ?_⟩) (by assumption) ?_
          rotate_left 2
          · (simp only [List.getElem?_toArray, List.getElem?_cons_succ, List.getElem?_cons_zero]; exact rfl)
          · exact (fun _ _ _ h => h)
          · rfl
          · (intro w hSw; (try dsimp only at hSw); go_simp; (try with_reducible rfl))
          try simp only [Act.put, List.setIfInBounds_toArray, List.set_cons_zero, List.set_cons_succ]
          refine wpAnyH_take (i := 4) (oi := ?_) (v := ?_) ?_ (by kernel_rfl) (by kernel_rfl) (by kernel_rfl) ?_ (Or.inl ⟨?_, ?_⟩) (by assumption) ?_
          rotate_left 2
          · (simp only [List.getElem?_toArray, List.getElem?_cons_succ, List.getElem?_cons_zero]; exact rfl)
          · exact (fun _ _ _ h => h)
          · rfl
          · (intro w hSw; (try dsimp only at hSw); go_simp; (try with_reducible rfl))
          try simp only [Act.put, List.setIfInBounds_toArray, List.set_cons_zero, List.set_cons_succ]
          refine wpAnyH_take (i := 5) (oi := ?_) (v := ?_) ?_ (by kernel_rfl) (by kernel_rfl) (by kernel_rfl) ?_ (Or.inl ⟨?_, ?_⟩) (by assumption) ?_
          rotate_left 2
          · (simp only [List.getElem?_toArray, List.getElem?_cons_succ, List.getElem?_cons_zero]; exact rfl)
          · exact (fun _ _ _ h => h)
          · rfl
          · (intro w hSw; (try dsimp only at hSw); go_simp; (try with_reducible rfl))
          try simp only [Act.put, List.setIfInBounds_toArray, List.set_cons_zero, List.set_cons_succ]
          refine wpAnyH_take (i := 6) (oi := ?_) (v := ?_) ?_ (by kernel_rfl) (by kernel_rfl) (by kernel_rfl) ?_ (Or.inl ⟨?_, ?_⟩) (by assumption) ?_
          rotate_left 2
          · (simp only [List.getElem?_toArray, List.getElem?_cons_succ, List.getElem?_cons_zero]; exact rfl)
          · exact (fun _ _ _ h => h)
          · rfl
          · (intro w hSw; (try dsimp only at hSw); go_simp; (try with_reducible rfl))
          try simp only [Act.put, List.setIfInBounds_toArray, List.set_cons_zero, List.set_cons_succ]
          refine wpAnyH_ready (rs := [3]) (by kernel_rfl) (by simp) (AllReadyH.cons (o := ?_) ?_ (fun K hK => ?_) AllReadyH.nil)
          rotate_left 1
          · (simp only [List.getElem?_toArray, List.getElem?_cons_succ, List.getElem?_cons_zero]; exact rfl)
          (go_simp; (go_at_call 13; refine (CT.out _ _ HWd.out).mono ?_; rintro e w6 ⟨rfl, h6⟩; have H6 := Asd.mk h6; clear h6))
          refine hK.out _ _ (by exact H6.out.cell) (fun hHeld => ?_)
          clear hK K
          try simp only [Act.put, List.setIfInBounds_toArray, List.set_cons_zero, List.set_cons_succ]
          refine wpAnyH_ready (rs := [7]) (by kernel_rfl) (by simp) (AllReadyH.cons (o := ?_) ?_ (fun K hK => ?_) AllReadyH.nil)
          rotate_left 1
          · (simp only [List.getElem?_toArray, List.getElem?_cons_succ, List.getElem?_cons_zero]; exact rfl)
          (go_simp; (go_at_call 28; refine (CM.out _ _ H6.out).mono ?_; rintro e w7 ⟨rfl, h7⟩; have H7 := Asd.mk h7; clear h7))
          refine hK.out _ _ (by exact H7.out.cell) (fun hHeld => ?_)
          clear hK K
          try simp only [Act.put, List.setIfInBounds_toArray, List.set_cons_zero, List.set_cons_succ]
          refine wpAnyH_take (i := 8) (oi := ?_) (v := ?_) ?_ (by kernel_rfl) (by kernel_rfl) (by kernel_rfl) ?_ (Or.inl ⟨?_, ?_⟩) (by assumption) ?_
          rotate_left 2
          · (simp only [List.getElem?_toArray, List.getElem?_cons_succ, List.getElem?_cons_zero]; exact rfl)
          · exact (fun _ _ _ h => h)
          · rfl
          · (intro w hSw; (try dsimp only at hSw); go_simp; (try with_reducible rfl))
          try simp only [Act.put, List.setIfInBounds_toArray, List.set_cons_zero, List.set_cons_succ]
          refine wpAnyH_take (i := 9) (oi := ?_) (v := ?_) ?_ (by kernel_rfl) (by kernel_rfl) (by kernel_rfl) ?_ (Or.inl ⟨?_, ?_⟩) (by assumption) ?_
          rotate_left 2
          · (simp only [List.getElem?_toArray, List.getElem?_cons_succ, List.getElem?_cons_zero]; exact rfl)
          · exact (fun _ _ _ h => h)
          · rfl
          · (intro w hSw; (try dsimp only at hSw); go_simp; (try with_reducible rfl))
          try simp only [Act.put, List.setIfInBounds_toArray, List.set_cons_zero, List.set_cons_succ]
          refine wpAnyH_done (by kernel_rfl) ?_ _
          go_wp2
          go_meet
          exact ⟨rfl, _, _, ⟨HG.out.ask id⟩, HE, H7⟩
        · obtain ⟨bb, hbb⟩ : ∃ bb, bb = asks s id := ⟨_, rfl⟩
          have CT : Asd (∀ W sm1, Two w wr.heap.size ⟨k, id, r⟩ W t m s sm1 → Calls Try.prog 13 #[.pointer (some ⟨t, 0, none⟩), .int .i64 id] W fun e w' => e = .returned (.int .i64 bb) ∧ Two w wr.heap.size ⟨k, id, r⟩ w' t m (ask s id) sm1) := ⟨fun W sm1 h => by rw [hbb]; exact h.turnT (fun F h => ask_calls h id HID.out hql)⟩
          have CM : Asd (∀ W s1, Two w wr.heap.size ⟨k, id, r⟩ W t m s1 sm → Calls Try.prog 28 #[.pointer (some ⟨m, 0, none⟩), .int .i64 id] W fun e w' => e = .returned (.int .i64 bb) ∧ Two w wr.heap.size ⟨k, id, r⟩ w' t m s1 (mask sm id)) := ⟨fun W s1 h => by rw [hbb, HS.out.asks HG.out]; exact h.turnM (fun F h => mask_calls h id HID.out hqm)⟩
          have HE : Asd (Same (ask s id) (mask sm id)) := ⟨HS.out.ask HG.out id⟩
          clear hbb
          go_wp2
          refine wp_region_held_drew (S := fun W => W.cell? ⟨wr.heap.size, 1, none⟩ = some (.int .i64 id)) (by kernel_rfl) (by exact HW.out.cell) (fun hHeld => ?_)
          have HWd := Asd.mk HW.out.drew
          refine wpAnyH_take (i := 0) (oi := ?_) (v := ?_) ?_ (by kernel_rfl) (by kernel_rfl) (by kernel_rfl) ?_ (Or.inl ⟨?_, ?_⟩) (by assumption) ?_
          rotate_left 2
          · (simp only [List.getElem?_toArray, List.getElem?_cons_succ, List.getElem?_cons_zero]; exact rfl)
          · exact (fun _ _ _ h => h)
          · rfl
          · (intro w hSw; (try dsimp only at hSw); go_simp; (try with_reducible rfl))
          try simp only [Act.put, List.setIfInBounds_toArray, List.set_cons_zero, List.set_cons_succ]
          refine wpAnyH_take (i := 1) (oi := ?_) (v := ?_) ?_ (by kernel_rfl) (by kernel_rfl) (by kernel_rfl) ?_ (Or.inl ⟨?_, ?_⟩) (by assumption) ?_
          rotate_left 2
          · (simp only [List.getElem?_toArray, List.getElem?_cons_succ, List.getElem?_cons_zero]; exact rfl)
          · exact (fun _ _ _ h => h)
          · rfl
          · (intro w hSw; (try dsimp only at hSw); go_simp; (try with_reducible rfl))
          try simp only [Act.put, List.setIfInBounds_toArray, List.set_cons_zero, List.set_cons_succ]
          refine wpAnyH_take (i := 2) (oi := ?_) (v := ?_) ?_ (by kernel_rfl) (by kernel_rfl) (by kernel_rfl) ?_ (Or.inl ⟨?_, ?_⟩) (by assumption) ?_
          rotate_left 2
          · (simp only [List.getElem?_toArray, List.getElem?_cons_succ, List.getElem?_cons_zero]; exact rfl)
          · exact (fun _ _ _ h => h)
          · rfl
          · (intro w hSw; (try dsimp only at hSw); go_simp; (try with_reducible rfl))
          try simp only [Act.put, List.setIfInBounds_toArray, List.set_cons_zero, List.set_cons_succ]
          refine wpAnyH_take (i := 4) (oi := ?_) (v := ?_) ?_ (by kernel_rfl) (by kernel_rfl) (by kernel_rfl) ?_ (Or.inl ⟨?_, ?_⟩) (by assumption) ?_
          rotate_left 2
          · (simp only [List.getElem?_toArray, List.getElem?_cons_succ, List.getElem?_cons_zero]; exact rfl)
          · exact (fun _ _ _ h => h)
          · rfl
          · (intro w hSw; (try dsimp only at hSw); go_simp; (try with_reducible rfl))
          try simp only [Act.put, List.setIfInBounds_toArray, List.set_cons_zero, List.set_cons_succ]
          refine wpAnyH_take (i := 5) (oi := ?_) (v := ?_) ?_ (by kernel_rfl) (by kernel_rfl) (by kernel_rfl) ?_ (Or.inl ⟨?_, ?_⟩) (by assumption) ?_
          rotate_left 2
          · (simp only [List.getElem?_toArray, List.getElem?_cons_succ, List.getElem?_cons_zero]; exact rfl)
          · exact (fun _ _ _ h => h)
          · rfl
          · (intro w hSw; (try dsimp only at hSw); go_simp; (try with_reducible rfl))
          try simp only [Act.put, List.setIfInBounds_toArray, List.set_cons_zero, List.set_cons_succ]
          refine wpAnyH_take (i := 6) (oi := ?_) (v := ?_) ?_ (by kernel_rfl) (by kernel_rfl) (by kernel_rfl) ?_ (Or.inl ⟨?_, ?_⟩) (by assumption) ?_
          rotate_left 2
          · (simp only [List.getElem?_toArray, List.getElem?_cons_succ, List.getElem?_cons_zero]; exact rfl)
          · exact (fun _ _ _ h => h)
          · rfl
          · (intro w hSw; (try dsimp only at hSw); go_simp; (try with_reducible rfl))
          try simp only [Act.put, List.setIfInBounds_toArray, List.set_cons_zero, List.set_cons_succ]
          refine wpAnyH_ready (rs := [3]) (by kernel_rfl) (by simp) (AllReadyH.cons (o := ?_) ?_ (fun K hK => ?_) AllReadyH.nil)
          rotate_left 1
          · (simp only [List.getElem?_toArray, List.getElem?_cons_succ, List.getElem?_cons_zero]; exact rfl)
          (go_simp; (go_at_call 13; refine (CT.out _ _ HWd.out).mono ?_; rintro e w6 ⟨rfl, h6⟩; have H6 := Asd.mk h6; clear h6))
          refine hK.out _ _ (by exact H6.out.cell) (fun hHeld => ?_)
          clear hK K
          try simp only [Act.put, List.setIfInBounds_toArray, List.set_cons_zero, List.set_cons_succ]
          refine wpAnyH_ready (rs := [7]) (by kernel_rfl) (by simp) (AllReadyH.cons (o := ?_) ?_ (fun K hK => ?_) AllReadyH.nil)
          rotate_left 1
          · (simp only [List.getElem?_toArray, List.getElem?_cons_succ, List.getElem?_cons_zero]; exact rfl)
          (go_simp; (go_at_call 28; refine (CM.out _ _ H6.out).mono ?_; rintro e w7 ⟨rfl, h7⟩; have H7 := Asd.mk h7; clear h7))
          refine hK.out _ _ (by exact H7.out.cell) (fun hHeld => ?_)
          clear hK K
          try simp only [Act.put, List.setIfInBounds_toArray, List.set_cons_zero, List.set_cons_succ]
          refine wpAnyH_take (i := 8) (oi := ?_) (v := ?_) ?_ (by kernel_rfl) (by kernel_rfl) (by kernel_rfl) ?_ (Or.inl ⟨?_, ?_⟩) (by assumption) ?_
          rotate_left 2
          · (simp only [List.getElem?_toArray, List.getElem?_cons_succ, List.getElem?_cons_zero]; exact rfl)
          · exact (fun _ _ _ h => h)
          · rfl
          · (intro w hSw; (try dsimp only at hSw); go_simp; (try with_reducible rfl))
          try simp only [Act.put, List.setIfInBounds_toArray, List.set_cons_zero, List.set_cons_succ]
          refine wpAnyH_take (i := 9) (oi := ?_) (v := ?_) ?_ (by kernel_rfl) (by kernel_rfl) (by kernel_rfl) ?_ (Or.inl ⟨?_, ?_⟩) (by assumption) ?_
          rotate_left 2
          · (simp only [List.getElem?_toArray, List.getElem?_cons_succ, List.getElem?_cons_zero]; exact rfl)
          · exact (fun _ _ _ h => h)
          · rfl
          · (intro w hSw; (try dsimp only at hSw); go_simp; (try with_reducible rfl))
          try simp only [Act.put, List.setIfInBounds_toArray, List.set_cons_zero, List.set_cons_succ]
          refine wpAnyH_done (by kernel_rfl) ?_ _
          go_wp2
          go_meet
          exact ⟨rfl, _, _, ⟨HG.out.ask id⟩, HE, H7⟩
        · obtain ⟨bb, hbb⟩ : ∃ bb, bb = asks s id := ⟨_, rfl⟩
          have CT : Asd (∀ W sm1, Two w wr.heap.size ⟨k, id, r⟩ W t m s sm1 → Calls Try.prog 13 #[.pointer (some ⟨t, 0, none⟩), .int .i64 id] W fun e w' => e = .returned (.int .i64 bb) ∧ Two w wr.heap.size ⟨k, id, r⟩ w' t m (ask s id) sm1) := ⟨fun W sm1 h => by rw [hbb]; exact h.turnT (fun F h => ask_calls h id HID.out hql)⟩
          have CM : Asd (∀ W s1, Two w wr.heap.size ⟨k, id, r⟩ W t m s1 sm → Calls Try.prog 28 #[.pointer (some ⟨m, 0, none⟩), .int .i64 id] W fun e w' => e = .returned (.int .i64 bb) ∧ Two w wr.heap.size ⟨k, id, r⟩ w' t m s1 (mask sm id)) := ⟨fun W s1 h => by rw [hbb, HS.out.asks HG.out]; exact h.turnM (fun F h => mask_calls h id HID.out hqm)⟩
          have HE : Asd (Same (ask s id) (mask sm id)) := ⟨HS.out.ask HG.out id⟩
          clear hbb
          go_wp2
          refine wp_region_held_drew (S := fun W => W.cell? ⟨wr.heap.size, 1, none⟩ = some (.int .i64 id)) (by kernel_rfl) (by exact HW.out.cell) (fun hHeld => ?_)
          have HWd := Asd.mk HW.out.drew
          refine wpAnyH_take (i := 0) (oi := ?_) (v := ?_) ?_ (by kernel_rfl) (by kernel_rfl) (by kernel_rfl) ?_ (Or.inl ⟨?_, ?_⟩) (by assumption) ?_
          rotate_left 2
          · (simp only [List.getElem?_toArray, List.getElem?_cons_succ, List.getElem?_cons_zero]; exact rfl)
          · exact (fun _ _ _ h => h)
          · rfl
          · (intro w hSw; (try dsimp only at hSw); go_simp; (try with_reducible rfl))
          try simp only [Act.put, List.setIfInBounds_toArray, List.set_cons_zero, List.set_cons_succ]
          refine wpAnyH_take (i := 1) (oi := ?_) (v := ?_) ?_ (by kernel_rfl) (by kernel_rfl) (by kernel_rfl) ?_ (Or.inl ⟨?_, ?_⟩) (by assumption) ?_
          rotate_left 2
          · (simp only [List.getElem?_toArray, List.getElem?_cons_succ, List.getElem?_cons_zero]; exact rfl)
          · exact (fun _ _ _ h => h)
          · rfl
          · (intro w hSw; (try dsimp only at hSw); go_simp; (try with_reducible rfl))
          try simp only [Act.put, List.setIfInBounds_toArray, List.set_cons_zero, List.set_cons_succ]
          refine wpAnyH_take (i := 2) (oi := ?_) (v := ?_) ?_ (by kernel_rfl) (by kernel_rfl) (by kernel_rfl) ?_ (Or.inl ⟨?_, ?_⟩) (by assumption) ?_
          rotate_left 2
          · (simp only [List.getElem?_toArray, List.getElem?_cons_succ, List.getElem?_cons_zero]; exact rfl)
          · exact (fun _ _ _ h => h)
          · rfl
          · (intro w hSw; (try dsimp only at hSw); go_simp; (try with_reducible rfl))
          try simp only [Act.put, List.setIfInBounds_toArray, List.set_cons_zero, List.set_cons_succ]
          refine wpAnyH_take (i := 4) (oi := ?_) (v := ?_) ?_ (by kernel_rfl) (by kernel_rfl) (by kernel_rfl) ?_ (Or.inl ⟨?_, ?_⟩) (by assumption) ?_
          rotate_left 2
          · (simp only [List.getElem?_toArray, List.getElem?_cons_succ, List.getElem?_cons_zero]; exact rfl)
          · exact (fun _ _ _ h => h)
          · rfl
          · (intro w hSw; (try dsimp only at hSw); go_simp; (try with_reducible rfl))
          try simp only [Act.put, List.setIfInBounds_toArray, List.set_cons_zero, List.set_cons_succ]
          refine wpAnyH_take (i := 5) (oi := ?_) (v := ?_) ?_ (by kernel_rfl) (by kernel_rfl) (by kernel_rfl) ?_ (Or.inl ⟨?_, ?_⟩) (by assumption) ?_
          rotate_left 2
          · (simp only [List.getElem?_toArray, List.getElem?_cons_succ, List.getElem?_cons_zero]; exact rfl)
          · exact (fun _ _ _ h => h)
          · rfl
          · (intro w hSw; (try dsimp only at hSw); go_simp; (try with_reducible rfl))
          try simp only [Act.put, List.setIfInBounds_toArray, List.set_cons_zero, List.set_cons_succ]
          refine wpAnyH_take (i := 6) (oi := ?_) (v := ?_) ?_ (by kernel_rfl) (by kernel_rfl) (by kernel_rfl) ?_ (Or.inl ⟨?_, ?_⟩) (by assumption) ?_
          rotate_left 2
          · (simp only [List.getElem?_toArray, List.getElem?_cons_succ, List.getElem?_cons_zero]; exact rfl)
          · exact (fun _ _ _ h => h)
          · rfl
          · (intro w hSw; (try dsimp only at hSw); go_simp; (try with_reducible rfl))
          try simp only [Act.put, List.setIfInBounds_toArray, List.set_cons_zero, List.set_cons_succ]
          refine wpAnyH_ready (rs := [3]) (by kernel_rfl) (by simp) (AllReadyH.cons (o := ?_) ?_ (fun K hK => ?_) AllReadyH.nil)
          rotate_left 1
          · (simp only [List.getElem?_toArray, List.getElem?_cons_succ, List.getElem?_cons_zero]; exact rfl)
          (go_simp; (go_at_call 13; refine (CT.out _ _ HWd.out).mono ?_; rintro e w6 ⟨rfl, h6⟩; have H6 := Asd.mk h6; clear h6))
          refine hK.out _ _ (by exact H6.out.cell) (fun hHeld => ?_)
          clear hK K
          try simp only [Act.put, List.setIfInBounds_toArray, List.set_cons_zero, List.set_cons_succ]
          refine wpAnyH_ready (rs := [7]) (by kernel_rfl) (by simp) (AllReadyH.cons (o := ?_) ?_ (fun K hK => ?_) AllReadyH.nil)
          rotate_left 1
          · (simp only [List.getElem?_toArray, List.getElem?_cons_succ, List.getElem?_cons_zero]; exact rfl)
          (go_simp; (go_at_call 28; refine (CM.out _ _ H6.out).mono ?_; rintro e w7 ⟨rfl, h7⟩; have H7 := Asd.mk h7; clear h7))
          refine hK.out _ _ (by exact H7.out.cell) (fun hHeld => ?_)
          clear hK K
          try simp only [Act.put, List.setIfInBounds_toArray, List.set_cons_zero, List.set_cons_succ]
          refine wpAnyH_take (i := 8) (oi := ?_) (v := ?_) ?_ (by kernel_rfl) (by kernel_rfl) (by kernel_rfl) ?_ (Or.inl ⟨?_, ?_⟩) (by assumption) ?_
          rotate_left 2
          · (simp only [List.getElem?_toArray, List.getElem?_cons_succ, List.getElem?_cons_zero]; exact rfl)
          · exact (fun _ _ _ h => h)
          · rfl
          · (intro w hSw; (try dsimp only at hSw); go_simp; (try with_reducible rfl))
          try simp only [Act.put, List.setIfInBounds_toArray, List.set_cons_zero, List.set_cons_succ]
          refine wpAnyH_take (i := 9) (oi := ?_) (v := ?_) ?_ (by kernel_rfl) (by kernel_rfl) (by kernel_rfl) ?_ (Or.inl ⟨?_, ?_⟩) (by assumption) ?_
          rotate_left 2
          · (simp only [List.getElem?_toArray, List.getElem?_cons_succ, List.getElem?_cons_zero]; exact rfl)
          · exact (fun _ _ _ h => h)
          · rfl
          · (intro w hSw; (try dsimp only at hSw); go_simp; (try with_reducible rfl))
          try simp only [Act.put, List.setIfInBounds_toArray, List.set_cons_zero, List.set_cons_succ]
          refine wpAnyH_done (by kernel_rfl) ?_ _
          go_wp2
          go_meet
          exact ⟨rfl, _, _, ⟨HG.out.ask id⟩, HE, H7⟩
        · obtain ⟨bb, hbb⟩ : ∃ bb, bb = drops s id := ⟨_, rfl⟩
          have CT : Asd (∀ W sm1, Two w wr.heap.size ⟨k, id, r⟩ W t m s sm1 → Calls Try.prog 17 #[.pointer (some ⟨t, 0, none⟩), .int .i64 id] W fun e w' => e = .returned (.int .i64 bb) ∧ Two w wr.heap.size ⟨k, id, r⟩ w' t m (drop s id) sm1) := ⟨fun W sm1 h => by rw [hbb]; exact h.turnT (fun F h => drop_calls h id HID.out hql)⟩
          have CM : Asd (∀ W s1, Two w wr.heap.size ⟨k, id, r⟩ W t m s1 sm → Calls Try.prog 29 #[.pointer (some ⟨m, 0, none⟩), .int .i64 id] W fun e w' => e = .returned (.int .i64 bb) ∧ Two w wr.heap.size ⟨k, id, r⟩ w' t m s1 (mdrop sm id)) := ⟨fun W s1 h => by rw [hbb, HS.out.drops HG.out]; exact h.turnM (fun F h => mdrop_calls h id HID.out hqm)⟩
          have HE : Asd (Same (drop s id) (mdrop sm id)) := ⟨HS.out.drop HG.out id⟩
          clear hbb
          go_wp2
          refine wp_region_held_drew (S := fun W => W.cell? ⟨wr.heap.size, 1, none⟩ = some (.int .i64 id)) (by kernel_rfl) (by exact HW.out.cell) (fun hHeld => ?_)
          have HWd := Asd.mk HW.out.drew
          refine wpAnyH_take (i := 0) (oi := ?_) (v := ?_) ?_ (by kernel_rfl) (by kernel_rfl) (by kernel_rfl) ?_ (Or.inl ⟨?_, ?_⟩) (by assumption) ?_
          rotate_left 2
          · (simp only [List.getElem?_toArray, List.getElem?_cons_succ, List.getElem?_cons_zero]; exact rfl)
          · exact (fun _ _ _ h => h)
          · rfl
          · (intro w hSw; (try dsimp only at hSw); go_simp; (try with_reducible rfl))
          try simp only [Act.put, List.setIfInBounds_toArray, List.set_cons_zero, List.set_cons_succ]
          refine wpAnyH_take (i := 1) (oi := ?_) (v := ?_) ?_ (by kernel_rfl) (by kernel_rfl) (by kernel_rfl) ?_ (Or.inl ⟨?_, ?_⟩) (by assumption) ?_
          rotate_left 2
          · (simp only [List.getElem?_toArray, List.getElem?_cons_succ, List.getElem?_cons_zero]; exact rfl)
          · exact (fun _ _ _ h => h)
          · rfl
          · (intro w hSw; (try dsimp only at hSw); go_simp; (try with_reducible rfl))
          try simp only [Act.put, List.setIfInBounds_toArray, List.set_cons_zero, List.set_cons_succ]
          refine wpAnyH_take (i := 2) (oi := ?_) (v := ?_) ?_ (by kernel_rfl) (by kernel_rfl) (by kernel_rfl) ?_ (Or.inl ⟨?_, ?_⟩) (by assumption) ?_
          rotate_left 2
          · (simp only [List.getElem?_toArray, List.getElem?_cons_succ, List.getElem?_cons_zero]; exact rfl)
          · exact (fun _ _ _ h => h)
          · rfl
          · (intro w hSw; (try dsimp only at hSw); go_simp; (try with_reducible rfl))
          try simp only [Act.put, List.setIfInBounds_toArray, List.set_cons_zero, List.set_cons_succ]
          refine wpAnyH_take (i := 4) (oi := ?_) (v := ?_) ?_ (by kernel_rfl) (by kernel_rfl) (by kernel_rfl) ?_ (Or.inl ⟨?_, ?_⟩) (by assumption) ?_
          rotate_left 2
          · (simp only [List.getElem?_toArray, List.getElem?_cons_succ, List.getElem?_cons_zero]; exact rfl)
          · exact (fun _ _ _ h => h)
          · rfl
          · (intro w hSw; (try dsimp only at hSw); go_simp; (try with_reducible rfl))
          try simp only [Act.put, List.setIfInBounds_toArray, List.set_cons_zero, List.set_cons_succ]
          refine wpAnyH_take (i := 5) (oi := ?_) (v := ?_) ?_ (by kernel_rfl) (by kernel_rfl) (by kernel_rfl) ?_ (Or.inl ⟨?_, ?_⟩) (by assumption) ?_
          rotate_left 2
          · (simp only [List.getElem?_toArray, List.getElem?_cons_succ, List.getElem?_cons_zero]; exact rfl)
          · exact (fun _ _ _ h => h)
          · rfl
          · (intro w hSw; (try dsimp only at hSw); go_simp; (try with_reducible rfl))
          try simp only [Act.put, List.setIfInBounds_toArray, List.set_cons_zero, List.set_cons_succ]
          refine wpAnyH_take (i := 6) (oi := ?_) (v := ?_) ?_ (by kernel_rfl) (by kernel_rfl) (by kernel_rfl) ?_ (Or.inl ⟨?_, ?_⟩) (by assumption) ?_
          rotate_left 2
          · (simp only [List.getElem?_toArray, List.getElem?_cons_succ, List.getElem?_cons_zero]; exact rfl)
          · exact (fun _ _ _ h => h)
          · rfl
          · (intro w hSw; (try dsimp only at hSw); go_simp; (try with_reducible rfl))
          try simp only [Act.put, List.setIfInBounds_toArray, List.set_cons_zero, List.set_cons_succ]
          refine wpAnyH_ready (rs := [3]) (by kernel_rfl) (by simp) (AllReadyH.cons (o := ?_) ?_ (fun K hK => ?_) AllReadyH.nil)
          rotate_left 1
          · (simp only [List.getElem?_toArray, List.getElem?_cons_succ, List.getElem?_cons_zero]; exact rfl)
          (go_simp; (go_at_call 17; refine (CT.out _ _ HWd.out).mono ?_; rintro e w6 ⟨rfl, h6⟩; have H6 := Asd.mk h6; clear h6))
          refine hK.out _ _ (by exact H6.out.cell) (fun hHeld => ?_)
          clear hK K
          try simp only [Act.put, List.setIfInBounds_toArray, List.set_cons_zero, List.set_cons_succ]
          refine wpAnyH_ready (rs := [7]) (by kernel_rfl) (by simp) (AllReadyH.cons (o := ?_) ?_ (fun K hK => ?_) AllReadyH.nil)
          rotate_left 1
          · (simp only [List.getElem?_toArray, List.getElem?_cons_succ, List.getElem?_cons_zero]; exact rfl)
          (go_simp; (go_at_call 29; refine (CM.out _ _ H6.out).mono ?_; rintro e w7 ⟨rfl, h7⟩; have H7 := Asd.mk h7; clear h7))
          refine hK.out _ _ (by exact H7.out.cell) (fun hHeld => ?_)
          clear hK K
          try simp only [Act.put, List.setIfInBounds_toArray, List.set_cons_zero, List.set_cons_succ]
          refine wpAnyH_take (i := 8) (oi := ?_) (v := ?_) ?_ (by kernel_rfl) (by kernel_rfl) (by kernel_rfl) ?_ (Or.inl ⟨?_, ?_⟩) (by assumption) ?_
          rotate_left 2
          · (simp only [List.getElem?_toArray, List.getElem?_cons_succ, List.getElem?_cons_zero]; exact rfl)
          · exact (fun _ _ _ h => h)
          · rfl
          · (intro w hSw; (try dsimp only at hSw); go_simp; (try with_reducible rfl))
          try simp only [Act.put, List.setIfInBounds_toArray, List.set_cons_zero, List.set_cons_succ]
          refine wpAnyH_take (i := 9) (oi := ?_) (v := ?_) ?_ (by kernel_rfl) (by kernel_rfl) (by kernel_rfl) ?_ (Or.inl ⟨?_, ?_⟩) (by assumption) ?_
          rotate_left 2
          · (simp only [List.getElem?_toArray, List.getElem?_cons_succ, List.getElem?_cons_zero]; exact rfl)
          · exact (fun _ _ _ h => h)
          · rfl
          · (intro w hSw; (try dsimp only at hSw); go_simp; (try with_reducible rfl))
          try simp only [Act.put, List.setIfInBounds_toArray, List.set_cons_zero, List.set_cons_succ]
          refine wpAnyH_done (by kernel_rfl) ?_ _
          go_wp2
          go_meet
          exact ⟨rfl, _, _, ⟨(HG.out.drop id).mono (Nat.le_succ _)⟩, HE, H7⟩
        · obtain ⟨bb, hbb⟩ : ∃ bb, bb = may s id := ⟨_, rfl⟩
          have CT : Asd (∀ W sm1, Two w wr.heap.size ⟨k, id, r⟩ W t m s sm1 → Calls Try.prog 22 #[.pointer (some ⟨t, 0, none⟩), .int .i64 id] W fun e w' => e = .returned (.int .i64 bb) ∧ Two w wr.heap.size ⟨k, id, r⟩ w' t m (give s id) sm1) := ⟨fun W sm1 h => by rw [hbb]; exact h.turnT (fun F h => give_calls h id HID.out hql)⟩
          have CM : Asd (∀ W s1, Two w wr.heap.size ⟨k, id, r⟩ W t m s1 sm → Calls Try.prog 30 #[.pointer (some ⟨m, 0, none⟩), .int .i64 id] W fun e w' => e = .returned (.int .i64 bb) ∧ Two w wr.heap.size ⟨k, id, r⟩ w' t m s1 (mgive sm id)) := ⟨fun W s1 h => by rw [hbb, HS.out.gives HG.out]; exact h.turnM (fun F h => mgive_calls h id HID.out hqm)⟩
          have HE : Asd (Same (give s id) (mgive sm id)) := ⟨HS.out.give HG.out id⟩
          clear hbb
          go_wp2
          refine wp_region_held_drew (S := fun W => W.cell? ⟨wr.heap.size, 1, none⟩ = some (.int .i64 id)) (by kernel_rfl) (by exact HW.out.cell) (fun hHeld => ?_)
          have HWd := Asd.mk HW.out.drew
          refine wpAnyH_take (i := 0) (oi := ?_) (v := ?_) ?_ (by kernel_rfl) (by kernel_rfl) (by kernel_rfl) ?_ (Or.inl ⟨?_, ?_⟩) (by assumption) ?_
          rotate_left 2
          · (simp only [List.getElem?_toArray, List.getElem?_cons_succ, List.getElem?_cons_zero]; exact rfl)
          · exact (fun _ _ _ h => h)
          · rfl
          · (intro w hSw; (try dsimp only at hSw); go_simp; (try with_reducible rfl))
          try simp only [Act.put, List.setIfInBounds_toArray, List.set_cons_zero, List.set_cons_succ]
          refine wpAnyH_take (i := 1) (oi := ?_) (v := ?_) ?_ (by kernel_rfl) (by kernel_rfl) (by kernel_rfl) ?_ (Or.inl ⟨?_, ?_⟩) (by assumption) ?_
          rotate_left 2
          · (simp only [List.getElem?_toArray, List.getElem?_cons_succ, List.getElem?_cons_zero]; exact rfl)
          · exact (fun _ _ _ h => h)
          · rfl
          · (intro w hSw; (try dsimp only at hSw); go_simp; (try with_reducible rfl))
          try simp only [Act.put, List.setIfInBounds_toArray, List.set_cons_zero, List.set_cons_succ]
          refine wpAnyH_take (i := 2) (oi := ?_) (v := ?_) ?_ (by kernel_rfl) (by kernel_rfl) (by kernel_rfl) ?_ (Or.inl ⟨?_, ?_⟩) (by assumption) ?_
          rotate_left 2
          · (simp only [List.getElem?_toArray, List.getElem?_cons_succ, List.getElem?_cons_zero]; exact rfl)
          · exact (fun _ _ _ h => h)
          · rfl
          · (intro w hSw; (try dsimp only at hSw); go_simp; (try with_reducible rfl))
          try simp only [Act.put, List.setIfInBounds_toArray, List.set_cons_zero, List.set_cons_succ]
          refine wpAnyH_take (i := 4) (oi := ?_) (v := ?_) ?_ (by kernel_rfl) (by kernel_rfl) (by kernel_rfl) ?_ (Or.inl ⟨?_, ?_⟩) (by assumption) ?_
          rotate_left 2
          · (simp only [List.getElem?_toArray, List.getElem?_cons_succ, List.getElem?_cons_zero]; exact rfl)
          · exact (fun _ _ _ h => h)
          · rfl
          · (intro w hSw; (try dsimp only at hSw); go_simp; (try with_reducible rfl))
          try simp only [Act.put, List.setIfInBounds_toArray, List.set_cons_zero, List.set_cons_succ]
          refine wpAnyH_take (i := 5) (oi := ?_) (v := ?_) ?_ (by kernel_rfl) (by kernel_rfl) (by kernel_rfl) ?_ (Or.inl ⟨?_, ?_⟩) (by assumption) ?_
          rotate_left 2
          · (simp only [List.getElem?_toArray, List.getElem?_cons_succ, List.getElem?_cons_zero]; exact rfl)
          · exact (fun _ _ _ h => h)
          · rfl
          · (intro w hSw; (try dsimp only at hSw); go_simp; (try with_reducible rfl))
          try simp only [Act.put, List.setIfInBounds_toArray, List.set_cons_zero, List.set_cons_succ]
          refine wpAnyH_take (i := 6) (oi := ?_) (v := ?_) ?_ (by kernel_rfl) (by kernel_rfl) (by kernel_rfl) ?_ (Or.inl ⟨?_, ?_⟩) (by assumption) ?_
          rotate_left 2
          · (simp only [List.getElem?_toArray, List.getElem?_cons_succ, List.getElem?_cons_zero]; exact rfl)
          · exact (fun _ _ _ h => h)
          · rfl
          · (intro w hSw; (try dsimp only at hSw); go_simp; (try with_reducible rfl))
          try simp only [Act.put, List.setIfInBounds_toArray, List.set_cons_zero, List.set_cons_succ]
          refine wpAnyH_ready (rs := [3]) (by kernel_rfl) (by simp) (AllReadyH.cons (o := ?_) ?_ (fun K hK => ?_) AllReadyH.nil)
          rotate_left 1
          · (simp only [List.getElem?_toArray, List.getElem?_cons_succ, List.getElem?_cons_zero]; exact rfl)
          (go_simp; (go_at_call 22; refine (CT.out _ _ HWd.out).mono ?_; rintro e w6 ⟨rfl, h6⟩; have H6 := Asd.mk h6; clear h6))
          refine hK.out _ _ (by exact H6.out.cell) (fun hHeld => ?_)
          clear hK K
          try simp only [Act.put, List.setIfInBounds_toArray, List.set_cons_zero, List.set_cons_succ]
          refine wpAnyH_ready (rs := [7]) (by kernel_rfl) (by simp) (AllReadyH.cons (o := ?_) ?_ (fun K hK => ?_) AllReadyH.nil)
          rotate_left 1
          · (simp only [List.getElem?_toArray, List.getElem?_cons_succ, List.getElem?_cons_zero]; exact rfl)
          (go_simp; (go_at_call 30; refine (CM.out _ _ H6.out).mono ?_; rintro e w7 ⟨rfl, h7⟩; have H7 := Asd.mk h7; clear h7))
          refine hK.out _ _ (by exact H7.out.cell) (fun hHeld => ?_)
          clear hK K
          try simp only [Act.put, List.setIfInBounds_toArray, List.set_cons_zero, List.set_cons_succ]
          refine wpAnyH_take (i := 8) (oi := ?_) (v := ?_) ?_ (by kernel_rfl) (by kernel_rfl) (by kernel_rfl) ?_ (Or.inl ⟨?_, ?_⟩) (by assumption) ?_
          rotate_left 2
          · (simp only [List.getElem?_toArray, List.getElem?_cons_succ, List.getElem?_cons_zero]; exact rfl)
          · exact (fun _ _ _ h => h)
          · rfl
          · (intro w hSw; (try dsimp only at hSw); go_simp; (try with_reducible rfl))
          try simp only [Act.put, List.setIfInBounds_toArray, List.set_cons_zero, List.set_cons_succ]
          refine wpAnyH_take (i := 9) (oi := ?_) (v := ?_) ?_ (by kernel_rfl) (by kernel_rfl) (by kernel_rfl) ?_ (Or.inl ⟨?_, ?_⟩) (by assumption) ?_
          rotate_left 2
          · (simp only [List.getElem?_toArray, List.getElem?_cons_succ, List.getElem?_cons_zero]; exact rfl)
          · exact (fun _ _ _ h => h)
          · rfl
          · (intro w hSw; (try dsimp only at hSw); go_simp; (try with_reducible rfl))
          try simp only [Act.put, List.setIfInBounds_toArray, List.set_cons_zero, List.set_cons_succ]
          refine wpAnyH_done (by kernel_rfl) ?_ _
          go_wp2
          go_meet
          exact ⟨rfl, _, _, ⟨(HG.out.give id).mono (Nat.le_succ _)⟩, HE, H7⟩
        · obtain ⟨bb, hbb⟩ : ∃ bb, bb = revokes s := ⟨_, rfl⟩
          have CT : Asd (∀ W sm1, Two w wr.heap.size ⟨k, id, r⟩ W t m s sm1 → Calls Try.prog 20 #[.pointer (some ⟨t, 0, none⟩)] W fun e w' => e = .returned (.int .i64 bb) ∧ Two w wr.heap.size ⟨k, id, r⟩ w' t m (revoke s) sm1) := ⟨fun W sm1 h => by rw [hbb]; exact h.turnT (fun F h => revoke_calls h hql)⟩
          have CM : Asd (∀ W s1, Two w wr.heap.size ⟨k, id, r⟩ W t m s1 sm → Calls Try.prog 31 #[.pointer (some ⟨m, 0, none⟩)] W fun e w' => e = .returned (.int .i64 bb) ∧ Two w wr.heap.size ⟨k, id, r⟩ w' t m s1 (mrevoke sm)) := ⟨fun W s1 h => by rw [hbb, HS.out.revokes]; exact h.turnM (fun F h => mrevoke_calls h hqm)⟩
          have HE : Asd (Same (revoke s) (mrevoke sm)) := ⟨HS.out.revoke HG.out⟩
          clear hbb
          go_wp2_with fail
          refine (CT.out _ _ HW.out).mono ?_
          rintro e w6 ⟨rfl, h6⟩
          have H6 := Asd.mk h6
          clear h6 HW
          go_wp2_with fail
          refine (CM.out _ _ H6.out).mono ?_
          rintro e w7 ⟨rfl, h7⟩
          have H7 := Asd.mk h7
          clear h7
          go_wp2
          go_meet
          exact ⟨rfl, _, _, ⟨HG.out.revoke.mono (Nat.le_succ _)⟩, HE, H7⟩
        · go_wp2_with fail
          refine (HW.out.turnT (fun F h => tick_calls h hql hll)).mono ?_
          rintro e w6 ⟨rfl, h6⟩
          have H6 := Asd.mk h6
          clear h6 HW
          go_wp2_with fail
          refine (H6.out.turnM (fun F h => mtick_calls h hqm hlm)).mono ?_
          rintro e w7 ⟨rfl, h7⟩
          have H7 := Asd.mk h7
          clear h7
          have HE := Asd.mk (HS.out.tick HG.out)
          go_wp2
          go_meet
          exact ⟨rfl, _, _, ⟨HG.out.tick.mono (Nat.le_succ _)⟩, HE, H7⟩
        · go_wp2_with fail
          refine (HW.out.turnT (fun F h => tick_calls h hql hll)).mono ?_
          rintro e w6 ⟨rfl, h6⟩
          have H6 := Asd.mk h6
          clear h6 HW
          go_wp2_with fail
          refine (H6.out.turnM (fun F h => mtick_calls h hqm hlm)).mono ?_
          rintro e w7 ⟨rfl, h7⟩
          have H7 := Asd.mk h7
          clear h7
          have HE := Asd.mk (HS.out.tick HG.out)
          go_wp2
          go_meet
          exact ⟨rfl, _, _, ⟨HG.out.tick.mono (Nat.le_succ _)⟩, HE, H7⟩
        · go_wp2_with fail
          refine (HW.out.turnT (fun F h => tick_calls h hql hll)).mono ?_
          rintro e w6 ⟨rfl, h6⟩
          have H6 := Asd.mk h6
          clear h6 HW
          go_wp2_with fail
          refine (H6.out.turnM (fun F h => mtick_calls h hqm hlm)).mono ?_
          rintro e w7 ⟨rfl, h7⟩
          have H7 := Asd.mk h7
          clear h7
          have HE := Asd.mk (HS.out.tick HG.out)
          go_wp2
          go_meet
          exact ⟨rfl, _, _, ⟨HG.out.tick.mono (Nat.le_succ _)⟩, HE, H7⟩
        · go_wp2_with fail
          refine (HW.out.turnT (fun F h => tick_calls h hql hll)).mono ?_
          rintro e w6 ⟨rfl, h6⟩
          have H6 := Asd.mk h6
          clear h6 HW
          go_wp2_with fail
          refine (H6.out.turnM (fun F h => mtick_calls h hqm hlm)).mono ?_
          rintro e w7 ⟨rfl, h7⟩
          have H7 := Asd.mk h7
          clear h7
          have HE := Asd.mk (HS.out.tick HG.out)
          go_wp2
          go_meet
          exact ⟨rfl, _, _, ⟨HG.out.tick.mono (Nat.le_succ _)⟩, HE, H7⟩
        · go_wp2_with fail
          refine (HW.out.turnT (fun F h => tick_calls h hql hll)).mono ?_
          rintro e w6 ⟨rfl, h6⟩
          have H6 := Asd.mk h6
          clear h6 HW
          go_wp2_with fail
          refine (H6.out.turnM (fun F h => mtick_calls h hqm hlm)).mono ?_
          rintro e w7 ⟨rfl, h7⟩
          have H7 := Asd.mk h7
          clear h7
          have HE := Asd.mk (HS.out.tick HG.out)
          go_wp2
          go_meet
          exact ⟨rfl, _, _, ⟨HG.out.tick.mono (Nat.le_succ _)⟩, HE, H7⟩
        · go_wp2_with fail
          refine (HW.out.turnT (fun F h => tick_calls h hql hll)).mono ?_
          rintro e w6 ⟨rfl, h6⟩
          have H6 := Asd.mk h6
          clear h6 HW
          go_wp2_with fail
          refine (H6.out.turnM (fun F h => mtick_calls h hqm hlm)).mono ?_
          rintro e w7 ⟨rfl, h7⟩
          have H7 := Asd.mk h7
          clear h7
          have HE := Asd.mk (HS.out.tick HG.out)
          go_wp2
          go_meet
          exact ⟨rfl, _, _, ⟨HG.out.tick.mono (Nat.le_succ _)⟩, HE, H7⟩
      case rest =>
        obtain ⟨rfl, s2, sm2, HG2, HS2, HW2⟩ := hcut
        have HA2 := Asd.mk HW2.out.back
        have hA2 := HA2.out
        obtain ⟨F, Fm, ht, hm, hu, hf, hfm, hd⟩ := hA2
        have HT2 := Asd.mk ht
        have HM2 := Asd.mk hm
        have HQ2 : Asd ((s2.holder = 0 → s2.queue = []) ∧ s2.queue.length ≤ 1000 ∧ s2.roles.length ≤ 1000 ∧ ∀ x ∈ keys s2, idOk x) := ⟨by
          have hl := HG2.out.lens
          refine ⟨fun h => (HG2.out.free h).1, by omega, by omega, fun x hx => ?_⟩
          obtain ⟨p, hp, rfl⟩ := List.mem_map.1 hx
          have := HG2.out.ids p hp
          exact ⟨by omega, this.2⟩⟩
        clear ht hm hu hf hfm hd HW2 HA HG HS hb b2 b0 HW
        go_wp2_with fail
        refine (shows_calls HT2.out HM2.out HS2.out HQ2.out.1 HQ2.out.2.1 HQ2.out.2.2.1 HQ2.out.2.2.2).mono ?_
        rintro e w9 ⟨rfl, hu9⟩
        have HA9 := Asd.mk (HA2.out.up hu9)
        clear hu9
        go_wp2
        go_roundw
        case rel => exact ⟨i + 1, s2, sm2, by go_num, by omega, HG2, HS2, HA9⟩
        case measure => simp only [intOf]; omega
    · go_wp2
      go_ret
      exact ⟨rfl, HA.out.out⟩
end Go.Proofs.Ytaeafnpldlcdnaa.Fl
