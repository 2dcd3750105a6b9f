/- The queue of bytes (package outq): what each of its functions comes to. -/
import Derived.Test.YtaeafnpldlcdnaaK
set_option linter.unusedVariables false
set_option linter.unusedSimpArgs false
namespace Go.Proofs.Ytaeafnpldlcdnaa.Oq
open Go.RowKit K

theorem info8 : (Try.prog.info? 5).map (fun i => (i.zero, i.size, i.bytes)) = some (some (.int .u8 0), 1, 1) := by kernel_rfl
/-- A queue at block q that holds these bytes; F: the blocks that are its own. -/
structure Que (w : World) (q : Nat) (buf : List UInt8) (size : Int) (F : Nat → Prop) : Prop where
  mk ::
  has : ∃ A c G, w.heap[q]? = some (.cells #[.slice A buf.length c, .int .i64 size] 76 (0, 0)) ∧ Own w 5 1 (.slice A buf.length c) buf.length (B buf) G ∧ some q ≠ G ∧ ∀ k, F k ↔ k = q ∨ some k = G
  lo : 0 ≤ size
  hi : size ≤ 65536
  fit : (buf.length : Int) ≤ size
section
variable {w w1 : World} {q : Nat} {buf : List UInt8} {size : Int} {F S : Nat → Prop}
theorem Que.upd (h : Que w q buf size F) (k : Upd S w w1) (hn : ∀ i, F i → ¬ S i) : Que w1 q buf size F := by
  obtain ⟨⟨A, c, G, hb, ho, hne, hF⟩, h1, h2, h3⟩ := h
  exact ⟨⟨A, c, G, k.blk hb (hn q ((hF q).2 (.inl rfl))), ho.upd k (fun g e => hn g ((hF g).2 (.inr e.symm))), hne, hF⟩, h1, h2, h3⟩
theorem Que.lt (h : Que w q buf size F) : ∀ k, F k → k < w.heap.size := by
  obtain ⟨⟨A, c, G, hb, ho, hne, hF⟩, h1, h2, h3⟩ := h
  intro k hk
  rcases (hF k).1 hk with rfl | e
  · exact blk_lt hb
  · exact ho.lt k e.symm
end

def clampSize (n : Int) : Int := if n < 0 then 0 else if 65536 < n then 65536 else n
def NewPost (n : Int) (w : World) (e : Ending) (w' : World) : Prop := ∃ q F, e = .returned (.pointer (some ⟨q, 0, none⟩)) ∧ Que w' q [] (clampSize n) F ∧ Upd (fun _ => False) w w' ∧ ∀ k, F k → w.heap.size ≤ k
theorem Que.made (w : World) (n : Int) (h0 : 0 ≤ n) (h1 : n ≤ 65536) : Que (w.alloc (.cells #[.slice none 0 0, .int .i64 n] 76)) w.heap.size [] n (fun k => k = w.heap.size) :=
  ⟨⟨none, 0, none, heap_alloc_new w _, Own.nil _ _ _, by simp, by simp⟩, h0, h1, by simpa using h0⟩
set_option maxHeartbeats 400000 in
theorem new_calls (n : Int) (w : World) : Calls Try.prog 51 #[.int .i64 n] w (NewPost n w) := by
  have hc : Asd (mx 0 (mn n 65536) = clampSize n ∧ 0 ≤ clampSize n ∧ clampSize n ≤ 65536) := ⟨by unfold mx mn clampSize; split <;> split <;> (try split) <;> (try split) <;> omega⟩
  go_enter Try.func51, Try.ntmps51
  go_wp2
  go_ret
  obtain ⟨h1, h2, h3⟩ := hc.out
  rw [h1]
  exact ⟨w.heap.size, _, rfl, Que.made w _ h2 h3, (Upd.refl _ _).alloc _, fun k hk => by rw [hk]; exact Nat.le_refl _⟩

section
variable {w : World} {q : Nat} {buf : List UInt8} {size : Int} {F : Nat → Prop}
theorem Que.cells (h : Que w q buf size F) : ∃ A c, w.cell? ⟨q, 0, none⟩ = some (.slice A buf.length c) ∧ w.cell? ⟨q, 1, none⟩ = some (.int .i64 size) := by
  obtain ⟨⟨A, c, G, hb, ho, hne, hF⟩, h1, h2, h3⟩ := h
  exact ⟨A, c, by simp [World.cell?, hb], by simp [World.cell?, hb]⟩
set_option maxHeartbeats 400000 in
theorem len_calls (h : Que w q buf size F) : Calls Try.prog 39 #[.pointer (some ⟨q, 0, none⟩)] w fun e w' => e = .returned (.int .i64 (buf.length : Int)) ∧ w = w' := by
  have H := Asd.mk h
  obtain ⟨A, c, h0, h1⟩ := h.cells
  clear h
  go_enter Try.func39, Try.ntmps39
  go_wp2
  go_ret
  exact ⟨rfl, rfl⟩
set_option maxHeartbeats 400000 in
theorem room_calls (h : Que w q buf size F) : Calls Try.prog 57 #[.pointer (some ⟨q, 0, none⟩)] w fun e w' => e = .returned (.int .i64 (size - buf.length)) ∧ Dr w w' := by
  have H := Asd.mk h
  obtain ⟨A, c, h0, h1⟩ := h.cells
  have h2 := h.lo
  have h3 := h.hi
  have h4 := h.fit
  clear h
  go_enter Try.func57, Try.ntmps57
  go_wp2
  go_quiet (fail)
  go_wp2
  go_ret
  exact ⟨rfl, _, rfl⟩

theorem Que.lim (h : Que w q buf size F) : (buf.length : Int) ≤ 65536 := by have := h.fit; have := h.hi; omega
def PutPost (q : Nat) (buf : List UInt8) (size : Int) (F : Nat → Prop) (w : World) (e : Ending) (w' : World) : Prop :=
  e = .returned (.bool true) ∧ ∃ F', Que w' q buf size F' ∧ Upd F w w' ∧ ∀ k, F' k → F k ∨ w.heap.size ≤ k
set_option maxHeartbeats 400000 in
theorem put_no (h : Que w q buf size F) (A : Option Addr) (n c : Nat) (hn : size - buf.length < (n : Int)) :
    Calls Try.prog 53 #[.pointer (some ⟨q, 0, none⟩), .slice A n c] w fun e w' => e = .returned (.bool false) ∧ Dr w w' := by
  have H := Asd.mk h
  have h3 := h.fit
  clear h
  go_enter Try.func53, Try.ntmps53
  go_wp2_with fail
  refine (room_calls H.out).mono ?_
  rintro e w1 ⟨rfl, hd⟩
  go_wp2
  go_ret
  exact ⟨rfl, hd⟩
set_option maxHeartbeats 1000000 in
theorem put_yes (h : Que w q buf size F) (A : Option Addr) (n c : Nat) (l : List UInt8) (hr : Rd w A n l) (hn : (n : Int) ≤ size - buf.length) :
    Calls Try.prog 53 #[.pointer (some ⟨q, 0, none⟩), .slice A n c] w (PutPost q (buf ++ l) size F w) := by
  have H := Asd.mk h
  have HR := Asd.mk hr
  have h2 := h.lo
  have h3 := h.fit
  have h4 := h.hi
  clear h hr
  go_enter Try.func53, Try.ntmps53
  go_wp2_with fail
  refine (room_calls H.out).mono ?_
  rintro e w1 ⟨rfl, hd⟩
  have hu := hd.upd (fun _ => False)
  have H1 := H.out.upd hu (fun _ _ h => h)
  have HR1 := Asd.mk (HR.out.upd hu (fun _ _ h => h))
  have HU1 := Asd.mk hu
  clear hd hu H HR
  obtain ⟨⟨A0, c0, G, hb, ho, hne, hF⟩, _, _, _⟩ := H1
  have hq0 : w1.cell? ⟨q, 0, none⟩ = some (.slice A0 buf.length c0) := by simp [World.cell?, hb]
  have HB := Asd.mk hb
  have HO := Asd.mk ho
  have HF := Asd.mk hF
  have HN := Asd.mk hne
  have HQ := Asd.mk (blk_lt hb)
  clear hb ho hF hne
  go_wp2_with (first | (with_reducible refine stop_append _ _ _ _ rfl ?_) | (with_reducible refine stop_copy _ _ _ _ rfl ?_) | (with_reducible refine stop_make _ _ _ rfl ?_) | (with_reducible refine stop_conv 47 9 _ rfl ?_))
  refine wp_appendB (buf.length + n) 5 buf l G A0 buf.length c0 A n c rfl _ _ 47 rfl Try.underlying47 info8 rfl rfl HO.out HR1.out rfl (by omega) ?_
  intro A2 c2 w2 G2 hc2 hm2 hO hU hg
  have hb2 := hU.blk HB.out HN.out
  have hq0 : w2.cell? ⟨q, 0, none⟩ = some (.slice A0 buf.length c0) := by simp [World.cell?, hb2]
  have hfz : w2.frozen? ⟨q, 0, none⟩ = false := by simp [World.frozen?, hb2]
  have HB2 := Asd.mk hb2
  have HO2 := Asd.mk hO
  have HU2 := Asd.mk hU
  have HG2 := Asd.mk hg
  clear hb2 hO hU hg HB HO
  go_wp2
  go_ret
  have hnG : some q ≠ G2 := by
    rcases HG2.out with e | ⟨g, e, h5, _⟩
    · rw [e]; exact HN.out
    · rw [e]
      intro e2
      obtain rfl := Option.some.inj e2
      have := blk_lt HB2.out
      have := HU2.out.size
      have hq := HU2.out.size
      have hq2 : q < w1.heap.size := HQ.out
      omega
  have hlen : (buf ++ l).length = buf.length + n := by rw [List.length_append, HR1.out.len]
  refine ⟨rfl, fun k => k = q ∨ some k = G2, ⟨⟨A2, c2, G2, ?_, ?_, hnG, fun k => Iff.rfl⟩, h2, h4, by rw [hlen]; omega⟩, ?_, ?_⟩
  · rw [hlen]
    exact blk_setCell HB2.out _
  · rw [hlen]
    exact HO2.out.upd ((Upd.refl (fun k => k = q) _).setCell (fun _ => rfl) _) (fun g e e2 => hnG (by rw [e, e2]))
  · exact ((HU1.out.mono (T := F) (fun _ _ h => h.elim)).trans HU2.out (fun i _ e => (HF.out i).2 (.inr e))).setCell (fun _ => (HF.out q).2 (.inl rfl)) _
  · intro k hk
    rcases hk with rfl | e
    · exact .inl ((HF.out k).2 (.inl rfl))
    · rcases HG2.out with e2 | ⟨g, e2, h5, _⟩
      · exact .inl ((HF.out k).2 (.inr (e.trans e2)))
      · rw [e2] at e
        obtain rfl := Option.some.inj e
        exact .inr (Nat.le_trans HU1.out.size h5)

def takeN (n : Int) (len : Nat) : Nat := (mx 0 (mn n len)).toNat
theorem takeN_le (n : Int) (len : Nat) : takeN n len ≤ len := by unfold takeN mx mn; split <;> split <;> omega
theorem takeN_eq (n : Int) (len : Nat) : mx 0 (mn n len) = (takeN n len : Int) := by unfold takeN mx mn; split <;> split <;> omega
/-- What is taken is new memory, no part of the queue's. -/
def TakePost (q : Nat) (buf : List UInt8) (size : Int) (F : Nat → Prop) (k : Nat) (w : World) (e : Ending) (w' : World) : Prop :=
  ∃ g F', e = .returned (.slice (some ⟨g, 0, none⟩) k k) ∧ w.heap.size ≤ g ∧ ¬ F' g ∧ Own w' 5 1 (.slice (some ⟨g, 0, none⟩) k k) k (B (buf.take k)) (some g) ∧ Que w' q (buf.drop k) size F' ∧ Upd F w w' ∧ ∀ k, F' k → F k ∨ w.heap.size ≤ k
set_option maxHeartbeats 2000000 in
theorem take_calls (h : Que w q buf size F) (n : Int) :
    Calls Try.prog 40 #[.pointer (some ⟨q, 0, none⟩), .int .i64 n] w (TakePost q buf size F (takeN n buf.length) w) := by
  have h2 := h.lo
  have h4 := h.hi
  have hfit := h.fit
  have HFL := Asd.mk h.lt
  obtain ⟨⟨A0, c0, G, hb, ho, hne, hF⟩, _, _, _⟩ := h
  have hq0 : w.cell? ⟨q, 0, none⟩ = some (.slice A0 buf.length c0) := by simp [World.cell?, hb]
  have HB := Asd.mk hb
  have HO := Asd.mk ho
  have HF := Asd.mk hF
  have HN := Asd.mk hne
  obtain ⟨_, _, hv, hc0, hm0, _, _⟩ := ho.slice
  injection hv with e1 e2 e3
  subst e1; subst e3
  clear hb ho hF hne
  obtain ⟨k, hk⟩ : ∃ k, k = takeN n buf.length := ⟨_, rfl⟩
  have hkl : k ≤ buf.length := by rw [hk]; exact takeN_le _ _
  have HK : Asd (mx 0 (mn n (buf.length : Int)) = (k : Int)) := ⟨by rw [hk]; exact takeN_eq _ _⟩
  rw [← hk]
  clear hk
  obtain ⟨A1, hcut, _, hA1, _⟩ := cut_from (P := Try.prog) 47 5 .i64 (sz := 1) Try.underlying47 (by kernel_rfl) A0 buf.length c0 k hkl hc0
  have HA1 := Asd.mk (hA1 rfl)
  clear hA1
  go_enter Try.func40, Try.ntmps40
  go_wp2_with (first | (with_reducible refine stop_append _ _ _ _ rfl ?_) | (with_reducible refine stop_copy _ _ _ _ rfl ?_) | (with_reducible refine stop_make _ _ _ rfl ?_) | (with_reducible refine stop_conv 47 9 _ rfl ?_))
  rw [HK.out]
  refine wp_makeB k 5 rfl _ _ 47 rfl Try.underlying47 info8 rfl rfl (by omega) ?_
  intro w1 hO1 hU1 hs1
  have hb1 := hU1.blk HB.out (fun h => h)
  have hq1 : w1.cell? ⟨q, 0, none⟩ = some (.slice A0 buf.length c0) := by simp [World.cell?, hb1]
  have HB1 := Asd.mk hb1
  have HO1 := Asd.mk hO1
  have HU1 := Asd.mk hU1
  have HM1 := Asd.mk (HO.out.upd hU1 (fun _ _ h => h))
  clear hb1 hO1 hU1 hq0
  go_wp2_with (first | (with_reducible refine stop_append _ _ _ _ rfl ?_) | (with_reducible refine stop_copy _ _ _ _ rfl ?_) | (with_reducible refine stop_make _ _ _ rfl ?_) | (with_reducible refine stop_conv 47 9 _ rfl ?_))
  refine wp_copyB 5 (List.replicate k 0) buf (some w.heap.size) _ k k A0 buf.length c0 rfl _ _ 47 rfl Try.underlying47 info8 rfl rfl HO1.out HM1.out.rd ?_
  intro w2 hO2 hU2
  have hdrop : (List.replicate k (0 : UInt8)).drop buf.length = [] := List.drop_eq_nil_of_le (by simp; exact hkl)
  rw [hdrop, List.append_nil] at hO2
  have hq : q < w.heap.size := blk_lt HB.out
  have hb2 := hU2.blk HB1.out (fun h => by have := Option.some.inj h; omega)
  have hq2 : w2.cell? ⟨q, 0, none⟩ = some (.slice A0 buf.length c0) := by simp [World.cell?, hb2]
  have HM2 := Asd.mk (HM1.out.upd hU2 (fun g e e2 => by have := HO.out.lt g e; obtain rfl := Option.some.inj e2; omega))
  have HB2 := Asd.mk hb2
  have HO2 := Asd.mk hO2
  have HQ := Asd.mk hq
  have HS2 : Asd (w.heap.size < w2.heap.size) := ⟨Nat.lt_of_lt_of_le hs1 hU2.size⟩
  have HU2 := Asd.mk ((HU1.out.mono (T := fun _ => False) (fun _ _ h => h)).trans hU2 (fun i hi e => by obtain rfl := Option.some.inj e; omega))
  clear hb2 hO2 hU2 HO1 HU1 HM1 HB1 hdrop hq1
  go_wp2_with (first | (with_reducible refine stop_append _ _ _ _ rfl ?_) | (with_reducible refine stop_copy _ _ _ _ rfl ?_) | (with_reducible refine stop_make _ _ _ rfl ?_) | (with_reducible refine stop_conv 47 9 _ rfl ?_))
  refine wp_appendB (buf.length - k) 5 [] (buf.drop k) none none 0 0 A1 (buf.length - k) (c0 - k) rfl _ _ 47 rfl Try.underlying47 info8 rfl rfl (Own.nil _ _ _) (HA1.out _ _ HM2.out.rd) (by omega) (by omega) ?_
  intro A3 c3 w3 G3 hc3 hm3 hO3 hU3 hg3
  rw [List.nil_append] at hO3
  have hb3 := hU3.blk HB2.out (fun h => by cases h)
  have hq3 : w3.cell? ⟨q, 0, none⟩ = some (.slice A0 buf.length c0) := by simp [World.cell?, hb3]
  have hfz : w3.frozen? ⟨q, 0, none⟩ = false := by simp [World.frozen?, hb3]
  have hG3 : ∀ g, G3 = some g → w2.heap.size ≤ g := by
    intro g e
    rcases hg3 with e2 | ⟨g', e2, h5, _⟩
    · rw [e2] at e; cases e
    · rw [e2] at e; obtain rfl := Option.some.inj e; exact h5
  have HG3 := Asd.mk hG3
  have HB3 := Asd.mk hb3
  have HO3 := Asd.mk hO3
  have HB3' := Asd.mk (HO2.out.upd hU3 (fun g e e2 => by cases e2))
  have HU3 := Asd.mk (HU2.out.trans (hU3.mono (T := fun _ => False) (fun i hi e => by cases e)) (fun _ _ h => h))
  have HS := Asd.mk HU2.out.size
  clear hb3 hO3 hU3 hg3 hG3 HO2 HU2 HM2 HB2 hq2 hcut HA1
  go_wp2
  go_ret
  have hlen : (buf.drop k).length = buf.length - k := by simp
  have hs2 : w.heap.size < w2.heap.size := HS2.out
  have hnG : some q ≠ G3 := fun e => by have := HG3.out q e.symm; have := HQ.out; omega
  refine ⟨w.heap.size, fun i => i = q ∨ some i = G3, rfl, Nat.le_refl _, ?_, ?_, ⟨⟨A3, c3, G3, ?_, ?_, hnG, fun _ => Iff.rfl⟩, h2, h4, by rw [hlen]; omega⟩, ?_, ?_⟩
  · rintro (e | e)
    · have := HQ.out; omega
    · have := HG3.out _ e.symm; omega
  · exact HB3'.out.upd ((Upd.refl (fun i => i = q) _).setCell (fun _ => rfl) _) (fun g e e2 => by obtain rfl := Option.some.inj e; have := HQ.out; omega)
  · rw [hlen]
    exact blk_setCell HB3.out _
  · rw [hlen]
    exact HO3.out.upd ((Upd.refl (fun i => i = q) _).setCell (fun _ => rfl) _) (fun g e e2 => hnG (by rw [e, e2]))
  · exact (HU3.out.mono (T := F) (fun _ _ h => h.elim)).setCell (fun _ => (HF.out q).2 (.inl rfl)) _
  · rintro i (rfl | e)
    · exact .inl ((HF.out _).2 (.inl rfl))
    · have := HG3.out i e.symm
      exact .inr (by omega)
end
end Go.Proofs.Ytaeafnpldlcdnaa.Oq
