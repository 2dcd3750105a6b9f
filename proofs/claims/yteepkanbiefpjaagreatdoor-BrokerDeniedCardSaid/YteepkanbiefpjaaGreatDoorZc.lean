/- What these laws lean on, part Zc: contracts of the given program's functions and plain lists. No condition. -/
import Derived.Test.YteepkanbiefpjaaGreatDoorZb
import Derived.Test.YteepkanbiefpjaaGreatDoorZa
import Derived.Lib.AppendStr
set_option linter.unusedVariables false
set_option linter.unusedSimpArgs false
namespace Go.Proofs.YteepkanbiefpjaaGreatDoor.Fl
open Go.RowKit K Go.Sort Go.Lib Go.Shelf
section
variable {w : World} {t : Nat} {F : Nat → Prop} {s : T}
def keys (s : T) : List Int := s.roles.map (·.1)
theorem keys_sorted (R : List (Int × Int)) (h : (RI R).Pairwise (fun p q => p.1 < q.1)) : (R.map (·.1)).Pairwise (· < ·) := by
  unfold RI at h
  rw [List.pairwise_map] at h ⊢
  exact h
theorem sorted_is {l k : List Int} (hp : l.Perm k) (hk : k.Pairwise (· < ·)) : (l.mergeSort fun x y => decide (x ≤ y)) = k := by
  refine List.Perm.eq_of_pairwise (le := fun a b => decide (a ≤ b) = true) (fun a b _ _ h1 h2 => ?_) (List.pairwise_mergeSort (fun a b c h1 h2 => ?_) (fun a b => ?_) l) (hk.imp fun h => ?_) ((List.mergeSort_perm l _).trans hp)
  · simp at h1 h2; omega
  · simp at h1 h2 ⊢; omega
  · simp; omega
  · simp; omega
theorem mdel_perm {rem : List Ent} (hn : (rem.map (·.1)).Nodup) {x : Int} {v : Value} (h : (x, v) ∈ rem) : (rem.map (·.1)).Perm (x :: (mdel rem x).map (·.1)) := by
  induction rem with
  | nil => simp at h
  | cons p r ih =>
    simp only [List.map_cons, List.nodup_cons] at hn
    rcases List.mem_cons.1 h with e | h
    · subst e
      have hd : mdel ((x, v) :: r) x = r := by
        unfold mdel
        rw [List.filter_cons_of_neg (by simp)]
        refine List.filter_eq_self.2 fun q hq => ?_
        have : q.1 ≠ x := fun e => hn.1 (List.mem_map.2 ⟨q, hq, e⟩)
        simpa using this
      rw [hd]
      exact List.Perm.refl _
    · have hpx : p.1 ≠ x := fun e => hn.1 (by rw [e]; exact List.mem_map.2 ⟨(x, v), h, rfl⟩)
      have hd : mdel (p :: r) x = p :: mdel r x := by
        unfold mdel
        rw [List.filter_cons_of_pos (by simpa using hpx)]
      rw [hd, List.map_cons, List.map_cons]
      exact ((ih hn.2 h).cons p.1).trans (List.Perm.swap _ _ _)
set_option maxHeartbeats 2000000 in
theorem users_calls (h : TB w t F s) (hr : s.roles.length ≤ 1000000) : Calls Tryz.prog 66 #[.pointer (some ⟨t, 0, none⟩)] w (NewI (keys s) w) := by
  obtain ⟨A, c, G, b, HB, HO, HM, HN, HF, hts⟩ := h.cells
  have c4 := keepsC (o := 4) HB.out rfl
  have hbl := HM.out.lt
  have hinc := HM.out.inc Tryz.underlying3
  have hks := keys_sorted s.roles hinc
  have HKS := Asd.mk hks
  clear h HB HO HN HF hinc hks
  go_enter Tryz.func66, Tryz.ntmps66
  go_wp2_with (with_reducible refine stop_range 139 _ rfl ?_)
  refine wp_range rfl 139 _ rfl HM.out Tryz.underlying3 Tryz.underlying139 rfl ?_
  intro w1 hrg hu hsz
  have HR1 := Asd.mk hrg
  have HW1 := Asd.mk hu
  have hs1 : w1.heap.size = w.heap.size + 1 := hsz
  have HS1 := Asd.mk hs1
  clear hrg hu c4 hsz hs1
  go_frame
  go_wp2
  go_loopw [3] (fun v3 wr => ∃ (A3 : Option Addr) (c3 : Nat) (G3 : Option Nat) (l : List Int) (rem : List Ent), v3 = .slice A3 l.length c3 ∧ l.length ≤ c3 ∧ Asd (OI wr (.slice A3 l.length c3) l G3) ∧ Asd (∀ g, G3 = some g → w1.heap.size ≤ g) ∧ Asd (rangeV wr Tryz.prog 3 b w.heap.size (RI s.roles) rem) ∧ Asd ((l ++ rem.map (·.1)).Perm (keys s)) ∧ Asd (Upd (fun i => i = w.heap.size) w1 wr)) (fun _ wr => World.rangeLeft wr b w.heap.size)
  case atStart => exact ⟨none, 0, none, [], RI s.roles, rfl, by simp, ⟨OI.nil _⟩, ⟨fun g h => by cases h⟩, HR1, ⟨by rw [List.nil_append]; unfold RI keys; rw [List.map_map]; exact List.Perm.refl _⟩, ⟨Upd.refl _ _⟩⟩
  case round =>
    clear HR1
    obtain ⟨A3, c3, G3, l, rem, rfl, hlc, HO, HG, HR, HP, HU⟩ := hrel
    have hll : l.length ≤ 1000000 := by
      have := HP.out.length_eq
      simp only [keys, List.length_append, List.length_map] at this
      omega
    go_wp2_with (with_reducible refine stop_next _ rfl ?_)
    refine wp_next rfl _ rfl HR.out Tryz.underlying3 rfl ?_ ?_
    · intro hrem
      have HP2 : Asd (l.Perm (keys s)) := ⟨by have := HP.out; rw [hrem] at this; simpa using this⟩
      clear hrem HP HR
      go_wp2_with fail
      refine (sort_calls HO.out hll).mono ?_
      unfold SortPost
      rw [sorted_is HP2.out HKS.out]
      rintro e w2 ⟨rfl, ho, hu⟩
      have HO2 := Asd.mk ho
      have HU2 : Asd (Upd (fun _ => False) w w2) := ⟨(HW1.out.trans HU.out (fun i hi e => by omega)).trans hu (fun i hi e => by have := HG.out _ e.symm; have := HS1.out; omega)⟩
      have HLE : Asd (l.length = (keys s).length) := ⟨HP2.out.length_eq⟩
      clear ho hu HO HU
      go_wp2
      go_ret
      exact ⟨A3, c3, G3, by rw [← HLE.out]; rfl, HO2.out, fun g e => by have := HG.out g e; have := HS1.out; omega, HU2.out⟩
    · intro x v w2 hmem hr2 hu2 hs2 hlt hent
      have hnd : (rem.map (·.1)).Nodup := by
        have h1 : (l ++ rem.map (·.1)).Nodup := HP.out.nodup_iff.2 ((HKS.out).imp (fun h => by omega))
        exact (List.nodup_append.1 h1).2.1
      have HP2 : Asd (((l ++ [x]) ++ (mdel rem x).map (·.1)).Perm (keys s)) := ⟨by
        refine List.Perm.trans ?_ HP.out
        rw [List.append_assoc]
        exact (List.Perm.append_left l (mdel_perm hnd hmem)).symm⟩
      have HR2 := Asd.mk hr2
      have hrlt : w.heap.size < w2.heap.size := HR2.out.lt
      have HU2 : Asd (Upd (fun i => i = w.heap.size) w1 w2) := ⟨HU.out.trans hu2 (fun i hi e => e)⟩
      have HO2 := Asd.mk (HO.out.upd hu2 (fun g e e2 => by have := HG.out g e; have := HS1.out; omega))
      have HLT := Asd.mk hlt
      clear hmem hr2 hu2 hs2 hnd HP HR HU HO hlt
      have hk2 : Upd (fun _ => False) w2 w2 := Upd.refl _ _
      go_wp2_with (with_reducible refine stop_append _ _ _ _ rfl ?_)
      refine wp_appendI (HU2.out.alloc _) rfl _ _ 53 3 rfl Tryz.underlying53 rfl infoI rfl rfl (HO2.out.up ((Upd.refl (fun _ => False) _).alloc _)) HG.out (l2 := [x]) (m := 1) (c2 := 1) (Rd1 _ _) rfl (by omega) ?_
      intro A5 c5 w5 G5 hO5 hc5 hG5 hU5 hV5
      obtain ⟨l2, hl2⟩ : ∃ l2, l2 = l ++ [x] := ⟨_, rfl⟩
      rw [← hl2] at hO5 hc5 HP2
      rw [← hl2]
      have hne : ∀ i, some i = G3 → w1.heap.size ≤ i := fun i e => HG.out i e.symm
      have hs1 := HS1.out
      have HR5 := Asd.mk ((rangeV.upd (HR2.out) ((Upd.refl (fun _ => False) _).alloc _) (fun h => h) (fun h => h)).upd hV5 (fun e => by have := hne _ e; omega) (fun e => by have := hne _ e; omega))
      have HLE : Asd (World.rangeLeft w5 b w.heap.size < World.rangeLeft wr b w.heap.size) := ⟨by
        rw [rangeLeft_upd hV5 (by simp; omega) (by simp; omega) (fun e => by have := hne _ e; omega) (fun e => by have := hne _ e; omega), rangeLeft_upd ((Upd.refl (fun _ => False) w2).alloc _) (by omega) (by omega) (fun h => h) (fun h => h)]
        exact HLT.out⟩
      have HO5 := Asd.mk hO5
      have HG5 := Asd.mk hG5
      have HU5 := Asd.mk hU5
      clear hl2 hne hs1 hO5 hG5 hU5 hV5 HO2 HR2 HU2 HLT HG hk2 hent
      go_wp2
      go_roundw
      case rel => exact ⟨A5, c5, G5, l2, mdel rem x, rfl, hc5, HO5, HG5, HR5, HP2, HU5⟩
      case measure => exact HLE.out
end
end Go.Proofs.YteepkanbiefpjaaGreatDoor.Fl
set_option linter.unusedVariables false
set_option linter.unusedSimpArgs false
namespace Go.Proofs.YteepkanbiefpjaaGreatDoor.Oq
open Go.RowKit K
theorem info8 : (Tryz.prog.info? 5).map (fun i => (i.zero, i.size, i.bytes)) = some (some (.int .u8 0), 1, 1) := by kernel_rfl
structure Que (w : World) (q : Nat) (buf : List UInt8) (size : Int) (F : Nat → Prop) : Prop where
  mk ::
  has : ∃ A c G, w.heap[q]? = some (.cells #[.slice A buf.length c, .int .i64 size] 147 (0, 0)) ∧ Own w 5 1 (.slice A buf.length c) buf.length (B buf) G ∧ some q ≠ G ∧ ∀ k, F k ↔ k = q ∨ some k = G
  lo : 0 ≤ size
  hi : size ≤ 65536
  fit : (buf.length : Int) ≤ size
section
variable {w w1 : World} {q : Nat} {buf : List UInt8} {size : Int} {F S : Nat → Prop}
theorem Que.upd (h : Que w q buf size F) (k : Upd S w w1) (hn : ∀ i, F i → ¬ S i) : Que w1 q buf size F := by
  obtain ⟨⟨A, c, G, hb, ho, hne, hF⟩, h1, h2, h3⟩ := h
  exact ⟨⟨A, c, G, k.blk hb (hn q ((hF q).2 (.inl rfl))), ho.upd k (fun g e => hn g ((hF g).2 (.inr e.symm))), hne, hF⟩, h1, h2, h3⟩
theorem Que.lt (h : Que w q buf size F) : ∀ k, F k → k < w.heap.size := by
  obtain ⟨⟨A, c, G, hb, ho, hne, hF⟩, h1, h2, h3⟩ := h
  intro k hk
  rcases (hF k).1 hk with rfl | e
  · exact blk_lt hb
  · exact ho.lt k e.symm
end
def clampSize (n : Int) : Int := if n < 0 then 0 else if 65536 < n then 65536 else n
def NewPost (n : Int) (w : World) (e : Ending) (w' : World) : Prop := ∃ q F, e = .returned (.pointer (some ⟨q, 0, none⟩)) ∧ Que w' q [] (clampSize n) F ∧ Upd (fun _ => False) w w' ∧ ∀ k, F k → w.heap.size ≤ k
theorem Que.made (w : World) (n : Int) (h0 : 0 ≤ n) (h1 : n ≤ 65536) : Que (w.alloc (.cells #[.slice none 0 0, .int .i64 n] 147)) w.heap.size [] n (fun k => k = w.heap.size) :=
  ⟨⟨none, 0, none, heap_alloc_new w _, Own.nil _ _ _, by simp, by simp⟩, h0, h1, by simpa using h0⟩
set_option maxHeartbeats 400000 in
theorem new_calls (n : Int) (w : World) : Calls Tryz.prog 49 #[.int .i64 n] w (NewPost n w) := by
  have hc : Asd (mx 0 (mn n 65536) = clampSize n ∧ 0 ≤ clampSize n ∧ clampSize n ≤ 65536) := ⟨by unfold mx mn clampSize; split <;> split <;> (try split) <;> (try split) <;> omega⟩
  go_enter Tryz.func49, Tryz.ntmps49
  go_wp2
  go_ret
  obtain ⟨h1, h2, h3⟩ := hc.out
  rw [h1]
  exact ⟨w.heap.size, _, rfl, Que.made w _ h2 h3, (Upd.refl _ _).alloc _, fun k hk => by rw [hk]; exact Nat.le_refl _⟩
section
variable {w : World} {q : Nat} {buf : List UInt8} {size : Int} {F : Nat → Prop}
theorem Que.cells (h : Que w q buf size F) : ∃ A c, w.cell? ⟨q, 0, none⟩ = some (.slice A buf.length c) ∧ w.cell? ⟨q, 1, none⟩ = some (.int .i64 size) := by
  obtain ⟨⟨A, c, G, hb, ho, hne, hF⟩, h1, h2, h3⟩ := h
  exact ⟨A, c, by simp [World.cell?, hb], by simp [World.cell?, hb]⟩
set_option maxHeartbeats 400000 in
theorem len_calls (h : Que w q buf size F) : Calls Tryz.prog 78 #[.pointer (some ⟨q, 0, none⟩)] w fun e w' => e = .returned (.int .i64 (buf.length : Int)) ∧ w = w' := by
  have H := Asd.mk h
  obtain ⟨A, c, h0, h1⟩ := h.cells
  clear h
  go_enter Tryz.func78, Tryz.ntmps78
  go_wp2
  go_ret
  exact ⟨rfl, rfl⟩
set_option maxHeartbeats 400000 in
theorem room_calls (h : Que w q buf size F) : Calls Tryz.prog 108 #[.pointer (some ⟨q, 0, none⟩)] w fun e w' => e = .returned (.int .i64 (size - buf.length)) ∧ Dr w w' := by
  have H := Asd.mk h
  obtain ⟨A, c, h0, h1⟩ := h.cells
  have h2 := h.lo
  have h3 := h.hi
  have h4 := h.fit
  clear h
  go_enter Tryz.func108, Tryz.ntmps108
  go_wp2
  go_quiet (fail)
  go_wp2
  go_ret
  exact ⟨rfl, _, rfl⟩
theorem Que.lim (h : Que w q buf size F) : (buf.length : Int) ≤ 65536 := by have := h.fit; have := h.hi; omega
def PutPost (q : Nat) (buf : List UInt8) (size : Int) (F : Nat → Prop) (w : World) (e : Ending) (w' : World) : Prop :=
  e = .returned (.bool true) ∧ ∃ F', Que w' q buf size F' ∧ Upd F w w' ∧ ∀ k, F' k → F k ∨ w.heap.size ≤ k
set_option maxHeartbeats 400000 in
theorem put_no (h : Que w q buf size F) (A : Option Addr) (n c : Nat) (hn : size - buf.length < (n : Int)) :
    Calls Tryz.prog 106 #[.pointer (some ⟨q, 0, none⟩), .slice A n c] w fun e w' => e = .returned (.bool false) ∧ Dr w w' := by
  have H := Asd.mk h
  have h3 := h.fit
  clear h
  go_enter Tryz.func106, Tryz.ntmps106
  go_wp2_with fail
  refine (room_calls H.out).mono ?_
  rintro e w1 ⟨rfl, hd⟩
  go_wp2
  go_ret
  exact ⟨rfl, hd⟩
set_option maxHeartbeats 1000000 in
theorem put_yes (h : Que w q buf size F) (A : Option Addr) (n c : Nat) (l : List UInt8) (hr : Rd w A n l) (hn : (n : Int) ≤ size - buf.length) :
    Calls Tryz.prog 106 #[.pointer (some ⟨q, 0, none⟩), .slice A n c] w (PutPost q (buf ++ l) size F w) := by
  have H := Asd.mk h
  have HR := Asd.mk hr
  have h2 := h.lo
  have h3 := h.fit
  have h4 := h.hi
  clear h hr
  go_enter Tryz.func106, Tryz.ntmps106
  go_wp2_with fail
  refine (room_calls H.out).mono ?_
  rintro e w1 ⟨rfl, hd⟩
  have hu := hd.upd (fun _ => False)
  have H1 := H.out.upd hu (fun _ _ h => h)
  have HR1 := Asd.mk (HR.out.upd hu (fun _ _ h => h))
  have HU1 := Asd.mk hu
  clear hd hu H HR
  obtain ⟨⟨A0, c0, G, hb, ho, hne, hF⟩, _, _, _⟩ := H1
  have hq0 : w1.cell? ⟨q, 0, none⟩ = some (.slice A0 buf.length c0) := by simp [World.cell?, hb]
  have HB := Asd.mk hb
  have HO := Asd.mk ho
  have HF := Asd.mk hF
  have HN := Asd.mk hne
  have HQ := Asd.mk (blk_lt hb)
  clear hb ho hF hne
  go_wp2_with (first | (with_reducible refine stop_append _ _ _ _ rfl ?_) | (with_reducible refine stop_copy _ _ _ _ rfl ?_) | (with_reducible refine stop_make _ _ _ rfl ?_) | (with_reducible refine stop_conv 31 9 _ rfl ?_))
  refine wp_appendB (buf.length + n) 5 buf l G A0 buf.length c0 A n c rfl _ _ 31 rfl Tryz.underlying31 info8 rfl rfl HO.out HR1.out rfl (by omega) ?_
  intro A2 c2 w2 G2 hc2 hm2 hO hU hg
  have hb2 := hU.blk HB.out HN.out
  have hq0 : w2.cell? ⟨q, 0, none⟩ = some (.slice A0 buf.length c0) := by simp [World.cell?, hb2]
  have hfz : w2.frozen? ⟨q, 0, none⟩ = false := by simp [World.frozen?, hb2]
  have HB2 := Asd.mk hb2
  have HO2 := Asd.mk hO
  have HU2 := Asd.mk hU
  have HG2 := Asd.mk hg
  clear hb2 hO hU hg HB HO
  go_wp2
  go_ret
  have hnG : some q ≠ G2 := by
    rcases HG2.out with e | ⟨g, e, h5, _⟩
    · rw [e]; exact HN.out
    · rw [e]
      intro e2
      obtain rfl := Option.some.inj e2
      have := blk_lt HB2.out
      have := HU2.out.size
      have hq := HU2.out.size
      have hq2 : q < w1.heap.size := HQ.out
      omega
  have hlen : (buf ++ l).length = buf.length + n := by rw [List.length_append, HR1.out.len]
  refine ⟨rfl, fun k => k = q ∨ some k = G2, ⟨⟨A2, c2, G2, ?_, ?_, hnG, fun k => Iff.rfl⟩, h2, h4, by rw [hlen]; omega⟩, ?_, ?_⟩
  · rw [hlen]
    exact blk_setCell HB2.out _
  · rw [hlen]
    exact HO2.out.upd ((Upd.refl (fun k => k = q) _).setCell (fun _ => rfl) _) (fun g e e2 => hnG (by rw [e, e2]))
  · exact ((HU1.out.mono (T := F) (fun _ _ h => h.elim)).trans HU2.out (fun i _ e => (HF.out i).2 (.inr e))).setCell (fun _ => (HF.out q).2 (.inl rfl)) _
  · intro k hk
    rcases hk with rfl | e
    · exact .inl ((HF.out k).2 (.inl rfl))
    · rcases HG2.out with e2 | ⟨g, e2, h5, _⟩
      · exact .inl ((HF.out k).2 (.inr (e.trans e2)))
      · rw [e2] at e
        obtain rfl := Option.some.inj e
        exact .inr (Nat.le_trans HU1.out.size h5)
def takeN (n : Int) (len : Nat) : Nat := (mx 0 (mn n len)).toNat
theorem takeN_le (n : Int) (len : Nat) : takeN n len ≤ len := by unfold takeN mx mn; split <;> split <;> omega
theorem takeN_eq (n : Int) (len : Nat) : mx 0 (mn n len) = (takeN n len : Int) := by unfold takeN mx mn; split <;> split <;> omega
def TakePost (q : Nat) (buf : List UInt8) (size : Int) (F : Nat → Prop) (k : Nat) (w : World) (e : Ending) (w' : World) : Prop :=
  ∃ g F', e = .returned (.slice (some ⟨g, 0, none⟩) k k) ∧ w.heap.size ≤ g ∧ ¬ F' g ∧ Own w' 5 1 (.slice (some ⟨g, 0, none⟩) k k) k (B (buf.take k)) (some g) ∧ Que w' q (buf.drop k) size F' ∧ Upd F w w' ∧ ∀ k, F' k → F k ∨ w.heap.size ≤ k
set_option maxHeartbeats 2000000 in
theorem take_calls (h : Que w q buf size F) (n : Int) :
    Calls Tryz.prog 58 #[.pointer (some ⟨q, 0, none⟩), .int .i64 n] w (TakePost q buf size F (takeN n buf.length) w) := by
  have h2 := h.lo
  have h4 := h.hi
  have hfit := h.fit
  have HFL := Asd.mk h.lt
  obtain ⟨⟨A0, c0, G, hb, ho, hne, hF⟩, _, _, _⟩ := h
  have hq0 : w.cell? ⟨q, 0, none⟩ = some (.slice A0 buf.length c0) := by simp [World.cell?, hb]
  have HB := Asd.mk hb
  have HO := Asd.mk ho
  have HF := Asd.mk hF
  have HN := Asd.mk hne
  obtain ⟨_, _, hv, hc0, hm0, _, _⟩ := ho.slice
  injection hv with e1 e2 e3
  subst e1; subst e3
  clear hb ho hF hne
  obtain ⟨k, hk⟩ : ∃ k, k = takeN n buf.length := ⟨_, rfl⟩
  have hkl : k ≤ buf.length := by rw [hk]; exact takeN_le _ _
  have HK : Asd (mx 0 (mn n (buf.length : Int)) = (k : Int)) := ⟨by rw [hk]; exact takeN_eq _ _⟩
  rw [← hk]
  clear hk
  obtain ⟨A1, hcut, _, hA1, _⟩ := cut_from (P := Tryz.prog) 31 5 .i64 (sz := 1) Tryz.underlying31 (by kernel_rfl) A0 buf.length c0 k hkl hc0
  have HA1 := Asd.mk (hA1 rfl)
  clear hA1
  go_enter Tryz.func58, Tryz.ntmps58
  go_wp2_with (first | (with_reducible refine stop_append _ _ _ _ rfl ?_) | (with_reducible refine stop_copy _ _ _ _ rfl ?_) | (with_reducible refine stop_make _ _ _ rfl ?_) | (with_reducible refine stop_conv 31 9 _ rfl ?_))
  rw [HK.out]
  refine wp_makeB k 5 rfl _ _ 31 rfl Tryz.underlying31 info8 rfl rfl (by omega) ?_
  intro w1 hO1 hU1 hs1
  have hb1 := hU1.blk HB.out (fun h => h)
  have hq1 : w1.cell? ⟨q, 0, none⟩ = some (.slice A0 buf.length c0) := by simp [World.cell?, hb1]
  have HB1 := Asd.mk hb1
  have HO1 := Asd.mk hO1
  have HU1 := Asd.mk hU1
  have HM1 := Asd.mk (HO.out.upd hU1 (fun _ _ h => h))
  clear hb1 hO1 hU1 hq0
  go_wp2_with (first | (with_reducible refine stop_append _ _ _ _ rfl ?_) | (with_reducible refine stop_copy _ _ _ _ rfl ?_) | (with_reducible refine stop_make _ _ _ rfl ?_) | (with_reducible refine stop_conv 31 9 _ rfl ?_))
  refine wp_copyB 5 (List.replicate k 0) buf (some w.heap.size) _ k k A0 buf.length c0 rfl _ _ 31 rfl Tryz.underlying31 info8 rfl rfl HO1.out HM1.out.rd ?_
  intro w2 hO2 hU2
  have hdrop : (List.replicate k (0 : UInt8)).drop buf.length = [] := List.drop_eq_nil_of_le (by simp; exact hkl)
  rw [hdrop, List.append_nil] at hO2
  have hq : q < w.heap.size := blk_lt HB.out
  have hb2 := hU2.blk HB1.out (fun h => by have := Option.some.inj h; omega)
  have hq2 : w2.cell? ⟨q, 0, none⟩ = some (.slice A0 buf.length c0) := by simp [World.cell?, hb2]
  have HM2 := Asd.mk (HM1.out.upd hU2 (fun g e e2 => by have := HO.out.lt g e; obtain rfl := Option.some.inj e2; omega))
  have HB2 := Asd.mk hb2
  have HO2 := Asd.mk hO2
  have HQ := Asd.mk hq
  have HS2 : Asd (w.heap.size < w2.heap.size) := ⟨Nat.lt_of_lt_of_le hs1 hU2.size⟩
  have HU2 := Asd.mk ((HU1.out.mono (T := fun _ => False) (fun _ _ h => h)).trans hU2 (fun i hi e => by obtain rfl := Option.some.inj e; omega))
  clear hb2 hO2 hU2 HO1 HU1 HM1 HB1 hdrop hq1
  go_wp2_with (first | (with_reducible refine stop_append _ _ _ _ rfl ?_) | (with_reducible refine stop_copy _ _ _ _ rfl ?_) | (with_reducible refine stop_make _ _ _ rfl ?_) | (with_reducible refine stop_conv 31 9 _ rfl ?_))
  refine wp_appendB (buf.length - k) 5 [] (buf.drop k) none none 0 0 A1 (buf.length - k) (c0 - k) rfl _ _ 31 rfl Tryz.underlying31 info8 rfl rfl (Own.nil _ _ _) (HA1.out _ _ HM2.out.rd) (by omega) (by omega) ?_
  intro A3 c3 w3 G3 hc3 hm3 hO3 hU3 hg3
  rw [List.nil_append] at hO3
  have hb3 := hU3.blk HB2.out (fun h => by cases h)
  have hq3 : w3.cell? ⟨q, 0, none⟩ = some (.slice A0 buf.length c0) := by simp [World.cell?, hb3]
  have hfz : w3.frozen? ⟨q, 0, none⟩ = false := by simp [World.frozen?, hb3]
  have hG3 : ∀ g, G3 = some g → w2.heap.size ≤ g := by
    intro g e
    rcases hg3 with e2 | ⟨g', e2, h5, _⟩
    · rw [e2] at e; cases e
    · rw [e2] at e; obtain rfl := Option.some.inj e; exact h5
  have HG3 := Asd.mk hG3
  have HB3 := Asd.mk hb3
  have HO3 := Asd.mk hO3
  have HB3' := Asd.mk (HO2.out.upd hU3 (fun g e e2 => by cases e2))
  have HU3 := Asd.mk (HU2.out.trans (hU3.mono (T := fun _ => False) (fun i hi e => by cases e)) (fun _ _ h => h))
  have HS := Asd.mk HU2.out.size
  clear hb3 hO3 hU3 hg3 hG3 HO2 HU2 HM2 HB2 hq2 hcut HA1
  go_wp2
  go_ret
  have hlen : (buf.drop k).length = buf.length - k := by simp
  have hs2 : w.heap.size < w2.heap.size := HS2.out
  have hnG : some q ≠ G3 := fun e => by have := HG3.out q e.symm; have := HQ.out; omega
  refine ⟨w.heap.size, fun i => i = q ∨ some i = G3, rfl, Nat.le_refl _, ?_, ?_, ⟨⟨A3, c3, G3, ?_, ?_, hnG, fun _ => Iff.rfl⟩, h2, h4, by rw [hlen]; omega⟩, ?_, ?_⟩
  · rintro (e | e)
    · have := HQ.out; omega
    · have := HG3.out _ e.symm; omega
  · exact HB3'.out.upd ((Upd.refl (fun i => i = q) _).setCell (fun _ => rfl) _) (fun g e e2 => by obtain rfl := Option.some.inj e; have := HQ.out; omega)
  · rw [hlen]
    exact blk_setCell HB3.out _
  · rw [hlen]
    exact HO3.out.upd ((Upd.refl (fun i => i = q) _).setCell (fun _ => rfl) _) (fun g e e2 => hnG (by rw [e, e2]))
  · exact (HU3.out.mono (T := F) (fun _ _ h => h.elim)).setCell (fun _ => (HF.out q).2 (.inl rfl)) _
  · rintro i (rfl | e)
    · exact .inl ((HF.out _).2 (.inl rfl))
    · have := HG3.out i e.symm
      exact .inr (by omega)
end
end Go.Proofs.YteepkanbiefpjaaGreatDoor.Oq
set_option linter.unusedVariables false
set_option linter.unusedSimpArgs false
namespace Go.Proofs.YteepkanbiefpjaaGreatDoor.Fl
open Go.RowKit K
theorem rdel_none (R : List (Int × Int)) (x : Int) (h : rget R x = none) : rdel R x = R := by
  unfold rget at h
  rw [Option.map_eq_none_iff, List.find?_eq_none] at h
  exact List.filter_eq_self.2 fun p hp => by have := h p hp; simp at this; simp [this]
def At (w0 w : World) (t : Nat) (s : T) : Prop := ∃ F, TB w t F s ∧ Upd (fun _ => False) w0 w ∧ ∀ k, F k → w0.heap.size ≤ k
theorem At.turn {w0 w : World} {t : Nat} {s s' : T} {v : Value} {f : FuncId} {args : Array Value} (h : At w0 w t s) (hc : ∀ F, TB w t F s → Calls Tryz.prog f args w (Turns v s' t F w)) : Calls Tryz.prog f args w fun e w' => e = .returned v ∧ At w0 w' t s' := by
  obtain ⟨F, ht, hu, hf⟩ := h
  refine (hc F ht).mono fun e w' ⟨he, F', ht', hu', hf'⟩ => ⟨he, F', ht', hu.trans hu' (fun i hi h => by have := hf i h; omega), fun k hk => (hf' k hk).elim (fun h => hf k h) (fun h => Nat.le_trans hu.size h)⟩
theorem At.read {w0 w : World} {t : Nat} {s : T} {v : Value} {f : FuncId} {args : Array Value} (h : At w0 w t s) (hc : ∀ F, TB w t F s → Calls Tryz.prog f args w fun e w' => e = .returned v ∧ w = w') : Calls Tryz.prog f args w fun e w' => e = .returned v ∧ w = w' := by
  obtain ⟨F, ht, _, _⟩ := h
  exact hc F ht
theorem At.up {w0 w w1 : World} {t : Nat} {s : T} (h : At w0 w t s) (k : Upd (fun _ => False) w w1) : At w0 w1 t s := by
  obtain ⟨F, ht, hu, hf⟩ := h
  exact ⟨F, ht.up k, hu.trans k (fun _ _ h => h), hf⟩
theorem At.out {w0 w : World} {t : Nat} {s : T} (h : At w0 w t s) : Upd (fun _ => False) w0 w := by obtain ⟨F, _, hu, _⟩ := h; exact hu
def NewAt (w0 : World) (t : Nat) (s : T) (l : List Int) (e : Ending) (w' : World) : Prop := ∃ A c G, e = .returned (.slice A l.length c) ∧ OI w' (.slice A l.length c) l G ∧ (∀ g, G = some g → w0.heap.size ≤ g) ∧ At w0 w' t s ∧ l.length ≤ c
theorem At.news {w0 w : World} {t : Nat} {s : T} {l : List Int} {f : FuncId} {args : Array Value} (h : At w0 w t s) (hc : ∀ F, TB w t F s → Calls Tryz.prog f args w (NewI l w)) : Calls Tryz.prog f args w (NewAt w0 t s l) := by
  have hh := h
  obtain ⟨F, ht, hu, hf⟩ := h
  refine (hc F ht).mono fun e w' ⟨A, c, G, he, ho, hg, hk⟩ => ⟨A, c, G, he, ho, fun g e => Nat.le_trans hu.size (hg g e), hh.up hk, ?_⟩
  obtain ⟨A', c', hv, h1, _⟩ := OI.slice ho
  injection hv with e1 e2 e3
  rw [e3]
  exact h1
end Go.Proofs.YteepkanbiefpjaaGreatDoor.Fl
set_option linter.unusedVariables false
set_option linter.unusedSimpArgs false
namespace Go.Proofs.YteepkanbiefpjaaGreatDoor.Fl
open Go.RowKit K
end Go.Proofs.YteepkanbiefpjaaGreatDoor.Fl
set_option linter.unusedVariables false
set_option linter.unusedSimpArgs false
namespace Go.Proofs.YteepkanbiefpjaaGreatDoor.Fl
open Go.RowKit K
theorem rget_del_other (R : List (Int × Int)) (x y : Int) (h : y ≠ x) : rget (rdel R x) y = rget R y := by
  induction R with
  | nil => rfl
  | cons p R ih =>
    unfold rdel rget at *
    by_cases e : p.1 = x
    · rw [List.filter_cons_of_neg (by simpa using e), List.find?_cons_of_neg (by rw [e]; simpa using Ne.symm h)]
      exact ih
    · rw [List.filter_cons_of_pos (by simpa using e)]
      by_cases e2 : p.1 = y
      · rw [List.find?_cons_of_pos (by simpa using e2), List.find?_cons_of_pos (by simpa using e2)]
      · rw [List.find?_cons_of_neg (by simpa using e2), List.find?_cons_of_neg (by simpa using e2)]
        exact ih
theorem rget_put_other (R : List (Int × Int)) (x y r : Int) (h : y ≠ x) : rget (rput R x r) y = rget R y := by
  have h1 : ∀ R : List (Int × Int), rget (rins (x, r) R) y = rget R y := by
    intro R
    induction R with
    | nil => simp [rins, rget, Ne.symm h]
    | cons p R ih =>
      simp only [rins]
      split
      · unfold rget
        rw [List.find?_cons_of_neg (by simpa using Ne.symm h)]
      · unfold rget at ih ⊢
        by_cases e : p.1 = y
        · rw [List.find?_cons_of_pos (by simpa using e), List.find?_cons_of_pos (by simpa using e)]
        · rw [List.find?_cons_of_neg (by simpa using e), List.find?_cons_of_neg (by simpa using e)]
          exact ih
  unfold rput
  rw [h1]
  exact rget_del_other R x y h
theorem rdel_length (R : List (Int × Int)) (x : Int) : (rdel R x).length ≤ R.length := List.length_filter_le _ _
theorem rins_length (p : Int × Int) : ∀ R, (rins p R).length = R.length + 1
  | [] => rfl
  | y :: r => by
    simp only [rins]
    split
    · rfl
    · simp [rins_length p r]
theorem rput_length (R : List (Int × Int)) (x r : Int) : (rput R x r).length ≤ R.length + 1 := by
  unfold rput
  rw [rins_length]
  have := rdel_length R x
  omega
end Go.Proofs.YteepkanbiefpjaaGreatDoor.Fl
set_option linter.unusedVariables false
set_option linter.unusedSimpArgs false
namespace Go.Proofs.YteepkanbiefpjaaGreatDoor.Fl
open Go.RowKit K
def Wr (R : List (Int × Int)) (q : Int) : Prop := ∃ r, rget R q = some r ∧ r ≠ 0
structure G (s : T) (n : Nat) (x : Int) : Prop where
  lease : 1 ≤ s.lease ∧ s.lease ≤ 1000
  left : 0 ≤ s.left ∧ s.left ≤ s.lease
  ids : ∀ p ∈ s.roles, 1 ≤ p.1 ∧ p.1 ≤ 9223372036854775807
  hold : s.holder ≠ 0 → s.holder ≠ x → Wr s.roles s.holder
  hpos : 0 ≤ s.holder ∧ s.holder ≤ 9223372036854775807
  free : s.holder = 0 → s.queue = [] ∧ s.left = 0
  busy : s.holder ≠ 0 → 1 ≤ s.left
  wait : ∀ q ∈ s.queue, q ≠ x → Wr s.roles q
  qpos : ∀ q ∈ s.queue, 1 ≤ q ∧ q ≤ 9223372036854775807
  nodup : s.queue.Nodup
  apart : s.holder ∉ s.queue
  lens : s.queue.length ≤ n ∧ s.roles.length ≤ n
theorem rget_mem {R : List (Int × Int)} {x r : Int} (h : rget R x = some r) : (x, r) ∈ R := by
  unfold rget at h
  obtain ⟨p, hp, rfl⟩ := Option.map_eq_some_iff.1 h
  have h1 := List.find?_some hp
  have h2 := List.mem_of_find?_eq_some hp
  simp only [decide_eq_true_eq] at h1
  subst h1
  exact h2
theorem Wr.pos {s : T} {n : Nat} {x q : Int} (h : G s n x) (hw : Wr s.roles q) : 1 ≤ q ∧ q ≤ 9223372036854775807 := by
  obtain ⟨r, hr, _⟩ := hw
  exact h.ids _ (rget_mem hr)
theorem rget_put_same (R : List (Int × Int)) (x r : Int) : rget (rput R x r) x = some r := by
  have h0 : rget (rdel R x) x = none := by
    unfold rget
    rw [Option.map_eq_none_iff, List.find?_eq_none]
    intro p hp
    have := (List.mem_filter.1 hp).2
    simpa using this
  have h1 : ∀ R : List (Int × Int), rget R x = none → rget (rins (x, r) R) x = some r := by
    intro R
    induction R with
    | nil => intro _; simp [rins, rget]
    | cons p R ih =>
      intro h
      unfold rget at h
      rw [Option.map_eq_none_iff, List.find?_cons] at h
      simp only [rins]
      split
      · simp [rget]
      · split at h
        · cases h
        · rename_i hp
          unfold rget at ih ⊢
          rw [List.find?_cons, hp]
          exact ih (by rw [h]; rfl)
  exact h1 _ h0
theorem rput_mem {R : List (Int × Int)} {x r : Int} {p : Int × Int} (h : p ∈ rput R x r) : p = (x, r) ∨ p ∈ R := by
  have h1 : ∀ R : List (Int × Int), p ∈ rins (x, r) R → p = (x, r) ∨ p ∈ R := by
    intro R
    induction R with
    | nil => intro h; simp [rins] at h; exact .inl h
    | cons y R ih =>
      intro h
      simp only [rins] at h
      split at h
      · rcases List.mem_cons.1 h with e | h
        · exact .inl e
        · exact .inr h
      · rcases List.mem_cons.1 h with e | h
        · exact .inr (by rw [e]; simp)
        · rcases ih h with e | h
          · exact .inl e
          · exact .inr (List.mem_cons_of_mem _ h)
  rcases h1 _ h with e | h
  · exact .inl e
  · exact .inr (List.mem_filter.1 h).1
theorem G.mono {s : T} {n m : Nat} {x : Int} (h : G s n x) (hm : n ≤ m) : G s m x := { h with lens := ⟨Nat.le_trans h.lens.1 hm, Nat.le_trans h.lens.2 hm⟩ }
theorem G.weak {s : T} {n : Nat} (h : G s n 0) (x : Int) : G s n x := { h with
  hold := fun h1 _ => h.hold h1 h1
  wait := fun q hq _ => h.wait q hq (by have := h.qpos q hq; omega) }
theorem G.grant {s : T} {n : Nat} {x id : Int} (h : G s n x) (hx : x = 0 ∨ x = id ∨ x ∉ s.queue) (hid : Wr s.roles id) (hl : (s.queue.filter fun y => !(y == id)).length ≤ n) : G (grant s id) n 0 := by
  have hp := Wr.pos h hid
  have hlz := h.lease
  refine ⟨h.lease, ⟨by show 0 ≤ s.lease; omega, by show s.lease ≤ s.lease; omega⟩, h.ids, fun _ _ => hid, ⟨by show 0 ≤ id; omega, hp.2⟩, fun e => ?_, fun _ => by show 1 ≤ s.lease; omega, fun q hq _ => ?_, fun q hq => h.qpos q (List.mem_filter.1 hq).1, h.nodup.filter _, fun hq => ?_, ⟨hl, h.lens.2⟩⟩
  · exact absurd (show id = 0 from e) (by omega)
  · have hq1 := (List.mem_filter.1 hq).1
    have hq2 := (List.mem_filter.1 hq).2
    refine h.wait q hq1 (fun e => ?_)
    have hqp := h.qpos q hq1
    rcases hx with hx | hx | hx
    · omega
    · rw [e, hx] at hq2; simp at hq2
    · exact hx (e ▸ hq1)
  · have := (List.mem_filter.1 hq).2
    exact absurd (show (!(id == id)) = true from this) (by simp)
theorem G.pass {s : T} {n : Nat} {x : Int} (h : G s n x) (hx : x = 0 ∨ x ∉ s.queue) : G (pass s) n 0 := by
  unfold Fl.pass
  cases hq : s.queue with
  | nil => exact ⟨h.lease, ⟨by show (0 : Int) ≤ 0; omega, by show (0 : Int) ≤ s.lease; have := h.lease; omega⟩, h.ids, fun e => absurd rfl e, ⟨by show (0 : Int) ≤ 0; omega, by show (0 : Int) ≤ _; omega⟩, fun _ => ⟨hq, rfl⟩, fun e => absurd rfl e, fun q h' => (by rw [show (zero s).queue = [] from hq] at h'; cases h'), h.qpos, h.nodup, (by rw [show (zero s).queue = [] from hq]; simp), h.lens⟩
  | cons q r =>
    have hmem : q ∈ s.queue := by rw [hq]; simp
    have hw : Wr s.roles q := h.wait q hmem (fun e => by
      rcases hx with hx | hx
      · have := h.qpos q hmem; omega
      · exact hx (e ▸ hmem))
    have hp := Wr.pos h hw
    refine ⟨h.lease, ⟨by show 0 ≤ s.lease; have := h.lease; omega, by show s.lease ≤ s.lease; omega⟩, h.ids, fun _ _ => hw, ⟨by show 0 ≤ q; omega, hp.2⟩, fun e => absurd (show q = 0 from e) (by omega), fun _ => by show 1 ≤ s.lease; have := h.lease; omega, fun y hy _ => ?_, fun y hy => h.qpos y (List.mem_filter.1 hy).1, h.nodup.filter _, fun hy => ?_, ⟨Nat.le_trans (List.length_filter_le _ _) h.lens.1, h.lens.2⟩⟩
    · have hy1 := (List.mem_filter.1 hy).1
      refine h.wait y hy1 (fun e => ?_)
      rcases hx with hx | hx
      · have := h.qpos y hy1; omega
      · exact hx (e ▸ hy1)
    · have := (List.mem_filter.1 hy).2
      exact absurd (show (!(q == q)) = true from this) (by simp)
theorem G.forget {s : T} {n : Nat} {x : Int} (h : G s n x) (id : Int) : G (forget s id) n x ∧ id ∉ (Fl.forget s id).queue :=
  ⟨{ lease := h.lease, left := h.left, ids := h.ids, hold := h.hold, hpos := h.hpos
     free := fun e => ⟨by show s.queue.filter _ = []; rw [(h.free e).1]; rfl, (h.free e).2⟩
     busy := h.busy
     wait := fun q hq => h.wait q (List.mem_filter.1 hq).1
     qpos := fun q hq => h.qpos q (List.mem_filter.1 hq).1
     nodup := h.nodup.filter _
     apart := fun hq => h.apart (List.mem_filter.1 hq).1
     lens := ⟨Nat.le_trans (List.length_filter_le _ _) h.lens.1, h.lens.2⟩ }, fun hq => by
    have := (List.mem_filter.1 hq).2
    simp at this⟩
theorem pass_holder {s : T} {x : Int} (h1 : x ≠ 0) (h : x ∉ s.queue) : (pass s).holder ≠ x ∧ x ∉ (pass s).queue := by
  unfold pass
  cases hq : s.queue with
  | nil => exact ⟨fun e => h1 e.symm, by rw [show (zero s).queue = [] from hq]; simp⟩
  | cons q r => exact ⟨fun e => h (by rw [hq]; rw [← show q = x from e]; simp), fun hm => h (List.mem_filter.1 hm).1⟩
theorem G.lose {s : T} {n : Nat} {x : Int} (h : G s n x) (hx : 1 ≤ x) : G (lose s x) n 0 ∧ (Fl.lose s x).holder ≠ x ∧ x ∉ (Fl.lose s x).queue := by
  obtain ⟨h1, h2⟩ := h.forget x
  unfold Fl.lose
  split
  · obtain ⟨h3, h4⟩ := pass_holder (s := Fl.forget s x) (x := x) (by omega) h2
    exact ⟨h1.pass (.inr h2), h3, h4⟩
  · rename_i hne
    refine ⟨{ h1 with hold := fun a _ => h1.hold a hne, wait := fun q hq _ => h1.wait q hq (fun e => h2 (e ▸ hq)) }, hne, h2⟩
theorem G.roled {s : T} {n : Nat} {x : Int} (h : G s n 0) (h1 : s.holder ≠ x) (h2 : x ∉ s.queue) (R : List (Int × Int)) (hR : ∀ y, y ≠ x → rget R y = rget s.roles y) (hids : ∀ p ∈ R, 1 ≤ p.1 ∧ p.1 ≤ 9223372036854775807) (hl : R.length ≤ n) : G { s with roles := R } n 0 :=
  { h with
    ids := hids
    hold := fun a b => by
      obtain ⟨r, hr, h0⟩ := h.hold a b
      exact ⟨r, by rw [← hr]; exact hR _ h1, h0⟩
    wait := fun q hq b => by
      obtain ⟨r, hr, h0⟩ := h.wait q hq b
      exact ⟨r, by rw [← hr]; exact hR _ (fun e => h2 (e ▸ hq)), h0⟩
    lens := ⟨h.lens.1, hl⟩ }
theorem G.join {s : T} {n : Nat} (h : G s n 0) (id r : Int) (hid : id ≤ 9223372036854775807) : G (join s id r) (n + 1) 0 := by
  unfold Fl.join
  split
  · rename_i hj
    simp only [joins, Bool.and_eq_true, decide_eq_true_eq, Bool.not_eq_true', Option.isSome_eq_false_iff, Option.isNone_iff_eq_none] at hj
    obtain ⟨hn, h1, h2, h3⟩ := hj
    have hne : ∀ q, Wr s.roles q → q ≠ id := fun q hw e => by
      obtain ⟨r, hr, _⟩ := hw
      rw [e, hn] at hr
      cases hr
    refine G.roled (x := id) (h.mono (Nat.le_succ n)) ?_ ?_ _ (fun y hy => rget_put_other _ _ _ _ hy) ?_ ?_
    · intro e
      by_cases h0 : s.holder = 0
      · omega
      · exact hne _ (h.hold h0 h0) e
    · intro hq
      exact hne _ (h.wait id hq (by omega)) rfl
    · intro p hp
      rcases rput_mem hp with rfl | hp
      · exact ⟨h1, hid⟩
      · exact h.ids p hp
    · have := rput_length s.roles id r
      have := h.lens.2
      omega
  · exact h.mono (Nat.le_succ n)
theorem G.leave {s : T} {n : Nat} (h : G s n 0) (id : Int) : G (leave s id) n 0 := by
  unfold Fl.leave
  split
  · rename_i hl
    obtain ⟨r, hr⟩ := Option.isSome_iff_exists.1 hl
    have hp := h.ids _ (rget_mem hr)
    obtain ⟨h1, h2, h3⟩ := (h.weak id).lose hp.1
    refine G.roled h1 h2 h3 _ (fun y hy => ?_) (fun p hp => h.ids p (List.mem_filter.1 hp).1) (Nat.le_trans (rdel_length _ _) h.lens.2)
    rw [lose_roles]
    exact rget_del_other _ _ _ hy
  · exact h
theorem G.setRole {s : T} {n : Nat} (h : G s n 0) (id r : Int) : G (setRole s id r) (n + 1) 0 := by
  unfold Fl.setRole
  split
  · rename_i hs
    simp only [sets, Bool.and_eq_true, decide_eq_true_eq] at hs
    obtain ⟨r0, hr0⟩ := Option.isSome_iff_exists.1 hs.1
    have hp := h.ids _ (rget_mem hr0)
    have hids : ∀ p ∈ rput s.roles id r, 1 ≤ p.1 ∧ p.1 ≤ 9223372036854775807 := fun p hp' => by
      rcases rput_mem hp' with rfl | hp'
      · exact hp
      · exact h.ids p hp'
    have hlen : (rput s.roles id r).length ≤ n + 1 := by have := rput_length s.roles id r; have := h.lens.2; omega
    have hw : ∀ q, q ≠ id → Wr s.roles q → Wr (rput s.roles id r) q := fun q hq ⟨x, hx, h0⟩ => ⟨x, by rw [rget_put_other _ _ _ _ hq]; exact hx, h0⟩
    have hG : G { s with roles := rput s.roles id r } (n + 1) id := { h with
      ids := hids
      hold := fun a b => hw _ b (h.hold a a)
      wait := fun q hq b => hw _ b (h.wait q hq (by have := h.qpos q hq; omega))
      lens := ⟨Nat.le_succ_of_le h.lens.1, hlen⟩ }
    split
    · exact (hG.lose hp.1).1
    · rename_i hr
      have hwi : Wr (rput s.roles id r) id := ⟨r, rget_put_same _ _ _, hr⟩
      refine { hG with hold := fun a b => ?_, wait := fun q hq b => ?_ }
      · by_cases e : s.holder = id
        · rw [show ({ s with roles := rput s.roles id r } : T).holder = id from e]; exact hwi
        · exact hG.hold a e
      · by_cases e : q = id
        · rw [e]; exact hwi
        · exact hG.wait q hq e
  · exact h.mono (Nat.le_succ n)
theorem may_zero {s : T} {id : Int} (h : may s id = 0) : Wr s.roles id ∧ s.holder ≠ id := by
  unfold may at h
  split at h
  · cases h
  · rename_i r hr
    split at h
    · cases h
    · split at h
      · cases h
      · rename_i h0 h1
        exact ⟨⟨r, hr, h0⟩, h1⟩
theorem G.ask {s : T} {n : Nat} (h : G s n 0) (id : Int) : G (ask s id) (n + 1) 0 := by
  unfold Fl.ask
  split
  · exact h.mono (Nat.le_succ n)
  · rename_i ha
    have ha : asks s id = 0 := by omega
    unfold asks at ha
    split at ha
    · rename_i hm; exact absurd ha hm
    · rename_i hm
      have hm : may s id = 0 := by omega
      obtain ⟨hw, hh⟩ := may_zero hm
      split at ha
      · cases ha
      · rename_i hc
        have hc : id ∉ s.queue := fun hm => hc (List.contains_iff_mem.2 hm)
        have hp := Wr.pos h hw
        split
        · exact (h.mono (Nat.le_succ n)).grant (.inl rfl) hw (Nat.le_succ_of_le (Nat.le_trans (List.length_filter_le _ _) h.lens.1))
        · rename_i h0
          refine { h with
            free := fun e => absurd e h0
            wait := fun q hq b => ?_
            qpos := fun q hq => ?_
            nodup := ?_
            apart := fun hq => ?_
            lens := ⟨by rw [List.length_append]; simpa using h.lens.1, Nat.le_succ_of_le h.lens.2⟩ }
          · rcases List.mem_append.1 hq with hq | hq
            · exact h.wait q hq b
            · rw [List.mem_singleton.1 hq]; exact hw
          · rcases List.mem_append.1 hq with hq | hq
            · exact h.qpos q hq
            · rw [List.mem_singleton.1 hq]; exact hp
          · rw [List.nodup_append]
            exact ⟨h.nodup, by simp, fun a ha b hb => by rw [List.mem_singleton.1 hb]; exact fun e => hc (e ▸ ha)⟩
          · rcases List.mem_append.1 hq with hq | hq
            · exact h.apart hq
            · exact hh (List.mem_singleton.1 hq)
theorem G.drop {s : T} {n : Nat} (h : G s n 0) (id : Int) : G (drop s id) n 0 := by
  unfold Fl.drop
  split
  · rename_i hd
    unfold drops at hd
    split at hd
    · cases hd
    · rename_i hs
      have hs : (rget s.roles id).isSome = true := by
        cases hh : (rget s.roles id).isSome with
        | true => rfl
        | false => exact absurd hh hs
      obtain ⟨r, hr⟩ := Option.isSome_iff_exists.1 hs
      exact ((h.weak id).lose (h.ids _ (rget_mem hr)).1).1
  · exact h
theorem G.give {s : T} {n : Nat} (h : G s n 0) (id : Int) : G (give s id) n 0 := by
  unfold Fl.give
  split
  · rename_i hm
    exact h.grant (.inl rfl) (may_zero hm).1 (Nat.le_trans (List.length_filter_le _ _) h.lens.1)
  · exact h
theorem G.revoke {s : T} {n : Nat} (h : G s n 0) : G (revoke s) n 0 := by
  unfold Fl.revoke
  split
  · exact h
  · exact h.pass (.inl rfl)
theorem G.tick {s : T} {n : Nat} (h : G s n 0) : G (tick s) n 0 := by
  have hl : ∀ m : Int, 1 ≤ m → m ≤ s.lease → s.holder ≠ 0 → G (lessen s m) n 0 := fun m h1 h2 h0 => { h with left := ⟨by show 0 ≤ m; omega, h2⟩, free := fun e => absurd e h0, busy := fun _ => h1 }
  unfold Fl.tick
  split
  · exact h
  · rename_i h0
    have h1 := h.left
    have h2 := h.lease
    split
    · exact hl _ (by omega) (by omega) h0
    · split
      · exact hl _ (by omega) (by omega) h0
      · exact (hl _ (by omega) (by omega) h0).pass (.inl rfl)
theorem G.new (n : Int) : G (new n) 0 0 := by
  have h1 : 1 ≤ clampLease n ∧ clampLease n ≤ 1000 := by unfold clampLease mx mn; split <;> split <;> omega
  exact ⟨h1, ⟨by show (0 : Int) ≤ 0; omega, by show (0 : Int) ≤ clampLease n; omega⟩, fun p hp => by simp [Fl.new] at hp, fun e => absurd rfl e, ⟨by show (0 : Int) ≤ 0; omega, by show (0 : Int) ≤ _; omega⟩, fun _ => ⟨rfl, rfl⟩, fun e => absurd rfl e, fun q hq => by simp [Fl.new] at hq, fun q hq => by simp [Fl.new] at hq, by simp [Fl.new], by simp [Fl.new], by simp [Fl.new]⟩
end Go.Proofs.YteepkanbiefpjaaGreatDoor.Fl
set_option linter.unusedVariables false
set_option linter.unusedSimpArgs false
namespace Go.Proofs.YteepkanbiefpjaaGreatDoor.Iq
open Go.RowKit K Fl
structure QS where
  buf : List UInt8
  size : Int
  ended : Bool
  total : Int
structure QI (w : World) (p : Nat) (F : Nat → Prop) (x : QS) : Prop where
  mk ::
  has : ∃ q Fq, w.heap[p]? = some (.cells #[.pointer (some ⟨q, 0, none⟩), .bool x.ended, .int .i64 x.total] 129 (0, 0)) ∧ Oq.Que w q x.buf x.size Fq ∧ ¬ Fq p ∧ ∀ k, F k ↔ k = p ∨ Fq k
section
variable {w w1 : World} {p : Nat} {x : QS} {F S : Nat → Prop}
theorem QI.upd (h : QI w p F x) (k : Upd S w w1) (hn : ∀ i, F i → ¬ S i) : QI w1 p F x := by
  obtain ⟨q, Fq, hb, ho, h1, hF⟩ := h.has
  exact ⟨q, Fq, k.blk hb (hn p ((hF p).2 (.inl rfl))), ho.upd k (fun i hi => hn i ((hF i).2 (.inr hi))), h1, hF⟩
theorem QI.up (h : QI w p F x) (k : Upd (fun _ => False) w w1) : QI w1 p F x := h.upd k (fun _ _ h => h)
theorem QI.lt (h : QI w p F x) : ∀ k, F k → k < w.heap.size := by
  obtain ⟨q, Fq, hb, ho, h1, hF⟩ := h.has
  intro k hk
  rcases (hF k).1 hk with rfl | e
  · exact blk_lt hb
  · exact ho.lt k e
theorem QI.own (h : QI w p F x) : F p := by obtain ⟨q, Fq, hb, ho, h1, hF⟩ := h.has; exact (hF p).2 (.inl rfl)
theorem QI.cells (h : QI w p F x) : ∃ q Fq, Asd (w.heap[p]? = some (.cells #[.pointer (some ⟨q, 0, none⟩), .bool x.ended, .int .i64 x.total] 129 (0, 0))) ∧ Asd (Oq.Que w q x.buf x.size Fq) ∧ Asd (¬ Fq p ∧ ∀ k, F k ↔ k = p ∨ Fq k) ∧ p < w.heap.size := by
  obtain ⟨q, Fq, hb, ho, h1, hF⟩ := h.has
  exact ⟨q, Fq, ⟨hb⟩, ⟨ho⟩, ⟨h1, hF⟩, blk_lt hb⟩
end
def QTurns (v : Value) (x : QS) (p : Nat) (F : Nat → Prop) (w : World) (e : Ending) (w' : World) : Prop :=
  e = .returned v ∧ ∃ F', QI w' p F' x ∧ Upd F w w' ∧ ∀ k, F' k → F k ∨ w.heap.size ≤ k
def QNew (x : QS) (w : World) (e : Ending) (w' : World) : Prop := ∃ p F, e = .returned (.pointer (some ⟨p, 0, none⟩)) ∧ QI w' p F x ∧ Upd (fun _ => False) w w' ∧ ∀ k, F k → w.heap.size ≤ k
set_option maxHeartbeats 400000 in
theorem new_calls (n : Int) (w : World) : Calls Tryz.prog 46 #[.int .i64 n] w (QNew ⟨[], Oq.clampSize n, false, 0⟩ w) := by
  go_enter Tryz.func46, Tryz.ntmps46
  go_wp2_with fail
  refine (Oq.new_calls n w).mono ?_
  rintro e w1 ⟨q, F, rfl, hq, hu, hf⟩
  have HQ := Asd.mk hq
  have HU := Asd.mk (And.intro hu hf)
  clear hq hu hf
  go_wp2
  go_ret
  have h1 := heap_alloc_new w1 (.cells #[.pointer (some ⟨q, 0, none⟩), .bool false, .int .i64 0] 129)
  have hk := (Upd.refl (fun _ => False) w1).alloc (.cells #[.pointer (some ⟨q, 0, none⟩), .bool false, .int .i64 0] 129)
  have hF := HQ.out.lt
  refine ⟨w1.heap.size, fun k => k = w1.heap.size ∨ F k, rfl, ⟨q, F, h1, HQ.out.upd hk (fun _ _ h => h), fun h => by have := hF _ h; omega, fun k => Iff.rfl⟩, HU.out.1.trans hk (fun _ _ h => h), fun k hk => ?_⟩
  rcases hk with rfl | h
  · exact HU.out.1.size
  · exact HU.out.2 k h
section
variable {w : World} {p t : Nat} {x : QS} {s : T} {F Ft : Nat → Prop}
def why (x : QS) (s : T) (id : Int) (n : Nat) : Int :=
  if x.ended then 1 else match rget s.roles id with
  | none => 2
  | some r => if r = 0 then 3 else if s.holder ≠ id then 4 else if x.size - x.buf.length < (n : Int) then 5 else 0
set_option maxHeartbeats 2000000 in
theorem why_calls (h : QI w p F x) (ht : TB w t Ft s) (id : Int) (hid : idOk id) (A : Option Addr) (n c : Nat) : Calls Tryz.prog 125 #[.pointer (some ⟨p, 0, none⟩), .pointer (some ⟨t, 0, none⟩), .int .i64 id, .slice A n c] w fun e w' => e = .returned (.int .i64 (why x s id n)) ∧ Upd (fun _ => False) w w' := by
  obtain ⟨q, Fq, HB, HQ, _⟩ := h.cells
  have HT := Asd.mk ht
  have c0 := keepsC (o := 0) HB.out rfl
  have c1 := keepsC (o := 1) HB.out rfl
  have hk : Upd (fun _ => False) w w := Upd.refl _ _
  obtain ⟨y, hy⟩ : ∃ y, y = why x s id n := ⟨_, rfl⟩
  rw [← hy]
  unfold why at hy
  obtain ⟨rr, hrr⟩ : ∃ rr, rr = rget s.roles id := ⟨_, rfl⟩
  rw [← hrr] at hy
  have HR := Asd.mk hrr
  clear h ht HB hrr
  cases hen : x.ended with
  | true =>
    rw [hen] at hy c1
    simp only [if_true] at hy
    subst hy
    clear hen
    go_enter Tryz.func125, Tryz.ntmps125
    go_wp2_with fail
    refine (role_calls HT.out id hid).mono ?_
    rintro e w1 ⟨rfl, rfl⟩
    go_wp2
    go_ret
    exact ⟨rfl, hk⟩
  | false =>
    rw [hen] at hy c1
    simp only [Bool.false_eq_true, if_false] at hy
    clear hen
    cases hr : rr with
    | none =>
      rw [hr] at hy HR
      simp only at hy
      subst hy
      go_enter Tryz.func125, Tryz.ntmps125
      go_wp2_with fail
      refine (role_calls HT.out id hid).mono ?_
      rw [← HR.out]
      simp only [Option.getD_none, Option.isSome_none]
      rintro e w1 ⟨rfl, rfl⟩
      go_wp2
      go_ret
      exact ⟨rfl, hk⟩
    | some r =>
      rw [hr] at hy HR
      simp only at hy
      by_cases h0 : r = 0
      · rw [if_pos h0] at hy
        subst hy
        rw [h0] at HR
        go_enter Tryz.func125, Tryz.ntmps125
        go_wp2_with fail
        refine (role_calls HT.out id hid).mono ?_
        rw [← HR.out]
        simp only [Option.getD_some, Option.isSome_some]
        rintro e w1 ⟨rfl, rfl⟩
        go_wp2
        go_ret
        exact ⟨rfl, hk⟩
      · rw [if_neg h0] at hy
        have hb0 : (r == 0) = false := beq_eq_false_iff_ne.2 h0
        by_cases hh : s.holder = id
        · have hhb : (id != id) = false := by simp
          rw [if_neg (fun h => h hh)] at hy
          have HH := Asd.mk hh
          by_cases hrm : x.size - x.buf.length < (n : Int)
          · rw [if_pos hrm] at hy
            subst hy
            clear h0 hh hr
            go_enter Tryz.func125, Tryz.ntmps125
            go_wp2_with fail
            refine (role_calls HT.out id hid).mono ?_
            rw [← HR.out]
            simp only [Option.getD_some, Option.isSome_some]
            rintro e w1 ⟨rfl, rfl⟩
            go_wp2_with fail
            refine (holder_calls HT.out).mono ?_
            rw [HH.out]
            rintro e w1 ⟨rfl, rfl⟩
            go_wp2_with fail
            refine (Oq.room_calls HQ.out).mono ?_
            rintro e w1 ⟨rfl, hd⟩
            go_wp2
            go_ret
            exact ⟨rfl, hd.upd _⟩
          · rw [if_neg hrm] at hy
            subst hy
            clear h0 hh hr
            go_enter Tryz.func125, Tryz.ntmps125
            go_wp2_with fail
            refine (role_calls HT.out id hid).mono ?_
            rw [← HR.out]
            simp only [Option.getD_some, Option.isSome_some]
            rintro e w1 ⟨rfl, rfl⟩
            go_wp2_with fail
            refine (holder_calls HT.out).mono ?_
            rw [HH.out]
            rintro e w1 ⟨rfl, rfl⟩
            go_wp2_with fail
            refine (Oq.room_calls HQ.out).mono ?_
            rintro e w1 ⟨rfl, hd⟩
            go_wp2
            go_ret
            exact ⟨rfl, hd.upd _⟩
        · have hhb : (s.holder != id) = true := bne_iff_ne.2 hh
          rw [if_pos hh] at hy
          subst hy
          clear h0 hh hr
          go_enter Tryz.func125, Tryz.ntmps125
          go_wp2_with fail
          refine (role_calls HT.out id hid).mono ?_
          rw [← HR.out]
          simp only [Option.getD_some, Option.isSome_some]
          rintro e w1 ⟨rfl, rfl⟩
          go_wp2_with fail
          refine (holder_calls HT.out).mono ?_
          rintro e w1 ⟨rfl, rfl⟩
          go_wp2
          go_ret
          exact ⟨rfl, hk⟩
def offer (x : QS) (s : T) (id : Int) (l : List UInt8) : QS := if why x s id l.length = 0 then { x with buf := x.buf ++ l, total := x.total + l.length } else x
theorem why_fits {id : Int} {n : Nat} (h : why x s id n = 0) : (n : Int) ≤ x.size - x.buf.length := by
  unfold why at h
  split at h
  · cases h
  · split at h
    · cases h
    · split at h
      · cases h
      · split at h
        · cases h
        · split at h
          · cases h
          · omega
set_option maxHeartbeats 2000000 in
theorem offer_calls (h : QI w p F x) (ht : TB w t Ft s) (id : Int) (hid : idOk id) (A : Option Addr) (n c : Nat) (l : List UInt8) (hr : Rd w A n l) (hl : l.length = n) (hb : 0 ≤ x.total ∧ x.total + n ≤ 1000000000) : Calls Tryz.prog 103 #[.pointer (some ⟨p, 0, none⟩), .pointer (some ⟨t, 0, none⟩), .int .i64 id, .slice A n c] w (QTurns (.int .i64 (why x s id n)) (offer x s id l) p F w) := by
  have H := Asd.mk h
  have HT := Asd.mk ht
  have HR := Asd.mk hr
  have HL := Asd.mk hl
  obtain ⟨y, hy⟩ : ∃ y, y = why x s id n := ⟨_, rfl⟩
  have HY := Asd.mk hy
  rw [← hy]
  clear h ht hr hy hl
  by_cases hz : y = 0
  · have HO : Asd (offer x s id l = { x with buf := x.buf ++ l, total := x.total + n }) := ⟨by unfold offer; rw [HL.out, ← HY.out, if_pos hz]⟩
    have HW := Asd.mk (why_fits (HY.out.symm.trans hz))
    subst hz
    rw [HO.out]
    clear HO
    go_enter Tryz.func103, Tryz.ntmps103
    go_wp2_with fail
    refine (why_calls H.out HT.out id hid A n c).mono ?_
    rw [← HY.out]
    rintro e w1 ⟨rfl, hu⟩
    have H1 := Asd.mk (H.out.up hu)
    have HU1 := Asd.mk hu
    have HR1 := Asd.mk (HR.out.upd hu (fun _ _ h => h))
    obtain ⟨q, Fq, HB, HQ, HF, hps⟩ := H1.out.cells
    have c0 := keepsC (o := 0) HB.out rfl
    have hk1 : Upd (fun _ => False) w1 w1 := Upd.refl _ _
    clear hu
    go_wp2_with fail
    refine (Oq.put_yes HQ.out A n c l HR1.out HW.out).mono ?_
    rintro e w2 ⟨rfl, F2, hq2, hu2, hf2⟩
    have hb2 := hu2.blk HB.out HF.out.1
    have c2 := keepsC (o := 2) hb2 rfl
    have ff := fun o => keepsF (o := o) hb2
    have hk2 : Upd (fun _ => False) w2 w2 := Upd.refl _ _
    have HQ2 := Asd.mk hq2
    have HB2 := Asd.mk hb2
    have HU2 := Asd.mk (And.intro hu2 hf2)
    clear hq2 hb2 hu2 hf2 c0 hk1
    go_wp2
    go_ret
    have hu3 : Upd (fun i => i = p) w2 (w2.setCell ⟨p, 2, none⟩ (.int .i64 (x.total + n))) := (Upd.refl (fun i => i = p) w2).setAt (.inl rfl)
    have hn2 : ¬ F2 p := fun h => (HU2.out.2 p h).elim HF.out.1 (fun h => by omega)
    refine ⟨rfl, fun k => k = p ∨ F2 k, ⟨q, F2, by rw [hp_same HB2.out]; rfl, HQ2.out.upd hu3 (fun i hi e => hn2 (by rw [← e]; exact hi)), hn2, fun k => Iff.rfl⟩, ?_, fun k hk => ?_⟩
    · exact ((HU1.out.mono (T := F) (fun _ _ h => h.elim)).trans HU2.out.1 (fun i hi h => (HF.out.2 i).2 (.inr h))).trans hu3 (fun i hi e => (HF.out.2 i).2 (.inl e))
    · rcases hk with rfl | h
      · exact .inl ((HF.out.2 _).2 (.inl rfl))
      · exact (HU2.out.2 k h).elim (fun h => .inl ((HF.out.2 k).2 (.inr h))) (fun h => .inr (Nat.le_trans HU1.out.size h))
  · have HO : Asd (offer x s id l = x) := ⟨by unfold offer; rw [HL.out, ← HY.out, if_neg hz]⟩
    rw [HO.out]
    have hzb : (y == 0) = false := beq_eq_false_iff_ne.2 hz
    clear HO hz
    go_enter Tryz.func103, Tryz.ntmps103
    go_wp2_with fail
    refine (why_calls H.out HT.out id hid A n c).mono ?_
    rw [← HY.out]
    rintro e w1 ⟨rfl, hu⟩
    have H1 := Asd.mk (H.out.up hu)
    have HU1 := Asd.mk hu
    clear hu
    go_wp2
    go_ret
    exact ⟨rfl, F, H1.out, HU1.out.mono (fun _ _ h => h.elim), fun k h => .inl h⟩
end
end Go.Proofs.YteepkanbiefpjaaGreatDoor.Iq
set_option linter.unusedVariables false
set_option linter.unusedSimpArgs false
namespace Go.Proofs.YteepkanbiefpjaaGreatDoor.Rg
open Go.RowKit K
theorem info8 : (Tryz.prog.info? 5).map (fun i => (i.zero, i.size, i.bytes)) = some (some (.int .u8 0), 1, 1) := by kernel_rfl
structure Bare (w : World) (q g n : Nat) (l : List UInt8) (base : Nat) : Prop where
  blk : w.heap[q]? = some (.cells #[.slice (some ⟨g, 0, none⟩) n n, .int .i64 (base : Int), .int .i64 (l.length : Int)] 134 (0, 0))
  own : ∃ cs : List UInt8, Own w 5 1 (.slice (some ⟨g, 0, none⟩) n n) n (B cs) (some g) ∧ ∀ i (h : i < l.length), l.length ≤ i + n → cs[i % n]? = some l[i]
  ne : q ≠ g
  lo : 1 ≤ n
  hi : n ≤ 65536
  few : l.length ≤ 1099511627776
def Ring (w : World) (q g n : Nat) (l : List UInt8) : Prop := Bare w q g n l (l.length - n)
def Its (q g k : Nat) : Prop := k = q ∨ k = g
section
variable {w w1 : World} {q g n base : Nat} {l : List UInt8} {S : Nat → Prop}
theorem Bare.upd (h : Bare w q g n l base) (k : Upd S w w1) (hn : ∀ i, Its q g i → ¬ S i) : Bare w1 q g n l base := by
  obtain ⟨cs, ho, hcs⟩ := h.own
  exact ⟨k.blk h.blk (hn q (.inl rfl)), ⟨cs, ho.upd k (fun g' e => by obtain rfl := Option.some.inj e; exact hn _ (.inr rfl)), hcs⟩, h.ne, h.lo, h.hi, h.few⟩
theorem Bare.up (h : Bare w q g n l base) (k : Upd (fun _ => False) w w1) : Bare w1 q g n l base := h.upd k (fun _ _ h => h)
theorem Ring.upd (h : Ring w q g n l) (k : Upd S w w1) (hn : ∀ i, Its q g i → ¬ S i) : Ring w1 q g n l := Bare.upd h k hn
theorem Ring.up (h : Ring w q g n l) (k : Upd (fun _ => False) w w1) : Ring w1 q g n l := Bare.up h k
theorem Bare.lt (h : Bare w q g n l base) : ∀ k, Its q g k → k < w.heap.size := by
  obtain ⟨cs, ho, hcs⟩ := h.own
  rintro k (rfl | rfl)
  · exact blk_lt h.blk
  · exact ho.lt k rfl
theorem Bare.cells (h : Bare w q g n l base) : w.cell? ⟨q, 0, none⟩ = some (.slice (some ⟨g, 0, none⟩) n n) ∧ w.cell? ⟨q, 1, none⟩ = some (.int .i64 (base : Int)) ∧ w.cell? ⟨q, 2, none⟩ = some (.int .i64 (l.length : Int)) := by
  have := h.blk
  exact ⟨by simp [World.cell?, this], by simp [World.cell?, this], by simp [World.cell?, this]⟩
end
def roomN (size : Int) : Nat := (mx 1 (mn size 65536)).toNat
theorem roomN_le (size : Int) : 1 ≤ roomN size ∧ roomN size ≤ 65536 ∧ mx 1 (mn size 65536) = (roomN size : Int) := by
  unfold roomN mx mn
  split <;> split <;> omega
def NewPost (n : Nat) (w : World) (e : Ending) (w' : World) : Prop := ∃ q g, e = .returned (.pointer (some ⟨q, 0, none⟩)) ∧ Ring w' q g n [] ∧ Upd (fun _ => False) w w' ∧ w.heap.size ≤ q ∧ w.heap.size ≤ g
set_option maxHeartbeats 400000 in
theorem new_calls (size : Int) (w : World) : Calls Tryz.prog 43 #[.int .i64 size] w (NewPost (roomN size) w) := by
  obtain ⟨h1, h2, h3⟩ := roomN_le size
  obtain ⟨n, hn⟩ : ∃ n, n = roomN size := ⟨_, rfl⟩
  rw [← hn] at h1 h2 h3
  rw [← hn]
  have H3 := Asd.mk h3
  clear h3 hn
  go_enter Tryz.func43, Tryz.ntmps43
  go_wp2_with (first | (with_reducible refine stop_append _ _ _ _ rfl ?_) | (with_reducible refine stop_copy _ _ _ _ rfl ?_) | (with_reducible refine stop_make _ _ _ rfl ?_) | (with_reducible refine stop_conv 31 9 _ rfl ?_))
  rw [H3.out]
  refine wp_makeB n 5 rfl _ _ 31 rfl Tryz.underlying31 info8 rfl rfl (by omega) ?_
  intro w1 hO1 hU1 hs1
  have HO1 := Asd.mk hO1
  have HU1 := Asd.mk hU1
  have HS1 := Asd.mk hs1
  clear hO1 hU1 hs1
  go_wp2
  go_ret
  have hs := HS1.out
  refine ⟨w1.heap.size, w.heap.size, rfl, ⟨?_, ⟨List.replicate n 0, HO1.out.upd ((Upd.refl (fun _ => False) _).alloc _) (fun _ _ h => h), fun i h => absurd h (by simp)⟩, by omega, h1, h2, by simp⟩, HU1.out.alloc _, by omega, Nat.le_refl _⟩
  have := heap_alloc_new w1 (.cells #[.slice (some ⟨w.heap.size, 0, none⟩) n n, .int .i64 0, .int .i64 0] 134)
  simpa using this
section
variable {w : World} {q g n base : Nat} {l : List UInt8}
set_option maxHeartbeats 400000 in
theorem base_calls (h : Bare w q g n l base) : Calls Tryz.prog 136 #[.pointer (some ⟨q, 0, none⟩)] w fun e w' => e = .returned (.int .i64 (base : Int)) ∧ w = w' := by
  obtain ⟨h0, h1, h2⟩ := h.cells
  clear h
  go_enter Tryz.func136, Tryz.ntmps136
  go_wp2
  go_ret
  exact ⟨rfl, rfl⟩
set_option maxHeartbeats 400000 in
theorem end_calls (h : Bare w q g n l base) : Calls Tryz.prog 156 #[.pointer (some ⟨q, 0, none⟩)] w fun e w' => e = .returned (.int .i64 (l.length : Int)) ∧ w = w' := by
  obtain ⟨h0, h1, h2⟩ := h.cells
  clear h
  go_enter Tryz.func156, Tryz.ntmps156
  go_wp2
  go_ret
  exact ⟨rfl, rfl⟩
set_option maxHeartbeats 400000 in
theorem at_calls (h : Bare w q g n l base) (i : Nat) (hi : i < l.length) (hb : l.length ≤ i + n) : Calls Tryz.prog 166 #[.pointer (some ⟨q, 0, none⟩), .int .i64 (i : Int)] w fun e w' => e = .returned (.int .u8 (l[i].toNat : Int)) ∧ Dr w w' := by
  obtain ⟨h0, h1, h2⟩ := h.cells
  have hlo := h.lo
  have hhi := h.hi
  obtain ⟨cs, ho, hcs⟩ := h.own
  have hm : i % n < n := Nat.mod_lt _ (by omega)
  have hx := hcs i hi hb
  have hc := (ho.cellB (i % n) hm).1
  rw [List.getElem?_eq_getElem (by rw [ho.llen]; exact hm), Option.some.injEq] at hx
  rw [hx, Nat.zero_add] at hc
  have hnb : ((n : Int) == 0) = false := beq_eq_false_iff_ne.2 (by omega)
  obtain ⟨c, hcc⟩ : ∃ c, c = l[i] := ⟨_, rfl⟩
  rw [← hcc] at hc
  rw [← hcc]
  clear h ho hcs hx hcc
  go_enter Tryz.func166, Tryz.ntmps166
  go_wp2
  go_quiet (fail)
  go_wp2
  go_ret
  exact ⟨rfl, _, rfl⟩
theorem mod_apart (a b n : Nat) (h1 : a < b) (h2 : b < a + n) : a % n ≠ b % n := by
  intro e
  have h3 := Nat.div_add_mod a n
  have h4 := Nat.div_add_mod b n
  rw [e] at h3
  have : n * (b / n) - n * (a / n) = b - a := by omega
  rw [← Nat.mul_sub] at this
  rcases Nat.eq_zero_or_pos (b / n - a / n) with h | h
  · rw [h] at this; omega
  · have := Nat.mul_le_mul_left n h
    omega
theorem Bare.put (h : Bare w q g n l base) (c : UInt8) (hf : (l ++ [c]).length ≤ 1099511627776) :
    Bare ((w.setCell ⟨g, l.length % n, none⟩ (.int .u8 (c.toNat : Int))).setCell ⟨q, 2, none⟩ (.int .i64 ((l.length : Int) + 1))) q g n (l ++ [c]) base := by
  have hlo := h.lo
  have hm : l.length % n < n := Nat.mod_lt _ (by omega)
  obtain ⟨cs, ho, hcs⟩ := h.own
  have h1 := ho.setB (l.length % n) hm c
  rw [Nat.zero_add] at h1
  have hb1 := ((Upd.refl (fun k => k = g) w).setCell (p := ⟨g, l.length % n, none⟩) (fun _ => rfl) (.int .u8 (c.toNat : Int))).blk h.blk h.ne
  have hb2 := blk_setCell (o := 2) hb1 (.int .i64 ((l.length : Int) + 1))
  refine ⟨?_, ⟨cs.set (l.length % n) c, h1.upd ((Upd.refl (fun k => k = q) _).setCell (fun _ => rfl) _) (fun g' e e2 => by obtain rfl := Option.some.inj e; exact h.ne e2.symm), fun i hi hb => ?_⟩, h.ne, h.lo, h.hi, hf⟩
  · rw [hb2]
    simp
  · rw [List.length_append] at hi hb
    simp only [List.length_cons, List.length_nil] at hi hb
    have hcl : cs.length = n := ho.llen
    by_cases e : i = l.length
    · subst e
      rw [List.getElem?_set_self (by omega)]
      simp
    · rw [List.getElem?_set_ne (fun e2 => mod_apart i l.length n (by omega) (by omega) e2.symm), hcs i (by omega) (by omega)]
      rw [List.getElem_append_left]
theorem Bare.based (h : Bare w q g n l base) (b2 : Nat) : Bare (w.setCell ⟨q, 1, none⟩ (.int .i64 (b2 : Int))) q g n l b2 := by
  obtain ⟨cs, ho, hcs⟩ := h.own
  have hb2 := blk_setCell (o := 1) h.blk (.int .i64 (b2 : Int))
  refine ⟨?_, ⟨cs, ho.upd ((Upd.refl (fun k => k = q) _).setCell (fun _ => rfl) _) (fun g' e e2 => by obtain rfl := Option.some.inj e; exact h.ne e2.symm), hcs⟩, h.ne, h.lo, h.hi, h.few⟩
  rw [hb2]
  simp
def AppPost (q g n : Nat) (l : List UInt8) (w : World) (e : Ending) (w' : World) : Prop := e = .returned (.bool true) ∧ Ring w' q g n l ∧ Upd (Its q g) w w'
set_option maxHeartbeats 2000000 in
theorem append_still (h : Ring w q g n l) (A : Option Addr) (m c : Nat) (b : List UInt8) (hst : ∀ W, Upd (Its q g) w W → Rd W A m b) (hN : l.length + m ≤ 1099511627776) :
    Calls Tryz.prog 71 #[.pointer (some ⟨q, 0, none⟩), .slice A m c] w (AppPost q g n (l ++ b) w) := by
  obtain ⟨h0, h1, h2⟩ := Bare.cells h
  have hlo := h.lo
  have hhi := h.hi
  obtain ⟨base, hbase⟩ : ∃ base, base = l.length - n := ⟨_, rfl⟩
  have HB : Asd (Bare w q g n l base) := ⟨by rw [hbase]; exact h⟩
  have HBE := Asd.mk hbase
  have HST := Asd.mk hst
  obtain rfl := (hst w (Upd.refl _ _)).len
  have hlim := (hst w (Upd.refl _ _)).lim
  rw [← hbase] at h1
  have hle : base ≤ l.length := by omega
  clear h hst hbase
  have hcmp : ¬ (1099511627776 - (l.length : Int) < (b.length : Int)) := by omega
  have hw0 : IntKind.i64.wrap (1099511627776 - (l.length : Int)) = 1099511627776 - (l.length : Int) := w64i _ (by omega) (by omega)
  go_enter Tryz.func71, Tryz.ntmps71
  go_wp2
  clear h0 h1 h2 hw0
  go_loopw [17] (fun v17 wr => ∃ i : Nat, v17 = .int .i64 i ∧ i ≤ b.length ∧ Asd (Bare wr q g n (l ++ b.take i) base) ∧ Asd (Upd (Its q g) w wr)) (fun v17 _ => b.length - (intOf v17).toNat)
  case atStart => exact ⟨0, rfl, by omega, by simpa using HB, ⟨Upd.refl _ _⟩⟩
  case round =>
    obtain ⟨i, rfl, hi, HBr, HU⟩ := hrel
    by_cases hlt : i < b.length
    · obtain ⟨ad, rfl, hc0⟩ := (HST.out _ HU.out).at i hlt
      obtain ⟨x, hx⟩ : ∃ x, x = b[i] := ⟨_, rfl⟩
      rw [← hx] at hc0
      have HX : Asd (b.take (i + 1) = b.take i ++ [x]) := ⟨by rw [List.take_succ_eq_append_getElem hlt, hx]⟩
      clear hx
      obtain ⟨l2, hl2⟩ : ∃ l2, l2 = l ++ b.take i := ⟨_, rfl⟩
      rw [← hl2] at HBr
      have hll : l2.length ≤ l.length + i := by rw [hl2, List.length_append, List.length_take]; omega
      have HL2 := Asd.mk hl2
      clear hl2
      obtain ⟨h0, h1, h2⟩ := HBr.out.cells
      obtain ⟨cs, ho, hcs⟩ := HBr.out.own
      have hm : l2.length % n < n := Nat.mod_lt _ (by omega)
      obtain ⟨y, hd0, hz0⟩ : ∃ y : Int, wr.cell? ⟨g, l2.length % n, none⟩ = some (.int .u8 y) ∧ wr.frozen? ⟨g, l2.length % n, none⟩ = false := by
        have := ho.cellB (l2.length % n) hm
        rw [Nat.zero_add] at this
        exact ⟨_, this⟩
      have hnb : ((n : Int) == 0) = false := beq_eq_false_iff_ne.2 (by omega)
      have hwi : IntKind.i64.wrap ((i : Int) + 1) = ((i + 1 : Nat) : Int) := by rw [w64i _ (by omega) (by omega)]; rfl
      have hwl : IntKind.i64.wrap ((l2.length : Int) + 1) = (l2.length : Int) + 1 := w64i _ (by omega) (by omega)
      clear ho hcs h1
      go_wp2
      go_region
      have hb1 := ((Upd.refl (fun k => k = g) wr).setCell (p := ⟨g, l2.length % n, none⟩) (fun _ => rfl) (.int .u8 (x.toNat : Int))).blk HBr.out.blk HBr.out.ne
      have hq2 : (wr.setCell ⟨g, l2.length % n, none⟩ (.int .u8 (x.toNat : Int))).cell? ⟨q, 2, none⟩ = some (.int .i64 (l2.length : Int)) := by simp [World.cell?, hb1]
      have hf2 : (wr.setCell ⟨g, l2.length % n, none⟩ (.int .u8 (x.toNat : Int))).frozen? ⟨q, 2, none⟩ = false := by simp [World.frozen?, hb1]
      have HP := Asd.mk (HBr.out.put x (by rw [List.length_append]; simp only [List.length_cons, List.length_nil]; omega))
      have HW : Asd (Upd (Its q g) w ((wr.setCell ⟨g, l2.length % n, none⟩ (.int .u8 (x.toNat : Int))).setCell ⟨q, 2, none⟩ (.int .i64 ((l2.length : Int) + 1)))) := ⟨(HU.out.setCell (p := ⟨g, l2.length % n, none⟩) (fun _ => .inr rfl) _).setCell (p := ⟨q, 2, none⟩) (fun _ => .inl rfl) _⟩
      clear hb1
      go_wp2
      go_roundw
      case rel => exact ⟨i + 1, rfl, by omega, by rw [HX.out, ← List.append_assoc, ← HL2.out]; exact ⟨by first | exact HP.out | exact HP.out.up ((Upd.refl _ _).drew)⟩, ⟨by first | exact HW.out | exact HW.out.drew⟩⟩
      case measure => simp only [intOf]; omega
    · have hi2 : i = b.length := by omega
      subst hi2
      rw [List.take_length] at HBr
      obtain ⟨l2, hl2⟩ : ∃ l2, l2 = l ++ b := ⟨_, rfl⟩
      rw [← hl2] at HBr
      have HL3 := Asd.mk hl2
      have hll : l2.length = l.length + b.length := by rw [hl2, List.length_append]
      have hll1 : l.length ≤ l2.length := by omega
      have hll2 : l2.length ≤ 1099511627776 := by omega
      clear hl2 hll
      obtain ⟨h0, h1, h2⟩ := HBr.out.cells
      have hz1 : wr.frozen? ⟨q, 1, none⟩ = false := by simp [World.frozen?, HBr.out.blk]
      have hws : IntKind.i64.wrap ((l2.length : Int) - (n : Int)) = (l2.length : Int) - (n : Int) := w64i _ (by omega) (by omega)
      have HMX : Asd (mx (base : Int) ((l2.length : Int) - (n : Int)) = ((l2.length - n : Nat) : Int)) := ⟨by have := HBE.out; unfold mx; split <;> omega⟩
      have hmx := HMX.out
      have HP := Asd.mk (HBr.out.based (l2.length - n))
      have HW : Asd (Upd (Its q g) w (wr.setCell ⟨q, 1, none⟩ (.int .i64 ((l2.length - n : Nat) : Int)))) := ⟨HU.out.setCell (p := ⟨q, 1, none⟩) (fun _ => .inl rfl) _⟩
      go_wp2
      go_region
      go_wp2
      go_ret
      exact ⟨rfl, by unfold Ring; rw [← HL3.out]; first | exact HP.out | exact Bare.up HP.out ((Upd.refl _ _).drew), by first | exact HW.out | exact HW.out.drew⟩
theorem append_calls (h : Ring w q g n l) (A : Option Addr) (m c : Nat) (b : List UInt8) (hr : Rd w A m b) (hA : ∀ ad, A = some ad → ¬ Its q g ad.block) (hN : l.length + m ≤ 1099511627776) :
    Calls Tryz.prog 71 #[.pointer (some ⟨q, 0, none⟩), .slice A m c] w (AppPost q g n (l ++ b) w) :=
  append_still h A m c b (fun W k => hr.upd k hA) hN
def ReadPost (l : List UInt8) (n : Nat) (off k : Int) (w : World) (e : Ending) (w' : World) : Prop :=
  Upd (fun _ => False) w w' ∧ ((off < ((l.length - n : Nat) : Int) ∨ (l.length : Int) < off) → e = .returned (.tuple #[.slice none 0 0, .bool false])) ∧
    (((l.length - n : Nat) : Int) ≤ off → off ≤ (l.length : Int) → ∃ A c G, e = .returned (.tuple #[.slice A ((l.drop off.toNat).take k.toNat).length c, .bool true]) ∧ Own w' 5 1 (.slice A ((l.drop off.toNat).take k.toNat).length c) ((l.drop off.toNat).take k.toNat).length (B ((l.drop off.toNat).take k.toNat)) G ∧ (∀ g, G = some g → w.heap.size ≤ g))
set_option maxHeartbeats 2000000 in
theorem read_calls (h : Ring w q g n l) (off k : Int) (hk : -9223372036854775808 ≤ k ∧ k ≤ 9223372036854775807) :
    Calls Tryz.prog 138 #[.pointer (some ⟨q, 0, none⟩), .int .i64 off, .int .i64 k] w (ReadPost l n off k w) := by
  obtain ⟨h0, h1, h2⟩ := Bare.cells h
  obtain ⟨base, hbase⟩ : ∃ base, base = l.length - n := ⟨_, rfl⟩
  have HR := Asd.mk h
  have HBE := Asd.mk hbase
  have hlo := h.lo
  have hhi := h.hi
  have hfew := h.few
  rw [← hbase] at h1
  have hle : base ≤ l.length := by omega
  have hnb : l.length ≤ base + n := by omega
  clear h hbase
  by_cases hno : off < (base : Int) ∨ (l.length : Int) < off
  · have HNo := Asd.mk hno
    by_cases hx : off < (base : Int)
    · go_enter Tryz.func138, Tryz.ntmps138
      clear hno
      go_wp2
      refine bodyPost_ret (v := .tuple #[.slice none 0 0, .bool false]) (by simp [results, Tryz.results138, go_sem]) rfl ?_
      exact ⟨Upd.refl _ _, fun _ => rfl, fun a b => by have := HNo.out; have := HBE.out; omega⟩
    · have hx2 : (l.length : Int) < off := by omega
      go_enter Tryz.func138, Tryz.ntmps138
      clear hno
      go_wp2
      refine bodyPost_ret (v := .tuple #[.slice none 0 0, .bool false]) (by simp [results, Tryz.results138, go_sem]) rfl ?_
      exact ⟨Upd.refl _ _, fun _ => rfl, fun a b => by have := HNo.out; have := HBE.out; omega⟩
  obtain ⟨o, rfl⟩ : ∃ o : Nat, off = (o : Int) := ⟨off.toNat, by omega⟩
  have ho1 : base ≤ o := by omega
  have ho2 : o ≤ l.length := by omega
  have hq1 : ¬ o < base := by omega
  have hq2 : ¬ l.length < o := by omega
  clear hno
  go_enter Tryz.func138, Tryz.ntmps138
  go_wp2
  clear h0 h1 h2
  go_loopw [1, 2, 8] (fun v1 v2 v8 wr => ∃ (i : Nat) (A : Option Addr) (c : Nat) (G : Option Nat), v1 = .int .i64 ((o + i : Nat) : Int) ∧ v2 = .int .i64 (k - i) ∧ v8 = .slice A i c ∧ o + i ≤ l.length ∧ (i = 0 ∨ (i : Int) ≤ k) ∧ i ≤ c ∧ c ≤ maxLen ∧ Asd (Own wr 5 1 (.slice A i c) i (B ((l.drop o).take i)) G) ∧ Asd (∀ g, G = some g → w.heap.size ≤ g) ∧ Asd (Upd (fun _ => False) w wr)) (fun v1 _ _ _ => l.length - (intOf v1).toNat)
  case atStart => exact ⟨0, none, 0, none, by simp, by simp, rfl, by omega, .inl rfl, by omega, by simp [maxLen], ⟨Own.nil _ _ _⟩, ⟨fun g e => by cases e⟩, ⟨Upd.refl _ _⟩⟩
  case round =>
    obtain ⟨i, A, c, G, rfl, rfl, rfl, hi, hik, hic, hcm, HO, HG, HU⟩ := hrel
    obtain ⟨h0, h1, h2⟩ := Bare.cells (HR.out.up HU.out)
    have HRr := Asd.mk (HR.out.up HU.out)
    by_cases hgo : (i : Int) < k ∧ o + i < l.length
    · obtain ⟨hg1, hg2⟩ := hgo
      have hp1 : 0 < k - (i : Int) := by omega
      have hp2 : ((o + i : Nat) : Int) < (l.length : Int) := by omega
      have hw1 : IntKind.i64.wrap (((o + i : Nat) : Int) + 1) = ((o + (i + 1) : Nat) : Int) := by rw [w64i _ (by omega) (by omega)]; omega
      have hw2 : IntKind.i64.wrap (k - (i : Int) - 1) = k - ((i + 1 : Nat) : Int) := by rw [w64i _ (by omega) (by omega)]; omega
      obtain ⟨j, hj⟩ : ∃ j, j = o + i := ⟨_, rfl⟩
      rw [← hj] at hg2 hp2 hw1
      rw [← hj]
      have HT : Asd ((l.drop o).take (i + 1) = (l.drop o).take i ++ [l[j]]) := ⟨by
        have h9 : i < (l.drop o).length := by rw [List.length_drop]; omega
        rw [List.take_succ_eq_append_getElem h9, List.getElem_drop]
        simp only [hj]⟩
      have HJ := Asd.mk hj
      have hjb : l.length ≤ j + n := by omega
      have hli := Asd.mk (show ((l.drop o).take i).length = i by rw [List.length_take, List.length_drop]; omega)
      clear hj
      go_wp2_with fail
      refine (at_calls HRr.out j hg2 hjb).mono ?_
      obtain ⟨x, hx⟩ : ∃ x, x = l[j] := ⟨_, rfl⟩
      rw [← hx] at HT
      rw [← hx]
      clear hx
      rintro e w2 ⟨rfl, hd⟩
      have hu2 := hd.upd (fun _ => False)
      have HO2 := Asd.mk (HO.out.upd hu2 (fun _ _ h => h))
      have HW2 : Asd (Upd (fun _ => False) w w2) := ⟨HU.out.trans hu2 (fun _ _ h => h)⟩
      clear hd hu2 HO HU h0 h1 h2 HRr
      go_wp2_with (first | (with_reducible refine stop_append _ _ _ _ rfl ?_) | (with_reducible refine stop_copy _ _ _ _ rfl ?_) | (with_reducible refine stop_make _ _ _ rfl ?_) | (with_reducible refine stop_conv 31 9 _ rfl ?_))
      refine wp_appendF (S := fun _ => False) (w0 := w) (by exact (by repeat (first | exact HW2.out | refine Upd.drew ?_ | refine Upd.drewN ?_ _ | refine Upd.alloc ?_ _))) (i + 1) 5 ((l.drop o).take i) [x] G A i c (some ⟨w2.heap.size, 0, none⟩) 1 1 rfl _ _ 31 rfl Tryz.underlying31 info8 rfl rfl (HO2.out.upd ((Upd.refl (fun _ => False) _).alloc _) (fun _ _ h => h)) HG.out (Rd.lit w2 _ _ _ 1 _ rfl rfl (by omega)) rfl (by omega) ?_
      intro A5 c5 w5 G5 hc5 hm5 hO5 hG5 hu5 _ _
      rw [← HT.out] at hO5
      have HO5 := Asd.mk hO5
      have HG5 := Asd.mk hG5
      have HU5 := Asd.mk hu5
      clear hO5 hG5 hu5 HO2 HW2 HT HG
      go_wp2
      go_roundw
      case rel => exact ⟨i + 1, A5, c5, G5, rfl, rfl, rfl, by have := HJ.out; omega, .inr (by omega), hc5, hm5, HO5, HG5, HU5⟩
      case measure => have := HJ.out; simp only [intOf]; omega
    · have HEnd : Asd ((l.drop o).take i = (l.drop o).take k.toNat) := ⟨by
        by_cases hk2 : (i : Int) < k
        · rw [List.take_of_length_le (by rw [List.length_drop]; omega), List.take_of_length_le (by rw [List.length_drop]; omega)]
        · congr 1
          omega⟩
      have hli := Asd.mk (show ((l.drop o).take i).length = i by rw [List.length_take, List.length_drop]; omega)
      have fin : ReadPost l n (o : Int) k w (.returned (.tuple #[.slice A i c, .bool true])) wr := by
        refine ⟨HU.out, fun hx => by have := HBE.out; omega, fun _ _ => ⟨A, c, G, ?_, ?_, HG.out⟩⟩
        · rw [Int.toNat_natCast, ← HEnd.out, hli.out]
        · rw [Int.toNat_natCast, ← HEnd.out, hli.out]; exact HO.out
      have FIN := Asd.mk fin
      clear fin
      by_cases hk2 : 0 < k - (i : Int)
      · have hp2 : ¬ (((o + i : Nat) : Int) < (l.length : Int)) := by omega
        clear hgo
        go_wp2
        refine bodyPost_ret (v := .tuple #[.slice A i c, .bool true]) (by simp [results, Tryz.results138, go_sem]) rfl FIN.out
      · clear hgo
        go_wp2
        refine bodyPost_ret (v := .tuple #[.slice A i c, .bool true]) (by simp [results, Tryz.results138, go_sem]) rfl FIN.out
def lineFrom (l : List UInt8) (base : Nat) : Nat → Nat → Nat
  | 0, i => i
  | k + 1, i => if i = 0 ∨ (base < i ∧ l.getD (i - 1) 0 = 10) then i else lineFrom l base k (i + 1)
def lineOf (l : List UInt8) (base : Nat) (off : Int) : Nat := if (l.length : Int) ≤ mx off (base : Int) then l.length else lineFrom l base (l.length - (mx off (base : Int)).toNat) (mx off (base : Int)).toNat
set_option maxHeartbeats 2000000 in
theorem line_calls (h : Ring w q g n l) (off : Int) :
    Calls Tryz.prog 157 #[.pointer (some ⟨q, 0, none⟩), .int .i64 off] w fun e w' => e = .returned (.int .i64 ((lineOf l (l.length - n) off : Nat) : Int)) ∧ Upd (fun _ => False) w w' := by
  obtain ⟨h0, h1, h2⟩ := Bare.cells h
  obtain ⟨base, hbase⟩ : ∃ base, base = l.length - n := ⟨_, rfl⟩
  have HR := Asd.mk h
  have HBE := Asd.mk hbase
  have hlo := h.lo
  have hhi := h.hi
  have hfew := h.few
  rw [← hbase] at h1
  rw [← hbase]
  have hle : base ≤ l.length := by omega
  have hnb : l.length ≤ base + n := by omega
  clear h hbase
  by_cases hbig : (l.length : Int) ≤ mx off (base : Int)
  · have hlf : lineOf l base off = l.length := if_pos hbig
    rw [hlf]
    have hbig2 : ¬ (mx off (base : Int) < (l.length : Int)) := by omega
    clear hlf
    go_enter Tryz.func157, Tryz.ntmps157
    go_wp2
    go_loopw [1] (fun v1 wr => v1 = .int .i64 (mx off (base : Int)) ∧ wr = w) (fun _ _ => 0)
    case atStart => exact ⟨rfl, rfl⟩
    case round =>
      obtain ⟨rfl, rfl⟩ := hrel
      go_wp2
      go_ret
      exact ⟨rfl, Upd.refl _ _⟩
  have hmb : (base : Int) ≤ mx off (base : Int) := by unfold mx; split <;> omega
  obtain ⟨s, hs⟩ : ∃ s : Nat, mx off (base : Int) = (s : Int) := ⟨(mx off (base : Int)).toNat, by omega⟩
  have hlf : lineOf l base off = lineFrom l base (l.length - s) s := by
    unfold lineOf
    rw [if_neg hbig, hs, Int.toNat_natCast]
  have hsb : base ≤ s := by omega
  have hsl : s < l.length := by omega
  rw [hlf]
  clear hlf hbig hmb
  obtain ⟨r, hr⟩ : ∃ r, r = lineFrom l base (l.length - s) s := ⟨_, rfl⟩
  rw [← hr]
  have HRes := Asd.mk hr
  clear hr
  go_enter Tryz.func157, Tryz.ntmps157
  go_wp2
  clear hs h0 h1 h2
  go_loopw [1] (fun v1 wr => ∃ i : Nat, v1 = .int .i64 (i : Int) ∧ base ≤ i ∧ i ≤ l.length ∧ Asd (r = lineFrom l base (l.length - i) i) ∧ Asd (Upd (fun _ => False) w wr)) (fun v1 _ => l.length - (intOf v1).toNat)
  case atStart => exact ⟨s, rfl, hsb, by omega, HRes, ⟨Upd.refl _ _⟩⟩
  case round =>
    obtain ⟨i, rfl, hbi, hil, HI, HU⟩ := hrel
    obtain ⟨h0, h1, h2⟩ := Bare.cells (HR.out.up HU.out)
    rw [← HBE.out] at h1
    by_cases hlt : i < l.length
    · have hst : lineFrom l base (l.length - i) i = if i = 0 ∨ (base < i ∧ l.getD (i - 1) 0 = 10) then i else lineFrom l base (l.length - (i + 1)) (i + 1) := by
        rw [show l.length - i = (l.length - (i + 1)) + 1 by omega]
        rfl
      have hw1 : IntKind.i64.wrap ((i : Int) + 1) = ((i + 1 : Nat) : Int) := by rw [w64i _ (by omega) (by omega)]; rfl
      by_cases hz : i = 0
      · rw [if_pos (.inl hz)] at hst
        have HF : Asd (r = i) := ⟨HI.out.trans hst⟩
        subst hz
        clear hst
        go_wp2
        go_ret
        exact ⟨by rw [HF.out]; rfl, HU.out⟩
      have hzb : ((i : Int) == 0) = false := beq_eq_false_iff_ne.2 (by omega)
      by_cases hb : base < i
      · obtain ⟨j, rfl⟩ : ∃ j, i = j + 1 := ⟨i - 1, by omega⟩
        have hj1 : IntKind.i64.wrap (((j + 1 : Nat) : Int) - 1) = (j : Int) := by rw [w64i _ (by omega) (by omega)]; omega
        have hjl : j < l.length := by omega
        have hjn : l.length ≤ j + n := by omega
        have HRr := Asd.mk (HR.out.up HU.out)
        have HST := Asd.mk hst
        clear hst hz
        go_wp2_with fail
        refine (at_calls HRr.out j hjl hjn).mono ?_
        have hgd : l.getD (j + 1 - 1) 0 = l[j] := by simp [List.getD_eq_getElem?_getD, List.getElem?_eq_getElem hjl]
        obtain ⟨x, hx⟩ : ∃ x, x = l[j] := ⟨_, rfl⟩
        rw [← hx] at hgd
        rw [← hx]
        rintro e w2 ⟨rfl, hd⟩
        have HW2 : Asd (Upd (fun _ => False) w w2) := ⟨HU.out.trans (hd.upd _) (fun _ _ h => h)⟩
        have HGD := Asd.mk hgd
        clear hx hgd hd h0 h1 h2 HRr HU
        by_cases hc : x = 10
        · have HF : Asd (r = j + 1) := ⟨by rw [HI.out, HST.out, if_pos (.inr ⟨hb, by rw [HGD.out, hc]⟩)]⟩
          subst hc
          go_wp2
          go_ret
          exact ⟨by rw [HF.out]; rfl, HW2.out⟩
        · have HF : Asd (r = lineFrom l base (l.length - (j + 1 + 1)) (j + 1 + 1)) := ⟨by rw [HI.out, HST.out, if_neg (fun h => h.elim (fun e => by omega) (fun h => hc (by rw [← HGD.out, h.2])))]⟩
          have hcb : ((x.toNat : Int) == 10) = false := beq_eq_false_iff_ne.2 (fun e => hc (UInt8.toNat_inj.1 (by show x.toNat = 10; omega)))
          go_wp2
          go_roundw
          case rel => exact ⟨j + 1 + 1, rfl, by omega, by omega, HF, HW2⟩
          case measure => simp only [intOf]; omega
      · have HF : Asd (r = lineFrom l base (l.length - (i + 1)) (i + 1)) := ⟨by rw [HI.out, hst, if_neg (by rintro (e | ⟨e, _⟩) <;> omega)]⟩
        clear hst hz
        go_wp2
        go_roundw
        case rel => exact ⟨i + 1, rfl, by omega, by omega, HF, HU⟩
        case measure => simp only [intOf]; omega
    · have hi2 : i = l.length := by omega
      subst hi2
      have HF : Asd (r = l.length) := ⟨by rw [HI.out, Nat.sub_self]; rfl⟩
      go_wp2
      go_ret
      exact ⟨by rw [HF.out]; rfl, HU.out⟩
end
end Go.Proofs.YteepkanbiefpjaaGreatDoor.Rg
set_option linter.unusedVariables false
set_option linter.unusedSimpArgs false
namespace Go.Proofs.YteepkanbiefpjaaGreatDoor.Mg
open Go.RowKit K
def nums (k : Int) : Nat := if 1 ≤ k ∧ k ≤ 15 then [0, 2, 1, 0, 0, 2, 1, 2, 2, 1, 0, 0, 0, 1, 0, 1].getD k.toNat 0 else 0
def most (k : Int) : Nat := if 1 ≤ k ∧ k ≤ 15 then [0, 20, 2042, 0, 0, 20, 2042, 0, 0, 0, 80, 80, 0, 0, 0, 0].getD k.toNat 0 else 0
def known (k : Int) : Bool := decide (1 ≤ k ∧ k ≤ 15)
theorem kinds (k : Int) (h : 1 ≤ k ∧ k ≤ 15) : k = 1 ∨ k = 2 ∨ k = 3 ∨ k = 4 ∨ k = 5 ∨ k = 6 ∨ k = 7 ∨ k = 8 ∨ k = 9 ∨ k = 10 ∨ k = 11 ∨ k = 12 ∨ k = 13 ∨ k = 14 ∨ k = 15 := by omega
theorem nums_le (k : Int) : nums k ≤ 2 := by
  by_cases h : 1 ≤ k ∧ k ≤ 15
  · rcases kinds k h with rfl | rfl | rfl | rfl | rfl | rfl | rfl | rfl | rfl | rfl | rfl | rfl | rfl | rfl | rfl <;> decide
  · simp [nums, h]
theorem most_le (k : Int) : most k ≤ 2042 := by
  by_cases h : 1 ≤ k ∧ k ≤ 15
  · rcases kinds k h with rfl | rfl | rfl | rfl | rfl | rfl | rfl | rfl | rfl | rfl | rfl | rfl | rfl | rfl | rfl <;> decide
  · simp [most, h]
set_option maxHeartbeats 1000000 in
theorem shape_calls (k : Int) (w : World) : Calls Tryz.prog 67 #[.int .i64 k] w fun e w' => e = .returned (.tuple #[.int .i64 (nums k : Int), .int .i64 (most k : Int), .bool (known k)]) ∧ w = w' := by
  by_cases h : 1 ≤ k ∧ k ≤ 15
  · have hk := kinds k h
    have HP := Asd.mk (show known k = true from decide_eq_true h)
    clear h
    rcases hk with rfl | rfl | rfl | rfl | rfl | rfl | rfl | rfl | rfl | rfl | rfl | rfl | rfl | rfl | rfl
    all_goals
      rw [HP.out]
      go_enter Tryz.func67, Tryz.ntmps67
      go_wp2
      refine bodyPost_ret (by simp [results, Tryz.results67, go_sem]; rfl) rfl ?_
      exact ⟨by simp [nums, most], rfl⟩
  · have hn : nums k = 0 := if_neg h
    have hm : most k = 0 := if_neg h
    have hf : known k = false := decide_eq_false h
    rw [hn, hm, hf]
    have hne : ∀ j : Int, 1 ≤ j → j ≤ 15 → (k == j) = false := fun j h1 h2 => beq_eq_false_iff_ne.2 (by omega)
    obtain ⟨h1, h2, h3, h4, h5⟩ : (k == 1) = false ∧ (k == 2) = false ∧ (k == 3) = false ∧ (k == 4) = false ∧ (k == 5) = false := ⟨hne 1 (by omega) (by omega), hne 2 (by omega) (by omega), hne 3 (by omega) (by omega), hne 4 (by omega) (by omega), hne 5 (by omega) (by omega)⟩
    obtain ⟨h6, h7, h8, h9, h10⟩ : (k == 6) = false ∧ (k == 7) = false ∧ (k == 8) = false ∧ (k == 9) = false ∧ (k == 10) = false := ⟨hne 6 (by omega) (by omega), hne 7 (by omega) (by omega), hne 8 (by omega) (by omega), hne 9 (by omega) (by omega), hne 10 (by omega) (by omega)⟩
    obtain ⟨h11, h12, h13, h14, h15⟩ : (k == 11) = false ∧ (k == 12) = false ∧ (k == 13) = false ∧ (k == 14) = false ∧ (k == 15) = false := ⟨hne 11 (by omega) (by omega), hne 12 (by omega) (by omega), hne 13 (by omega) (by omega), hne 14 (by omega) (by omega), hne 15 (by omega) (by omega)⟩
    clear hn hm hf hne h
    go_enter Tryz.func67, Tryz.ntmps67
    go_wp2
    refine bodyPost_ret (v := .tuple #[.int .i64 0, .int .i64 0, .bool false]) (by simp [results, Tryz.results67, go_sem]) rfl ?_
    exact ⟨rfl, rfl⟩
def right (k a b : Int) (n : Nat) : Bool := known k && (decide (n ≤ most k) && (decide (0 ≤ a) && (decide (0 ≤ b) && (decide (a ≤ 1099511627776) && (decide (b ≤ 1099511627776) && ((decide (0 < nums k) || a == 0) && (decide (1 < nums k) || b == 0)))))))
set_option maxHeartbeats 2000000 in
theorem right_calls (k a b : Int) (s : ByteArray) (w : World) : Calls Tryz.prog 29 #[.agg #[.int .i64 k, .int .i64 a, .int .i64 b, .string s]] w fun e w' => e = .returned (.bool (right k a b s.size)) ∧ Upd (fun _ => False) w w' := by
  obtain ⟨r, hr⟩ : ∃ r : Bool, r = right k a b s.size := ⟨_, rfl⟩
  rw [← hr]
  obtain ⟨N, hN⟩ : ∃ N, N = nums k := ⟨_, rfl⟩
  obtain ⟨M, hM⟩ : ∃ M, M = most k := ⟨_, rfl⟩
  have HR : Asd (r = (known k && (decide (s.size ≤ M) && (decide (0 ≤ a) && (decide (0 ≤ b) && (decide (a ≤ 1099511627776) && (decide (b ≤ 1099511627776) && ((decide (0 < N) || a == 0) && (decide (1 < N) || b == 0))))))))) := ⟨by rw [hr, hN, hM]; rfl⟩
  have HS := Asd.mk (And.intro hN hM)
  clear hr hN hM
  go_enter Tryz.func29, Tryz.ntmps29
  go_wp2_with fail
  refine (shape_calls k _).mono ?_
  rw [← HS.out.1, ← HS.out.2]
  rintro e w2 ⟨rfl, rfl⟩
  cases hk : known k with
  | false =>
    have HF : Asd (r = false) := ⟨by rw [HR.out, hk]; rfl⟩
    clear hk
    go_wp2
    go_ret
    exact ⟨by rw [HF.out]; rfl, (Upd.refl _ _).alloc _⟩
  | true =>
    rw [hk, Bool.true_and] at HR
    clear hk
    go_wp2
    all_goals go_ret
    all_goals refine ⟨?_, (Upd.refl _ _).alloc _⟩
    all_goals rw [HR.out]
    all_goals clear HR HS
    all_goals refine congrArg (fun x => Ending.returned (Value.bool x)) (Bool.eq_iff_iff.2 ?_)
    all_goals simp only [Bool.and_eq_true, Bool.or_eq_true, decide_eq_true_eq, beq_iff_eq, Bool.false_eq_true, false_iff, true_iff]
    all_goals omega
end Go.Proofs.YteepkanbiefpjaaGreatDoor.Mg
set_option linter.unusedVariables false
set_option linter.unusedSimpArgs false
namespace Go.Proofs.YteepkanbiefpjaaGreatDoor.K
open Go.RowKit
theorem strCells_S (l : List UInt8) : Lib.strCells (S l) = B l := by
  simp [Lib.strCells, S, B]
section
variable {P : Program} {w : World} {t u ty e : TypeId} {v : Value} {n : Nat} {l tl : List UInt8} {G : Option Nat}
theorem run_appendS (ht : P.underlying t = some (.slice e)) (hu : P.underlying u = some .string) (hinfo : (P.info? e).map (fun i => (i.zero, i.size, i.bytes)) = some (some (.int .u8 0), 1, 1))
    (HO : Own w e 1 v n (B l) G) (hlim : n + tl.length ≤ 140737488355328) :
    ∃ v' w' G', (Builtin.append_ #[t, u] ty #[v, .string (S tl)]).run P w = .ok v' w' ∧ Own w' e 1 v' (n + tl.length) (B (l ++ tl)) G' ∧ Upd (fun k => some k = G) w w' ∧ (G' = G ∨ ∃ g, G' = some g ∧ w.heap.size ≤ g ∧ g < w'.heap.size) := by
  obtain ⟨i0, hi, hzz⟩ := Option.map_eq_some_iff.1 hinfo
  simp only [Prod.mk.injEq] at hzz
  obtain ⟨hz0, hz1, hz2⟩ := hzz
  have hnl : l.length = n := HO.llen
  have hml : n + (S tl).size ≤ maxLen := by rw [S_size]; simp only [maxLen]; omega
  rcases HO.form with ⟨rfl, rfl, hG⟩ | ⟨g, o, c', cur, rfl, hG, hb, hc, hm, hs, hcell⟩
  · obtain rfl : l = [] := List.eq_nil_of_length_eq_zero hnl
    obtain ⟨v', w', hr, ho, hg, hiff⟩ := Lib.run_append_own_string (P := P) w w.heap.size t u ty e i0 ht hu hi hz0 hz1 hz2 (.slice none 0 0) 0 [] (World.ownsRow_nil w _ e 1) (S tl) hml (by rw [S_size]; omega) (Nat.le_refl _)
    rw [strCells_S, List.nil_append, S_size] at ho
    obtain ⟨G', hO, _, hbG⟩ := Own.ofRow ho
    refine ⟨v', w', G', hr, hO, ⟨hg.os, hg.tape, hg.output, hg.size, fun i hi _ => hg.block i hi (by simp [Value.ownBlock])⟩, ?_⟩
    rcases hO.form with ⟨_, _, h0⟩ | ⟨g, o, c, cur, hv, hG', hbk, r⟩
    · exact .inl (by rw [h0, hG])
    · exact .inr ⟨g, hG', hbG g hG', blk_lt hbk⟩
  · by_cases hroom : n + tl.length ≤ c'
    · have hfc := Lib.run_firstCells_string (P := P) w 1 (S tl)
      rw [strCells_S, S_size] at hfc
      have hst := run_storeCells_cells (P := P) g (o + n * 1) (B tl) 0 w (fun j hj => by rw [B_length] at hj; simp [World.cell?, hb]; omega) (fun j hj => by simp [World.frozen?, hb]) (B_one tl)
      simp only [Nat.add_zero] at hst
      have hr : (Builtin.append_ #[t, u] ty #[.slice (some ⟨g, o, none⟩) n c', .string (S tl)]).run P w = .ok (.slice (some ⟨g, o, none⟩) (n + tl.length) c') (w.setCells g (o + n * 1) (B tl)) := by
        simp only [Nat.mul_one] at hst ⊢
        simp [Builtin.append_, run_underlying ht, run_underlying hu, sizeOf, typeInfo, hi, hz1, Builtin.lenOf, S_size, hroom, hfc, Addr.add_lit, hst]
      obtain ⟨cur', hb', hsz', ha', hm', hz'⟩ := blk_setCells (B tl) g (o + n * 1) w cur e (0, 0) hb (by rw [B_length]; omega)
      refine ⟨_, _, some g, hr, ⟨by rw [B_length, List.length_append, hnl, Nat.mul_one], .inr ⟨g, o, c', cur', rfl, rfl, hb', hroom, hm, by rw [hsz']; exact hs, fun j u hj => ?_⟩⟩, ?_, .inl hG.symm⟩
      · rw [B_append] at hj
        have hcl : (B l).length = n := by rw [B_length, hnl]
        rcases Nat.lt_or_ge j (B l).length with hj1 | hj1
        · rw [List.getElem?_append_left hj1] at hj
          rw [ha' _ (by omega)]
          exact hcell j u hj
        · rw [List.getElem?_append_right hj1] at hj
          have := hm' _ u hj
          rwa [show o + n * 1 + (j - (B l).length) = o + j by omega] at this
      · subst hG
        exact Upd.setCells w g (o + n * 1) (B tl)
    · have holds : ∀ j u, (B l)[j]? = some u → w.cell? ((⟨g, o, none⟩ : Addr).add j) = some u := fun j u hj => by
        rw [add_lit]
        simp [World.cell?, hb, hcell j u hj]
      have hr := Lib.run_append_grow_string (P := P) w t u ty e i0 (.int .u8 0) ht hu hi hz0 ⟨g, o, none⟩ n c' (B l) (by rw [B_length, hnl, hz1, Nat.mul_one]) holds (S tl) (by rw [S_size]; omega) (by rw [S_size]; omega) (by rw [hz2]; exact growslice_fits (by rw [S_size]; omega) (by rw [S_size]; omega))
      rw [strCells_S, S_size] at hr
      have hge := grownCap_ge w (n + tl.length) c' e
      have hcm : grownCap w (n + tl.length) c' e ≤ maxLen := grownCap_le_maxLen w (n + tl.length) c' e (by rw [S_size] at hml; exact hml)
      refine ⟨_, _, some w.heap.size, hr, ⟨by rw [B_length, List.length_append, hnl, Nat.mul_one], .inr ⟨w.heap.size, 0, _, _, rfl, rfl, heap_alloc_new w.drew _, hge, hcm, ?_, fun j u hj => ?_⟩⟩, ((Upd.refl _ _).drew).alloc _, .inr ⟨w.heap.size, rfl, Nat.le_refl _, by simp [World.alloc]⟩⟩
      · have hz1 : (Value.int IntKind.u8 0).cells.size = 1 := rfl
        simp only [Array.size_append, List.size_toArray, size_zeroCells, hz1, B_length, hnl]
        omega
      · rw [B_append] at hj
        rw [Nat.zero_add, ← Array.getElem?_toList, Array.toList_append, Array.toList_append]
        rw [List.getElem?_append_left]
        · exact hj
        · rcases Nat.lt_or_ge j (B l ++ B tl).length with h | h
          · simpa using h
          · rw [List.getElem?_eq_none h] at hj; cases hj
end
section
variable {P : Program} {ops : Array Oper} {rest : List Oper} {o : Oper} {a : Act} {Q : Exit → Act → World → Prop} {K : Act → World → Prop} {W : World} {E : Prop}
theorem wp_appendS {S' : Nat → Prop} {w0 : World} (HU : Upd S' w0 W) (N : Nat) (e : TypeId) (l tl : List UInt8) (G : Option Nat) (A0 : Option Addr) (n c0 : Nat) (hgd : o.guard = none) (s x : Operand) (t u : TypeId)
    (ho : o.op = .call { callee := .builtin .append, args := #[s, x], argTypes := #[t, u] })
    (ht : P.underlying t = some (.slice e)) (hu : P.underlying u = some .string) (hinfo : (P.info? e).map (fun i => (i.zero, i.size, i.bytes)) = some (some (.int .u8 0), 1, 1))
    (hs : a.eval s = .slice A0 n c0) (hx : a.eval x = .string (S tl)) (HO : Own W e 1 (.slice A0 n c0) n (B l) G) (hG : ∀ g, G = some g → w0.heap.size ≤ g) (hN : N = n + tl.length) (hlim : N ≤ 140737488355328)
    (h : ∀ A1 c1 w1 G1, N ≤ c1 → c1 ≤ maxLen → Own w1 e 1 (.slice A1 N c1) N (B (l ++ tl)) G1 → (∀ g, G1 = some g → w0.heap.size ≤ g) → Upd S' w0 w1 → wpList P ops Q rest (a.put o.dst (.slice A1 N c1)) w1) :
    Stop (wpList P ops Q (o :: rest) a W) := by
  constructor
  subst hN
  obtain ⟨v', w', G', hr, hO, hU, hg⟩ := run_appendS (P := P) (ty := o.type) ht hu hinfo HO hlim
  obtain ⟨A1, c1, rfl, h1, h2, _, _⟩ := hO.slice
  refine wpList_plain hgd fun K hK => ?_
  unfold Oper.wp execOp
  simp only [ho, resolve, invoke, builtin, Sem.run_bind, Sem.run_pure, Result.andThen_ok, List.map_toArray, List.map_cons, List.map_nil, hs, hx, hr]
  refine hK _ _ (h A1 c1 w' G' h1 h2 hO ?_ (HU.trans hU fun i hi e => ?_))
  · intro g e
    rcases hg with rfl | ⟨g', rfl, h3, _⟩
    · exact hG g e
    · obtain rfl := Option.some.inj e
      exact Nat.le_trans HU.size h3
  · have := hG i e.symm
    omega
theorem gate_appS (s x : Operand) (t u : TypeId) (_ho : o.op = .call { callee := .builtin .append, args := #[s, x], argTypes := #[t, u] }) (h : if Region.wanted o (yielded ops a.tmps) = true then Oper.wp P o a W K Q else E) : if Region.wanted o (yielded ops a.tmps) = true then Oper.wp P o a W K Q else E := h
theorem step_appendS {S' : Nat → Prop} {w0 : World} (HU : Upd S' w0 W) (N : Nat) (e : TypeId) (l tl : List UInt8) (G : Option Nat) (A0 : Option Addr) (n c0 : Nat) (hgd : o.guard = none) (s x : Operand) (t u : TypeId)
    (ho : o.op = .call { callee := .builtin .append, args := #[s, x], argTypes := #[t, u] })
    (ht : P.underlying t = some (.slice e)) (hu : P.underlying u = some .string) (hinfo : (P.info? e).map (fun i => (i.zero, i.size, i.bytes)) = some (some (.int .u8 0), 1, 1))
    (hs : a.eval s = .slice A0 n c0) (hx : a.eval x = .string (S tl)) (HO : Own W e 1 (.slice A0 n c0) n (B l) G) (hG : ∀ g, G = some g → w0.heap.size ≤ g) (hN : N = n + tl.length) (hlim : N ≤ 140737488355328)
    (h : ∀ A1 c1 w1 G1, N ≤ c1 → c1 ≤ maxLen → Own w1 e 1 (.slice A1 N c1) N (B (l ++ tl)) G1 → (∀ g, G1 = some g → w0.heap.size ≤ g) → Upd S' w0 w1 → K (a.put o.dst (.slice A1 N c1)) w1) :
    if Region.wanted o (yielded ops a.tmps) = true then Oper.wp P o a W K Q else E := by
  have hw : Region.wanted o (yielded ops a.tmps) = true := by simp [Region.wanted, hgd]
  rw [if_pos hw]
  subst hN
  obtain ⟨v', w', G', hr, hO, hU, hg⟩ := run_appendS (P := P) (ty := o.type) ht hu hinfo HO hlim
  obtain ⟨A1, c1, rfl, h1, h2, _, _⟩ := hO.slice
  unfold Oper.wp execOp
  simp only [ho, resolve, invoke, builtin, Sem.run_bind, Sem.run_pure, Result.andThen_ok, List.map_toArray, List.map_cons, List.map_nil, hs, hx, hr]
  refine h A1 c1 w' G' h1 h2 hO ?_ (HU.trans hU fun i hi e => ?_)
  · intro g e
    rcases hg with rfl | ⟨g', rfl, h3, _⟩
    · exact hG g e
    · obtain rfl := Option.some.inj e
      exact Nat.le_trans HU.size h3
  · have := hG i e.symm
    omega
end
end Go.Proofs.YteepkanbiefpjaaGreatDoor.K
