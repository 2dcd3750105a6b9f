/- Who is there (floor.Users). -/
import Derived.Test.YtaeafnpldlcdnaaFloor
set_option linter.unusedVariables false
set_option linter.unusedSimpArgs false
namespace Go.Proofs.Ytaeafnpldlcdnaa.Fl
open Go.RowKit K Go.Sort Go.Lib Go.Shelf
section
variable {w : World} {t : Nat} {F : Nat → Prop} {s : T}
def keys (s : T) : List Int := s.roles.map (·.1)
theorem keys_sorted (R : List (Int × Int)) (h : (RI R).Pairwise (fun p q => p.1 < q.1)) : (R.map (·.1)).Pairwise (· < ·) := by
  unfold RI at h
  rw [List.pairwise_map] at h ⊢
  exact h
theorem sorted_is {l k : List Int} (hp : l.Perm k) (hk : k.Pairwise (· < ·)) : (l.mergeSort fun x y => decide (x ≤ y)) = k := by
  refine List.Perm.eq_of_pairwise (le := fun a b => decide (a ≤ b) = true) (fun a b _ _ h1 h2 => ?_) (List.pairwise_mergeSort (fun a b c h1 h2 => ?_) (fun a b => ?_) l) (hk.imp fun h => ?_) ((List.mergeSort_perm l _).trans hp)
  · simp at h1 h2; omega
  · simp at h1 h2 ⊢; omega
  · simp; omega
  · simp; omega
theorem mdel_perm {rem : List Ent} (hn : (rem.map (·.1)).Nodup) {x : Int} {v : Value} (h : (x, v) ∈ rem) : (rem.map (·.1)).Perm (x :: (mdel rem x).map (·.1)) := by
  induction rem with
  | nil => simp at h
  | cons p r ih =>
    simp only [List.map_cons, List.nodup_cons] at hn
    rcases List.mem_cons.1 h with e | h
    · subst e
      have hd : mdel ((x, v) :: r) x = r := by
        unfold mdel
        rw [List.filter_cons_of_neg (by simp)]
        refine List.filter_eq_self.2 fun q hq => ?_
        have : q.1 ≠ x := fun e => hn.1 (List.mem_map.2 ⟨q, hq, e⟩)
        simpa using this
      rw [hd]
      exact List.Perm.refl _
    · have hpx : p.1 ≠ x := fun e => hn.1 (by rw [e]; exact List.mem_map.2 ⟨(x, v), h, rfl⟩)
      have hd : mdel (p :: r) x = p :: mdel r x := by
        unfold mdel
        rw [List.filter_cons_of_pos (by simpa using hpx)]
      rw [hd, List.map_cons, List.map_cons]
      exact ((ih hn.2 h).cons p.1).trans (List.Perm.swap _ _ _)
set_option maxHeartbeats 2000000 in
theorem users_calls (h : TB w t F s) (hr : s.roles.length ≤ 1000000) : Calls Try.prog 50 #[.pointer (some ⟨t, 0, none⟩)] w (NewI (keys s) w) := by
  obtain ⟨A, c, G, b, HB, HO, HM, HN, HF, hts⟩ := h.cells
  have c4 := keepsC (o := 4) HB.out rfl
  have hbl := HM.out.lt
  have hinc := HM.out.inc Try.underlying3
  have hks := keys_sorted s.roles hinc
  have HKS := Asd.mk hks
  clear h HB HO HN HF hinc hks
  go_enter Try.func50, Try.ntmps50
  go_wp2_with (with_reducible refine stop_range 63 _ rfl ?_)
  refine wp_range rfl 63 _ rfl HM.out Try.underlying3 Try.underlying63 rfl ?_
  intro w1 hrg hu hsz
  have HR1 := Asd.mk hrg
  have HW1 := Asd.mk hu
  have hs1 : w1.heap.size = w.heap.size + 1 := hsz
  have HS1 := Asd.mk hs1
  clear hrg hu c4 hsz hs1
  go_frame
  go_wp2
  go_loopw [3] (fun v3 wr => ∃ (A3 : Option Addr) (c3 : Nat) (G3 : Option Nat) (l : List Int) (rem : List Ent), v3 = .slice A3 l.length c3 ∧ l.length ≤ c3 ∧ Asd (OI wr (.slice A3 l.length c3) l G3) ∧ Asd (∀ g, G3 = some g → w1.heap.size ≤ g) ∧ Asd (rangeV wr Try.prog 3 b w.heap.size (RI s.roles) rem) ∧ Asd ((l ++ rem.map (·.1)).Perm (keys s)) ∧ Asd (Upd (fun i => i = w.heap.size) w1 wr)) (fun _ wr => World.rangeLeft wr b w.heap.size)
  case atStart => exact ⟨none, 0, none, [], RI s.roles, rfl, by simp, ⟨OI.nil _⟩, ⟨fun g h => by cases h⟩, HR1, ⟨by rw [List.nil_append]; unfold RI keys; rw [List.map_map]; exact List.Perm.refl _⟩, ⟨Upd.refl _ _⟩⟩
  case round =>
    clear HR1
    obtain ⟨A3, c3, G3, l, rem, rfl, hlc, HO, HG, HR, HP, HU⟩ := hrel
    have hll : l.length ≤ 1000000 := by
      have := HP.out.length_eq
      simp only [keys, List.length_append, List.length_map] at this
      omega
    go_wp2_with (with_reducible refine stop_next _ rfl ?_)
    refine wp_next rfl _ rfl HR.out Try.underlying3 rfl ?_ ?_
    · intro hrem
      have HP2 : Asd (l.Perm (keys s)) := ⟨by have := HP.out; rw [hrem] at this; simpa using this⟩
      clear hrem HP HR
      go_wp2_with fail
      refine (sort_calls HO.out hll).mono ?_
      unfold SortPost
      rw [sorted_is HP2.out HKS.out]
      rintro e w2 ⟨rfl, ho, hu⟩
      have HO2 := Asd.mk ho
      have HU2 : Asd (Upd (fun _ => False) w w2) := ⟨(HW1.out.trans HU.out (fun i hi e => by omega)).trans hu (fun i hi e => by have := HG.out _ e.symm; have := HS1.out; omega)⟩
      have HLE : Asd (l.length = (keys s).length) := ⟨HP2.out.length_eq⟩
      clear ho hu HO HU
      go_wp2
      go_ret
      exact ⟨A3, c3, G3, by rw [← HLE.out]; rfl, HO2.out, fun g e => by have := HG.out g e; have := HS1.out; omega, HU2.out⟩
    · intro x v w2 hmem hr2 hu2 hs2 hlt hent
      have hnd : (rem.map (·.1)).Nodup := by
        have h1 : (l ++ rem.map (·.1)).Nodup := HP.out.nodup_iff.2 ((HKS.out).imp (fun h => by omega))
        exact (List.nodup_append.1 h1).2.1
      have HP2 : Asd (((l ++ [x]) ++ (mdel rem x).map (·.1)).Perm (keys s)) := ⟨by
        refine List.Perm.trans ?_ HP.out
        rw [List.append_assoc]
        exact (List.Perm.append_left l (mdel_perm hnd hmem)).symm⟩
      have HR2 := Asd.mk hr2
      have hrlt : w.heap.size < w2.heap.size := HR2.out.lt
      have HU2 : Asd (Upd (fun i => i = w.heap.size) w1 w2) := ⟨HU.out.trans hu2 (fun i hi e => e)⟩
      have HO2 := Asd.mk (HO.out.upd hu2 (fun g e e2 => by have := HG.out g e; have := HS1.out; omega))
      have HLT := Asd.mk hlt
      clear hmem hr2 hu2 hs2 hnd HP HR HU HO hlt
      have hk2 : Upd (fun _ => False) w2 w2 := Upd.refl _ _
      go_wp2_with (with_reducible refine stop_append _ _ _ _ rfl ?_)
      refine wp_appendI (HU2.out.alloc _) rfl _ _ 31 3 rfl Try.underlying31 rfl infoI rfl rfl (HO2.out.up ((Upd.refl (fun _ => False) _).alloc _)) HG.out (l2 := [x]) (m := 1) (c2 := 1) (Rd1 _ _) rfl (by omega) ?_
      intro A5 c5 w5 G5 hO5 hc5 hG5 hU5 hV5
      obtain ⟨l2, hl2⟩ : ∃ l2, l2 = l ++ [x] := ⟨_, rfl⟩
      rw [← hl2] at hO5 hc5 HP2
      rw [← hl2]
      have hne : ∀ i, some i = G3 → w1.heap.size ≤ i := fun i e => HG.out i e.symm
      have hs1 := HS1.out
      have HR5 := Asd.mk ((rangeV.upd (HR2.out) ((Upd.refl (fun _ => False) _).alloc _) (fun h => h) (fun h => h)).upd hV5 (fun e => by have := hne _ e; omega) (fun e => by have := hne _ e; omega))
      have HLE : Asd (World.rangeLeft w5 b w.heap.size < World.rangeLeft wr b w.heap.size) := ⟨by
        rw [rangeLeft_upd hV5 (by simp; omega) (by simp; omega) (fun e => by have := hne _ e; omega) (fun e => by have := hne _ e; omega), rangeLeft_upd ((Upd.refl (fun _ => False) w2).alloc _) (by omega) (by omega) (fun h => h) (fun h => h)]
        exact HLT.out⟩
      have HO5 := Asd.mk hO5
      have HG5 := Asd.mk hG5
      have HU5 := Asd.mk hU5
      clear hl2 hne hs1 hO5 hG5 hU5 hV5 HO2 HR2 HU2 HLT HG hk2 hent
      go_wp2
      go_roundw
      case rel => exact ⟨A5, c5, G5, l2, mdel rem x, rfl, hc5, HO5, HG5, HR5, HP2, HU5⟩
      case measure => exact HLE.out
end
end Go.Proofs.Ytaeafnpldlcdnaa.Fl
