/- A line's command (order.Parse). -/
import Derived.Test.YtaeafnpldlcdnaaDoorOrder
import Derived.Handy
set_option linter.unusedVariables false
set_option linter.unusedSimpArgs false
namespace Go.Proofs.YtaeafnpldlcdnaaDoor.Or
open Go.RowKit K
def wl : List ByteArray := [S (word 1), S (word 2), S (word 3), S (word 4), S (word 5), S (word 6), S (word 7), S (word 8), S (word 9), S (word 10), S (word 11)]
theorem wl_at (i : Nat) (h : i < 11) : wl.getD i ByteArray.empty = S (word (i + 1)) := by
  rcases (by omega : i = 0 ∨ i = 1 ∨ i = 2 ∨ i = 3 ∨ i = 4 ∨ i = 5 ∨ i = 6 ∨ i = 7 ∨ i = 8 ∨ i = 9 ∨ i = 10) with rfl | rfl | rfl | rfl | rfl | rfl | rfl | rfl | rfl | rfl | rfl <;> rfl
def pw (l : List UInt8) : List UInt8 := (Lib.cut l [32]).1
def pnum (l : List UInt8) : List UInt8 := (Lib.cut l [32]).2.1
def pk (l : List UInt8) : Int := Lib.idxOfS wl (S (pw l)) + 1
theorem cut_calls {w : World} (h : Env w) (l : List UInt8) (hl : l.length < 4294967281) : Calls Tryd.prog 14 #[.string (S l), .string { data := #[32] }] w fun e w' => e = .returned (.tuple #[.string (S (pw l)), .string (S (pnum l)), .bool (Lib.cut l [32]).2.2]) ∧ Upd (fun _ => False) w w' := by
  obtain ⟨m, hm⟩ := h.cut
  refine (Tryd.strings_Cut (S l) { data := #[32] } m w (by rw [S_size]; exact hl) hm).mono fun e w' ⟨he, n, hw⟩ => ⟨?_, ?_⟩
  · rw [he]
    have e1 : (S l).data.toList = l := by simp [S]
    rw [e1]
    rfl
  · rw [hw]
    exact (Upd.refl (fun _ => False) w).drewN n
theorem index_calls {w : World} {g : Nat} (hg : w.heap[g]? = some (.cells wcells 9 (0, 0))) (x : List UInt8) : Calls Tryd.prog 15 #[.slice (some ⟨g, 0, none⟩) 11 11, .string (S x)] w fun e w' => e = .returned (.int .i64 (Lib.idxOfS wl (S x))) ∧ w = w' := by
  refine (Tryd.slices_Index_string g 0 11 11 wl (S x) w (by decide) (by omega) (fun j hj => ?_)).mono fun e w' ⟨he, hw⟩ => ⟨by rw [he]; rfl, hw.symm⟩
  have hj11 : j < 11 := hj
  rw [wl_at j hj11, Nat.zero_add]
  exact keepsC (o := j) hg (wcells_at j hj11) w (Upd.refl _ _)
theorem bytes_upd (w : World) (e : TypeId) (t : ByteArray) : Upd (fun _ => False) w (Lib.bytesWorld w e t) := Upd.ofBelow (Lib.bytesWorld_below _ _ _) _
/-- What ParseInt comes to. -/
def PPost (l : List UInt8) (w : World) (e : Ending) (w' : World) : Prop := Upd (fun _ => False) w w' ∧ ((∃ v, Lib.parseIntB 64 l = .ok v ∧ e = .returned (.tuple #[.int .i64 v, .nilIface])) ∨ ((∀ v, Lib.parseIntB 64 l ≠ .ok v) ∧ ∃ v t p, e = .returned (.tuple #[.int .i64 v, .iface t p])))
theorem int_calls {w : World} (h : Env w) (l : List UInt8) (hl : l.length ≤ 281474976710656) : Calls Tryd.prog 16 #[.string (S l), .int .i64 10, .int .i64 64] w (PPost l w) := by
  have e1 : (S l).data.toList = l := by simp [S]
  have hs : (S l).size ≤ 281474976710656 := by rw [S_size]; exact hl
  cases hp : Lib.parseIntB 64 l with
  | ok v =>
    refine (Tryd.strconv_ParseInt_10_at64_ok (S l) (by omega) v (by rw [e1]; exact hp) w).mono fun e w' ⟨he, hw⟩ => ⟨?_, .inl ⟨v, hp, he⟩⟩
    rcases hw with rfl | ⟨t, rfl⟩
    · exact Upd.refl _ _
    · exact bytes_upd _ _ _
  | range =>
    obtain ⟨tp, p, hv⟩ := h.rng
    refine (Tryd.strconv_ParseInt_10_at64_range_var (S l) hs (by rw [e1]; exact hp) tp p w hv).mono fun e w' ⟨N, he, _, _, hb⟩ => ⟨Upd.ofBelow hb _, .inr ⟨(fun v hv => by rw [hp] at hv; cases hv), _, _, _, he⟩⟩
  | _ =>
    obtain ⟨tp, p, hv⟩ := h.syn
    refine (Tryd.strconv_ParseInt_10_at64_syntax_var (S l) hs (by rw [e1]; exact hp) tp p w hv).mono fun e w' ⟨N, he, _, _, hb⟩ => ⟨Upd.ofBelow hb _, .inr ⟨(fun v hv => by rw [hp] at hv; cases hv), _, _, _, he⟩⟩
theorem idx_range (x : ByteArray) : ∀ (zs : List ByteArray) (i : Nat), -1 ≤ Lib.idxFromS zs x i ∧ Lib.idxFromS zs x i < ((i + zs.length : Nat) : Int) + (if zs = [] then 1 else 0)
  | [], i => by simp [Lib.idxFromS]; omega
  | z :: zs, i => by
    have h := idx_range x zs (i + 1)
    rw [Lib.idxFromS]
    simp only [List.length_cons]
    split
    · constructor
      · omega
      · simp; omega
    · refine ⟨h.1, ?_⟩
      have h2 := h.2
      cases zs with
      | nil => simp [Lib.idxFromS] at h2 ⊢; omega
      | cons y r => simp at h2 ⊢; omega
theorem pk_range (l : List UInt8) : 0 ≤ pk l ∧ pk l ≤ 11 := by
  have h := idx_range (S (pw l)) wl 0
  have h2 : (0 + wl.length : Nat) = 11 := rfl
  rw [h2] at h
  unfold pk Lib.idxOfS
  have h3 := h.2
  rw [if_neg (by simp [wl])] at h3
  omega
/-- The number behind the word. -/
def pval (l : List UInt8) : Option Int := if pnum l = [] then some 0 else match Lib.parseIntB 64 (pnum l) with
  | .ok v => some v
  | _ => none
/-- A line's command, and whether it is one. -/
def parse (l : List UInt8) : Int × Int × Int := match pval l with
  | none => (0, 0, 8)
  | some v => if l = [] ∨ text (pk l) v ≠ l then (0, 0, 8) else (pk l, v, 0)
theorem store2 {w : World} {r : Nat} {x0 x1 : Value} {e : TypeId} (h : w.heap[r]? = some (.cells #[x0, x1] e (0, 0))) :
    (∀ u, (w.setCell ⟨r, 0, none⟩ u).cell? ⟨r, 0, none⟩ = some u) ∧ (∀ u v, ((w.setCell ⟨r, 0, none⟩ u).setCell ⟨r, 1, none⟩ v).cell? ⟨r, 1, none⟩ = some v) := by
  have b0 := fun v0 => blk_setCell (o := 0) h v0
  have b1 := fun v0 v1 => blk_setCell (o := 1) (b0 v0) v1
  exact ⟨fun u => by simp [World.cell?, b0], fun u v => by simp [World.cell?, b1]⟩
set_option maxHeartbeats 4000000 in
theorem parse_calls {w : World} (h : Env w) (l : List UInt8) (hl : l.length ≤ 1000) : Calls Tryd.prog 10 #[.string (S l)] w fun e w' => e = .returned (.tuple #[.agg #[.int .i64 (parse l).1, .int .i64 (parse l).2.1], .int .i64 (parse l).2.2]) ∧ Upd (fun _ => False) w w' := by
  have HE := Asd.mk h
  obtain ⟨y, hy⟩ : ∃ y, y = parse l := ⟨_, rfl⟩
  rw [← hy]
  have HY := Asd.mk hy
  obtain ⟨kk, hkk⟩ : ∃ kk, kk = pk l := ⟨_, rfl⟩
  have HK := Asd.mk hkk
  have hkr := pk_range l
  rw [← hkk] at hkr
  have hka := (Upd.refl (fun _ => False) w).alloc (.cells #[.int .i64 0, .int .i64 0] 24)
  clear h hy hkk
  go_enter Tryd.func10, Tryd.ntmps10
  go_wp2_with fail
  refine (words_calls _).mono ?_
  rintro e w2 ⟨g, rfl, hg, hgs, hu⟩
  have hk2 := hka.trans hu (fun _ _ h => h)
  go_wp2_with fail
  refine (cut_calls (HE.out.up hk2) l (by omega)).mono ?_
  rintro e w3 ⟨rfl, hu3⟩
  have hk3 := hk2.trans hu3 (fun _ _ h => h)
  go_wp2_with fail
  refine (index_calls (hu3.blk hg (fun h => h)) (pw l)).mono ?_
  rintro e w4 ⟨rfl, rfl⟩
  rw [show Lib.idxOfS wl (S (pw l)) = kk - 1 by rw [HK.out]; unfold pk; omega]
  have stl : ∀ x : List UInt8, (S x).toList = x := fun x => by rw [ByteArray.toList_eq]; simp [S]
  have hb3 := (hu.trans hu3 (fun _ _ h => h)).blk (heap_alloc_new w (.cells #[.int .i64 0, .int .i64 0] 24)) (fun h => h)
  have r0 := keepsC (o := 0) hb3 rfl
  have r1 := keepsC (o := 1) hb3 rfl
  have rf := fun o => keepsF (o := o) hb3
  have hn3 := heap_alloc_new w3 (.cells #[.int .i64 kk, .int .i64 0] 24)
  have q0 := keepsC (o := 0) hn3 rfl
  have q1 := keepsC (o := 1) hn3 rfl
  have qf := fun o => keepsF (o := o) hn3
  have hkk3 := (Upd.refl (fun _ => False) w3).alloc (.cells #[.int .i64 kk, .int .i64 0] 24)
  have hkw : Upd (fun _ => False) w3 w3 := Upd.refl _ _
  by_cases hp : pnum l = []
  · have hpe : (pnum l).isEmpty = true := by rw [hp]; rfl
    have HV : Asd (pval l = some 0) := ⟨by unfold pval; rw [if_pos hp]⟩
    by_cases hl0 : l = []
    · have HY2 : Asd (y = (0, 0, 8)) := ⟨by rw [HY.out]; unfold parse; rw [HV.out]; simp [hl0]⟩
      obtain ⟨s1, s2⟩ := store2 (hkk3.blk hb3 (fun h => h))
      go_wp2
      refine bodyPost_ret (v := .tuple #[.agg #[.int .i64 0, .int .i64 0], .int .i64 8]) (by simp [results, Tryd.results10, go_sem, s1, s2]) rfl ?_
      refine ⟨by rw [HY2.out], ?_⟩
      exact ((hk3.alloc _).setAt (.inr (Nat.le_refl _))).setAt (.inr (Nat.le_refl _))
    · have hle : l.isEmpty = false := by cases l with
        | nil => exact absurd rfl hl0
        | cons a b => rfl
      have hbl : (l == []) = false := beq_eq_false_iff_ne.2 hl0
      go_wp2_with fail
      refine (string_calls (HE.out.up (hk3.trans hkk3 (fun _ _ h => h))) kk 0).mono ?_
      rintro e w5 ⟨rfl, hu5⟩
      have hk5 := hkk3.trans hu5 (fun _ _ h => h)
      have hb5 := hk5.blk hb3 (fun h => h)
      obtain ⟨s1, s2⟩ := store2 hb5
      have hkw5 : Upd (fun _ => False) w5 w5 := Upd.refl _ _
      have q05 := keepsC (o := 0) (hu5.blk hn3 (fun h => h)) rfl
      have q15 := keepsC (o := 1) (hu5.blk hn3 (fun h => h)) rfl
      by_cases ht : text kk 0 = l
      · have HY2 : Asd (y = (kk, 0, 0)) := ⟨by rw [HY.out]; unfold parse; rw [HV.out]; simp only; rw [← HK.out, if_neg (by rw [ht]; simp [hl0])]⟩
        have hte : (text kk 0 == l) = true := beq_iff_eq.2 ht
        go_wp2
        refine bodyPost_ret (v := .tuple #[.agg #[.int .i64 kk, .int .i64 0], .int .i64 0]) (by simp [results, Tryd.results10, go_sem, s1, s2]) rfl ?_
        refine ⟨by rw [HY2.out], ?_⟩
        exact (((hk3.trans hk5 (fun _ _ h => h))).setAt (.inr (Nat.le_refl _))).setAt (.inr (Nat.le_refl _))
      · have HY2 : Asd (y = (0, 0, 8)) := ⟨by rw [HY.out]; unfold parse; rw [HV.out]; simp only; rw [← HK.out, if_pos (.inr ht)]⟩
        have hte : (text kk 0 == l) = false := beq_eq_false_iff_ne.2 ht
        go_wp2
        refine bodyPost_ret (v := .tuple #[.agg #[.int .i64 0, .int .i64 0], .int .i64 8]) (by simp [results, Tryd.results10, go_sem, s1, s2]) rfl ?_
        refine ⟨by rw [HY2.out], ?_⟩
        exact (((hk3.trans hk5 (fun _ _ h => h))).setAt (.inr (Nat.le_refl _))).setAt (.inr (Nat.le_refl _))
  · have hpe : (pnum l).isEmpty = false := by cases hpn : pnum l with
      | nil => exact absurd hpn hp
      | cons a b => rfl
    have hbp : (pnum l == []) = false := beq_eq_false_iff_ne.2 hp
    have hpl : (pnum l).length ≤ 281474976710656 := by
      have : (pnum l).length ≤ l.length := by
        unfold pnum Lib.cut
        split
        · simp
        · simp
      omega
    go_wp2_with fail
    refine (int_calls (HE.out.up (hk3.trans hkk3 (fun _ _ h => h))) (pnum l) hpl).mono ?_
    rintro e w5 ⟨hu5, h5⟩
    have hk5 := hkk3.trans hu5 (fun _ _ h => h)
    have hb5 := hk5.blk hb3 (fun h => h)
    obtain ⟨s1, s2⟩ := store2 hb5
    have hkw5 : Upd (fun _ => False) w5 w5 := Upd.refl _ _
    rcases h5 with ⟨v, hv, rfl⟩ | ⟨hv, v, tt, pp, rfl⟩
    · have HV : Asd (pval l = some v) := ⟨by unfold pval; rw [if_neg hp, hv]⟩
      have hl0 : l ≠ [] := fun e => hp (by rw [e]; rfl)
      have hle : l.isEmpty = false := by cases l with
        | nil => exact absurd rfl hl0
        | cons a b => rfl
      have hbl : (l == []) = false := beq_eq_false_iff_ne.2 hl0
      have hn5 := hu5.blk hn3 (fun h => h)
      have p1 := keepsC (o := 1) hn5 rfl
      have pf := fun o => keepsF (o := o) hn5
      have hn6 := blk_setCell (o := 1) hn5 (.int .i64 v)
      have hu6 : Upd (fun _ => False) w3 (w5.setCell ⟨w3.heap.size, 1, none⟩ (.int .i64 v)) := hk5.setAt (.inr (Nat.le_refl _))
      have hkw6 : Upd (fun _ => False) (w5.setCell ⟨w3.heap.size, 1, none⟩ (.int .i64 v)) (w5.setCell ⟨w3.heap.size, 1, none⟩ (.int .i64 v)) := Upd.refl _ _
      have m0 := keepsC (o := 0) (v := .int .i64 kk) hn6 rfl
      have m1 := keepsC (o := 1) (v := .int .i64 v) hn6 rfl
      clear q0 q1 s1 s2
      go_wp2_with fail
      refine (string_calls (HE.out.up (hk3.trans hu6 (fun _ _ h => h))) kk v).mono ?_
      rintro e w7 ⟨rfl, hu7⟩
      have hk7 := hu6.trans hu7 (fun _ _ h => h)
      obtain ⟨s1, s2⟩ := store2 (hk7.blk hb3 (fun h => h))
      have hkw7 : Upd (fun _ => False) w7 w7 := Upd.refl _ _
      have hn7 := hu7.blk hn6 (fun h => h)
      have m07 := keepsC (o := 0) (v := .int .i64 kk) hn7 rfl
      have m17 := keepsC (o := 1) (v := .int .i64 v) hn7 rfl
      by_cases ht : text kk v = l
      · have HY2 : Asd (y = (kk, v, 0)) := ⟨by rw [HY.out]; unfold parse; rw [HV.out]; simp only; rw [← HK.out, if_neg (by rw [ht]; simp [hl0])]⟩
        have hte : (text kk v == l) = true := beq_iff_eq.2 ht
        go_wp2
        refine bodyPost_ret (v := .tuple #[.agg #[.int .i64 kk, .int .i64 v], .int .i64 0]) (by simp [results, Tryd.results10, go_sem, s1, s2]) rfl ?_
        refine ⟨by rw [HY2.out], ?_⟩
        exact (((hk3.trans hk7 (fun _ _ h => h))).setAt (.inr (Nat.le_refl _))).setAt (.inr (Nat.le_refl _))
      · have HY2 : Asd (y = (0, 0, 8)) := ⟨by rw [HY.out]; unfold parse; rw [HV.out]; simp only; rw [← HK.out, if_pos (.inr ht)]⟩
        have hte : (text kk v == l) = false := beq_eq_false_iff_ne.2 ht
        go_wp2
        refine bodyPost_ret (v := .tuple #[.agg #[.int .i64 0, .int .i64 0], .int .i64 8]) (by simp [results, Tryd.results10, go_sem, s1, s2]) rfl ?_
        refine ⟨by rw [HY2.out], ?_⟩
        exact (((hk3.trans hk7 (fun _ _ h => h))).setAt (.inr (Nat.le_refl _))).setAt (.inr (Nat.le_refl _))
    · have HV : Asd (pval l = none) := ⟨by unfold pval; rw [if_neg hp]; cases hq : Lib.parseIntB 64 (pnum l) with
        | ok v => exact absurd hq (hv v)
        | _ => rfl⟩
      have HY2 : Asd (y = (0, 0, 8)) := ⟨by rw [HY.out]; unfold parse; rw [HV.out]⟩
      clear hv
      go_wp2
      refine bodyPost_ret (v := .tuple #[.agg #[.int .i64 0, .int .i64 0], .int .i64 8]) (by simp [results, Tryd.results10, go_sem, s1, s2]) rfl ?_
      refine ⟨by rw [HY2.out], ?_⟩
      exact (((hk3.trans hk5 (fun _ _ h => h))).setAt (.inr (Nat.le_refl _))).setAt (.inr (Nat.le_refl _))
end Go.Proofs.YtaeafnpldlcdnaaDoor.Or
