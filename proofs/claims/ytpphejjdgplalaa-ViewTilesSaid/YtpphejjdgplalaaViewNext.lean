/- A viewer's next piece (view.Next): what it comes to. -/
import Derived.Test.YtpphejjdgplalaaView
import Derived.Deep.RegionHeld3
set_option linter.unusedVariables false
set_option linter.unusedSimpArgs false
namespace Go.Proofs.Ytpphejjdgplalaa.Vw
open Go.RowKit K Rg MgRow Mg MgTwo
/-- How many bytes a piece has at most. -/
def roomOf (room most : Int) : Int := mn (mn most (mx room 0 - 11)) 2042
structure Nx where
  m : M
  ok : Bool
  at_ : Nat
  st : Nat
/-- What is sent next. -/
def next (l : List UInt8) (n at_ st : Nat) (room most strikes : Int) : Nx :=
  if at_ < l.length - n then
    if strikes ≤ (st : Int) ∨ room < 17 then ⟨⟨12, 0, 0, []⟩, true, at_, st⟩ else ⟨⟨7, (at_ : Int), ((l.length - n : Nat) : Int), []⟩, true, l.length - n, st + 1⟩
  else if (l.drop at_).take (roomOf room most).toNat = [] then ⟨⟨0, 0, 0, []⟩, false, at_, st⟩
  else ⟨⟨6, (at_ : Int), 0, (l.drop at_).take (roomOf room most).toNat⟩, true, at_ + ((l.drop at_).take (roomOf room most).toNat).length, st⟩
def msgV (m : M) : Value := .agg #[.int .i64 m.k, .int .i64 m.a, .int .i64 m.b, .string (S m.t)]
def NextPost (v : Nat) (r : Nx) (w : World) (e : Ending) (w' : World) : Prop := e = .returned (.tuple #[msgV r.m, .bool r.ok]) ∧ V w' v r.at_ r.st ∧ Upd (fun i => i = v) w w'
section
variable {w : World} {q g n v at_ st : Nat} {l : List UInt8}
set_option maxHeartbeats 2000000 in
set_option maxRecDepth 100000 in
theorem next_calls (h : Ring w q g n l) (hv : V w v at_ st) (hne : ¬ Its q g v) (hat : at_ ≤ l.length) (hst : st ≤ 1000000000) (room most strikes : Int) (hr : -1000000000 ≤ room ∧ room ≤ 1000000000) (hm : -9223372036854775808 ≤ most ∧ most ≤ 9223372036854775807) :
    Calls Try.prog 26 #[.pointer (some ⟨v, 0, none⟩), .pointer (some ⟨q, 0, none⟩), .int .i64 room, .int .i64 most, .int .i64 strikes] w (NextPost v (next l n at_ st room most strikes) w) := by
  obtain ⟨r, hrr⟩ : ∃ r, r = next l n at_ st room most strikes := ⟨_, rfl⟩
  rw [← hrr]
  have HRR := Asd.mk hrr
  have HR := Asd.mk h
  have HV := Asd.mk hv
  have hfew := h.few
  have c0 := keepsC (o := 0) (v := .int .i64 (at_ : Int)) hv rfl
  have c1 := keepsC (o := 1) (v := .int .i64 (st : Int)) hv rfl
  have f0 := keepsF (o := 0) hv
  have f1 := keepsF (o := 1) hv
  obtain ⟨base, hbase⟩ : ∃ base, base = l.length - n := ⟨_, rfl⟩
  have HB := Asd.mk hbase
  have HQ := Asd.mk (Bare.lt h)
  have hvs : v < w.heap.size := blk_lt hv
  have hvn : v ≠ w.heap.size := by omega
  have hvn1 : v ≠ w.heap.size + 1 := by omega
  have hvn2 : w.heap.size ≠ v := by omega
  have hvn3 : w.heap.size + 1 ≠ v := by omega
  have HU2 : Upd (fun _ => False) w w := Upd.refl _ _
  clear hrr h hv hbase
  go_enter Try.func26, Try.ntmps26
  go_wp2
  refine wp_region_held_drew (S := fun W => Upd (fun _ => False) w W) (by kernel_rfl) (by exact (by repeat (first | assumption | with_reducible exact Upd.refl _ _ | with_reducible refine Upd.drewN ?_ _ | with_reducible refine Upd.drew ?_ | with_reducible refine Upd.alloc ?_ _ | with_reducible refine Upd.setAt ?_ ?_ | exact Or.inl rfl | exact Or.inr (by simp) | exact Or.inr (by omega)))) (fun hHeld => ?_)
  refine wpAnyH_take (i := 0) (oi := ?_) (v := ?_) ?_ (by kernel_rfl) (by kernel_rfl) (by kernel_rfl) ?_ (Or.inl ⟨?_, ?_⟩) (by assumption) ?_
  rotate_left 2
  · (simp only [List.getElem?_toArray, List.getElem?_cons_succ, List.getElem?_cons_zero]; exact rfl)
  · exact (fun _ _ _ h => h)
  · rfl
  · (intro w hSw; (try dsimp only at hSw); go_simp; (try with_reducible rfl))
  try simp only [Act.put, List.setIfInBounds_toArray, List.set_cons_zero, List.set_cons_succ]
  refine wpAnyH_take (i := 1) (oi := ?_) (v := ?_) ?_ (by kernel_rfl) (by kernel_rfl) (by kernel_rfl) ?_ (Or.inl ⟨?_, ?_⟩) (by assumption) ?_
  rotate_left 2
  · (simp only [List.getElem?_toArray, List.getElem?_cons_succ, List.getElem?_cons_zero]; exact rfl)
  · exact (fun _ _ _ h => h)
  · rfl
  · (intro w hSw; (try dsimp only at hSw); go_simp; (try with_reducible rfl))
  try simp only [Act.put, List.setIfInBounds_toArray, List.set_cons_zero, List.set_cons_succ]
  refine wpAnyH_take (i := 2) (oi := ?_) (v := ?_) ?_ (by kernel_rfl) (by kernel_rfl) (by kernel_rfl) ?_ (Or.inl ⟨?_, ?_⟩) (by assumption) ?_
  rotate_left 2
  · (simp only [List.getElem?_toArray, List.getElem?_cons_succ, List.getElem?_cons_zero]; exact rfl)
  · exact (fun _ _ _ h => h)
  · rfl
  · (intro w hSw; (try dsimp only at hSw); go_simp; (try with_reducible rfl))
  try simp only [Act.put, List.setIfInBounds_toArray, List.set_cons_zero, List.set_cons_succ]
  refine wpAnyH_take (i := 3) (oi := ?_) (v := ?_) ?_ (by kernel_rfl) (by kernel_rfl) (by kernel_rfl) ?_ (Or.inl ⟨?_, ?_⟩) (by assumption) ?_
  rotate_left 2
  · (simp only [List.getElem?_toArray, List.getElem?_cons_succ, List.getElem?_cons_zero]; exact rfl)
  · exact (fun _ _ _ h => h)
  · rfl
  · (intro w hSw; (try dsimp only at hSw); go_simp; (try with_reducible rfl))
  try simp only [Act.put, List.setIfInBounds_toArray, List.set_cons_zero, List.set_cons_succ]
  refine wpAnyH_take (i := 4) (oi := ?_) (v := ?_) ?_ (by kernel_rfl) (by kernel_rfl) (by kernel_rfl) ?_ (Or.inl ⟨?_, ?_⟩) (by assumption) ?_
  rotate_left 2
  · (simp only [List.getElem?_toArray, List.getElem?_cons_succ, List.getElem?_cons_zero]; exact rfl)
  · exact (fun _ _ _ h => h)
  · rfl
  · (intro w hSw; (try dsimp only at hSw); go_simp; (try with_reducible rfl))
  try simp only [Act.put, List.setIfInBounds_toArray, List.set_cons_zero, List.set_cons_succ]
  refine wpAnyH_ready (rs := [5]) (by kernel_rfl) (by simp) (AllReadyH.cons (o := ?_) ?_ (fun K hK => ?_) AllReadyH.nil)
  rotate_left 1
  · (simp only [List.getElem?_toArray, List.getElem?_cons_succ, List.getElem?_cons_zero]; exact rfl)
  (go_simp; (go_at_call 19; refine (base_calls (HR.out.up (by repeat (first | assumption | with_reducible exact Upd.refl _ _ | with_reducible refine Upd.drewN ?_ _ | with_reducible refine Upd.drew ?_ | with_reducible refine Upd.alloc ?_ _ | with_reducible refine Upd.setAt ?_ ?_ | exact Or.inl rfl | exact Or.inr (by simp) | exact Or.inr (by omega))))).mono ?_; rw [← HB.out]; rintro e wn ⟨rfl, rfl⟩))
  refine hK.out _ _ (by exact (by repeat (first | assumption | with_reducible exact Upd.refl _ _ | with_reducible refine Upd.drewN ?_ _ | with_reducible refine Upd.drew ?_ | with_reducible refine Upd.alloc ?_ _ | with_reducible refine Upd.setAt ?_ ?_ | exact Or.inl rfl | exact Or.inr (by simp) | exact Or.inr (by omega)))) (fun hHeld => ?_)
  clear hK K
  try simp only [Act.put, List.setIfInBounds_toArray, List.set_cons_zero, List.set_cons_succ]
  refine wpAnyH_take (i := 6) (oi := ?_) (v := ?_) ?_ (by kernel_rfl) (by kernel_rfl) (by kernel_rfl) ?_ (Or.inl ⟨?_, ?_⟩) (by assumption) ?_
  rotate_left 2
  · (simp only [List.getElem?_toArray, List.getElem?_cons_succ, List.getElem?_cons_zero]; exact rfl)
  · exact (fun _ _ _ h => h)
  · rfl
  · (intro w hSw; (try dsimp only at hSw); go_simp; (try with_reducible rfl))
  try simp only [Act.put, List.setIfInBounds_toArray, List.set_cons_zero, List.set_cons_succ]
  refine wpAnyH_take (i := 7) (oi := ?_) (v := ?_) ?_ (by kernel_rfl) (by kernel_rfl) (by kernel_rfl) ?_ (Or.inl ⟨?_, ?_⟩) (by assumption) ?_
  rotate_left 2
  · (simp only [List.getElem?_toArray, List.getElem?_cons_succ, List.getElem?_cons_zero]; exact rfl)
  · exact (fun _ _ _ h => h)
  · rfl
  · (intro w hSw; (try dsimp only at hSw); go_simp; (try with_reducible rfl))
  try simp only [Act.put, List.setIfInBounds_toArray, List.set_cons_zero, List.set_cons_succ]
  refine wpAnyH_done (by kernel_rfl) ?_ _
  generalize hwz : World.drew _ = wz
  have h10 : wz.heap[w.heap.size]? = some (.cells #[.int .i64 0, .int .i64 0, .int .i64 0, .string { data := #[] }] 44 (0, 0)) := by rw [← hwz]; exact blk_past (blk_new rfl)
  have h12 : wz.heap[w.heap.size + 1]? = some (.cells #[.int .i64 0, .int .i64 0, .int .i64 0, .string { data := #[] }] 44 (0, 0)) := by rw [← hwz]; exact blk_new (by simp)
  have hsz : wz.heap.size = w.heap.size + 2 := by rw [← hwz]; simp
  have HUz : Upd (fun _ => False) w wz := by rw [← hwz]; exact (by repeat (first | assumption | with_reducible exact Upd.refl _ _ | with_reducible refine Upd.drewN ?_ _ | with_reducible refine Upd.drew ?_ | with_reducible refine Upd.alloc ?_ _ | with_reducible refine Upd.setAt ?_ ?_ | exact Or.inl rfl | exact Or.inr (by simp) | exact Or.inr (by omega)))
  have H10 := Asd.mk h10
  have H12 := Asd.mk h12
  have HSZ := Asd.mk hsz
  have hv3 := HUz.blk HV.out (fun h => h)
  have HVz := Asd.mk hv3
  clear hwz hHeld HU2 c0 c1 f0 f1 hsz
  (try clear hHeld)
  have HRz := Asd.mk (HR.out.up HUz)
  by_cases hgap : at_ < base
  · have hn17 : (nums 7 : Nat) = 2 := by decide
    have HN17 := Asd.mk hn17
    clear hn17
    have d0 := keepsCS (S := fun i => i = w.heap.size + 1) (o := 0) (v := .int .i64 (at_ : Int)) hv3 hvn1 rfl
    have z0 := keepsC (o := 0) h12 rfl
    have z1 := keepsC (o := 1) h12 rfl
    have z2 := keepsC (o := 2) h12 rfl
    have z3 := keepsC (o := 3) h12 rfl
    have y0 := fun o => keepsF (o := o) h12
    have HUn : Upd (fun i => i = w.heap.size + 1) wz wz := Upd.refl _ _
    clear h10 h12 hv3
    go_wp2_with fail
    refine wp_region_held_drew (S := fun W => Upd (fun i => i = w.heap.size + 1) wz W) (by kernel_rfl) (by exact (by repeat (first | assumption | with_reducible exact Upd.refl _ _ | with_reducible refine Upd.drewN ?_ _ | with_reducible refine Upd.drew ?_ | with_reducible refine Upd.alloc ?_ _ | with_reducible refine Upd.setAt ?_ ?_ | exact Or.inl rfl | exact Or.inr (by simp) | exact Or.inr (by omega)))) (fun hHeld => ?_)
    refine wpAnyH_take (i := 0) (oi := ?_) (v := ?_) ?_ (by kernel_rfl) (by kernel_rfl) (by kernel_rfl) ?_ (Or.inl ⟨?_, ?_⟩) (by assumption) ?_
    rotate_left 2
    · (simp only [List.getElem?_toArray, List.getElem?_cons_succ, List.getElem?_cons_zero]; exact rfl)
    · exact (fun _ _ _ h => h)
    · rfl
    · (intro w hSw; (try dsimp only at hSw); go_simp; (try with_reducible rfl))
    try simp only [Act.put, List.setIfInBounds_toArray, List.set_cons_zero, List.set_cons_succ]
    refine wpAnyH_take (i := 1) (oi := ?_) (v := ?_) ?_ (by kernel_rfl) (by kernel_rfl) (by kernel_rfl) ?_ (Or.inl ⟨?_, ?_⟩) (by assumption) ?_
    rotate_left 2
    · (simp only [List.getElem?_toArray, List.getElem?_cons_succ, List.getElem?_cons_zero]; exact rfl)
    · exact (fun _ _ _ h => h)
    · rfl
    · (intro w hSw; (try dsimp only at hSw); go_simp; (try with_reducible rfl))
    try simp only [Act.put, List.setIfInBounds_toArray, List.set_cons_zero, List.set_cons_succ]
    refine wpAnyH_take (i := 2) (oi := ?_) (v := ?_) ?_ (by kernel_rfl) (by kernel_rfl) (by kernel_rfl) ?_ (Or.inl ⟨?_, ?_⟩) (by assumption) ?_
    rotate_left 2
    · (simp only [List.getElem?_toArray, List.getElem?_cons_succ, List.getElem?_cons_zero]; exact rfl)
    · exact (fun _ _ _ h => h)
    · rfl
    · (intro w hSw; (try dsimp only at hSw); go_simp; (try with_reducible rfl))
    try simp only [Act.put, List.setIfInBounds_toArray, List.set_cons_zero, List.set_cons_succ]
    refine wpAnyH_take (i := 3) (oi := ?_) (v := ?_) ?_ (by kernel_rfl) (by kernel_rfl) (by kernel_rfl) ?_ (Or.inl ⟨?_, ?_⟩) (by assumption) ?_
    rotate_left 2
    · (simp only [List.getElem?_toArray, List.getElem?_cons_succ, List.getElem?_cons_zero]; exact rfl)
    · exact (fun _ _ _ h => h)
    · rfl
    · (intro w hSw; (try dsimp only at hSw); go_simp; (try with_reducible rfl))
    try simp only [Act.put, List.setIfInBounds_toArray, List.set_cons_zero, List.set_cons_succ]
    refine wpAnyH_take (i := 4) (oi := ?_) (v := ?_) ?_ (by kernel_rfl) (by kernel_rfl) (by kernel_rfl) ?_ (Or.inl ⟨?_, ?_⟩) (by assumption) ?_
    rotate_left 2
    · (simp only [List.getElem?_toArray, List.getElem?_cons_succ, List.getElem?_cons_zero]; exact rfl)
    · exact (fun _ _ _ h => h)
    · rfl
    · (intro w hSw; (try dsimp only at hSw); go_simp; (try with_reducible rfl))
    try simp only [Act.put, List.setIfInBounds_toArray, List.set_cons_zero, List.set_cons_succ]
    refine wpAnyH_ready (rs := [5]) (by kernel_rfl) (by simp) (AllReadyH.cons (o := ?_) ?_ (fun K hK => ?_) AllReadyH.nil)
    rotate_left 1
    · (simp only [List.getElem?_toArray, List.getElem?_cons_succ, List.getElem?_cons_zero]; exact rfl)
    (go_simp; (go_at_call 19; refine (base_calls (HRz.out.up (by repeat (first | assumption | with_reducible exact Upd.refl _ _ | with_reducible refine Upd.drewN ?_ _ | with_reducible refine Upd.drew ?_ | with_reducible refine Upd.alloc ?_ _ | with_reducible refine Upd.setAt ?_ ?_ | exact Or.inl rfl | exact Or.inr (by simp) | exact Or.inr (by omega))))).mono ?_; rw [← HB.out]; rintro e wn ⟨rfl, rfl⟩))
    refine hK.out _ _ (by exact (by repeat (first | assumption | with_reducible exact Upd.refl _ _ | with_reducible refine Upd.drewN ?_ _ | with_reducible refine Upd.drew ?_ | with_reducible refine Upd.alloc ?_ _ | with_reducible refine Upd.setAt ?_ ?_ | exact Or.inl rfl | exact Or.inr (by simp) | exact Or.inr (by omega)))) (fun hHeld => ?_)
    clear hK K
    try simp only [Act.put, List.setIfInBounds_toArray, List.set_cons_zero, List.set_cons_succ]
    refine wpAnyH_take (i := 6) (oi := ?_) (v := ?_) ?_ (by kernel_rfl) (by kernel_rfl) (by kernel_rfl) ?_ (Or.inl ⟨?_, ?_⟩) (by assumption) ?_
    rotate_left 2
    · (simp only [List.getElem?_toArray, List.getElem?_cons_succ, List.getElem?_cons_zero]; exact rfl)
    · exact (fun _ _ _ h => h)
    · rfl
    · (intro w hSw; (try dsimp only at hSw); go_simp; (try with_reducible rfl))
    try simp only [Act.put, List.setIfInBounds_toArray, List.set_cons_zero, List.set_cons_succ]
    refine wpAnyH_ready (rs := [7]) (by kernel_rfl) (by simp) (AllReadyH.cons (o := ?_) ?_ (fun K hK => ?_) AllReadyH.nil)
    rotate_left 1
    · (simp only [List.getElem?_toArray, List.getElem?_cons_succ, List.getElem?_cons_zero]; exact rfl)
    go_simp
    refine hK.out _ _ (by exact (by repeat (first | assumption | with_reducible exact Upd.refl _ _ | with_reducible refine Upd.drewN ?_ _ | with_reducible refine Upd.drew ?_ | with_reducible refine Upd.alloc ?_ _ | with_reducible refine Upd.setAt ?_ ?_ | exact Or.inl rfl | exact Or.inr (by simp) | exact Or.inr (by omega)))) (fun hHeld => ?_)
    clear hK K
    try simp only [Act.put, List.setIfInBounds_toArray, List.set_cons_zero, List.set_cons_succ]
    refine wpAnyH_done (by kernel_rfl) ?_ _
    generalize hw4 : World.drew _ = w4
    have h12 : w4.heap[w.heap.size + 1]? = some (.cells #[.int .i64 7, .int .i64 (at_ : Int), .int .i64 (base : Int), .string { data := #[] }] 44 (0, 0)) := by rw [← hw4]; exact (MgOf.four H12.out).2.2.2.2 _ _ _ _
    have hu4 : Upd (fun i => i = w.heap.size + 1) wz w4 := by rw [← hw4]; exact (by repeat (first | assumption | with_reducible exact Upd.refl _ _ | with_reducible refine Upd.drewN ?_ _ | with_reducible refine Upd.drew ?_ | with_reducible refine Upd.alloc ?_ _ | with_reducible refine Upd.setAt ?_ ?_ | exact Or.inl rfl | exact Or.inr (by simp) | exact Or.inr (by omega)))
    have h10 := hu4.blk H10.out (by omega)
    have HUv : Upd (fun _ => False) w w4 := HUz.trans hu4 (fun i h e => by omega)
    clear d0 z0 z1 z2 z3 y0 HUn H10 H12 HUz hw4 hu4 hHeld
    (try clear hHeld)
    (try clear hHeld)
    have HV4 := Asd.mk (HUv.blk HV.out (fun h => h))
    have v1 := keepsC (o := 1) (v := .int .i64 (st : Int)) HV4.out rfl
    have H10 := Asd.mk h10
    have H12 := Asd.mk h12
    have z0 := keepsC (o := 0) h12 rfl
    have z1 := keepsC (o := 1) h12 rfl
    have z2 := keepsC (o := 2) h12 rfl
    have z3 := keepsC (o := 3) h12 rfl
    have y0 := keepsC (o := 0) h10 rfl
    have y1 := keepsC (o := 1) h10 rfl
    have y2 := keepsC (o := 2) h10 rfl
    have y3 := keepsC (o := 3) h10 rfl
    have yf := fun o => keepsF (o := o) h10
    clear h12 h10
    by_cases hs : strikes ≤ (st : Int)
    · have HF : Asd (r = ⟨⟨12, 0, 0, []⟩, true, at_, st⟩) := ⟨by rw [HRR.out, next, if_pos (by rw [← HB.out]; exact hgap), if_pos (.inl hs)]⟩
      go_wp2
      have q := (MgOf.four H10.out).2.2.2.2 (.int .i64 12) (.int .i64 0) (.int .i64 0) (.string { data := #[] })
      refine bodyPost_ret (v := .tuple #[.agg #[.int .i64 12, .int .i64 0, .int .i64 0, .string { data := #[] }], .bool true]) (by simp [results, Try.results26, go_sem, World.cell?, q]) rfl ?_
      rw [HF.out]
      exact ⟨rfl, Upd.blk (S := fun i => i = w.heap.size) (by repeat (first | assumption | with_reducible exact Upd.refl _ _ | with_reducible refine Upd.drewN ?_ _ | with_reducible refine Upd.drew ?_ | with_reducible refine Upd.alloc ?_ _ | with_reducible refine Upd.setAt ?_ ?_ | exact Or.inl rfl | exact Or.inr (by simp) | exact Or.inr (by omega))) HV4.out hvn, (show Upd (fun _ => False) w _ from (by repeat (first | assumption | with_reducible exact Upd.refl _ _ | with_reducible refine Upd.drewN ?_ _ | with_reducible refine Upd.drew ?_ | with_reducible refine Upd.alloc ?_ _ | with_reducible refine Upd.setAt ?_ ?_ | exact Or.inl rfl | exact Or.inr (by simp) | exact Or.inr (by omega)))).mono (fun _ _ h => h.elim)⟩
    have hs2 : ¬ (strikes ≤ (st : Int)) := hs
    have hSz : ({ data := #[] } : ByteArray) = S [] := rfl
    have HSz := Asd.mk hSz
    clear hSz
    go_wp2_with fail
    rw [HSz.out]
    refine (size_calls 7 (at_ : Int) (base : Int) [] _ (by simp)).mono ?_
    rw [HN17.out]
    rintro e w5 ⟨rfl, hu⟩
    have h10 := hu.blk H10.out (fun h => h)
    have h12 := hu.blk H12.out (fun h => h)
    have hv5 := hu.blk HV4.out (fun h => h)
    have HUw : Upd (fun _ => False) w w5 := HUv.trans hu (fun _ _ h => h)
    clear hu z0 z1 z2 z3 y0 y1 y2 y3 yf H10 H12 HV4 HUv v1
    have d0 := keepsC (o := 0) (v := .int .i64 (at_ : Int)) hv5 rfl
    have d1 := keepsC (o := 1) (v := .int .i64 (st : Int)) hv5 rfl
    have d2 := fun o => keepsF (o := o) hv5
    have z0 := keepsC (o := 0) h12 rfl
    have z1 := keepsC (o := 1) h12 rfl
    have z2 := keepsC (o := 2) h12 rfl
    have z3 := keepsC (o := 3) h12 rfl
    have y0 := keepsC (o := 0) h10 rfl
    have y1 := keepsC (o := 1) h10 rfl
    have y2 := keepsC (o := 2) h10 rfl
    have y3 := keepsC (o := 3) h10 rfl
    have yf := fun o => keepsF (o := o) h10
    have H10 := Asd.mk h10
    have HV5 := Asd.mk hv5
    clear h10 h12 hv5
    have hx17 : ((5 + 6 * 2 + ([] : List UInt8).length : Nat) : Int) = 17 := rfl
    rw [hx17]
    clear hx17
    by_cases hr17 : room < 17
    · have HF : Asd (r = ⟨⟨12, 0, 0, []⟩, true, at_, st⟩) := ⟨by rw [HRR.out, next, if_pos (by rw [← HB.out]; exact hgap), if_pos (.inr hr17)]⟩
      go_wp2
      have q := (MgOf.four H10.out).2.2.2.2 (.int .i64 12) (.int .i64 0) (.int .i64 0) (.string { data := #[] })
      refine bodyPost_ret (v := .tuple #[.agg #[.int .i64 12, .int .i64 0, .int .i64 0, .string { data := #[] }], .bool true]) (by simp [results, Try.results26, go_sem, World.cell?, q]) rfl ?_
      rw [HF.out]
      exact ⟨rfl, Upd.blk (S := fun i => i = w.heap.size) (by repeat (first | assumption | with_reducible exact Upd.refl _ _ | with_reducible refine Upd.drewN ?_ _ | with_reducible refine Upd.drew ?_ | with_reducible refine Upd.alloc ?_ _ | with_reducible refine Upd.setAt ?_ ?_ | exact Or.inl rfl | exact Or.inr (by simp) | exact Or.inr (by omega))) HV5.out hvn, (show Upd (fun _ => False) w _ from (by repeat (first | assumption | with_reducible exact Upd.refl _ _ | with_reducible refine Upd.drewN ?_ _ | with_reducible refine Upd.drew ?_ | with_reducible refine Upd.alloc ?_ _ | with_reducible refine Upd.setAt ?_ ?_ | exact Or.inl rfl | exact Or.inr (by simp) | exact Or.inr (by omega)))).mono (fun _ _ h => h.elim)⟩
    · have HF : Asd (r = ⟨⟨7, (at_ : Int), (base : Int), []⟩, true, base, st + 1⟩) := ⟨by rw [HRR.out, next, if_pos (by rw [← HB.out]; exact hgap), if_neg (by omega), ← HB.out]⟩
      go_wp2
      have b0 := blk_setCell (o := 1) (blk_setCell (o := 0) HV5.out (.int .i64 (base : Int))) (.int .i64 ((st : Int) + 1))
      have b1 : ((w5.setCell ⟨v, 0, none⟩ (.int .i64 (base : Int))).setCell ⟨v, 1, none⟩ (.int .i64 ((st : Int) + 1))).heap[v]? = some (.cells #[.int .i64 (base : Int), .int .i64 ((st + 1 : Nat) : Int)] 74 (0, 0)) := by rw [b0, Int.natCast_add]; rfl
      have hu5 : Upd (fun i => i = v) w5 ((w5.setCell ⟨v, 0, none⟩ (.int .i64 (base : Int))).setCell ⟨v, 1, none⟩ (.int .i64 ((st : Int) + 1))) := (by repeat (first | assumption | with_reducible exact Upd.refl _ _ | with_reducible refine Upd.drewN ?_ _ | with_reducible refine Upd.drew ?_ | with_reducible refine Upd.alloc ?_ _ | with_reducible refine Upd.setAt ?_ ?_ | exact Or.inl rfl | exact Or.inr (by simp) | exact Or.inr (by omega)))
      have hb := hu5.blk H10.out (by omega)
      have q := (MgOf.four hb).2.2.2.2 (.int .i64 7) (.int .i64 (at_ : Int)) (.int .i64 (base : Int)) (.string { data := #[] })
      have hw5 : Upd (fun i => i = v) w w5 := HUw.mono (fun _ _ h => h.elim)
      clear hu5
      refine bodyPost_ret (v := .tuple #[.agg #[.int .i64 7, .int .i64 (at_ : Int), .int .i64 (base : Int), .string { data := #[] }], .bool true]) (by simp [results, Try.results26, go_sem, World.cell?, q]) rfl ?_
      rw [HF.out]
      refine ⟨rfl, ?_, (by repeat (first | assumption | with_reducible exact Upd.refl _ _ | with_reducible refine Upd.drewN ?_ _ | with_reducible refine Upd.drew ?_ | with_reducible refine Upd.alloc ?_ _ | with_reducible refine Upd.setAt ?_ ?_ | exact Or.inl rfl | exact Or.inr (by simp) | exact Or.inr (by omega)))⟩
      show V _ v base (st + 1)
      exact Upd.blk (S := fun i => i = w.heap.size) (by repeat (first | assumption | with_reducible exact Upd.refl _ _ | with_reducible refine Upd.drewN ?_ _ | with_reducible refine Upd.drew ?_ | with_reducible refine Upd.alloc ?_ _ | with_reducible refine Upd.setAt ?_ ?_ | exact Or.inl rfl | exact Or.inr (by simp) | exact Or.inr (by omega))) b1 hvn
  · obtain ⟨k, hk⟩ : ∃ k, k = roomOf room most := ⟨_, rfl⟩
    obtain ⟨m0, hm0⟩ : ∃ m0, m0 = mx room 0 := ⟨_, rfl⟩
    have hm1 : 0 ≤ m0 ∧ m0 ≤ 1000000000 := by rw [hm0]; unfold mx; split <;> omega
    have e0 : mx room 0 = m0 := hm0.symm
    have e1 : mn (mn most (m0 - 5 - 6)) 2042 = k := by rw [hk, roomOf, hm0, show mx room 0 - 5 - 6 = mx room 0 - 11 by omega]
    have hk1 : k ≤ 2042 ∧ -9223372036854775808 ≤ k := by rw [← e1]; unfold mn; split <;> split <;> omega
    have HKK := Asd.mk hk
    clear hk hm0
    have d00 := keepsC (o := 0) (v := .int .i64 (at_ : Int)) hv3 rfl
    clear h10 h12 hv3
    go_wp2_with fail
    refine (read_calls (HRz.out.up (by repeat (first | assumption | with_reducible exact Upd.refl _ _ | with_reducible refine Upd.drewN ?_ _ | with_reducible refine Upd.drew ?_ | with_reducible refine Upd.alloc ?_ _ | with_reducible refine Upd.setAt ?_ ?_ | exact Or.inl rfl | exact Or.inr (by simp) | exact Or.inr (by omega)))) (at_ : Int) k (by omega)).mono ?_
    rintro e w3 ⟨hu3, _, hrd⟩
    obtain ⟨A3, c3, G3, rfl, ho3, hg3⟩ := hrd (by have := HB.out; omega) (by omega)
    have h10 := hu3.blk H10.out (fun h => h)
    have h12 := hu3.blk H12.out (fun h => h)
    have hg3b : ∀ g, G3 = some g → w.heap.size + 2 ≤ g := fun g e => by have := hg3 g e; have := HSZ.out; simp at *; omega
    have hl : ((l.drop (at_ : Int).toNat).take k.toNat).length ≤ 2042 := by rw [List.length_take]; omega
    have hl2 : at_ + ((l.drop (at_ : Int).toNat).take k.toNat).length ≤ l.length := by rw [List.length_take, List.length_drop]; simp only [Int.toNat_natCast]; omega
    obtain ⟨bs, hbs⟩ : ∃ bs, bs = (l.drop (at_ : Int).toNat).take k.toNat := ⟨_, rfl⟩
    rw [← hbs] at ho3 hl hl2
    rw [← hbs]
    have HU3 : Upd (fun _ => False) w w3 := Upd.trans HUz (Upd.trans (by repeat (first | assumption | with_reducible exact Upd.refl _ _ | with_reducible refine Upd.drewN ?_ _ | with_reducible refine Upd.drew ?_ | with_reducible refine Upd.alloc ?_ _ | with_reducible refine Upd.setAt ?_ ?_ | exact Or.inl rfl | exact Or.inr (by simp) | exact Or.inr (by omega))) hu3 (fun _ _ h => h)) (fun _ _ h => h)
    have HBS : Asd (bs = (l.drop at_).take (roomOf room most).toNat) := ⟨by rw [hbs, HKK.out, Int.toNat_natCast]⟩
    have H10 := Asd.mk h10
    have H12 := Asd.mk h12
    clear d00
    have hv3 := HU3.blk HV.out (fun h => h)
    have HV3 := Asd.mk hv3
    have d0 := keepsCS (S := fun i => i = w.heap.size + 1) (o := 0) (v := .int .i64 (at_ : Int)) hv3 hvn1 rfl
    have z0 := keepsC (o := 0) h12 rfl
    have z1 := keepsC (o := 1) h12 rfl
    have z2 := keepsC (o := 2) h12 rfl
    have z3 := keepsC (o := 3) h12 rfl
    have y0 := fun o => keepsF (o := o) h12
    have hs : ∀ W, Upd (fun i => i = w.heap.size + 1) w3 W → (convert 27 9 (.slice A3 bs.length c3)).run Try.prog W = .ok (.string (S bs)) W := fun W k => run_str Try.underlying27 Try.underlying5 Try.underlying9 (ho3.upd k (fun g e h => by have := hg3b g e; omega)).rd
    clear hu3 hrd ho3 hg3 hbs h10 h12 hv3
    have HUn : Upd (fun i => i = w.heap.size + 1) w3 w3 := Upd.refl _ _
    go_wp2_with fail
    refine wp_region_held_drew (S := fun W => Upd (fun i => i = w.heap.size + 1) w3 W) (by kernel_rfl) (by exact (by repeat (first | assumption | with_reducible exact Upd.refl _ _ | with_reducible refine Upd.drewN ?_ _ | with_reducible refine Upd.drew ?_ | with_reducible refine Upd.alloc ?_ _ | with_reducible refine Upd.setAt ?_ ?_ | exact Or.inl rfl | exact Or.inr (by simp) | exact Or.inr (by omega)))) (fun hHeld => ?_)
    refine wpAnyH_take (i := 0) (oi := ?_) (v := ?_) ?_ (by kernel_rfl) (by kernel_rfl) (by kernel_rfl) ?_ (Or.inl ⟨?_, ?_⟩) (by assumption) ?_
    rotate_left 2
    · (simp only [List.getElem?_toArray, List.getElem?_cons_succ, List.getElem?_cons_zero]; exact rfl)
    · exact (fun _ _ _ h => h)
    · rfl
    · (intro w hSw; (try dsimp only at hSw); go_simp; (try with_reducible rfl))
    try simp only [Act.put, List.setIfInBounds_toArray, List.set_cons_zero, List.set_cons_succ]
    refine wpAnyH_take (i := 1) (oi := ?_) (v := ?_) ?_ (by kernel_rfl) (by kernel_rfl) (by kernel_rfl) ?_ (Or.inl ⟨?_, ?_⟩) (by assumption) ?_
    rotate_left 2
    · (simp only [List.getElem?_toArray, List.getElem?_cons_succ, List.getElem?_cons_zero]; exact rfl)
    · exact (fun _ _ _ h => h)
    · rfl
    · (intro w hSw; (try dsimp only at hSw); go_simp; (try with_reducible rfl))
    try simp only [Act.put, List.setIfInBounds_toArray, List.set_cons_zero, List.set_cons_succ]
    refine wpAnyH_take (i := 2) (oi := ?_) (v := ?_) ?_ (by kernel_rfl) (by kernel_rfl) (by kernel_rfl) ?_ (Or.inl ⟨?_, ?_⟩) (by assumption) ?_
    rotate_left 2
    · (simp only [List.getElem?_toArray, List.getElem?_cons_succ, List.getElem?_cons_zero]; exact rfl)
    · exact (fun _ _ _ h => h)
    · rfl
    · (intro w hSw; (try dsimp only at hSw); go_simp; (try with_reducible rfl))
    try simp only [Act.put, List.setIfInBounds_toArray, List.set_cons_zero, List.set_cons_succ]
    refine wpAnyH_take (i := 3) (oi := ?_) (v := ?_) ?_ (by kernel_rfl) (by kernel_rfl) (by kernel_rfl) ?_ (Or.inl ⟨?_, ?_⟩) (by assumption) ?_
    rotate_left 2
    · (simp only [List.getElem?_toArray, List.getElem?_cons_succ, List.getElem?_cons_zero]; exact rfl)
    · exact (fun _ _ _ h => h)
    · rfl
    · (intro w hSw; (try dsimp only at hSw); go_simp; (try with_reducible rfl))
    try simp only [Act.put, List.setIfInBounds_toArray, List.set_cons_zero, List.set_cons_succ]
    refine wpAnyH_take (i := 4) (oi := ?_) (v := ?_) ?_ (by kernel_rfl) (by kernel_rfl) (by kernel_rfl) ?_ (Or.inl ⟨?_, ?_⟩) (by assumption) ?_
    rotate_left 2
    · (simp only [List.getElem?_toArray, List.getElem?_cons_succ, List.getElem?_cons_zero]; exact rfl)
    · exact (fun _ _ _ h => h)
    · rfl
    · (intro w hSw; (try dsimp only at hSw); go_simp; (try with_reducible rfl))
    try simp only [Act.put, List.setIfInBounds_toArray, List.set_cons_zero, List.set_cons_succ]
    refine wpAnyH_take (i := 5) (oi := ?_) (v := ?_) ?_ (by kernel_rfl) (by kernel_rfl) (by kernel_rfl) ?_ (Or.inl ⟨?_, ?_⟩) (by assumption) ?_
    rotate_left 2
    · (simp only [List.getElem?_toArray, List.getElem?_cons_succ, List.getElem?_cons_zero]; exact rfl)
    · exact (fun _ _ _ h => h)
    · rfl
    · (intro w hSw; (try dsimp only at hSw); go_simp; (try with_reducible rfl))
    try simp only [Act.put, List.setIfInBounds_toArray, List.set_cons_zero, List.set_cons_succ]
    refine wpAnyH_take (i := 6) (oi := ?_) (v := ?_) ?_ (by kernel_rfl) (by kernel_rfl) (by kernel_rfl) ?_ (Or.inl ⟨?_, ?_⟩) (by assumption) ?_
    rotate_left 2
    · (simp only [List.getElem?_toArray, List.getElem?_cons_succ, List.getElem?_cons_zero]; exact rfl)
    · exact (fun _ _ _ h => h)
    · rfl
    · (intro w hSw; (try dsimp only at hSw); go_simp; (try with_reducible rfl))
    try simp only [Act.put, List.setIfInBounds_toArray, List.set_cons_zero, List.set_cons_succ]
    refine wpAnyH_ready (rs := [7]) (by kernel_rfl) (by simp) (AllReadyH.cons (o := ?_) ?_ (fun K hK => ?_) AllReadyH.nil)
    rotate_left 1
    · (simp only [List.getElem?_toArray, List.getElem?_cons_succ, List.getElem?_cons_zero]; exact rfl)
    go_simp
    refine hK.out _ _ (by exact (by repeat (first | assumption | with_reducible exact Upd.refl _ _ | with_reducible refine Upd.drewN ?_ _ | with_reducible refine Upd.drew ?_ | with_reducible refine Upd.alloc ?_ _ | with_reducible refine Upd.setAt ?_ ?_ | exact Or.inl rfl | exact Or.inr (by simp) | exact Or.inr (by omega)))) (fun hHeld => ?_)
    clear hK K
    try simp only [Act.put, List.setIfInBounds_toArray, List.set_cons_zero, List.set_cons_succ]
    refine wpAnyH_done (by kernel_rfl) ?_ _
    generalize hw4 : World.drew _ = w4
    have h12 : w4.heap[w.heap.size + 1]? = some (.cells #[.int .i64 6, .int .i64 (at_ : Int), .int .i64 0, .string (S bs)] 44 (0, 0)) := by rw [← hw4]; exact (MgOf.four H12.out).2.2.2.2 _ _ _ _
    have hu4 : Upd (fun i => i = w.heap.size + 1) w3 w4 := by rw [← hw4]; exact (by repeat (first | assumption | with_reducible exact Upd.refl _ _ | with_reducible refine Upd.drewN ?_ _ | with_reducible refine Upd.drew ?_ | with_reducible refine Upd.alloc ?_ _ | with_reducible refine Upd.setAt ?_ ?_ | exact Or.inl rfl | exact Or.inr (by simp) | exact Or.inr (by omega)))
    have h10 := hu4.blk H10.out (by omega)
    have hv4 := hu4.blk HV3.out hvn1
    have HUv : Upd (fun i => i = v) w w4 := Upd.trans (HU3.mono (T := fun i => i = v) (fun _ _ h => h.elim)) hu4 (fun i h e => by omega)
    clear d0 z0 z1 z2 z3 y0 hs HUn H10 H12 HV3 HU3 hw4 hu4 hHeld hg3b HUz
    (try clear hHeld)
    (try clear hHeld)
    have d0 := keepsC (o := 0) (v := .int .i64 (at_ : Int)) hv4 rfl
    have d1 := keepsF (o := 0) hv4
    have z0 := keepsC (o := 0) h12 rfl
    have z1 := keepsC (o := 1) h12 rfl
    have z2 := keepsC (o := 2) h12 rfl
    have z3 := keepsC (o := 3) h12 rfl
    have y0 := keepsC (o := 0) h10 rfl
    have y1 := keepsC (o := 1) h10 rfl
    have y2 := keepsC (o := 2) h10 rfl
    have y3 := keepsC (o := 3) h10 rfl
    have yf := fun o => keepsF (o := o) h10
    have H10 := Asd.mk h10
    have HV4 := Asd.mk hv4
    clear h10 h12 hv4
    by_cases hbs : bs = []
    · have HF : Asd (r = ⟨⟨0, 0, 0, []⟩, false, at_, st⟩) := ⟨by rw [HRR.out, next, if_neg (by rw [← HB.out]; exact hgap), ← HBS.out, if_pos hbs]⟩
      subst hbs
      have hl0 : ([] : List UInt8).length = 0 := rfl
      go_wp2
      have q := (MgOf.four H10.out).2.2.2.2 (.int .i64 0) (.int .i64 0) (.int .i64 0) (.string { data := #[] })
      refine bodyPost_ret (v := .tuple #[.agg #[.int .i64 0, .int .i64 0, .int .i64 0, .string { data := #[] }], .bool false]) (by simp [results, Try.results26, go_sem, World.cell?, q]) rfl ?_
      rw [HF.out]
      exact ⟨rfl, Upd.blk (S := fun i => i = w.heap.size) (by repeat (first | assumption | with_reducible exact Upd.refl _ _ | with_reducible refine Upd.drewN ?_ _ | with_reducible refine Upd.drew ?_ | with_reducible refine Upd.alloc ?_ _ | with_reducible refine Upd.setAt ?_ ?_ | exact Or.inl rfl | exact Or.inr (by simp) | exact Or.inr (by omega))) HV4.out hvn, (by repeat (first | assumption | with_reducible exact Upd.refl _ _ | with_reducible refine Upd.drewN ?_ _ | with_reducible refine Upd.drew ?_ | with_reducible refine Upd.alloc ?_ _ | with_reducible refine Upd.setAt ?_ ?_ | exact Or.inl rfl | exact Or.inr (by simp) | exact Or.inr (by omega)))⟩
    · have HF : Asd (r = ⟨⟨6, (at_ : Int), 0, bs⟩, true, at_ + bs.length, st⟩) := ⟨by rw [HRR.out, next, if_neg (by rw [← HB.out]; exact hgap), ← HBS.out, if_neg hbs]⟩
      have hl0 : ((bs.length : Int) == 0) = false := beq_eq_false_iff_ne.2 (fun e => hbs (List.eq_nil_of_length_eq_zero (by omega)))
      clear hbs
      go_wp2
      have b0 := blk_setCell (o := 0) HV4.out (.int .i64 ((at_ : Int) + (bs.length : Int)))
      have b1 : (w4.setCell ⟨v, 0, none⟩ (.int .i64 ((at_ : Int) + (bs.length : Int)))).heap[v]? = some (.cells #[.int .i64 ((at_ + bs.length : Nat) : Int), .int .i64 (st : Int)] 74 (0, 0)) := by rw [b0, Int.natCast_add]; rfl
      have hb := Upd.blk (S := fun i => i = v) (w := w4) (w1 := w4.setCell ⟨v, 0, none⟩ (.int .i64 ((at_ : Int) + (bs.length : Int)))) (by repeat (first | assumption | with_reducible exact Upd.refl _ _ | with_reducible refine Upd.drewN ?_ _ | with_reducible refine Upd.drew ?_ | with_reducible refine Upd.alloc ?_ _ | with_reducible refine Upd.setAt ?_ ?_ | exact Or.inl rfl | exact Or.inr (by simp) | exact Or.inr (by omega))) H10.out (by omega)
      have q := (MgOf.four hb).2.2.2.2 (.int .i64 6) (.int .i64 (at_ : Int)) (.int .i64 0) (.string (S bs))
      refine bodyPost_ret (v := .tuple #[.agg #[.int .i64 6, .int .i64 (at_ : Int), .int .i64 0, .string (S bs)], .bool true]) (by simp [results, Try.results26, go_sem, World.cell?, q]) rfl ?_
      rw [HF.out]
      refine ⟨rfl, ?_, (by repeat (first | assumption | with_reducible exact Upd.refl _ _ | with_reducible refine Upd.drewN ?_ _ | with_reducible refine Upd.drew ?_ | with_reducible refine Upd.alloc ?_ _ | with_reducible refine Upd.setAt ?_ ?_ | exact Or.inl rfl | exact Or.inr (by simp) | exact Or.inr (by omega)))⟩
      show V _ v (at_ + bs.length) st
      exact Upd.blk (S := fun i => i = w.heap.size) (by repeat (first | assumption | with_reducible exact Upd.refl _ _ | with_reducible refine Upd.drewN ?_ _ | with_reducible refine Upd.drew ?_ | with_reducible refine Upd.alloc ?_ _ | with_reducible refine Upd.setAt ?_ ?_ | exact Or.inl rfl | exact Or.inr (by simp) | exact Or.inr (by omega))) b1 hvn
end
end Go.Proofs.Ytpphejjdgplalaa.Vw
