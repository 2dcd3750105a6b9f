/- What these laws lean on, part Ze: contracts of the given program's functions and plain lists. No condition. -/
import Derived.Test.YteepkanbiefpjaaGreatDoorZd
import Derived.Test.YteepkanbiefpjaaGreatDoorZa
import Derived.Test.YteepkanbiefpjaaGreatDoorZc
import Derived.Deep.RegionHeld3
import Derived.Test.YteepkanbiefpjaaGreatDoorZb
import Derived.Lib.ItoaLen
import Derived.Handy
import Derived.Laws.FloatArith
import Derived.Laws.ComplexArith
set_option linter.unusedVariables false
set_option linter.unusedSimpArgs false
namespace Go.Proofs.YteepkanbiefpjaaGreatDoor.MgRow
open Go.RowKit K
structure M where
  k : Int
  a : Int
  b : Int
  t : List UInt8
def mC (m : M) : List Value := [.int .i64 m.k, .int .i64 m.a, .int .i64 m.b, .string (S m.t)]
structure Ms (w : World) (A : Option Addr) (n : Nat) (L : List M) : Prop where
  len : L.length = n
  lim : n ≤ 9223372036854775807
  at_ : ∀ i (h : i < n), ∃ ad, A = some ad ∧ ∀ j u, (mC (L[i]'(by rw [len]; exact h)))[j]? = some u → w.cell? (ad.add (i * 4 + j)) = some u
section
variable {w w1 : World} {A : Option Addr} {n : Nat} {L : List M}
theorem Ms.up (h : Ms w A n L) (k : Upd (fun _ => False) w w1) : Ms w1 A n L := ⟨h.len, h.lim, fun i hi => by
  obtain ⟨ad, e, hc⟩ := h.at_ i hi
  exact ⟨ad, e, fun j u hj => k.cell (hc j u hj) (fun h => h)⟩⟩
theorem Ms.take (h : Ms w A n L) (k : Nat) (hk : k ≤ n) : Ms w A k (L.take k) := ⟨by rw [List.length_take, h.len]; omega, by have := h.lim; omega, fun i hi => by
  obtain ⟨ad, e, hc⟩ := h.at_ i (by omega)
  exact ⟨ad, e, fun j u hj => hc j u (by rw [List.getElem_take] at hj; exact hj)⟩⟩
abbrev RMsg := R4 (RInt .i64) (RInt .i64) (RInt .i64) RStr
theorem RMsg.stays : Stays RMsg := R4.stays (RInt.stays _) (RInt.stays _) (RInt.stays _) RStr.stays
def toM (x : Int × Int × Int × ByteArray) : M := ⟨x.1, x.2.1, x.2.2.1, x.2.2.2.data.toList⟩
theorem RMsg.cells {cs : List Value} {x : Int × Int × Int × ByteArray} (h : RMsg w cs x) : cs = mC (toM x) ∧ (toM x).t.length ≤ reach := by
  obtain ⟨k, a, b, s⟩ := x
  obtain ⟨c0, c1, c2, c3, hcs, ⟨h0, _⟩, ⟨h1, _⟩, ⟨h2, _⟩, h3, hs⟩ := h
  simp only [List.cons.injEq, and_true] at h0 h1 h2 h3
  subst h0; subst h1; subst h2; subst h3
  refine ⟨?_, ?_⟩
  · rw [hcs]
    simp only [mC, toM]
    rw [← S_of]
  · show s.data.toList.length ≤ reach
    rw [Array.length_toList]
    exact hs
theorem Ms.ofEls {X : List (Int × Int × Int × ByteArray)} (h : Els RMsg 4 w A n X) : Ms w A n (X.map toM) ∧ ∀ m ∈ X.map toM, m.t.length ≤ reach := by
  refine ⟨⟨by rw [List.length_map]; exact h.len, h.lim, fun i hi => ?_⟩, fun m hm => ?_⟩
  · obtain ⟨ad, cs, e, hl, hr, hc⟩ := h.at_ i hi
    refine ⟨ad, e, fun j u hj => hc j u ?_⟩
    rw [(RMsg.cells hr).1]
    rw [List.getElem_map] at hj
    exact hj
  · obtain ⟨i, hi, rfl⟩ := List.getElem_of_mem hm
    rw [List.getElem_map]
    obtain ⟨ad, cs, e, hl, hr, hc⟩ := h.at_ i (by rw [← h.len]; simpa using hi)
    exact (RMsg.cells hr).2
theorem Ms.lit (w : World) (C : Array Value) (e : TypeId) (fz : Nat × Nat) (n : Nat) (L : List M) (h : C = (L.flatMap mC).toArray) (hl : L.length = n) (hm : n ≤ 9223372036854775807) : Ms (w.alloc (.cells C e fz)) (some ⟨w.heap.size, 0, none⟩) n L := by
  subst h
  refine ⟨hl, hm, fun i hi => ⟨_, rfl, fun j u hj => ?_⟩⟩
  rw [add_lit]
  have hb : (w.alloc (.cells (L.flatMap mC).toArray e fz)).heap[w.heap.size]? = some (.cells (L.flatMap mC).toArray e fz) := heap_alloc_new w _
  simp only [World.cell?, hb, Nat.zero_add]
  rw [if_neg (by simp), List.getElem?_toArray]
  have hj4 : j < 4 := by
    rcases Nat.lt_or_ge j 4 with h | h
    · exact h
    · rw [List.getElem?_eq_none (by simpa [mC] using h)] at hj; cases hj
  subst hl
  have flat : ∀ (L : List M) (i : Nat) (hi : i < L.length), (L.flatMap mC)[i * 4 + j]? = (mC L[i])[j]? := by
    intro L
    induction L with
    | nil => intro i hi; simp at hi
    | cons m L ih =>
      intro i hi
      rw [List.flatMap_cons]
      cases i with
      | zero =>
        rw [List.getElem?_append_left (by simp [mC]; omega), Nat.zero_mul, Nat.zero_add]
        rfl
      | succ i =>
        have hml : (mC m).length = 4 := rfl
        rw [List.getElem?_append_right (by omega), hml, show (i + 1) * 4 + j - 4 = i * 4 + j by omega]
        exact ih i (by simpa using hi)
  rw [flat L i hi]
  exact hj
theorem Ms.litg (w : World) (g : Nat) (hg : g = w.heap.size) (C : Array Value) (e : TypeId) (fz : Nat × Nat) (n : Nat) (L : List M) (h : C = (L.flatMap mC).toArray) (hl : L.length = n) (hm : n ≤ 9223372036854775807) : Ms (w.alloc (.cells C e fz)) (some ⟨g, 0, none⟩) n L := by
  subst hg
  exact Ms.lit w C e fz n L h hl hm
end
end Go.Proofs.YteepkanbiefpjaaGreatDoor.MgRow
set_option linter.unusedVariables false
set_option linter.unusedSimpArgs false
namespace Go.Proofs.YteepkanbiefpjaaGreatDoor.Vw
open Go.RowKit K Rg MgRow
def startA (l : List UInt8) (n : Nat) (back : Int) : Nat := (mx ((l.length - n : Nat) : Int) ((l.length : Int) - mx back 0)).toNat
def startN (l : List UInt8) (n : Nat) (back : Int) (line : Bool) : Nat := if line then lineOf l (l.length - n) (startA l n back : Int) else startA l n back
theorem startA_le (l : List UInt8) (n : Nat) (back : Int) : l.length - n ≤ startA l n back ∧ startA l n back ≤ l.length ∧ mx ((l.length - n : Nat) : Int) ((l.length : Int) - mx back 0) = (startA l n back : Int) := by
  have h1 : 0 ≤ mx back 0 := by unfold mx; split <;> omega
  generalize hm : mx back 0 = m at h1
  unfold startA
  rw [hm]
  unfold mx
  split <;> omega
section
variable {w : World} {q g n v : Nat} {l : List UInt8}
set_option maxHeartbeats 400000 in
theorem start_calls (h : Ring w q g n l) (back : Int) (hb : -9223372036854775808 ≤ back ∧ back ≤ 9223372036854775807) (line : Bool) :
    Calls Tryz.prog 122 #[.pointer (some ⟨q, 0, none⟩), .int .i64 back, .bool line] w fun e w' => e = .returned (.int .i64 (startN l n back line : Int)) ∧ Upd (fun _ => False) w w' := by
  obtain ⟨h1, h2, h3⟩ := startA_le l n back
  have hfew := h.few
  have HR := Asd.mk h
  have hm : 0 ≤ mx back 0 ∧ mx back 0 ≤ 9223372036854775807 := by unfold mx; split <;> omega
  obtain ⟨m, hmm⟩ : ∃ m, m = mx back 0 := ⟨_, rfl⟩
  rw [← hmm] at h3 hm
  obtain ⟨r, hr⟩ : ∃ r, r = startN l n back line := ⟨_, rfl⟩
  rw [← hr]
  obtain ⟨a, ha⟩ : ∃ a, a = startA l n back := ⟨_, rfl⟩
  rw [← ha] at h1 h2 h3
  have HRR : Asd (r = if line then lineOf l (l.length - n) (a : Int) else a) := ⟨by rw [hr, ha]; rfl⟩
  have HM := Asd.mk hmm
  have H3 := Asd.mk h3
  obtain ⟨base, hbase⟩ : ∃ base, base = l.length - n := ⟨_, rfl⟩
  rw [← hbase] at h1
  have HB := Asd.mk hbase
  clear h hr ha hmm h3 hbase
  go_enter Tryz.func122, Tryz.ntmps122
  go_wp2_with fail
  refine (base_calls HR.out).mono ?_
  rw [← HB.out]
  rintro e w1 ⟨rfl, rfl⟩
  go_wp2_with fail
  refine (end_calls HR.out).mono ?_
  rintro e w1 ⟨rfl, rfl⟩
  have hm2 := HM.out.symm
  have h32 := H3.out
  rw [← HB.out] at h32
  clear hb
  cases line with
  | false =>
    have HF : Asd (r = a) := ⟨by rw [HRR.out]; rfl⟩
    go_wp2
    go_ret
    exact ⟨by rw [HF.out]; rfl, Upd.refl _ _⟩
  | true =>
    have HF : Asd (r = lineOf l (l.length - n) (a : Int)) := ⟨by rw [HRR.out]; rfl⟩
    go_wp2_with fail
    refine (line_calls HR.out (a : Int)).mono ?_
    rw [← HF.out]
    rintro e w2 ⟨rfl, hu⟩
    go_wp2
    go_ret
    exact ⟨rfl, hu⟩
end
def V (w : World) (v at_ st : Nat) : Prop := w.heap[v]? = some (.cells #[.int .i64 (at_ : Int), .int .i64 (st : Int)] 169 (0, 0))
def NewPost (at_ : Nat) (w : World) (e : Ending) (w' : World) : Prop := ∃ v, e = .returned (.pointer (some ⟨v, 0, none⟩)) ∧ V w' v at_ 0 ∧ Upd (fun _ => False) w w' ∧ w.heap.size ≤ v
section
variable {w : World} {q g n v at_ st : Nat} {l : List UInt8}
theorem V.up {w1 : World} {S : Nat → Prop} (h : V w v at_ st) (k : Upd S w w1) (hn : ¬ S v) : V w1 v at_ st := k.blk h hn
set_option maxHeartbeats 400000 in
theorem new_calls (h : Ring w q g n l) (back : Int) (hb : -9223372036854775808 ≤ back ∧ back ≤ 9223372036854775807) (line : Bool) :
    Calls Tryz.prog 98 #[.pointer (some ⟨q, 0, none⟩), .int .i64 back, .bool line] w (NewPost (startN l n back line) w) := by
  go_enter Tryz.func98, Tryz.ntmps98
  go_wp2_with fail
  refine (start_calls h back hb line).mono ?_
  rintro e w1 ⟨rfl, hu⟩
  have HU := Asd.mk hu
  clear hu h hb
  go_wp2
  go_ret
  exact ⟨w1.heap.size, rfl, heap_alloc_new w1 _, HU.out.alloc _, HU.out.size⟩
set_option maxHeartbeats 400000 in
theorem at_calls (h : V w v at_ st) : Calls Tryz.prog 77 #[.pointer (some ⟨v, 0, none⟩)] w fun e w' => e = .returned (.int .i64 (at_ : Int)) ∧ w = w' := by
  have c0 := keepsC (o := 0) (v := .int .i64 (at_ : Int)) h rfl
  clear h
  go_enter Tryz.func77, Tryz.ntmps77
  go_wp2
  go_ret
  exact ⟨rfl, rfl⟩
end
end Go.Proofs.YteepkanbiefpjaaGreatDoor.Vw
set_option linter.unusedVariables false
set_option linter.unusedSimpArgs false
namespace Go.Proofs.YteepkanbiefpjaaGreatDoor.Vw
open Go.RowKit K Rg MgRow Mg MgTwo
def roomOf (room most : Int) : Int := mn (mn most (mx room 0 - 11)) 2042
structure Nx where
  m : M
  ok : Bool
  at_ : Nat
  st : Nat
def next (l : List UInt8) (n at_ st : Nat) (room most strikes : Int) : Nx :=
  if at_ < l.length - n then
    if strikes ≤ (st : Int) ∨ room < 17 then ⟨⟨12, 0, 0, []⟩, true, at_, st⟩ else ⟨⟨7, (at_ : Int), ((l.length - n : Nat) : Int), []⟩, true, l.length - n, st + 1⟩
  else if (l.drop at_).take (roomOf room most).toNat = [] then ⟨⟨0, 0, 0, []⟩, false, at_, st⟩
  else ⟨⟨6, (at_ : Int), 0, (l.drop at_).take (roomOf room most).toNat⟩, true, at_ + ((l.drop at_).take (roomOf room most).toNat).length, st⟩
def msgV (m : M) : Value := .agg #[.int .i64 m.k, .int .i64 m.a, .int .i64 m.b, .string (S m.t)]
def NextPost (v : Nat) (r : Nx) (w : World) (e : Ending) (w' : World) : Prop := e = .returned (.tuple #[msgV r.m, .bool r.ok]) ∧ V w' v r.at_ r.st ∧ Upd (fun i => i = v) w w'
section
variable {w : World} {q g n v at_ st : Nat} {l : List UInt8}
set_option maxHeartbeats 2000000 in
set_option maxRecDepth 100000 in
theorem next_calls (h : Ring w q g n l) (hv : V w v at_ st) (hne : ¬ Its q g v) (hat : at_ ≤ l.length) (hst : st ≤ 1000000000) (room most strikes : Int) (hr : -1000000000 ≤ room ∧ room ≤ 1000000000) (hm : -9223372036854775808 ≤ most ∧ most ≤ 9223372036854775807) :
    Calls Tryz.prog 107 #[.pointer (some ⟨v, 0, none⟩), .pointer (some ⟨q, 0, none⟩), .int .i64 room, .int .i64 most, .int .i64 strikes] w (NextPost v (next l n at_ st room most strikes) w) := by
  obtain ⟨r, hrr⟩ : ∃ r, r = next l n at_ st room most strikes := ⟨_, rfl⟩
  rw [← hrr]
  have HRR := Asd.mk hrr
  have HR := Asd.mk h
  have HV := Asd.mk hv
  have hfew := h.few
  have c0 := keepsC (o := 0) (v := .int .i64 (at_ : Int)) hv rfl
  have c1 := keepsC (o := 1) (v := .int .i64 (st : Int)) hv rfl
  have f0 := keepsF (o := 0) hv
  have f1 := keepsF (o := 1) hv
  obtain ⟨base, hbase⟩ : ∃ base, base = l.length - n := ⟨_, rfl⟩
  have HB := Asd.mk hbase
  have HQ := Asd.mk (Bare.lt h)
  have hvs : v < w.heap.size := blk_lt hv
  have hvn : v ≠ w.heap.size := by omega
  have hvn1 : v ≠ w.heap.size + 1 := by omega
  have hvn2 : w.heap.size ≠ v := by omega
  have hvn3 : w.heap.size + 1 ≠ v := by omega
  have HU2 : Upd (fun _ => False) w w := Upd.refl _ _
  clear hrr h hv hbase
  go_enter Tryz.func107, Tryz.ntmps107
  go_wp2
  refine wp_region_held_drew (S := fun W => Upd (fun _ => False) w W) (by kernel_rfl) (by exact (by repeat (first | assumption | with_reducible exact Upd.refl _ _ | with_reducible refine Upd.drewN ?_ _ | with_reducible refine Upd.drew ?_ | with_reducible refine Upd.alloc ?_ _ | with_reducible refine Upd.setAt ?_ ?_ | exact Or.inl rfl | exact Or.inr (by simp) | exact Or.inr (by omega)))) (fun hHeld => ?_)
  refine tk_ 0 ?_
  try simp only [Act.put, sl1_, sl2_, sl3_]
  refine tk_ 1 ?_
  try simp only [Act.put, sl1_, sl2_, sl3_]
  refine tk_ 2 ?_
  try simp only [Act.put, sl1_, sl2_, sl3_]
  refine tk_ 3 ?_
  try simp only [Act.put, sl1_, sl2_, sl3_]
  refine tk_ 4 ?_
  try simp only [Act.put, sl1_, sl2_, sl3_]
  refine wpAnyH_ready (rs := [5]) (by kernel_rfl) (by simp) (AllReadyH.cons (o := ?_) ?_ (fun K hK => ?_) AllReadyH.nil)
  rotate_left 1
  · (simp only [List.getElem?_toArray, List.getElem?_cons_succ, List.getElem?_cons_zero]; exact rfl)
  (go_simp; (go_at_call 136; refine (base_calls (HR.out.up (by repeat (first | assumption | with_reducible exact Upd.refl _ _ | with_reducible refine Upd.drewN ?_ _ | with_reducible refine Upd.drew ?_ | with_reducible refine Upd.alloc ?_ _ | with_reducible refine Upd.setAt ?_ ?_ | exact Or.inl rfl | exact Or.inr (by simp) | exact Or.inr (by omega))))).mono ?_; rw [← HB.out]; rintro e wn ⟨rfl, rfl⟩))
  refine hK.out _ _ (by exact (by repeat (first | assumption | with_reducible exact Upd.refl _ _ | with_reducible refine Upd.drewN ?_ _ | with_reducible refine Upd.drew ?_ | with_reducible refine Upd.alloc ?_ _ | with_reducible refine Upd.setAt ?_ ?_ | exact Or.inl rfl | exact Or.inr (by simp) | exact Or.inr (by omega)))) (fun hHeld => ?_)
  clear hK K
  try simp only [Act.put, List.setIfInBounds_toArray, List.set_cons_zero, List.set_cons_succ]
  refine tk_ 6 ?_
  try simp only [Act.put, sl1_, sl2_, sl3_]
  refine tk_ 7 ?_
  try simp only [Act.put, sl1_, sl2_, sl3_]
  refine wpAnyH_done (by kernel_rfl) ?_ _
  generalize hwz : World.drew _ = wz
  have h10 : wz.heap[w.heap.size]? = some (.cells #[.int .i64 0, .int .i64 0, .int .i64 0, .string { data := #[] }] 36 (0, 0)) := by rw [← hwz]; exact blk_past (blk_new rfl)
  have h12 : wz.heap[w.heap.size + 1]? = some (.cells #[.int .i64 0, .int .i64 0, .int .i64 0, .string { data := #[] }] 36 (0, 0)) := by rw [← hwz]; exact blk_new (by simp)
  have hsz : wz.heap.size = w.heap.size + 2 := by rw [← hwz]; simp
  have HUz : Upd (fun _ => False) w wz := by rw [← hwz]; exact (by repeat (first | assumption | with_reducible exact Upd.refl _ _ | with_reducible refine Upd.drewN ?_ _ | with_reducible refine Upd.drew ?_ | with_reducible refine Upd.alloc ?_ _ | with_reducible refine Upd.setAt ?_ ?_ | exact Or.inl rfl | exact Or.inr (by simp) | exact Or.inr (by omega)))
  have H10 := Asd.mk h10
  have H12 := Asd.mk h12
  have HSZ := Asd.mk hsz
  have hv3 := HUz.blk HV.out (fun h => h)
  have HVz := Asd.mk hv3
  clear hwz hHeld HU2 c0 c1 f0 f1 hsz
  (try clear hHeld)
  have HRz := Asd.mk (HR.out.up HUz)
  by_cases hgap : at_ < base
  · have hn17 : (nums 7 : Nat) = 2 := by decide
    have HN17 := Asd.mk hn17
    clear hn17
    have d0 := keepsCS (S := fun i => i = w.heap.size + 1) (o := 0) (v := .int .i64 (at_ : Int)) hv3 hvn1 rfl
    have z0 := keepsC (o := 0) h12 rfl
    have z1 := keepsC (o := 1) h12 rfl
    have z2 := keepsC (o := 2) h12 rfl
    have z3 := keepsC (o := 3) h12 rfl
    have y0 := fun o => keepsF (o := o) h12
    have HUn : Upd (fun i => i = w.heap.size + 1) wz wz := Upd.refl _ _
    clear h10 h12 hv3
    go_wp2_with fail
    refine wp_region_held_drew (S := fun W => Upd (fun i => i = w.heap.size + 1) wz W) (by kernel_rfl) (by exact (by repeat (first | assumption | with_reducible exact Upd.refl _ _ | with_reducible refine Upd.drewN ?_ _ | with_reducible refine Upd.drew ?_ | with_reducible refine Upd.alloc ?_ _ | with_reducible refine Upd.setAt ?_ ?_ | exact Or.inl rfl | exact Or.inr (by simp) | exact Or.inr (by omega)))) (fun hHeld => ?_)
    refine tk_ 0 ?_
    try simp only [Act.put, sl1_, sl2_, sl3_]
    refine tk_ 1 ?_
    try simp only [Act.put, sl1_, sl2_, sl3_]
    refine tk_ 2 ?_
    try simp only [Act.put, sl1_, sl2_, sl3_]
    refine tk_ 3 ?_
    try simp only [Act.put, sl1_, sl2_, sl3_]
    refine tk_ 4 ?_
    try simp only [Act.put, sl1_, sl2_, sl3_]
    refine wpAnyH_ready (rs := [5]) (by kernel_rfl) (by simp) (AllReadyH.cons (o := ?_) ?_ (fun K hK => ?_) AllReadyH.nil)
    rotate_left 1
    · (simp only [List.getElem?_toArray, List.getElem?_cons_succ, List.getElem?_cons_zero]; exact rfl)
    (go_simp; (go_at_call 136; refine (base_calls (HRz.out.up (by repeat (first | assumption | with_reducible exact Upd.refl _ _ | with_reducible refine Upd.drewN ?_ _ | with_reducible refine Upd.drew ?_ | with_reducible refine Upd.alloc ?_ _ | with_reducible refine Upd.setAt ?_ ?_ | exact Or.inl rfl | exact Or.inr (by simp) | exact Or.inr (by omega))))).mono ?_; rw [← HB.out]; rintro e wn ⟨rfl, rfl⟩))
    refine hK.out _ _ (by exact (by repeat (first | assumption | with_reducible exact Upd.refl _ _ | with_reducible refine Upd.drewN ?_ _ | with_reducible refine Upd.drew ?_ | with_reducible refine Upd.alloc ?_ _ | with_reducible refine Upd.setAt ?_ ?_ | exact Or.inl rfl | exact Or.inr (by simp) | exact Or.inr (by omega)))) (fun hHeld => ?_)
    clear hK K
    try simp only [Act.put, List.setIfInBounds_toArray, List.set_cons_zero, List.set_cons_succ]
    refine tk_ 6 ?_
    try simp only [Act.put, sl1_, sl2_, sl3_]
    refine wpAnyH_ready (rs := [7]) (by kernel_rfl) (by simp) (AllReadyH.cons (o := ?_) ?_ (fun K hK => ?_) AllReadyH.nil)
    rotate_left 1
    · (simp only [List.getElem?_toArray, List.getElem?_cons_succ, List.getElem?_cons_zero]; exact rfl)
    go_simp
    refine hK.out _ _ (by exact (by repeat (first | assumption | with_reducible exact Upd.refl _ _ | with_reducible refine Upd.drewN ?_ _ | with_reducible refine Upd.drew ?_ | with_reducible refine Upd.alloc ?_ _ | with_reducible refine Upd.setAt ?_ ?_ | exact Or.inl rfl | exact Or.inr (by simp) | exact Or.inr (by omega)))) (fun hHeld => ?_)
    clear hK K
    try simp only [Act.put, List.setIfInBounds_toArray, List.set_cons_zero, List.set_cons_succ]
    refine wpAnyH_done (by kernel_rfl) ?_ _
    generalize hw4 : World.drew _ = w4
    have h12 : w4.heap[w.heap.size + 1]? = some (.cells #[.int .i64 7, .int .i64 (at_ : Int), .int .i64 (base : Int), .string { data := #[] }] 36 (0, 0)) := by rw [← hw4]; exact (MgOf.four H12.out).2.2.2.2 _ _ _ _
    have hu4 : Upd (fun i => i = w.heap.size + 1) wz w4 := by rw [← hw4]; exact (by repeat (first | assumption | with_reducible exact Upd.refl _ _ | with_reducible refine Upd.drewN ?_ _ | with_reducible refine Upd.drew ?_ | with_reducible refine Upd.alloc ?_ _ | with_reducible refine Upd.setAt ?_ ?_ | exact Or.inl rfl | exact Or.inr (by simp) | exact Or.inr (by omega)))
    have h10 := hu4.blk H10.out (by omega)
    have HUv : Upd (fun _ => False) w w4 := HUz.trans hu4 (fun i h e => by omega)
    clear d0 z0 z1 z2 z3 y0 HUn H10 H12 HUz hw4 hu4 hHeld
    (try clear hHeld)
    (try clear hHeld)
    have HV4 := Asd.mk (HUv.blk HV.out (fun h => h))
    have v1 := keepsC (o := 1) (v := .int .i64 (st : Int)) HV4.out rfl
    have H10 := Asd.mk h10
    have H12 := Asd.mk h12
    have z0 := keepsC (o := 0) h12 rfl
    have z1 := keepsC (o := 1) h12 rfl
    have z2 := keepsC (o := 2) h12 rfl
    have z3 := keepsC (o := 3) h12 rfl
    have y0 := keepsC (o := 0) h10 rfl
    have y1 := keepsC (o := 1) h10 rfl
    have y2 := keepsC (o := 2) h10 rfl
    have y3 := keepsC (o := 3) h10 rfl
    have yf := fun o => keepsF (o := o) h10
    clear h12 h10
    by_cases hs : strikes ≤ (st : Int)
    · have HF : Asd (r = ⟨⟨12, 0, 0, []⟩, true, at_, st⟩) := ⟨by rw [HRR.out, next, if_pos (by rw [← HB.out]; exact hgap), if_pos (.inl hs)]⟩
      go_wp2
      have q := (MgOf.four H10.out).2.2.2.2 (.int .i64 12) (.int .i64 0) (.int .i64 0) (.string { data := #[] })
      refine bodyPost_ret (v := .tuple #[.agg #[.int .i64 12, .int .i64 0, .int .i64 0, .string { data := #[] }], .bool true]) (by simp [results, Tryz.results107, go_sem, World.cell?, q]) rfl ?_
      rw [HF.out]
      exact ⟨rfl, Upd.blk (S := fun i => i = w.heap.size) (by repeat (first | assumption | with_reducible exact Upd.refl _ _ | with_reducible refine Upd.drewN ?_ _ | with_reducible refine Upd.drew ?_ | with_reducible refine Upd.alloc ?_ _ | with_reducible refine Upd.setAt ?_ ?_ | exact Or.inl rfl | exact Or.inr (by simp) | exact Or.inr (by omega))) HV4.out hvn, (show Upd (fun _ => False) w _ from (by repeat (first | assumption | with_reducible exact Upd.refl _ _ | with_reducible refine Upd.drewN ?_ _ | with_reducible refine Upd.drew ?_ | with_reducible refine Upd.alloc ?_ _ | with_reducible refine Upd.setAt ?_ ?_ | exact Or.inl rfl | exact Or.inr (by simp) | exact Or.inr (by omega)))).mono (fun _ _ h => h.elim)⟩
    have hs2 : ¬ (strikes ≤ (st : Int)) := hs
    have hSz : ({ data := #[] } : ByteArray) = S [] := rfl
    have HSz := Asd.mk hSz
    clear hSz
    go_wp2_with fail
    rw [HSz.out]
    refine (size_calls 7 (at_ : Int) (base : Int) [] _ (by simp)).mono ?_
    rw [HN17.out]
    rintro e w5 ⟨rfl, hu⟩
    have h10 := hu.blk H10.out (fun h => h)
    have h12 := hu.blk H12.out (fun h => h)
    have hv5 := hu.blk HV4.out (fun h => h)
    have HUw : Upd (fun _ => False) w w5 := HUv.trans hu (fun _ _ h => h)
    clear hu z0 z1 z2 z3 y0 y1 y2 y3 yf H10 H12 HV4 HUv v1
    have d0 := keepsC (o := 0) (v := .int .i64 (at_ : Int)) hv5 rfl
    have d1 := keepsC (o := 1) (v := .int .i64 (st : Int)) hv5 rfl
    have d2 := fun o => keepsF (o := o) hv5
    have z0 := keepsC (o := 0) h12 rfl
    have z1 := keepsC (o := 1) h12 rfl
    have z2 := keepsC (o := 2) h12 rfl
    have z3 := keepsC (o := 3) h12 rfl
    have y0 := keepsC (o := 0) h10 rfl
    have y1 := keepsC (o := 1) h10 rfl
    have y2 := keepsC (o := 2) h10 rfl
    have y3 := keepsC (o := 3) h10 rfl
    have yf := fun o => keepsF (o := o) h10
    have H10 := Asd.mk h10
    have HV5 := Asd.mk hv5
    clear h10 h12 hv5
    have hx17 : ((5 + 6 * 2 + ([] : List UInt8).length : Nat) : Int) = 17 := rfl
    rw [hx17]
    clear hx17
    by_cases hr17 : room < 17
    · have HF : Asd (r = ⟨⟨12, 0, 0, []⟩, true, at_, st⟩) := ⟨by rw [HRR.out, next, if_pos (by rw [← HB.out]; exact hgap), if_pos (.inr hr17)]⟩
      go_wp2
      have q := (MgOf.four H10.out).2.2.2.2 (.int .i64 12) (.int .i64 0) (.int .i64 0) (.string { data := #[] })
      refine bodyPost_ret (v := .tuple #[.agg #[.int .i64 12, .int .i64 0, .int .i64 0, .string { data := #[] }], .bool true]) (by simp [results, Tryz.results107, go_sem, World.cell?, q]) rfl ?_
      rw [HF.out]
      exact ⟨rfl, Upd.blk (S := fun i => i = w.heap.size) (by repeat (first | assumption | with_reducible exact Upd.refl _ _ | with_reducible refine Upd.drewN ?_ _ | with_reducible refine Upd.drew ?_ | with_reducible refine Upd.alloc ?_ _ | with_reducible refine Upd.setAt ?_ ?_ | exact Or.inl rfl | exact Or.inr (by simp) | exact Or.inr (by omega))) HV5.out hvn, (show Upd (fun _ => False) w _ from (by repeat (first | assumption | with_reducible exact Upd.refl _ _ | with_reducible refine Upd.drewN ?_ _ | with_reducible refine Upd.drew ?_ | with_reducible refine Upd.alloc ?_ _ | with_reducible refine Upd.setAt ?_ ?_ | exact Or.inl rfl | exact Or.inr (by simp) | exact Or.inr (by omega)))).mono (fun _ _ h => h.elim)⟩
    · have HF : Asd (r = ⟨⟨7, (at_ : Int), (base : Int), []⟩, true, base, st + 1⟩) := ⟨by rw [HRR.out, next, if_pos (by rw [← HB.out]; exact hgap), if_neg (by omega), ← HB.out]⟩
      go_wp2
      have b0 := blk_setCell (o := 1) (blk_setCell (o := 0) HV5.out (.int .i64 (base : Int))) (.int .i64 ((st : Int) + 1))
      have b1 : ((w5.setCell ⟨v, 0, none⟩ (.int .i64 (base : Int))).setCell ⟨v, 1, none⟩ (.int .i64 ((st : Int) + 1))).heap[v]? = some (.cells #[.int .i64 (base : Int), .int .i64 ((st + 1 : Nat) : Int)] 169 (0, 0)) := by rw [b0, Int.natCast_add]; rfl
      have hu5 : Upd (fun i => i = v) w5 ((w5.setCell ⟨v, 0, none⟩ (.int .i64 (base : Int))).setCell ⟨v, 1, none⟩ (.int .i64 ((st : Int) + 1))) := (by repeat (first | assumption | with_reducible exact Upd.refl _ _ | with_reducible refine Upd.drewN ?_ _ | with_reducible refine Upd.drew ?_ | with_reducible refine Upd.alloc ?_ _ | with_reducible refine Upd.setAt ?_ ?_ | exact Or.inl rfl | exact Or.inr (by simp) | exact Or.inr (by omega)))
      have hb := hu5.blk H10.out (by omega)
      have q := (MgOf.four hb).2.2.2.2 (.int .i64 7) (.int .i64 (at_ : Int)) (.int .i64 (base : Int)) (.string { data := #[] })
      have hw5 : Upd (fun i => i = v) w w5 := HUw.mono (fun _ _ h => h.elim)
      clear hu5
      refine bodyPost_ret (v := .tuple #[.agg #[.int .i64 7, .int .i64 (at_ : Int), .int .i64 (base : Int), .string { data := #[] }], .bool true]) (by simp [results, Tryz.results107, go_sem, World.cell?, q]) rfl ?_
      rw [HF.out]
      refine ⟨rfl, ?_, (by repeat (first | assumption | with_reducible exact Upd.refl _ _ | with_reducible refine Upd.drewN ?_ _ | with_reducible refine Upd.drew ?_ | with_reducible refine Upd.alloc ?_ _ | with_reducible refine Upd.setAt ?_ ?_ | exact Or.inl rfl | exact Or.inr (by simp) | exact Or.inr (by omega)))⟩
      show V _ v base (st + 1)
      exact Upd.blk (S := fun i => i = w.heap.size) (by repeat (first | assumption | with_reducible exact Upd.refl _ _ | with_reducible refine Upd.drewN ?_ _ | with_reducible refine Upd.drew ?_ | with_reducible refine Upd.alloc ?_ _ | with_reducible refine Upd.setAt ?_ ?_ | exact Or.inl rfl | exact Or.inr (by simp) | exact Or.inr (by omega))) b1 hvn
  · obtain ⟨k, hk⟩ : ∃ k, k = roomOf room most := ⟨_, rfl⟩
    obtain ⟨m0, hm0⟩ : ∃ m0, m0 = mx room 0 := ⟨_, rfl⟩
    have hm1 : 0 ≤ m0 ∧ m0 ≤ 1000000000 := by rw [hm0]; unfold mx; split <;> omega
    have e0 : mx room 0 = m0 := hm0.symm
    have e1 : mn (mn most (m0 - 5 - 6)) 2042 = k := by rw [hk, roomOf, hm0, show mx room 0 - 5 - 6 = mx room 0 - 11 by omega]
    have hk1 : k ≤ 2042 ∧ -9223372036854775808 ≤ k := by rw [← e1]; unfold mn; split <;> split <;> omega
    have HKK := Asd.mk hk
    clear hk hm0
    have d00 := keepsC (o := 0) (v := .int .i64 (at_ : Int)) hv3 rfl
    clear h10 h12 hv3
    go_wp2_with fail
    refine (read_calls (HRz.out.up (by repeat (first | assumption | with_reducible exact Upd.refl _ _ | with_reducible refine Upd.drewN ?_ _ | with_reducible refine Upd.drew ?_ | with_reducible refine Upd.alloc ?_ _ | with_reducible refine Upd.setAt ?_ ?_ | exact Or.inl rfl | exact Or.inr (by simp) | exact Or.inr (by omega)))) (at_ : Int) k (by omega)).mono ?_
    rintro e w3 ⟨hu3, _, hrd⟩
    obtain ⟨A3, c3, G3, rfl, ho3, hg3⟩ := hrd (by have := HB.out; omega) (by omega)
    have h10 := hu3.blk H10.out (fun h => h)
    have h12 := hu3.blk H12.out (fun h => h)
    have hg3b : ∀ g, G3 = some g → w.heap.size + 2 ≤ g := fun g e => by have := hg3 g e; have := HSZ.out; simp at *; omega
    have hl : ((l.drop (at_ : Int).toNat).take k.toNat).length ≤ 2042 := by rw [List.length_take]; omega
    have hl2 : at_ + ((l.drop (at_ : Int).toNat).take k.toNat).length ≤ l.length := by rw [List.length_take, List.length_drop]; simp only [Int.toNat_natCast]; omega
    obtain ⟨bs, hbs⟩ : ∃ bs, bs = (l.drop (at_ : Int).toNat).take k.toNat := ⟨_, rfl⟩
    rw [← hbs] at ho3 hl hl2
    rw [← hbs]
    have HU3 : Upd (fun _ => False) w w3 := Upd.trans HUz (Upd.trans (by repeat (first | assumption | with_reducible exact Upd.refl _ _ | with_reducible refine Upd.drewN ?_ _ | with_reducible refine Upd.drew ?_ | with_reducible refine Upd.alloc ?_ _ | with_reducible refine Upd.setAt ?_ ?_ | exact Or.inl rfl | exact Or.inr (by simp) | exact Or.inr (by omega))) hu3 (fun _ _ h => h)) (fun _ _ h => h)
    have HBS : Asd (bs = (l.drop at_).take (roomOf room most).toNat) := ⟨by rw [hbs, HKK.out, Int.toNat_natCast]⟩
    have H10 := Asd.mk h10
    have H12 := Asd.mk h12
    clear d00
    have hv3 := HU3.blk HV.out (fun h => h)
    have HV3 := Asd.mk hv3
    have d0 := keepsCS (S := fun i => i = w.heap.size + 1) (o := 0) (v := .int .i64 (at_ : Int)) hv3 hvn1 rfl
    have z0 := keepsC (o := 0) h12 rfl
    have z1 := keepsC (o := 1) h12 rfl
    have z2 := keepsC (o := 2) h12 rfl
    have z3 := keepsC (o := 3) h12 rfl
    have y0 := fun o => keepsF (o := o) h12
    have hs : ∀ W, Upd (fun i => i = w.heap.size + 1) w3 W → (convert 31 9 (.slice A3 bs.length c3)).run Tryz.prog W = .ok (.string (S bs)) W := fun W k => run_str Tryz.underlying31 Tryz.underlying5 Tryz.underlying9 (ho3.upd k (fun g e h => by have := hg3b g e; omega)).rd
    clear hu3 hrd ho3 hg3 hbs h10 h12 hv3
    have HUn : Upd (fun i => i = w.heap.size + 1) w3 w3 := Upd.refl _ _
    go_wp2_with fail
    refine wp_region_held_drew (S := fun W => Upd (fun i => i = w.heap.size + 1) w3 W) (by kernel_rfl) (by exact (by repeat (first | assumption | with_reducible exact Upd.refl _ _ | with_reducible refine Upd.drewN ?_ _ | with_reducible refine Upd.drew ?_ | with_reducible refine Upd.alloc ?_ _ | with_reducible refine Upd.setAt ?_ ?_ | exact Or.inl rfl | exact Or.inr (by simp) | exact Or.inr (by omega)))) (fun hHeld => ?_)
    refine tk_ 0 ?_
    try simp only [Act.put, sl1_, sl2_, sl3_]
    refine tk_ 1 ?_
    try simp only [Act.put, sl1_, sl2_, sl3_]
    refine tk_ 2 ?_
    try simp only [Act.put, sl1_, sl2_, sl3_]
    refine tk_ 3 ?_
    try simp only [Act.put, sl1_, sl2_, sl3_]
    refine tk_ 4 ?_
    try simp only [Act.put, sl1_, sl2_, sl3_]
    refine tk_ 5 ?_
    try simp only [Act.put, sl1_, sl2_, sl3_]
    refine tk_ 6 ?_
    try simp only [Act.put, sl1_, sl2_, sl3_]
    refine wpAnyH_ready (rs := [7]) (by kernel_rfl) (by simp) (AllReadyH.cons (o := ?_) ?_ (fun K hK => ?_) AllReadyH.nil)
    rotate_left 1
    · (simp only [List.getElem?_toArray, List.getElem?_cons_succ, List.getElem?_cons_zero]; exact rfl)
    go_simp
    refine hK.out _ _ (by exact (by repeat (first | assumption | with_reducible exact Upd.refl _ _ | with_reducible refine Upd.drewN ?_ _ | with_reducible refine Upd.drew ?_ | with_reducible refine Upd.alloc ?_ _ | with_reducible refine Upd.setAt ?_ ?_ | exact Or.inl rfl | exact Or.inr (by simp) | exact Or.inr (by omega)))) (fun hHeld => ?_)
    clear hK K
    try simp only [Act.put, List.setIfInBounds_toArray, List.set_cons_zero, List.set_cons_succ]
    refine wpAnyH_done (by kernel_rfl) ?_ _
    generalize hw4 : World.drew _ = w4
    have h12 : w4.heap[w.heap.size + 1]? = some (.cells #[.int .i64 6, .int .i64 (at_ : Int), .int .i64 0, .string (S bs)] 36 (0, 0)) := by rw [← hw4]; exact (MgOf.four H12.out).2.2.2.2 _ _ _ _
    have hu4 : Upd (fun i => i = w.heap.size + 1) w3 w4 := by rw [← hw4]; exact (by repeat (first | assumption | with_reducible exact Upd.refl _ _ | with_reducible refine Upd.drewN ?_ _ | with_reducible refine Upd.drew ?_ | with_reducible refine Upd.alloc ?_ _ | with_reducible refine Upd.setAt ?_ ?_ | exact Or.inl rfl | exact Or.inr (by simp) | exact Or.inr (by omega)))
    have h10 := hu4.blk H10.out (by omega)
    have hv4 := hu4.blk HV3.out hvn1
    have HUv : Upd (fun i => i = v) w w4 := Upd.trans (HU3.mono (T := fun i => i = v) (fun _ _ h => h.elim)) hu4 (fun i h e => by omega)
    clear d0 z0 z1 z2 z3 y0 hs HUn H10 H12 HV3 HU3 hw4 hu4 hHeld hg3b HUz
    (try clear hHeld)
    (try clear hHeld)
    have d0 := keepsC (o := 0) (v := .int .i64 (at_ : Int)) hv4 rfl
    have d1 := keepsF (o := 0) hv4
    have z0 := keepsC (o := 0) h12 rfl
    have z1 := keepsC (o := 1) h12 rfl
    have z2 := keepsC (o := 2) h12 rfl
    have z3 := keepsC (o := 3) h12 rfl
    have y0 := keepsC (o := 0) h10 rfl
    have y1 := keepsC (o := 1) h10 rfl
    have y2 := keepsC (o := 2) h10 rfl
    have y3 := keepsC (o := 3) h10 rfl
    have yf := fun o => keepsF (o := o) h10
    have H10 := Asd.mk h10
    have HV4 := Asd.mk hv4
    clear h10 h12 hv4
    by_cases hbs : bs = []
    · have HF : Asd (r = ⟨⟨0, 0, 0, []⟩, false, at_, st⟩) := ⟨by rw [HRR.out, next, if_neg (by rw [← HB.out]; exact hgap), ← HBS.out, if_pos hbs]⟩
      subst hbs
      have hl0 : ([] : List UInt8).length = 0 := rfl
      go_wp2
      have q := (MgOf.four H10.out).2.2.2.2 (.int .i64 0) (.int .i64 0) (.int .i64 0) (.string { data := #[] })
      refine bodyPost_ret (v := .tuple #[.agg #[.int .i64 0, .int .i64 0, .int .i64 0, .string { data := #[] }], .bool false]) (by simp [results, Tryz.results107, go_sem, World.cell?, q]) rfl ?_
      rw [HF.out]
      exact ⟨rfl, Upd.blk (S := fun i => i = w.heap.size) (by repeat (first | assumption | with_reducible exact Upd.refl _ _ | with_reducible refine Upd.drewN ?_ _ | with_reducible refine Upd.drew ?_ | with_reducible refine Upd.alloc ?_ _ | with_reducible refine Upd.setAt ?_ ?_ | exact Or.inl rfl | exact Or.inr (by simp) | exact Or.inr (by omega))) HV4.out hvn, (by repeat (first | assumption | with_reducible exact Upd.refl _ _ | with_reducible refine Upd.drewN ?_ _ | with_reducible refine Upd.drew ?_ | with_reducible refine Upd.alloc ?_ _ | with_reducible refine Upd.setAt ?_ ?_ | exact Or.inl rfl | exact Or.inr (by simp) | exact Or.inr (by omega)))⟩
    · have HF : Asd (r = ⟨⟨6, (at_ : Int), 0, bs⟩, true, at_ + bs.length, st⟩) := ⟨by rw [HRR.out, next, if_neg (by rw [← HB.out]; exact hgap), ← HBS.out, if_neg hbs]⟩
      have hl0 : ((bs.length : Int) == 0) = false := beq_eq_false_iff_ne.2 (fun e => hbs (List.eq_nil_of_length_eq_zero (by omega)))
      clear hbs
      go_wp2
      have b0 := blk_setCell (o := 0) HV4.out (.int .i64 ((at_ : Int) + (bs.length : Int)))
      have b1 : (w4.setCell ⟨v, 0, none⟩ (.int .i64 ((at_ : Int) + (bs.length : Int)))).heap[v]? = some (.cells #[.int .i64 ((at_ + bs.length : Nat) : Int), .int .i64 (st : Int)] 169 (0, 0)) := by rw [b0, Int.natCast_add]; rfl
      have hb := Upd.blk (S := fun i => i = v) (w := w4) (w1 := w4.setCell ⟨v, 0, none⟩ (.int .i64 ((at_ : Int) + (bs.length : Int)))) (by repeat (first | assumption | with_reducible exact Upd.refl _ _ | with_reducible refine Upd.drewN ?_ _ | with_reducible refine Upd.drew ?_ | with_reducible refine Upd.alloc ?_ _ | with_reducible refine Upd.setAt ?_ ?_ | exact Or.inl rfl | exact Or.inr (by simp) | exact Or.inr (by omega))) H10.out (by omega)
      have q := (MgOf.four hb).2.2.2.2 (.int .i64 6) (.int .i64 (at_ : Int)) (.int .i64 0) (.string (S bs))
      refine bodyPost_ret (v := .tuple #[.agg #[.int .i64 6, .int .i64 (at_ : Int), .int .i64 0, .string (S bs)], .bool true]) (by simp [results, Tryz.results107, go_sem, World.cell?, q]) rfl ?_
      rw [HF.out]
      refine ⟨rfl, ?_, (by repeat (first | assumption | with_reducible exact Upd.refl _ _ | with_reducible refine Upd.drewN ?_ _ | with_reducible refine Upd.drew ?_ | with_reducible refine Upd.alloc ?_ _ | with_reducible refine Upd.setAt ?_ ?_ | exact Or.inl rfl | exact Or.inr (by simp) | exact Or.inr (by omega)))⟩
      show V _ v (at_ + bs.length) st
      exact Upd.blk (S := fun i => i = w.heap.size) (by repeat (first | assumption | with_reducible exact Upd.refl _ _ | with_reducible refine Upd.drewN ?_ _ | with_reducible refine Upd.drew ?_ | with_reducible refine Upd.alloc ?_ _ | with_reducible refine Upd.setAt ?_ ?_ | exact Or.inl rfl | exact Or.inr (by simp) | exact Or.inr (by omega))) b1 hvn
end
end Go.Proofs.YteepkanbiefpjaaGreatDoor.Vw
set_option linter.unusedVariables false
set_option linter.unusedSimpArgs false
namespace Go.Proofs.YteepkanbiefpjaaGreatDoor.LGet
open Go.RowKit K Crc Sm Fr FrMath
@[go_sem] theorem S_toList (l : List UInt8) : (S l).toList = l := by
  rw [ByteArray.toList_eq]
  simp [S]
def LawPost (r : UInt8 × List UInt8 × Nat × Int) (w : World) (A0 : Option Addr) (e : Ending) (w' : World) : Prop :=
  ∃ A c, e = .returned (.tuple #[.int .u8 (r.1.toNat : Int), .slice A r.2.1.length c, .int .i64 (r.2.2.1 : Int), .int .i64 r.2.2.2]) ∧ Rd w A r.2.1.length r.2.1 ∧ (∀ ad, A = some ad → ∃ ad', A0 = some ad' ∧ ad.block = ad'.block) ∧ r.2.1.length ≤ c ∧ c ≤ maxLen ∧ Upd (fun _ => False) w w'
theorem LawPost.none (r : UInt8 × List UInt8 × Nat × Int) (w w' : World) (A0 : Option Addr) (k : Int) (h : r = (0, [], 0, k)) (hu : Upd (fun _ => False) w w') : LawPost r w A0 (.returned (.tuple #[.int .u8 0, .slice none 0 0, .int .i64 0, .int .i64 k])) w' := by
  subst h
  exact ⟨Option.none, 0, rfl, Rd.nil _ _, fun ad e => (by cases e), Nat.le_refl _, (by simp [maxLen]), hu⟩
theorem hi_lo (a b : UInt8) : UInt8.ofNat ((a.toNat * 256 + b.toNat) / 256) = a ∧ UInt8.ofNat (a.toNat * 256 + b.toNat) = b := by
  have h1 := a.toNat_lt
  have h2 := b.toNat_lt
  constructor
  · apply UInt8.toNat_inj.1
    rw [ofNat_mod]
    omega
  · apply UInt8.toNat_inj.1
    rw [ofNat_mod]
    omega
theorem fb_whole (kind : UInt8) (body l : List UInt8) (m : Nat) (h0 : num2 l 0 = m) (hm : 0 < m) (hm2 : m ≤ 2049) (hl : m + 4 ≤ l.length) (hk : kind = l.getD 2 0) (hb : body = (l.take (m + 2)).drop 3) :
    fbytes kind body = l.take (m + 4) ↔ (crc 0xffff#16 ((l.take (m + 2)).drop 2)).toNat = num2 l (m + 2) := by
  have hbl : body.length + 1 = m := by rw [hb]; simp; omega
  have hd : (l.take (m + 2)).drop 2 = kind :: body := by
    rw [hk, hb]
    have h3 : 2 < (l.take (m + 2)).length := by simp; omega
    rw [List.drop_eq_getElem_cons h3]
    congr 1
    rw [List.getElem_take, List.getD_eq_getElem?_getD, List.getElem?_eq_getElem (by omega)]
    rfl
  have hx : m + 2 < l.length := by omega
  have hy : m + 3 < l.length := by omega
  have e0 : (l.drop (m + 2)).take 2 = [l.getD (m + 2) 0, l.getD (m + 3) 0] := by
    rw [List.drop_eq_getElem_cons hx, List.drop_eq_getElem_cons (show m + 2 + 1 < l.length by omega)]
    simp only [List.getD_eq_getElem?_getD]
    rw [List.getElem?_eq_getElem hx, List.getElem?_eq_getElem hy]
    rfl
  have e1 : l.take (m + 4) = l.take 2 ++ (kind :: body) ++ [l.getD (m + 2) 0, l.getD (m + 3) 0] := by
    rw [show m + 4 = (m + 2) + 2 by omega, List.take_add, e0, ← hd]
    congr 1
    have := List.take_append_drop 2 (l.take (m + 2))
    rw [List.take_take, show min 2 (m + 2) = 2 by omega] at this
    exact this.symm
  have e2 : l.take 2 = [UInt8.ofNat ((body.length + 1) / 256), UInt8.ofNat (body.length + 1)] := by
    have h2 : l.take 2 = [l.getD 0 0, l.getD 1 0] := by
      clear e0 e1 hd h0 hk hb
      match l, hl with
      | a :: b :: r, _ => rfl
    rw [h2, hbl, ← h0]
    unfold num2
    rw [(hi_lo _ _).1, (hi_lo _ _).2]
  have e3 : fbytes kind body = [UInt8.ofNat ((body.length + 1) / 256), UInt8.ofNat (body.length + 1)] ++ (kind :: body) ++ [UInt8.ofNat ((sumOf kind body).toNat / 256), UInt8.ofNat (sumOf kind body).toNat] := by simp [fbytes]
  rw [e1, e2, e3, hd]
  have hs : crc 0xffff#16 (kind :: body) = sumOf kind body := rfl
  rw [hs]
  have hn := num_sum (sumOf kind body)
  have l2 := (l.getD (m + 3) 0).toNat_lt
  have l3 := (UInt8.ofNat (sumOf kind body).toNat).toNat_lt
  constructor
  · intro h
    have h := List.append_cancel_left h
    simp only [List.cons.injEq, and_true] at h
    unfold num2
    rw [show m + 2 + 1 = m + 3 by omega, ← h.1, ← h.2, hn]
  · intro h
    unfold num2 at h
    rw [show m + 2 + 1 = m + 3 by omega, ← hn] at h
    have h1 : UInt8.ofNat ((sumOf kind body).toNat / 256) = l.getD (m + 2) 0 := UInt8.toNat_inj.1 (by omega)
    have h2 : UInt8.ofNat (sumOf kind body).toNat = l.getD (m + 3) 0 := UInt8.toNat_inj.1 (by omega)
    rw [h1, h2]
end Go.Proofs.YteepkanbiefpjaaGreatDoor.LGet
set_option linter.unusedVariables false
set_option linter.unusedSimpArgs false
namespace Go.Proofs.YteepkanbiefpjaaGreatDoor.FdMath
open Go.RowKit K Crc Sm Fr FrMath LGet
theorem num2_app (l m : List UInt8) (i : Nat) (h : i + 1 < l.length) : num2 (l ++ m) i = num2 l i := by
  unfold num2
  rw [getD_app l m i (by omega), getD_app l m (i + 1) h]
theorem fget_more (b c : List UInt8) (h : (fget b).2.2.2 ≠ 5) : fget (b ++ c) = fget b := by
  unfold fget at h ⊢
  by_cases h1 : b.length < 2
  · rw [if_pos h1] at h; exact absurd rfl h
  rw [if_neg h1] at h ⊢
  have hn := num2_app b c 0 (by omega)
  rw [if_neg (by rw [List.length_append]; omega), hn]
  by_cases h2 : num2 b 0 = 0 ∨ 2049 < num2 b 0
  · rw [if_pos h2, if_pos h2]
  rw [if_neg h2] at h ⊢
  rw [if_neg h2]
  by_cases h3 : b.length < num2 b 0 + 4
  · rw [if_pos h3] at h; exact absurd rfl h
  rw [if_neg h3] at h ⊢
  rw [if_neg (by rw [List.length_append]; omega), List.take_append_of_le_length (by omega), num2_app b c _ (by omega), getD_app b c 2 (by omega)]
theorem fget_cases (b : List UInt8) : ((fget b).2.2.2 = 0 ∧ (fget b).2.2.1 = (fget b).2.1.length + 5 ∧ (fget b).2.2.1 ≤ b.length ∧ (fget b).2.1.length ≤ 2048 ∧ b = fbytes (fget b).1 (fget b).2.1 ++ b.drop (fget b).2.2.1) ∨ fget b = (0, [], 0, 5) ∨ fget b = (0, [], 0, 6) ∨ fget b = (0, [], 0, 7) := by
  by_cases h1 : b.length < 2
  · exact .inr (.inl (by unfold fget; rw [if_pos h1]))
  by_cases h2 : num2 b 0 = 0 ∨ 2049 < num2 b 0
  · exact .inr (.inr (.inl (by unfold fget; rw [if_neg h1, if_pos h2])))
  by_cases h3 : b.length < num2 b 0 + 4
  · exact .inr (.inl (by unfold fget; rw [if_neg h1, if_neg h2, if_pos h3]))
  by_cases h4 : (crc 0xffff#16 ((b.take (num2 b 0 + 2)).drop 2)).toNat ≠ num2 b (num2 b 0 + 2)
  · exact .inr (.inr (.inr (by unfold fget; rw [if_neg h1, if_neg h2, if_neg h3, if_pos h4])))
  have hg : fget b = (b.getD 2 0, (b.take (num2 b 0 + 2)).drop 3, num2 b 0 + 4, 0) := by unfold fget; rw [if_neg h1, if_neg h2, if_neg h3, if_neg h4]
  refine .inl ?_
  rw [hg]
  have hl : ((b.take (num2 b 0 + 2)).drop 3).length = num2 b 0 - 1 := by simp; omega
  refine ⟨rfl, by show num2 b 0 + 4 = _; rw [hl]; omega, by show num2 b 0 + 4 ≤ _; omega, by show ((b.take (num2 b 0 + 2)).drop 3).length ≤ _; rw [hl]; omega, ?_⟩
  have := (fb_whole (b.getD 2 0) ((b.take (num2 b 0 + 2)).drop 3) b (num2 b 0) rfl (by omega) (by omega) (by omega) rfl rfl).2 (by omega)
  show b = fbytes (b.getD 2 0) ((b.take (num2 b 0 + 2)).drop 3) ++ b.drop (num2 b 0 + 4)
  rw [this, List.take_append_drop]
def fall : Nat → List UInt8 → List (UInt8 × List UInt8) × List UInt8 × Int
  | 0, b => ([], b, 0)
  | k + 1, b =>
    if (fget b).2.2.2 = 0 then (((fget b).1, (fget b).2.1) :: (fall k (b.drop (fget b).2.2.1)).1, (fall k (b.drop (fget b).2.2.1)).2)
    else if (fget b).2.2.2 = 5 then ([], b, 0) else ([], [], (fget b).2.2.2)
theorem fall_fuel : ∀ (n m : Nat) (b : List UInt8), b.length < n → b.length < m → fall n b = fall m b
  | 0, _, _, h, _ => absurd h (Nat.not_lt_zero _)
  | _, 0, _, _, h => absurd h (Nat.not_lt_zero _)
  | n + 1, m + 1, b, hn, hm => by
    unfold fall
    by_cases h : (fget b).2.2.2 = 0
    · have hl : (b.drop (fget b).2.2.1).length < b.length := by
        rcases fget_cases b with ⟨_, h1, h2, _⟩ | e | e | e
        · rw [List.length_drop]; omega
        · rw [e] at h; simp at h
        · rw [e] at h; simp at h
        · rw [e] at h; simp at h
      rw [fall_fuel n m _ (by omega) (by omega)]
    · rw [if_neg h, if_neg h]
def all (b : List UInt8) : List (UInt8 × List UInt8) × List UInt8 × Int := fall (b.length + 1) b
theorem all_ok (b : List UInt8) (h : (fget b).2.2.2 = 0) : all b = (((fget b).1, (fget b).2.1) :: (all (b.drop (fget b).2.2.1)).1, (all (b.drop (fget b).2.2.1)).2) := by
  unfold all
  rw [fall, if_pos h, fall_fuel b.length ((b.drop (fget b).2.2.1).length + 1)]
  · rcases fget_cases b with ⟨_, h1, h2, _⟩ | e | e | e
    · rw [List.length_drop]; omega
    all_goals rw [e] at h; simp at h
  · omega
theorem all_short (b : List UInt8) (h : (fget b).2.2.2 = 5) : all b = ([], b, 0) := by
  unfold all
  rw [fall, if_neg (by omega), if_pos h]
theorem all_bad (b : List UInt8) (h0 : (fget b).2.2.2 ≠ 0) (h : (fget b).2.2.2 ≠ 5) : all b = ([], [], (fget b).2.2.2) := by
  unfold all
  rw [fall, if_neg h0, if_neg h]
theorem fget_err (b : List UInt8) : (fget b).2.2.2 = 0 ∨ (fget b).2.2.2 = 5 ∨ (fget b).2.2.2 = 6 ∨ (fget b).2.2.2 = 7 := by
  rcases fget_cases b with ⟨h, _⟩ | e | e | e
  · exact .inl h
  · rw [e]; simp
  · rw [e]; simp
  · rw [e]; simp
theorem drop_lt (b : List UInt8) (h : (fget b).2.2.2 = 0) : (b.drop (fget b).2.2.1).length < b.length := by
  rcases fget_cases b with ⟨_, h1, h2, _⟩ | e | e | e
  · rw [List.length_drop]; omega
  all_goals rw [e] at h; simp at h
theorem all_dead : ∀ (b c : List UInt8), (all b).2.2 ≠ 0 → all (b ++ c) = all b := by
  intro b
  induction hn : b.length using Nat.strongRecOn generalizing b with
  | _ n ih =>
    intro c h
    by_cases h0 : (fget b).2.2.2 = 0
    · have hm := fget_more b c (by rw [h0]; decide)
      have hl := drop_lt b h0
      have hle : (fget b).2.2.1 ≤ b.length := by
        rcases fget_cases b with ⟨_, h1, h2, _⟩ | e | e | e
        · exact h2
        all_goals rw [e] at h0; simp at h0
      rw [all_ok b h0] at h ⊢
      rw [all_ok (b ++ c) (by rw [hm]; exact h0), hm, List.drop_append_of_le_length hle, ih _ (by omega) _ rfl c h]
    · by_cases h5 : (fget b).2.2.2 = 5
      · rw [all_short b h5] at h; exact absurd rfl h
      · have hm := fget_more b c h5
        rw [all_bad b h0 h5, all_bad (b ++ c) (by rw [hm]; exact h0) (by rw [hm]; exact h5), hm]
theorem all_len (b : List UInt8) : (all b).1.length + (all b).2.1.length ≤ b.length := by
  induction hn : b.length using Nat.strongRecOn generalizing b with
  | _ n ih =>
    by_cases h0 : (fget b).2.2.2 = 0
    · rw [all_ok b h0]
      have hl := drop_lt b h0
      have := ih (b.drop (fget b).2.2.1).length (by omega) _ rfl
      simp only [List.length_cons]
      omega
    · by_cases h5 : (fget b).2.2.2 = 5
      · rw [all_short b h5]; simp; omega
      · rw [all_bad b h0 h5]; simp
def joined (L : List (UInt8 × List UInt8)) : List UInt8 := L.flatMap fun x => fbytes x.1 x.2
end Go.Proofs.YteepkanbiefpjaaGreatDoor.FdMath
set_option linter.unusedVariables false
set_option linter.unusedSimpArgs false
namespace Go.Proofs.YteepkanbiefpjaaGreatDoor.Or
open Go.RowKit K
def word : Nat → List UInt8
  | 1 => [102, 108, 111, 111, 114]
  | 2 => [100, 114, 111, 112]
  | 3 => [108, 105, 115, 116]
  | 4 => [100, 101, 116, 97, 99, 104]
  | 5 => [114, 101, 118, 111, 107, 101]
  | 6 => [103, 105, 118, 101]
  | 7 => [107, 105, 99, 107]
  | 8 => [119, 114, 105, 116, 101]
  | 9 => [119, 97, 116, 99, 104]
  | 10 => [114, 101, 112, 108, 97, 121]
  | 11 => [108, 105, 109, 105, 116]
  | _ => []
def wcells : Array Value := #[.string (S (word 1)), .string (S (word 2)), .string (S (word 3)), .string (S (word 4)), .string (S (word 5)), .string (S (word 6)), .string (S (word 7)), .string (S (word 8)), .string (S (word 9)), .string (S (word 10)), .string (S (word 11))]
theorem wcells_at (i : Nat) (h : i < 11) : wcells[i]? = some (.string (S (word (i + 1)))) := by
  rcases (by omega : i = 0 ∨ i = 1 ∨ i = 2 ∨ i = 3 ∨ i = 4 ∨ i = 5 ∨ i = 6 ∨ i = 7 ∨ i = 8 ∨ i = 9 ∨ i = 10) with rfl | rfl | rfl | rfl | rfl | rfl | rfl | rfl | rfl | rfl | rfl <;> rfl
def WPost (w : World) (e : Ending) (w' : World) : Prop := ∃ g, e = .returned (.tuple #[.slice (some ⟨g, 0, none⟩) 11 11, .int .i64 6]) ∧ w'.heap[g]? = some (.cells wcells 9 (0, 0)) ∧ w.heap.size ≤ g ∧ Upd (fun _ => False) w w'
set_option maxHeartbeats 1000000 in
theorem words_calls (w : World) : Calls Tryz.prog 59 #[] w (WPost w) := by
  go_enter Tryz.func59, Tryz.ntmps59
  go_wp2
  go_ret2
  exact ⟨w.heap.size, rfl, heap_alloc_new w _, Nat.le_refl _, (Upd.refl _ _).alloc _⟩
def right (k n : Int) : Bool := decide (1 ≤ k) && (decide (k ≤ 11) && (decide (0 ≤ n) && (decide (n ≤ 1099511627776) && (decide (6 ≤ k) || n == 0))))
set_option maxHeartbeats 2000000 in
theorem right_calls (k n : Int) (w : World) : Calls Tryz.prog 60 #[.agg #[.int .i64 k, .int .i64 n]] w fun e w' => e = .returned (.bool (right k n)) ∧ Upd (fun _ => False) w w' := by
  obtain ⟨y, hy⟩ : ∃ y, y = right k n := ⟨_, rfl⟩
  rw [← hy]
  rcases (by omega : k < 1 ∨ (1 ≤ k ∧ 11 < k) ∨ (1 ≤ k ∧ k ≤ 11 ∧ n < 0) ∨ (1 ≤ k ∧ k ≤ 11 ∧ 0 ≤ n ∧ 1099511627776 < n) ∨ (1 ≤ k ∧ k < 6 ∧ 0 < n ∧ n ≤ 1099511627776) ∨ (1 ≤ k ∧ k < 6 ∧ n = 0) ∨ (6 ≤ k ∧ k ≤ 11 ∧ 0 ≤ n ∧ n ≤ 1099511627776)) with h1 | ⟨h1, h2⟩ | ⟨h1, h2, h3⟩ | ⟨h1, h2, h3, h4⟩ | ⟨h1, h2, h3, h4⟩ | ⟨h1, h2, rfl⟩ | ⟨h1, h2, h3, h4⟩
  · have e : y = false := by rw [hy]; unfold right; simp; omega
    subst e
    clear hy
    have n1 : ¬ 1 ≤ k := by omega
    go_enter Tryz.func60, Tryz.ntmps60
    have b0 := keepsC (o := 0) (heap_alloc_new w (.cells #[.int .i64 k, .int .i64 n] 44)) rfl
    have b1 := keepsC (o := 1) (heap_alloc_new w (.cells #[.int .i64 k, .int .i64 n] 44)) rfl
    have hk := (Upd.refl (fun _ => False) w).alloc (.cells #[.int .i64 k, .int .i64 n] 44)
    go_wp2_with fail
    refine (words_calls _).mono ?_
    rintro e w2 ⟨g, rfl, hg, hgs, hu⟩
    go_wp2
    go_ret
    exact ⟨rfl, hk.trans hu (fun _ _ h => h)⟩
  · have e : y = false := by rw [hy]; unfold right; simp; omega
    subst e
    clear hy
    have n2 : ¬ k ≤ 11 := by omega
    go_enter Tryz.func60, Tryz.ntmps60
    have b0 := keepsC (o := 0) (heap_alloc_new w (.cells #[.int .i64 k, .int .i64 n] 44)) rfl
    have b1 := keepsC (o := 1) (heap_alloc_new w (.cells #[.int .i64 k, .int .i64 n] 44)) rfl
    have hk := (Upd.refl (fun _ => False) w).alloc (.cells #[.int .i64 k, .int .i64 n] 44)
    go_wp2_with fail
    refine (words_calls _).mono ?_
    rintro e w2 ⟨g, rfl, hg, hgs, hu⟩
    go_wp2
    go_ret
    exact ⟨rfl, hk.trans hu (fun _ _ h => h)⟩
  · have e : y = false := by rw [hy]; unfold right; simp; omega
    subst e
    clear hy
    have n3 : ¬ 0 ≤ n := by omega
    go_enter Tryz.func60, Tryz.ntmps60
    have b0 := keepsC (o := 0) (heap_alloc_new w (.cells #[.int .i64 k, .int .i64 n] 44)) rfl
    have b1 := keepsC (o := 1) (heap_alloc_new w (.cells #[.int .i64 k, .int .i64 n] 44)) rfl
    have hk := (Upd.refl (fun _ => False) w).alloc (.cells #[.int .i64 k, .int .i64 n] 44)
    go_wp2_with fail
    refine (words_calls _).mono ?_
    rintro e w2 ⟨g, rfl, hg, hgs, hu⟩
    go_wp2
    go_ret
    exact ⟨rfl, hk.trans hu (fun _ _ h => h)⟩
  · have e : y = false := by rw [hy]; unfold right; simp; omega
    subst e
    clear hy
    have n4 : ¬ n ≤ 1099511627776 := by omega
    go_enter Tryz.func60, Tryz.ntmps60
    have b0 := keepsC (o := 0) (heap_alloc_new w (.cells #[.int .i64 k, .int .i64 n] 44)) rfl
    have b1 := keepsC (o := 1) (heap_alloc_new w (.cells #[.int .i64 k, .int .i64 n] 44)) rfl
    have hk := (Upd.refl (fun _ => False) w).alloc (.cells #[.int .i64 k, .int .i64 n] 44)
    go_wp2_with fail
    refine (words_calls _).mono ?_
    rintro e w2 ⟨g, rfl, hg, hgs, hu⟩
    go_wp2
    go_ret
    exact ⟨rfl, hk.trans hu (fun _ _ h => h)⟩
  · have e : y = false := by rw [hy]; unfold right; simp; omega
    subst e
    clear hy
    have m3 : 0 ≤ n := by omega
    have m2 : k ≤ 11 := by omega
    have n5 : ¬ 6 ≤ k := by omega
    have n6 : (n == 0) = false := beq_eq_false_iff_ne.2 (by omega)
    go_enter Tryz.func60, Tryz.ntmps60
    have b0 := keepsC (o := 0) (heap_alloc_new w (.cells #[.int .i64 k, .int .i64 n] 44)) rfl
    have b1 := keepsC (o := 1) (heap_alloc_new w (.cells #[.int .i64 k, .int .i64 n] 44)) rfl
    have hk := (Upd.refl (fun _ => False) w).alloc (.cells #[.int .i64 k, .int .i64 n] 44)
    go_wp2_with fail
    refine (words_calls _).mono ?_
    rintro e w2 ⟨g, rfl, hg, hgs, hu⟩
    go_wp2
    go_ret
    exact ⟨by show Ending.returned (.bool (decide (6 ≤ k))) = _; rw [decide_eq_false (show ¬ 6 ≤ k by omega)], hk.trans hu (fun _ _ h => h)⟩
  · have e : y = true := by rw [hy]; unfold right; simp; omega
    subst e
    clear hy
    have m2 : k ≤ 11 := by omega
    have n5 : ¬ 6 ≤ k := by omega
    go_enter Tryz.func60, Tryz.ntmps60
    have b0 := keepsC (o := 0) (heap_alloc_new w (.cells #[.int .i64 k, .int .i64 0] 44)) rfl
    have b1 := keepsC (o := 1) (heap_alloc_new w (.cells #[.int .i64 k, .int .i64 0] 44)) rfl
    have hk := (Upd.refl (fun _ => False) w).alloc (.cells #[.int .i64 k, .int .i64 0] 44)
    go_wp2_with fail
    refine (words_calls _).mono ?_
    rintro e w2 ⟨g, rfl, hg, hgs, hu⟩
    go_wp2
    go_ret
    exact ⟨rfl, hk.trans hu (fun _ _ h => h)⟩
  · have e : y = true := by rw [hy]; unfold right; simp; omega
    subst e
    clear hy
    have m1 : 1 ≤ k := by omega
    have m6 : decide (6 ≤ k) = true := decide_eq_true h1
    go_enter Tryz.func60, Tryz.ntmps60
    have b0 := keepsC (o := 0) (heap_alloc_new w (.cells #[.int .i64 k, .int .i64 n] 44)) rfl
    have b1 := keepsC (o := 1) (heap_alloc_new w (.cells #[.int .i64 k, .int .i64 n] 44)) rfl
    have hk := (Upd.refl (fun _ => False) w).alloc (.cells #[.int .i64 k, .int .i64 n] 44)
    go_wp2_with fail
    refine (words_calls _).mono ?_
    rintro e w2 ⟨g, rfl, hg, hgs, hu⟩
    go_wp2
    go_ret
    exact ⟨rfl, hk.trans hu (fun _ _ h => h)⟩
theorem word_len (i : Nat) (h : i < 11) : (word (i + 1)).length ≤ 6 := by
  rcases (by omega : i = 0 ∨ i = 1 ∨ i = 2 ∨ i = 3 ∨ i = 4 ∨ i = 5 ∨ i = 6 ∨ i = 7 ∨ i = 8 ∨ i = 9 ∨ i = 10) with rfl | rfl | rfl | rfl | rfl | rfl | rfl | rfl | rfl | rfl | rfl <;> decide
structure Env (w : World) : Prop where
  tab : Lib.TabIs Tryz.prog w "internal/strconv.uint64pow10" .u64 Lib.pow10Tab
  cut : ∃ m, w.cell? ⟨3, 0, none⟩ = some (.int .i64 m)
  syn : ∃ tp p, w.var? Tryz.prog "strconv.ErrSyntax" = some #[.iface tp p]
  rng : ∃ tp p, w.var? Tryz.prog "strconv.ErrRange" = some #[.iface tp p]
theorem var_upd {P : Program} {w w1 : World} {name : String} {cs : Array Value} (h : w.var? P name = some cs) (k : Upd (fun _ => False) w w1) : w1.var? P name = some cs := by
  unfold World.var? at h ⊢
  cases hg : P.globalNamed name with
  | none => rw [hg] at h; simp at h
  | some g =>
    rw [hg] at h
    simp only [Option.bind_some] at h ⊢
    split at h
    · rename_i c t f hb
      rw [k.blk hb (fun h => h)]
      exact h
    · cases h
theorem Env.up {w w1 : World} (h : Env w) (k : Upd (fun _ => False) w w1) : Env w1 := by
  obtain ⟨m, hm⟩ := h.cut
  obtain ⟨t1, p1, h1⟩ := h.syn
  obtain ⟨t2, p2, h2⟩ := h.rng
  exact ⟨var_upd h.tab k, ⟨m, k.cell hm (fun h => h)⟩, ⟨t1, p1, var_upd h1 k⟩, ⟨t2, p2, var_upd h2 k⟩⟩
theorem grow_upd {S : Nat → Prop} {w w1 : World} (h : Upd S w w1) (os : Array Obj) : Upd S w (Go.Sort.grow w1 os) := by
  refine h.trans (T := fun _ => False) ⟨rfl, rfl, rfl, ?_, fun i hi _ => ?_⟩ (fun _ _ h => h.elim)
  · simp [Go.Sort.grow]
  · simp only [Go.Sort.grow]
    rw [Array.getElem?_append_left hi]
theorem format_calls {w : World} (h : Env w) (n : Int) (h0 : 0 ≤ n) (h1 : n ≤ 1099511627776) : Calls Tryz.prog 61 #[.int .i64 n, .int .i64 10] w fun e w' => e = .returned (.string (S (Lib.itoa n))) ∧ Upd (fun _ => False) w w' := by
  refine (Tryz.strconv_FormatInt_10 n (by omega) (by omega) w h.tab).mono fun e w' ⟨he, k, os, hw⟩ => ⟨he, ?_⟩
  rw [hw]
  exact grow_upd ((Upd.refl (fun _ => False) w).drewN k) os
def text (k n : Int) : List UInt8 := if right k n then word k.toNat ++ (if k < 6 then [] else 32 :: Lib.itoa n) else []
set_option maxHeartbeats 2000000 in
theorem string_calls {w : World} (h : Env w) (k n : Int) : Calls Tryz.prog 24 #[.agg #[.int .i64 k, .int .i64 n]] w fun e w' => e = .returned (.string (S (text k n))) ∧ Upd (fun _ => False) w w' := by
  have HE := Asd.mk h
  obtain ⟨tx, htx⟩ : ∃ tx, tx = text k n := ⟨_, rfl⟩
  rw [← htx]
  have HX := Asd.mk htx
  have b0 := keepsC (o := 0) (heap_alloc_new w (.cells #[.int .i64 k, .int .i64 n] 44)) rfl
  have b1 := keepsC (o := 1) (heap_alloc_new w (.cells #[.int .i64 k, .int .i64 n] 44)) rfl
  have hk := (Upd.refl (fun _ => False) w).alloc (.cells #[.int .i64 k, .int .i64 n] 44)
  clear h htx
  cases hr : right k n with
  | false =>
    have HX2 : Asd (tx = []) := ⟨by rw [HX.out]; unfold text; rw [hr]; rfl⟩
    have HR := Asd.mk hr
    clear hr HX
    go_enter Tryz.func24, Tryz.ntmps24
    go_wp2_with fail
    refine (words_calls _).mono ?_
    rintro e w2 ⟨g, rfl, hg, hgs, hu⟩
    have hk2 : Upd (fun _ => False) _ w2 := hk.trans hu (fun _ _ h => h)
    go_wp2_with fail
    refine (right_calls k n _).mono ?_
    rw [HR.out]
    rintro e w3 ⟨rfl, hu3⟩
    go_wp2
    go_ret
    exact ⟨by rw [HX2.out]; rfl, hk2.trans hu3 (fun _ _ h => h)⟩
  | true =>
    have hrr := hr
    simp only [right, Bool.and_eq_true, decide_eq_true_eq, Bool.or_eq_true] at hrr
    obtain ⟨r1, r2, r3, r4, r5⟩ := hrr
    obtain ⟨j, hj⟩ : ∃ j : Nat, k = ((j + 1 : Nat) : Int) := ⟨(k - 1).toNat, by omega⟩
    have hj11 : j < 11 := by omega
    have hkj : k - 1 = (j : Int) := by omega
    have hji : (j : Int) < 11 := by omega
    have HR := Asd.mk hr
    by_cases h6 : k < 6
    · have HX2 : Asd (tx = word (j + 1)) := ⟨by rw [HX.out]; unfold text; rw [hr, if_pos rfl, if_pos h6, hj, List.append_nil]; rfl⟩
      clear hr HX r5 hj
      go_enter Tryz.func24, Tryz.ntmps24
      go_wp2_with fail
      refine (words_calls _).mono ?_
      rintro e w2 ⟨g, rfl, hg, hgs, hu⟩
      have hk2 : Upd (fun _ => False) _ w2 := hk.trans hu (fun _ _ h => h)
      go_wp2_with fail
      refine (right_calls k n _).mono ?_
      rw [HR.out]
      rintro e w3 ⟨rfl, hu3⟩
      have cg := keepsC (o := j) (hu3.blk hg (fun h => h)) (wcells_at j hj11)
      have hu4 := hu.trans hu3 (fun _ _ h => h)
      have hk3 : Upd (fun _ => False) w3 w3 := Upd.refl _ _
      go_wp2
      go_ret
      exact ⟨by rw [HX2.out]; rfl, hk2.trans hu3 (fun _ _ h => h)⟩
    · have HX2 : Asd (tx = word (j + 1) ++ 32 :: Lib.itoa n) := ⟨by rw [HX.out]; unfold text; rw [hr, if_pos rfl, if_neg h6, hj]; rfl⟩
      clear hr HX r5 hj
      go_enter Tryz.func24, Tryz.ntmps24
      go_wp2_with fail
      refine (words_calls _).mono ?_
      rintro e w2 ⟨g, rfl, hg, hgs, hu⟩
      have hk2 : Upd (fun _ => False) _ w2 := hk.trans hu (fun _ _ h => h)
      go_wp2_with fail
      refine (right_calls k n _).mono ?_
      rw [HR.out]
      rintro e w3 ⟨rfl, hu3⟩
      have cg := keepsC (o := j) (hu3.blk hg (fun h => h)) (wcells_at j hj11)
      have hu4 := hu.trans hu3 (fun _ _ h => h)
      have b0' := keepsC (o := 0) (hu4.blk (heap_alloc_new w (.cells #[.int .i64 k, .int .i64 n] 44)) (fun h => h)) rfl
      have b1' := keepsC (o := 1) (hu4.blk (heap_alloc_new w (.cells #[.int .i64 k, .int .i64 n] 44)) (fun h => h)) rfl
      clear b0 b1
      have hk3 : Upd (fun _ => False) w3 w3 := Upd.refl _ _
      have HE3 := Asd.mk (HE.out.up (hk2.trans hu3 (fun _ _ h => h)))
      have hwl := word_len j hj11
      have hil := Lib.itoa_length_le n (by omega) (by omega)
      have hn1 : ¬ 9223372036854775807 < (word (j + 1)).length + 1 := by omega
      have hn2 : ¬ 9223372036854775807 < (word (j + 1)).length + 1 + (Lib.itoa n).length := by omega
      have hwr : IntKind.i64.wrap (j : Int) = (j : Int) := w64i _ (by omega) (by omega)
      go_wp2
      refine wp_region_held_drew (S := fun W => Upd (fun _ => False) w3 W) (by kernel_rfl) (by exact (by repeat (first | assumption | with_reducible exact Upd.refl _ _ | with_reducible refine Upd.drewN ?_ _ | with_reducible refine Upd.drew ?_ | with_reducible refine Upd.alloc ?_ _ | with_reducible refine Upd.setAt ?_ ?_ | exact Or.inl rfl | exact Or.inr (by simp) | exact Or.inr (by omega)))) (fun hHeld => ?_)
      refine tk_ 0 ?_
      try simp only [Act.put, sl1_, sl2_, sl3_]
      refine tk_ 1 ?_
      try simp only [Act.put, sl1_, sl2_, sl3_]
      refine tk_ 2 ?_
      try simp only [Act.put, sl1_, sl2_, sl3_]
      refine tk_ 3 ?_
      try simp only [Act.put, sl1_, sl2_, sl3_]
      refine tk_ 4 ?_
      try simp only [Act.put, sl1_, sl2_, sl3_]
      refine tk_ 5 ?_
      try simp only [Act.put, sl1_, sl2_, sl3_]
      refine tk_ 6 ?_
      try simp only [Act.put, sl1_, sl2_, sl3_]
      refine tk_ 7 ?_
      try simp only [Act.put, sl1_, sl2_, sl3_]
      refine tk_ 8 ?_
      try simp only [Act.put, sl1_, sl2_, sl3_]
      refine wpAnyH_ready (rs := [9]) (by kernel_rfl) (by simp) (AllReadyH.cons (o := ?_) ?_ (fun K hK => ?_) AllReadyH.nil)
      rotate_left 1
      · (simp only [List.getElem?_toArray, List.getElem?_cons_succ, List.getElem?_cons_zero]; exact rfl)
      (go_simp; (go_at_call 61; refine (format_calls (HE3.out.up (by repeat (first | assumption | with_reducible exact Upd.refl _ _ | with_reducible refine Upd.drewN ?_ _ | with_reducible refine Upd.drew ?_ | with_reducible refine Upd.alloc ?_ _ | with_reducible refine Upd.setAt ?_ ?_ | exact Or.inl rfl | exact Or.inr (by simp) | exact Or.inr (by omega)))) n r3 r4).mono ?_; rintro e w5 ⟨rfl, hu5⟩; have hu6 := (show Upd (fun _ => False) w3 w3.drew from (by repeat (first | assumption | with_reducible exact Upd.refl _ _ | with_reducible refine Upd.drewN ?_ _ | with_reducible refine Upd.drew ?_ | with_reducible refine Upd.alloc ?_ _ | with_reducible refine Upd.setAt ?_ ?_ | exact Or.inl rfl | exact Or.inr (by simp) | exact Or.inr (by omega)))).trans hu5 (fun _ _ h => h); clear hu5))
      refine hK.out _ _ (by exact (by repeat (first | assumption | with_reducible exact Upd.refl _ _ | with_reducible refine Upd.drewN ?_ _ | with_reducible refine Upd.drew ?_ | with_reducible refine Upd.alloc ?_ _ | with_reducible refine Upd.setAt ?_ ?_ | exact Or.inl rfl | exact Or.inr (by simp) | exact Or.inr (by omega)))) (fun hHeld => ?_)
      clear hK K
      try simp only [Act.put, List.setIfInBounds_toArray, List.set_cons_zero, List.set_cons_succ]
      refine tk_ 10 ?_
      try simp only [Act.put, sl1_, sl2_, sl3_]
      refine tk_ 11 ?_
      try simp only [Act.put, sl1_, sl2_, sl3_]
      refine wpAnyH_done (by kernel_rfl) ?_ _
      go_wp2
      go_ret
      exact ⟨by
        rw [HX2.out]
        show Ending.returned (.string (S (word (j + 1)) ++ S [32] ++ S (Lib.itoa n))) = _
        rw [S_append, S_append, List.append_assoc]
        rfl, hk2.trans (hu3.trans hu6 (fun _ _ h => h)) (fun _ _ h => h)⟩
end Go.Proofs.YteepkanbiefpjaaGreatDoor.Or
set_option linter.unusedVariables false
set_option linter.unusedSimpArgs false
namespace Go.Proofs.YteepkanbiefpjaaGreatDoor.Or
open Go.RowKit K
def wl : List ByteArray := [S (word 1), S (word 2), S (word 3), S (word 4), S (word 5), S (word 6), S (word 7), S (word 8), S (word 9), S (word 10), S (word 11)]
theorem wl_at (i : Nat) (h : i < 11) : wl.getD i ByteArray.empty = S (word (i + 1)) := by
  rcases (by omega : i = 0 ∨ i = 1 ∨ i = 2 ∨ i = 3 ∨ i = 4 ∨ i = 5 ∨ i = 6 ∨ i = 7 ∨ i = 8 ∨ i = 9 ∨ i = 10) with rfl | rfl | rfl | rfl | rfl | rfl | rfl | rfl | rfl | rfl | rfl <;> rfl
def pw (l : List UInt8) : List UInt8 := (Lib.cut l [32]).1
def pnum (l : List UInt8) : List UInt8 := (Lib.cut l [32]).2.1
def pk (l : List UInt8) : Int := Lib.idxOfS wl (S (pw l)) + 1
theorem cut_calls {w : World} (h : Env w) (l : List UInt8) (hl : l.length < 4294967281) : Calls Tryz.prog 126 #[.string (S l), .string { data := #[32] }] w fun e w' => e = .returned (.tuple #[.string (S (pw l)), .string (S (pnum l)), .bool (Lib.cut l [32]).2.2]) ∧ Upd (fun _ => False) w w' := by
  obtain ⟨m, hm⟩ := h.cut
  refine (Tryz.strings_Cut (S l) { data := #[32] } m w (by rw [S_size]; exact hl) hm).mono fun e w' ⟨he, n, hw⟩ => ⟨?_, ?_⟩
  · rw [he]
    have e1 : (S l).data.toList = l := by simp [S]
    rw [e1]
    rfl
  · rw [hw]
    exact (Upd.refl (fun _ => False) w).drewN n
theorem index_calls {w : World} {g : Nat} (hg : w.heap[g]? = some (.cells wcells 9 (0, 0))) (x : List UInt8) : Calls Tryz.prog 127 #[.slice (some ⟨g, 0, none⟩) 11 11, .string (S x)] w fun e w' => e = .returned (.int .i64 (Lib.idxOfS wl (S x))) ∧ w = w' := by
  refine (Tryz.slices_Index_string g 0 11 11 wl (S x) w (by decide) (by omega) (fun j hj => ?_)).mono fun e w' ⟨he, hw⟩ => ⟨by rw [he]; rfl, hw.symm⟩
  have hj11 : j < 11 := hj
  rw [wl_at j hj11, Nat.zero_add]
  exact keepsC (o := j) hg (wcells_at j hj11) w (Upd.refl _ _)
theorem bytes_upd (w : World) (e : TypeId) (t : ByteArray) : Upd (fun _ => False) w (Lib.bytesWorld w e t) := Upd.ofBelow (Lib.bytesWorld_below _ _ _) _
def PPost (l : List UInt8) (w : World) (e : Ending) (w' : World) : Prop := Upd (fun _ => False) w w' ∧ ((∃ v, Lib.parseIntB 64 l = .ok v ∧ e = .returned (.tuple #[.int .i64 v, .nilIface])) ∨ ((∀ v, Lib.parseIntB 64 l ≠ .ok v) ∧ ∃ v t p, e = .returned (.tuple #[.int .i64 v, .iface t p])))
theorem int_calls {w : World} (h : Env w) (l : List UInt8) (hl : l.length ≤ 281474976710656) : Calls Tryz.prog 128 #[.string (S l), .int .i64 10, .int .i64 64] w (PPost l w) := by
  have e1 : (S l).data.toList = l := by simp [S]
  have hs : (S l).size ≤ 281474976710656 := by rw [S_size]; exact hl
  cases hp : Lib.parseIntB 64 l with
  | ok v =>
    refine (Tryz.strconv_ParseInt_10_at64_ok (S l) (by omega) v (by rw [e1]; exact hp) w).mono fun e w' ⟨he, hw⟩ => ⟨?_, .inl ⟨v, hp, he⟩⟩
    rcases hw with rfl | ⟨t, rfl⟩
    · exact Upd.refl _ _
    · exact bytes_upd _ _ _
  | range =>
    obtain ⟨tp, p, hv⟩ := h.rng
    refine (Tryz.strconv_ParseInt_10_at64_range_var (S l) hs (by rw [e1]; exact hp) tp p w hv).mono fun e w' ⟨N, he, _, _, hb⟩ => ⟨Upd.ofBelow hb _, .inr ⟨(fun v hv => by rw [hp] at hv; cases hv), _, _, _, he⟩⟩
  | _ =>
    obtain ⟨tp, p, hv⟩ := h.syn
    refine (Tryz.strconv_ParseInt_10_at64_syntax_var (S l) hs (by rw [e1]; exact hp) tp p w hv).mono fun e w' ⟨N, he, _, _, hb⟩ => ⟨Upd.ofBelow hb _, .inr ⟨(fun v hv => by rw [hp] at hv; cases hv), _, _, _, he⟩⟩
theorem idx_range (x : ByteArray) : ∀ (zs : List ByteArray) (i : Nat), -1 ≤ Lib.idxFromS zs x i ∧ Lib.idxFromS zs x i < ((i + zs.length : Nat) : Int) + (if zs = [] then 1 else 0)
  | [], i => by simp [Lib.idxFromS]; omega
  | z :: zs, i => by
    have h := idx_range x zs (i + 1)
    rw [Lib.idxFromS]
    simp only [List.length_cons]
    split
    · constructor
      · omega
      · simp; omega
    · refine ⟨h.1, ?_⟩
      have h2 := h.2
      cases zs with
      | nil => simp [Lib.idxFromS] at h2 ⊢; omega
      | cons y r => simp at h2 ⊢; omega
theorem pk_range (l : List UInt8) : 0 ≤ pk l ∧ pk l ≤ 11 := by
  have h := idx_range (S (pw l)) wl 0
  have h2 : (0 + wl.length : Nat) = 11 := rfl
  rw [h2] at h
  unfold pk Lib.idxOfS
  have h3 := h.2
  rw [if_neg (by simp [wl])] at h3
  omega
def pval (l : List UInt8) : Option Int := if pnum l = [] then some 0 else match Lib.parseIntB 64 (pnum l) with
  | .ok v => some v
  | _ => none
def parse (l : List UInt8) : Int × Int × Int := match pval l with
  | none => (0, 0, 8)
  | some v => if l = [] ∨ text (pk l) v ≠ l then (0, 0, 8) else (pk l, v, 0)
theorem store2 {w : World} {r : Nat} {x0 x1 : Value} {e : TypeId} (h : w.heap[r]? = some (.cells #[x0, x1] e (0, 0))) :
    (∀ u, (w.setCell ⟨r, 0, none⟩ u).cell? ⟨r, 0, none⟩ = some u) ∧ (∀ u v, ((w.setCell ⟨r, 0, none⟩ u).setCell ⟨r, 1, none⟩ v).cell? ⟨r, 1, none⟩ = some v) := by
  have b0 := fun v0 => blk_setCell (o := 0) h v0
  have b1 := fun v0 v1 => blk_setCell (o := 1) (b0 v0) v1
  exact ⟨fun u => by simp [World.cell?, b0], fun u v => by simp [World.cell?, b1]⟩
set_option maxHeartbeats 4000000 in
theorem parse_calls {w : World} (h : Env w) (l : List UInt8) (hl : l.length ≤ 1000) : Calls Tryz.prog 104 #[.string (S l)] w fun e w' => e = .returned (.tuple #[.agg #[.int .i64 (parse l).1, .int .i64 (parse l).2.1], .int .i64 (parse l).2.2]) ∧ Upd (fun _ => False) w w' := by
  have HE := Asd.mk h
  obtain ⟨y, hy⟩ : ∃ y, y = parse l := ⟨_, rfl⟩
  rw [← hy]
  have HY := Asd.mk hy
  obtain ⟨kk, hkk⟩ : ∃ kk, kk = pk l := ⟨_, rfl⟩
  have HK := Asd.mk hkk
  have hkr := pk_range l
  rw [← hkk] at hkr
  have hka := (Upd.refl (fun _ => False) w).alloc (.cells #[.int .i64 0, .int .i64 0] 44)
  clear h hy hkk
  go_enter Tryz.func104, Tryz.ntmps104
  go_wp2_with fail
  refine (words_calls _).mono ?_
  rintro e w2 ⟨g, rfl, hg, hgs, hu⟩
  have hk2 := hka.trans hu (fun _ _ h => h)
  go_wp2_with fail
  refine (cut_calls (HE.out.up hk2) l (by omega)).mono ?_
  rintro e w3 ⟨rfl, hu3⟩
  have hk3 := hk2.trans hu3 (fun _ _ h => h)
  go_wp2_with fail
  refine (index_calls (hu3.blk hg (fun h => h)) (pw l)).mono ?_
  rintro e w4 ⟨rfl, rfl⟩
  rw [show Lib.idxOfS wl (S (pw l)) = kk - 1 by rw [HK.out]; unfold pk; omega]
  have stl : ∀ x : List UInt8, (S x).toList = x := fun x => by rw [ByteArray.toList_eq]; simp [S]
  have hb3 := (hu.trans hu3 (fun _ _ h => h)).blk (heap_alloc_new w (.cells #[.int .i64 0, .int .i64 0] 44)) (fun h => h)
  have r0 := keepsC (o := 0) hb3 rfl
  have r1 := keepsC (o := 1) hb3 rfl
  have rf := fun o => keepsF (o := o) hb3
  have hn3 := heap_alloc_new w3 (.cells #[.int .i64 kk, .int .i64 0] 44)
  have q0 := keepsC (o := 0) hn3 rfl
  have q1 := keepsC (o := 1) hn3 rfl
  have qf := fun o => keepsF (o := o) hn3
  have hkk3 := (Upd.refl (fun _ => False) w3).alloc (.cells #[.int .i64 kk, .int .i64 0] 44)
  have hkw : Upd (fun _ => False) w3 w3 := Upd.refl _ _
  by_cases hp : pnum l = []
  · have hpe : (pnum l).isEmpty = true := by rw [hp]; rfl
    have HV : Asd (pval l = some 0) := ⟨by unfold pval; rw [if_pos hp]⟩
    by_cases hl0 : l = []
    · have HY2 : Asd (y = (0, 0, 8)) := ⟨by rw [HY.out]; unfold parse; rw [HV.out]; simp [hl0]⟩
      obtain ⟨s1, s2⟩ := store2 (hkk3.blk hb3 (fun h => h))
      go_wp2
      refine bodyPost_ret (v := .tuple #[.agg #[.int .i64 0, .int .i64 0], .int .i64 8]) (by simp [results, Tryz.results104, go_sem, s1, s2]) rfl ?_
      refine ⟨by rw [HY2.out], ?_⟩
      exact ((hk3.alloc _).setAt (.inr (Nat.le_refl _))).setAt (.inr (Nat.le_refl _))
    · have hle : l.isEmpty = false := by cases l with
        | nil => exact absurd rfl hl0
        | cons a b => rfl
      have hbl : (l == []) = false := beq_eq_false_iff_ne.2 hl0
      go_wp2_with fail
      refine (string_calls (HE.out.up (hk3.trans hkk3 (fun _ _ h => h))) kk 0).mono ?_
      rintro e w5 ⟨rfl, hu5⟩
      have hk5 := hkk3.trans hu5 (fun _ _ h => h)
      have hb5 := hk5.blk hb3 (fun h => h)
      obtain ⟨s1, s2⟩ := store2 hb5
      have hkw5 : Upd (fun _ => False) w5 w5 := Upd.refl _ _
      have q05 := keepsC (o := 0) (hu5.blk hn3 (fun h => h)) rfl
      have q15 := keepsC (o := 1) (hu5.blk hn3 (fun h => h)) rfl
      by_cases ht : text kk 0 = l
      · have HY2 : Asd (y = (kk, 0, 0)) := ⟨by rw [HY.out]; unfold parse; rw [HV.out]; simp only; rw [← HK.out, if_neg (by rw [ht]; simp [hl0])]⟩
        have hte : (text kk 0 == l) = true := beq_iff_eq.2 ht
        go_wp2
        refine bodyPost_ret (v := .tuple #[.agg #[.int .i64 kk, .int .i64 0], .int .i64 0]) (by simp [results, Tryz.results104, go_sem, s1, s2]) rfl ?_
        refine ⟨by rw [HY2.out], ?_⟩
        exact (((hk3.trans hk5 (fun _ _ h => h))).setAt (.inr (Nat.le_refl _))).setAt (.inr (Nat.le_refl _))
      · have HY2 : Asd (y = (0, 0, 8)) := ⟨by rw [HY.out]; unfold parse; rw [HV.out]; simp only; rw [← HK.out, if_pos (.inr ht)]⟩
        have hte : (text kk 0 == l) = false := beq_eq_false_iff_ne.2 ht
        go_wp2
        refine bodyPost_ret (v := .tuple #[.agg #[.int .i64 0, .int .i64 0], .int .i64 8]) (by simp [results, Tryz.results104, go_sem, s1, s2]) rfl ?_
        refine ⟨by rw [HY2.out], ?_⟩
        exact (((hk3.trans hk5 (fun _ _ h => h))).setAt (.inr (Nat.le_refl _))).setAt (.inr (Nat.le_refl _))
  · have hpe : (pnum l).isEmpty = false := by cases hpn : pnum l with
      | nil => exact absurd hpn hp
      | cons a b => rfl
    have hbp : (pnum l == []) = false := beq_eq_false_iff_ne.2 hp
    have hpl : (pnum l).length ≤ 281474976710656 := by
      have : (pnum l).length ≤ l.length := by
        unfold pnum Lib.cut
        split
        · simp
        · simp
      omega
    go_wp2_with fail
    refine (int_calls (HE.out.up (hk3.trans hkk3 (fun _ _ h => h))) (pnum l) hpl).mono ?_
    rintro e w5 ⟨hu5, h5⟩
    have hk5 := hkk3.trans hu5 (fun _ _ h => h)
    have hb5 := hk5.blk hb3 (fun h => h)
    obtain ⟨s1, s2⟩ := store2 hb5
    have hkw5 : Upd (fun _ => False) w5 w5 := Upd.refl _ _
    rcases h5 with ⟨v, hv, rfl⟩ | ⟨hv, v, tt, pp, rfl⟩
    · have HV : Asd (pval l = some v) := ⟨by unfold pval; rw [if_neg hp, hv]⟩
      have hl0 : l ≠ [] := fun e => hp (by rw [e]; rfl)
      have hle : l.isEmpty = false := by cases l with
        | nil => exact absurd rfl hl0
        | cons a b => rfl
      have hbl : (l == []) = false := beq_eq_false_iff_ne.2 hl0
      have hn5 := hu5.blk hn3 (fun h => h)
      have p1 := keepsC (o := 1) hn5 rfl
      have pf := fun o => keepsF (o := o) hn5
      have hn6 := blk_setCell (o := 1) hn5 (.int .i64 v)
      have hu6 : Upd (fun _ => False) w3 (w5.setCell ⟨w3.heap.size, 1, none⟩ (.int .i64 v)) := hk5.setAt (.inr (Nat.le_refl _))
      have hkw6 : Upd (fun _ => False) (w5.setCell ⟨w3.heap.size, 1, none⟩ (.int .i64 v)) (w5.setCell ⟨w3.heap.size, 1, none⟩ (.int .i64 v)) := Upd.refl _ _
      have m0 := keepsC (o := 0) (v := .int .i64 kk) hn6 rfl
      have m1 := keepsC (o := 1) (v := .int .i64 v) hn6 rfl
      clear q0 q1 s1 s2
      go_wp2_with fail
      refine (string_calls (HE.out.up (hk3.trans hu6 (fun _ _ h => h))) kk v).mono ?_
      rintro e w7 ⟨rfl, hu7⟩
      have hk7 := hu6.trans hu7 (fun _ _ h => h)
      obtain ⟨s1, s2⟩ := store2 (hk7.blk hb3 (fun h => h))
      have hkw7 : Upd (fun _ => False) w7 w7 := Upd.refl _ _
      have hn7 := hu7.blk hn6 (fun h => h)
      have m07 := keepsC (o := 0) (v := .int .i64 kk) hn7 rfl
      have m17 := keepsC (o := 1) (v := .int .i64 v) hn7 rfl
      by_cases ht : text kk v = l
      · have HY2 : Asd (y = (kk, v, 0)) := ⟨by rw [HY.out]; unfold parse; rw [HV.out]; simp only; rw [← HK.out, if_neg (by rw [ht]; simp [hl0])]⟩
        have hte : (text kk v == l) = true := beq_iff_eq.2 ht
        go_wp2
        refine bodyPost_ret (v := .tuple #[.agg #[.int .i64 kk, .int .i64 v], .int .i64 0]) (by simp [results, Tryz.results104, go_sem, s1, s2]) rfl ?_
        refine ⟨by rw [HY2.out], ?_⟩
        exact (((hk3.trans hk7 (fun _ _ h => h))).setAt (.inr (Nat.le_refl _))).setAt (.inr (Nat.le_refl _))
      · have HY2 : Asd (y = (0, 0, 8)) := ⟨by rw [HY.out]; unfold parse; rw [HV.out]; simp only; rw [← HK.out, if_pos (.inr ht)]⟩
        have hte : (text kk v == l) = false := beq_eq_false_iff_ne.2 ht
        go_wp2
        refine bodyPost_ret (v := .tuple #[.agg #[.int .i64 0, .int .i64 0], .int .i64 8]) (by simp [results, Tryz.results104, go_sem, s1, s2]) rfl ?_
        refine ⟨by rw [HY2.out], ?_⟩
        exact (((hk3.trans hk7 (fun _ _ h => h))).setAt (.inr (Nat.le_refl _))).setAt (.inr (Nat.le_refl _))
    · have HV : Asd (pval l = none) := ⟨by unfold pval; rw [if_neg hp]; cases hq : Lib.parseIntB 64 (pnum l) with
        | ok v => exact absurd hq (hv v)
        | _ => rfl⟩
      have HY2 : Asd (y = (0, 0, 8)) := ⟨by rw [HY.out]; unfold parse; rw [HV.out]⟩
      clear hv
      go_wp2
      refine bodyPost_ret (v := .tuple #[.agg #[.int .i64 0, .int .i64 0], .int .i64 8]) (by simp [results, Tryz.results104, go_sem, s1, s2]) rfl ?_
      refine ⟨by rw [HY2.out], ?_⟩
      exact (((hk3.trans hk5 (fun _ _ h => h))).setAt (.inr (Nat.le_refl _))).setAt (.inr (Nat.le_refl _))
end Go.Proofs.YteepkanbiefpjaaGreatDoor.Or
set_option linter.unusedVariables false
set_option linter.unusedSimpArgs false
namespace Go.Proofs.YteepkanbiefpjaaGreatDoor.Fl64
open Go Ieee
def big : Nat := 9007199254740992
def fl (n : Nat) : Nat := FloatKind.nearest .f64 n
theorem dF : double.fractionBits = 52 := rfl
theorem dL : double.leastPlace = -1074 := by decide
theorem dB : double.binade = 4503599627370496 := by decide
theorem dS : double.signWeight = 9223372036854775808 := by decide
theorem dI : double.infRung = 9218868437227405312 := by decide
theorem log2_bd {m : Nat} (h : 0 < m) (hm : m < big) : m.log2 ≤ 52 ∧ 2 ^ m.log2 ≤ m ∧ m < 2 ^ (m.log2 + 1) := by
  have h0 : m ≠ 0 := by omega
  have h1 : m.log2 < 53 := (Nat.log2_lt h0).2 hm
  exact ⟨by omega, Nat.log2_self_le h0, Nat.lt_log2_self⟩
theorem cut0 (n : Nat) : Toward.even.cut false n 0 = n := by
  unfold Toward.cut
  simp [Nat.mod_one]
theorem cutk (n d : Nat) (hd : d ≤ (n * 2 ^ d).log2 + 2) : Toward.even.cut false (n * 2 ^ d) d = n := by
  unfold Toward.cut
  have h1 : min d ((n * 2 ^ d).log2 + 2) = d := by omega
  have h2 : 1 <<< d = 2 ^ d := by rw [Nat.shiftLeft_eq, Nat.one_mul]
  have h3 : 0 < 2 ^ d := Nat.pow_pos (by decide)
  simp only [h1, h2, Nat.mul_mod_left, Nat.mul_div_cancel _ h3]
  have h4 : ¬ 2 ^ d = 0 := by omega
  simp [h4]
theorem log2_mul (m k : Nat) (h : 0 < m) : (m * 2 ^ k).log2 = m.log2 + k := by
  have h0 : m ≠ 0 := by omega
  have hk : 0 < 2 ^ k := Nat.pow_pos (by decide)
  have hn : m * 2 ^ k ≠ 0 := by have := Nat.mul_pos h hk; omega
  have a := Nat.log2_self_le h0
  have b := @Nat.lt_log2_self m
  have c : 2 ^ (m.log2 + k) ≤ m * 2 ^ k := by rw [Nat.pow_add]; exact Nat.mul_le_mul_right _ a
  have d : m * 2 ^ k < 2 ^ (m.log2 + k + 1) := by
    rw [show m.log2 + k + 1 = (m.log2 + 1) + k by omega, Nat.pow_add]
    exact Nat.mul_lt_mul_of_pos_right b hk
  have e := (Nat.le_log2 hn).2 c
  have f := (Nat.log2_lt hn).2 d
  omega
theorem near_shift (s : Bool) (m k : Nat) (h : 0 < m) (hm : m < big) : double.nearest s (m * 2 ^ k) (-(k : Int)) = double.word s ((1022 + m.log2) * 4503599627370496 + m * 2 ^ (52 - m.log2)) := by
  obtain ⟨l1, l2, l3⟩ := log2_bd h hm
  have hk2 : 0 < 2 ^ k := Nat.pow_pos (by decide)
  have hn : ¬ m * 2 ^ k = 0 := by have := Nat.mul_pos h hk2; omega
  have hcut : ∀ s, Toward.even.cut s = Toward.even.cut false := fun s => by funext n d; unfold Toward.cut; rfl
  have hbd : m * 2 ^ (52 - m.log2) < 2 * 4503599627370496 := by
    have : m * 2 ^ (52 - m.log2) < 2 ^ (m.log2 + 1) * 2 ^ (52 - m.log2) := Nat.mul_lt_mul_of_pos_right l3 (Nat.pow_pos (by decide))
    rw [← Nat.pow_add, show m.log2 + 1 + (52 - m.log2) = 53 by omega] at this
    simpa using this
  unfold Format.nearest
  rw [if_neg hn, log2_mul m k h, dF, dL, dB, dI]
  have hlast : max (-(k : Int) + ((m.log2 + k : Nat) : Int) - ((52 : Nat) : Int)) (-1074) = (m.log2 : Int) - 52 := by omega
  simp only [hlast, hcut s]
  have hkept : Toward.even.cut false ((m * 2 ^ k) <<< (-(k : Int) - ((m.log2 : Int) - 52)).toNat) ((m.log2 : Int) - 52 - -(k : Int)).toNat = m * 2 ^ (52 - m.log2) := by
    rw [Nat.shiftLeft_eq]
    by_cases hc : k ≤ 52 - m.log2
    · rw [show ((m.log2 : Int) - 52 - -(k : Int)).toNat = 0 by omega, show (-(k : Int) - ((m.log2 : Int) - 52)).toNat = 52 - m.log2 - k by omega, cut0, Nat.mul_assoc, ← Nat.pow_add, show k + (52 - m.log2 - k) = 52 - m.log2 by omega]
    · rw [show ((m.log2 : Int) - 52 - -(k : Int)).toNat = k - (52 - m.log2) by omega, show (-(k : Int) - ((m.log2 : Int) - 52)).toNat = 0 by omega, Nat.pow_zero, Nat.mul_one]
      have e : m * 2 ^ k = (m * 2 ^ (52 - m.log2)) * 2 ^ (k - (52 - m.log2)) := by rw [Nat.mul_assoc, ← Nat.pow_add, show 52 - m.log2 + (k - (52 - m.log2)) = k by omega]
      rw [e]
      refine cutk _ _ ?_
      rw [← e, log2_mul m k h]
      omega
  rw [hkept, show ((m.log2 : Int) - 52 - -1074).toNat = 1022 + m.log2 by omega]
  congr 1
  refine Nat.min_eq_left ?_
  omega
theorem near0 (s : Bool) (p : Int) : double.nearest s 0 p = double.word s 0 := by unfold Format.nearest; rw [if_pos rfl]
def num (s : Bool) (m : Nat) : Nat := double.nearest s m 0
theorem num_eq (s : Bool) (m : Nat) (h : 0 < m) (hm : m < big) : num s m = double.word s ((1022 + m.log2) * 4503599627370496 + m * 2 ^ (52 - m.log2)) := by
  have := near_shift s m 0 h hm
  rw [Nat.pow_zero, Nat.mul_one] at this
  exact this
theorem fl_num (m : Nat) : fl m = num false m := by
  unfold fl FloatKind.nearest FloatKind.encode Format.write num
  simp only [Int.natAbs_natCast]
  rw [show decide ((m : Int) < 0) = false by simp]
  rfl
theorem word_read (s : Bool) (x l : Nat) (h1 : x < 2 * 4503599627370496) (h2 : 4503599627370496 ≤ x) (l1 : l ≤ 52) : double.read (double.word s ((1022 + l) * 4503599627370496 + x)) = .number s x ((l : Int) - 52) := by
  unfold Format.word
  cases s with
  | false =>
    simp only [Bool.false_eq_true, if_false]
    unfold Format.read
    rw [dS, dB, dI, dL]
    have e1 : ((1022 + l) * 4503599627370496 + x) / 9223372036854775808 = 0 := Nat.div_eq_of_lt (by omega)
    have e2 : ((1022 + l) * 4503599627370496 + x) % 9223372036854775808 = (1022 + l) * 4503599627370496 + x := Nat.mod_eq_of_lt (by omega)
    have e3 : ((1022 + l) * 4503599627370496 + x) / 4503599627370496 = 1023 + l := by omega
    have e4 : ((1022 + l) * 4503599627370496 + x) % 4503599627370496 = x - 4503599627370496 := by omega
    simp only [e1, e2, e3, e4]
    rw [if_neg (by omega), if_pos (by omega), show 4503599627370496 + (x - 4503599627370496) = x by omega, show (-1074 : Int) + ((1023 + l - 1 : Nat) : Int) = (l : Int) - 52 by omega]
    rfl
  | true =>
    simp only [if_true]
    unfold Format.read
    rw [dS, dB, dI, dL]
    have e1 : (9223372036854775808 + ((1022 + l) * 4503599627370496 + x)) / 9223372036854775808 = 1 := by omega
    have e2 : (9223372036854775808 + ((1022 + l) * 4503599627370496 + x)) % 9223372036854775808 = (1022 + l) * 4503599627370496 + x := by omega
    have e3 : ((1022 + l) * 4503599627370496 + x) / 4503599627370496 = 1023 + l := by omega
    have e4 : ((1022 + l) * 4503599627370496 + x) % 4503599627370496 = x - 4503599627370496 := by omega
    simp only [e1, e2, e3, e4]
    rw [if_neg (by omega), if_pos (by omega), show 4503599627370496 + (x - 4503599627370496) = x by omega, show (-1074 : Int) + ((1023 + l - 1 : Nat) : Int) = (l : Int) - 52 by omega]
    rfl
theorem read_num (s : Bool) (m : Nat) (h : 0 < m) (hm : m < big) : double.read (num s m) = .number s (m * 2 ^ (52 - m.log2)) ((m.log2 : Int) - 52) := by
  obtain ⟨l1, l2, l3⟩ := log2_bd h hm
  have h1 : m * 2 ^ (52 - m.log2) < 2 * 4503599627370496 := by
    have : m * 2 ^ (52 - m.log2) < 2 ^ (m.log2 + 1) * 2 ^ (52 - m.log2) := Nat.mul_lt_mul_of_pos_right l3 (Nat.pow_pos (by decide))
    rw [← Nat.pow_add, show m.log2 + 1 + (52 - m.log2) = 53 by omega] at this
    simpa using this
  have h2 : 4503599627370496 ≤ m * 2 ^ (52 - m.log2) := by
    have : 2 ^ m.log2 * 2 ^ (52 - m.log2) ≤ m * 2 ^ (52 - m.log2) := Nat.mul_le_mul_right _ l2
    rw [← Nat.pow_add, show m.log2 + (52 - m.log2) = 52 by omega] at this
    simpa using this
  rw [num_eq s m h hm]
  exact word_read s _ _ h1 h2 l1
theorem read_num0 (s : Bool) : double.read (num s 0) = .number s 0 (-1074) := by cases s <;> decide +kernel
structure Says (b : Nat) (s : Bool) (m : Nat) : Prop where
  mk ::
  has : ∃ k : Nat, k ≤ 52 ∧ double.read b = .number s (m * 2 ^ k) (-(k : Int)) ∨ m = 0 ∧ double.read b = .number s 0 (-1074)
theorem says_num (s : Bool) (m : Nat) (hm : m < big) : Says (num s m) s m := by
  by_cases h : m = 0
  · subst h; exact ⟨⟨0, .inr ⟨rfl, read_num0 s⟩⟩⟩
  · have hp : 0 < m := by omega
    obtain ⟨l1, l2, l3⟩ := log2_bd hp hm
    refine ⟨⟨52 - m.log2, .inl ⟨by omega, ?_⟩⟩⟩
    rw [read_num s m hp hm, show ((m.log2 : Int) - 52) = -((52 - m.log2 : Nat) : Int) by omega]
theorem says_fl (m : Nat) (hm : m < big) : Says (fl m) false m := by rw [fl_num]; exact says_num false m hm
def one : Nat := 4607182418800017408
def negOne : Nat := 13830554455654793216
theorem one_eq : one = fl 1 := by decide +kernel
theorem says_neg : Says negOne true 1 := ⟨⟨52, .inl ⟨by omega, by decide +kernel⟩⟩⟩
def negZero : Nat := 9223372036854775808
theorem says_negZero : Says negZero true 0 := ⟨⟨0, .inr ⟨rfl, by decide +kernel⟩⟩⟩
theorem fl_zero : fl 0 = 0 := by decide +kernel
def val (s : Bool) (m : Nat) : Int := if s then -(m : Int) else m
theorem signed_val (s : Bool) (m k u : Nat) : signed s (m * 2 ^ k) u = val s m * 2 ^ (k + u) := by
  unfold signed val
  rw [Nat.shiftLeft_eq, Nat.mul_assoc, ← Nat.pow_add]
  cases s <;> simp [Int.neg_mul]
theorem signed0 (s : Bool) (u : Nat) : signed s 0 u = 0 := by
  unfold signed
  rw [Nat.shiftLeft_eq]
  cases s <;> simp
theorem pair {a b : Nat} {s t : Bool} {m n : Nat} (ha : Says a s m) (hb : Says b t n) : ∃ (i j : Int) (x y K : Nat), double.read a = .number s x i ∧ double.read b = .number t y j ∧ min i j = -(K : Int) ∧ signed s x (i - min i j).toNat = val s m * 2 ^ K ∧ signed t y (j - min i j).toNat = val t n * 2 ^ K := by
  obtain ⟨Z, hZ⟩ : ∃ Z : Nat, Z = 1074 := ⟨_, rfl⟩
  have hZ2 : (-1074 : Int) = -(Z : Int) := by omega
  obtain ⟨k, hk | ⟨hm, hr⟩⟩ := ha.has <;> obtain ⟨l, hl | ⟨hn, hr2⟩⟩ := hb.has
  · refine ⟨-k, -l, _, _, max k l, hk.2, hl.2, by omega, ?_, ?_⟩
    · rw [signed_val]; congr 2; omega
    · rw [signed_val]; congr 2; omega
  · subst hn
    rw [hZ2] at hr2
    refine ⟨-k, -Z, _, _, Z, hk.2, hr2, by omega, ?_, ?_⟩
    · rw [signed_val]; congr 2; omega
    · rw [signed0]; unfold val; cases t <;> simp
  · subst hm
    rw [hZ2] at hr
    refine ⟨-Z, -l, _, _, Z, hr, hl.2, by omega, ?_, ?_⟩
    · rw [signed0]; unfold val; cases s <;> simp
    · rw [signed_val]; congr 2; omega
  · subst hm; subst hn
    rw [hZ2] at hr hr2
    refine ⟨-Z, -Z, _, _, Z, hr, hr2, by omega, ?_, ?_⟩
    · rw [signed0]; unfold val; cases s <;> simp
    · rw [signed0]; unfold val; cases t <;> simp
theorem cmp_scale (x y : Int) (K : Nat) : compare (x * 2 ^ K) (y * 2 ^ K) = compare x y := by
  have hp : (0 : Int) < 2 ^ K := Int.pow_pos (by decide)
  have h1 : x * 2 ^ K < y * 2 ^ K ↔ x < y := Int.mul_lt_mul_right hp
  have h2 : x * 2 ^ K = y * 2 ^ K ↔ x = y := Int.mul_eq_mul_right_iff (by omega)
  simp only [compare, compareOfLessAndEq, h1, h2]
theorem order_says {a b : Nat} {s t : Bool} {m n : Nat} (ha : Says a s m) (hb : Says b t n) : double.order a b = some (compare (val s m) (val t n)) := by
  obtain ⟨i, j, x, y, K, h1, h2, h4, h5, h6⟩ := pair ha hb
  unfold Format.order
  rw [h1, h2]
  simp only [Datum.order, h5, h6, cmp_scale]
theorem add_says {a b : Nat} {s t : Bool} {m n : Nat} (ha : Says a s m) (hb : Says b t n) (hbd : (val s m + val t n).natAbs < big) : double.add a b = some (num (if val s m + val t n = 0 then s && t else decide (val s m + val t n < 0)) (val s m + val t n).natAbs) := by
  obtain ⟨i, j, x, y, K, h1, h2, h4, h5, h6⟩ := pair ha hb
  unfold Format.add
  rw [h1, h2]
  simp only [Datum.sum, h5, h6, ← Int.add_mul]
  obtain ⟨v, hv⟩ : ∃ v, v = val s m + val t n := ⟨_, rfl⟩
  rw [← hv] at hbd ⊢
  have hp : (0 : Int) < 2 ^ K := Int.pow_pos (by decide)
  have e1 : v * 2 ^ K = 0 ↔ v = 0 := by
    constructor
    · intro h; rcases Int.mul_eq_zero.1 h with h | h
      · exact h
      · omega
    · intro h; rw [h]; simp
  have e2 : v * 2 ^ K < 0 ↔ v < 0 := by
    have := Int.mul_lt_mul_right (a := 2 ^ K) (b := v) (c := 0) hp
    rw [Int.zero_mul] at this
    exact this
  have e3 : (v * 2 ^ K).natAbs = v.natAbs * 2 ^ K := by rw [Int.natAbs_mul, Int.natAbs_pow]; rfl
  simp only [e1, e2, e3, h4, Option.map_some, Format.write]
  congr 1
  by_cases h0 : v.natAbs = 0
  · rw [h0, Nat.zero_mul, near0]; unfold num; rw [near0]
  · rw [near_shift _ _ _ (by omega) hbd, num_eq _ _ (by omega) hbd]
theorem add_fl (m n : Nat) (h : m + n < big) : double.add (fl m) (fl n) = some (fl (m + n)) := by
  have := add_says (says_fl m (by omega)) (says_fl n (by omega)) (by unfold val; simp only [Bool.false_eq_true, if_false]; omega)
  rw [this, fl_num (m + n)]
  unfold val
  simp only [Bool.false_eq_true, if_false, Bool.and_false]
  have e : ((m : Int) + (n : Int)).natAbs = m + n := by omega
  have e2 : (if (m : Int) + (n : Int) = 0 then false else decide ((m : Int) + (n : Int) < 0)) = false := by
    split
    · rfl
    · simp; omega
  rw [e, e2]
theorem add_neg (m : Nat) (h : m < big) : double.add (fl m) negOne = some (if m = 0 then negOne else fl (m - 1)) := by
  have := add_says (says_fl m h) says_neg (by unfold val big; simp only [Bool.false_eq_true, if_false, if_true]; unfold big at h; omega)
  rw [this]
  unfold val
  simp only [Bool.false_eq_true, if_false, if_true, Bool.and_true]
  by_cases h0 : m = 0
  · subst h0; decide +kernel
  · have e : ((m : Int) + -((1 : Nat) : Int)).natAbs = m - 1 := by omega
    have e2 : (if (m : Int) + -((1 : Nat) : Int) = 0 then false else decide ((m : Int) + -((1 : Nat) : Int) < 0)) = false := by
      split
      · rfl
      · simp; omega
    rw [e, e2, if_neg h0, fl_num]
theorem add_negZero (m : Nat) (h : m < big) : double.add (fl m) negZero = some (fl m) := by
  have := add_says (says_fl m h) says_negZero (by unfold val; simp only [Bool.false_eq_true, if_false, if_true]; omega)
  rw [this, fl_num m]
  unfold val
  simp only [Bool.false_eq_true, if_false, if_true, Bool.and_true]
  have e : ((m : Int) + -((0 : Nat) : Int)).natAbs = m := by omega
  have e2 : (if (m : Int) + -((0 : Nat) : Int) = 0 then false else decide ((m : Int) + -((0 : Nat) : Int) < 0)) = false := by
    split
    · rfl
    · simp
  rw [e, e2]
theorem order_fl (m n : Nat) (h : m < big) (k : n < big) : double.order (fl m) (fl n) = some (compare m n) := by
  rw [order_says (says_fl m h) (says_fl n k)]
  unfold val
  simp only [Bool.false_eq_true, if_false]
  congr 1
  simp only [compare, compareOfLessAndEq, Int.ofNat_lt, Int.natCast_inj]
theorem order_negOne (n : Nat) (k : n < big) : double.order negOne (fl n) = some .lt := by
  rw [order_says says_neg (says_fl n k)]
  unfold val
  simp only [Bool.false_eq_true, if_false, if_true]
  congr 1
theorem sub_ck : (List.range 500).all (fun w => double.sub (fl (w + 1)) one == some (fl w)) = true := by decide +kernel
theorem sub_one (w : Nat) (h : 1 ≤ w) (h2 : w ≤ 500) : double.sub (fl w) one = some (fl (w - 1)) := by
  have := List.all_eq_true.1 sub_ck (w - 1) (List.mem_range.2 (by omega))
  rw [show w - 1 + 1 = w by omega] at this
  exact beq_iff_eq.1 this
theorem toInt_fl (m : Nat) (h : m < big) : Datum.toInt .zero (FloatKind.f64.decode (fl m)) = some (m : Int) := by
  show Datum.toInt .zero (double.read (fl m)) = _
  rw [fl_num]
  by_cases h0 : m = 0
  · subst h0; decide +kernel
  · have hp : 0 < m := by omega
    obtain ⟨l1, l2, l3⟩ := log2_bd hp h
    rw [read_num false m hp h]
    have e0 : ((m.log2 : Int) - 52).toNat = 0 := by omega
    have e1 : (-((m.log2 : Int) - 52)).toNat = 52 - m.log2 := by omega
    have hz : Toward.zero.cut false (m * 2 ^ (52 - m.log2)) (52 - m.log2) = m := by
      have hd : 0 < 2 ^ (52 - m.log2) := Nat.pow_pos (by decide)
      unfold Toward.cut
      rw [show min (52 - m.log2) ((m * 2 ^ (52 - m.log2)).log2 + 2) = 52 - m.log2 by rw [log2_mul m _ hp]; omega]
      simp [Nat.shiftLeft_eq, Nat.mul_div_cancel _ hd]
    unfold Datum.toInt Datum.integral
    simp only [e0, e1, Nat.shiftLeft_zero, hz]
    unfold signed
    simp
theorem toInt_val (m : Nat) (h : m < big) : floatToIntVal .f64 (fl m) .i64 = some (m : Int) := by
  unfold floatToIntVal
  rw [toInt_fl m h]
  simp only
  unfold big at h
  rw [if_pos (by simp only [IntKind.min, IntKind.max]; constructor <;> (simp [IntKind.signed, IntKind.bits]; try omega))]
end Go.Proofs.YteepkanbiefpjaaGreatDoor.Fl64
set_option linter.unusedVariables false
set_option linter.unusedSimpArgs false
namespace Go.Proofs.YteepkanbiefpjaaGreatDoor.Sp
open Go Fl64
structure T where
  col : Nat
  row : Nat
  st : Int
def sign (wd : Nat) (s : T) : T := if s.col + 1 = wd then { s with col := 0, row := s.row + 1 } else { s with col := s.col + 1 }
def move (wd : Nat) (s : T) (k : Nat) : T :=
  if k = 0 then { s with col := min (s.col + 1) (wd - 1) }
  else if k = 1 then { s with col := min s.col (wd - 1), row := s.row + 1 }
  else if k = 2 then { s with col := min (s.col - 1) (wd - 1) }
  else { s with col := min s.col (wd - 1), row := s.row - 1 }
def one (wd : Nat) (s : T) (c : UInt8) : T :=
  if c = 27 then { s with st := 1 }
  else if c = 13 then { s with col := 0 }
  else if c = 10 then { s with row := s.row + 1 }
  else if c = 8 then move wd s 2
  else if c = 9 then { s with col := min (8 * (s.col / 8 + 1)) (wd - 1) }
  else if 32 ≤ c.toNat ∧ c ≠ 127 then sign wd s
  else s
def step (wd : Nat) (s : T) (c : UInt8) : T :=
  if s.st = 0 then one wd s c
  else if s.st = 1 then { s with st := if c = 91 then 2 else 0 }
  else if c = 65 then move wd { s with st := 0 } 3
  else if c = 66 then move wd { s with st := 0 } 1
  else if c = 67 then move wd { s with st := 0 } 0
  else if c = 68 then move wd { s with st := 0 } 2
  else { s with st := 0 }
def put (wd : Nat) (s : T) (b : List UInt8) : T := b.foldl (step wd) s
structure Okk (wd n : Nat) (s : T) : Prop where
  col : s.col < wd
  row : s.row ≤ n
  st : 0 ≤ s.st ∧ s.st ≤ 2
theorem Okk.mono {wd n m : Nat} {s : T} (h : Okk wd n s) (k : n ≤ m) : Okk wd m s := ⟨h.col, by have := h.row; omega, h.st⟩
theorem Okk.move {wd n : Nat} {s : T} (h : Okk wd n s) (k : Nat) : Okk wd (n + 1) (move wd s k) := by
  have h1 := h.col
  have h2 := h.row
  have hm : ∀ x, min x (wd - 1) < wd := fun x => by have := Nat.min_le_right x (wd - 1); omega
  unfold Sp.move
  split
  · exact ⟨hm _, by simp only; omega, h.st⟩
  · split
    · exact ⟨hm _, by simp only; omega, h.st⟩
    · split
      · exact ⟨hm _, by simp only; omega, h.st⟩
      · exact ⟨hm _, by simp only; omega, h.st⟩
theorem Okk.one {wd n : Nat} {s : T} (h : Okk wd n s) (c : UInt8) : Okk wd (n + 1) (one wd s c) := by
  have h1 := h.col
  have h2 := h.row
  have hm : ∀ x, min x (wd - 1) < wd := fun x => by have := Nat.min_le_right x (wd - 1); omega
  unfold Sp.one
  split
  · exact ⟨h1, by simp only; omega, by simp⟩
  · split
    · exact ⟨by simp only; omega, by simp only; omega, h.st⟩
    · split
      · exact ⟨h1, by simp only; omega, h.st⟩
      · split
        · exact h.move 2
        · split
          · exact ⟨hm _, by simp only; omega, h.st⟩
          · split
            · unfold sign
              split
              · exact ⟨by simp only; omega, by simp only; omega, h.st⟩
              · exact ⟨by simp only; omega, by simp only; omega, h.st⟩
            · exact h.mono (by omega)
theorem Okk.st0 {wd n : Nat} {s : T} (h : Okk wd n s) : Okk wd n { s with st := 0 } := ⟨h.col, h.row, by simp⟩
theorem Okk.step {wd n : Nat} {s : T} (h : Okk wd n s) (c : UInt8) : Okk wd (n + 1) (step wd s c) := by
  unfold Sp.step
  split
  · exact h.one c
  · split
    · exact ⟨h.col, by have := h.row; simp only; omega, by simp only; split <;> simp⟩
    · split
      · exact h.st0.move 3
      · split
        · exact h.st0.move 1
        · split
          · exact h.st0.move 0
          · split
            · exact h.st0.move 2
            · exact h.st0.mono (by omega)
theorem Okk.put {wd : Nat} : ∀ (b : List UInt8) {n : Nat} {s : T}, Okk wd n s → Okk wd (n + b.length) (put wd s b)
  | [], n, s, h => h
  | c :: b, n, s, h => by
    have := Okk.put b (h.step c)
    unfold Sp.put at this ⊢
    rw [List.foldl_cons, List.length_cons, show n + (b.length + 1) = n + 1 + b.length by omega]
    exact this
def cells (wd : Nat) (s : T) : Array Value := #[.float .f64 (fl wd), .complex .f64 (fl s.col) (fl s.row), .int .i64 s.st]
end Go.Proofs.YteepkanbiefpjaaGreatDoor.Sp
