/- The statements' own model of the floor: what its acts come to. -/
import Derived.Test.YtaeafnpldlcdnaaFlModel2
set_option linter.unusedVariables false
set_option linter.unusedSimpArgs false
namespace Go.Proofs.Ytaeafnpldlcdnaa.Fl
open Go.RowKit K Go.Sort Go.Lib Go.Shelf
theorem place_lt : ∀ (l : List Int) (id : Int) (i : Nat), place l id i < i + l.length
  | [], _, i => by rw [place]; simp; omega
  | x :: r, id, i => by
    rw [place]
    have := place_lt r id (i + 1)
    simp only [List.length_cons]
    split <;> omega
def moutI (s : MT) (k : Int) : MT := if k < 0 then s else mout s k.toNat
theorem moutI_roles (s : MT) (k : Int) : (moutI s k).roles = s.roles := by unfold moutI; split <;> rfl
section
variable {w : World} {m : Nat} {s : MT} {F : Nat → Prop}
theorem MTurns.stay (h : MB w m F s) (v : Value) : MTurns v s m F w (.returned v) w := ⟨rfl, F, h, Upd.refl _ _, fun k h => .inl h⟩
theorem MTurns.then {w1 w2 : World} {F1 F2 : Nat → Prop} {s' : MT} (hu : Upd F w w1) (hf : ∀ k, F1 k → F k ∨ w.heap.size ≤ k) (h2 : MB w2 m F2 s') (hu2 : Upd F1 w1 w2) (hf2 : ∀ k, F2 k → F1 k ∨ w1.heap.size ≤ k) : ∃ F', MB w2 m F' s' ∧ Upd F w w2 ∧ ∀ k, F' k → F k ∨ w.heap.size ≤ k :=
  ⟨F2, h2, hu.trans hu2 (fun i hi h => (hf i h).elim (fun h => h) (fun h => by omega)), fun k hk => (hf2 k hk).elim (hf k) (fun h => .inr (Nat.le_trans hu.size h))⟩
theorem MB.roled {w2 : World} {A : Option Addr} {c b : Nat} {G : Option Nat} {R : List (Int × Int)} (HB : Asd (w.heap[m]? = some (.cells #[.int .i64 s.lease, .int .i64 s.left, .map (some b), .bool false, .slice A s.line.length c] 65 (0, 0)))) (HO : Asd (OI w (.slice A s.line.length c) s.line G)) (HN : Asd (m ≠ b ∧ some m ≠ G ∧ some b ≠ G)) (HF : Asd (∀ k, F k ↔ k = m ∨ k = b ∨ some k = G)) (hu : Upd (fun i => i = b) w w2) (hm : mapV w2 Try.prog 3 b (RI R)) : MB w2 m F { s with roles := R } :=
  ⟨A, c, G, b, hu.blk HB.out HN.out.1, HO.out.upd hu (fun g e e2 => HN.out.2.2 (by rw [e, e2])), hm, HN.out.1, HN.out.2.1, HN.out.2.2, HF.out⟩
theorem MB.lined {A A6 : Option Addr} {c c6 b : Nat} {G G6 : Option Nat} {l3 : List Int} {L' : Int} {w6 w7 : World} (HB : Asd (w.heap[m]? = some (.cells #[.int .i64 s.lease, .int .i64 s.left, .map (some b), .bool false, .slice A s.line.length c] 65 (0, 0)))) (HM : Asd (mapV w Try.prog 3 b (RI s.roles))) (HN : Asd (m ≠ b ∧ some m ≠ G ∧ some b ≠ G)) (HF : Asd (∀ k, F k ↔ k = m ∨ k = b ∨ some k = G)) (hU6 : Upd (fun k => some k = G) w w6) (HO6 : Asd (OI w6 (.slice A6 l3.length c6) l3 G6)) (HG6 : Asd (G6 = G ∨ ∀ g, G6 = some g → w.heap.size ≤ g)) (hu : Upd (fun i => i = m) w6 w7) (hb7 : w7.heap[m]? = some (.cells #[.int .i64 s.lease, .int .i64 L', .map (some b), .bool false, .slice A6 l3.length c6] 65 (0, 0))) :
    ∃ F', MB w7 m F' { s with line := l3, left := L' } ∧ Upd F w w7 ∧ ∀ k, F' k → F k ∨ w.heap.size ≤ k := by
  have hm := blk_lt HB.out
  have hbs := HM.out.lt
  obtain ⟨h1, h2, h3⟩ := HN.out
  have n1 : some m ≠ G6 := fun e => by
    rcases HG6.out with h | hg
    · exact h2 (e.trans h)
    · have := hg _ e.symm; omega
  have n2 : some b ≠ G6 := fun e => by
    rcases HG6.out with h | hg
    · exact h3 (e.trans h)
    · have := hg _ e.symm; omega
  refine ⟨fun k => k = m ∨ k = b ∨ some k = G6, ⟨A6, c6, G6, b, hb7, HO6.out.upd hu (fun g e e2 => n1 (by rw [e, e2])), (HM.out.upd hU6 h3).upd hu (fun e => h1 e.symm), h1, n1, n2, fun k => Iff.rfl⟩, (hU6.mono (T := F) (fun i hi h => (HF.out i).2 (.inr (.inr h)))).trans hu (fun i hi e => (HF.out i).2 (.inl e)), fun k hk => ?_⟩
  rcases hk with rfl | rfl | h
  · exact .inl ((HF.out _).2 (.inl rfl))
  · exact .inl ((HF.out _).2 (.inr (.inl rfl)))
  · rcases HG6.out with h' | hg
    · exact .inl ((HF.out _).2 (.inr (.inr (h.trans h'))))
    · exact .inr (hg _ h.symm)
theorem looksR {b : Nat} {R : List (Int × Int)} (hm : mapV w Try.prog 3 b (RI R)) (x : Int) (hx : idOk x) : ∀ W, Upd (fun _ => False) w W → (Instr.lookup 63 (.map (some b)) (.int .i64 x) true).run Try.prog W = .ok (.tuple #[.int .i64 ((rget R x).getD 0), .bool (rget R x).isSome]) W := fun W k => by
  rw [(hm.upd k (fun h => h)).look Try.underlying3 Try.underlying63 zrole x hx, RI_get]
  cases rget R x <;> rfl
set_option maxHeartbeats 1000000 in
theorem outi_calls (h : MB w m F s) (k : Int) (hk : k < s.line.length) (hl : s.line.length ≤ 1000000) : Calls Try.prog 48 #[.pointer (some ⟨m, 0, none⟩), .int .i64 k] w (MTurns (.tuple #[]) (moutI s k) m F w) := by
  by_cases h0 : k < 0
  · have e : moutI s k = s := if_pos h0
    rw [e]
    have HT := Asd.mk h
    clear h e hk
    go_enter Try.func48, Try.ntmps48
    go_wp2
    go_end0
    exact MTurns.stay HT.out _
  · obtain ⟨i, rfl⟩ := Int.eq_ofNat_of_zero_le (by omega : 0 ≤ k)
    have e : moutI s (i : Int) = mout s i := by unfold moutI; rw [if_neg h0]; rfl
    rw [e]
    exact out_calls h i (by omega) hl
/-- The one that is named goes out of the line. -/
def mlose (s : MT) (id : Int) : MT := moutI s (place s.line id 0)
theorem place_lt0 (l : List Int) (id : Int) : place l id 0 < l.length := by have := place_lt l id 0; omega
def mjoins (s : MT) (id r : Int) : Bool := !(rget s.roles id).isSome && (decide (1 ≤ id) && (decide (0 ≤ r) && decide (r ≤ 2)))
def mjoin (s : MT) (id r : Int) : MT := if mjoins s id r then { s with roles := rput s.roles id r } else s
set_option maxHeartbeats 1000000 in
theorem mjoin_calls (h : MB w m F s) (id r : Int) (hid : idOk id) (hr : s.roles.length ≤ 1000000) : Calls Try.prog 25 #[.pointer (some ⟨m, 0, none⟩), .int .i64 id, .int .i64 r] w (MTurns (.bool (mjoins s id r)) (mjoin s id r) m F w) := by
  have HT := Asd.mk h
  obtain ⟨A, c, G, b, HB, HO, HM, HN, HF, hms, hc, hcm⟩ := h.cells
  clear hc hcm
  have c2 := keepsC (o := 2) HB.out rfl
  have hl := looksR HM.out id hid
  clear h
  have HS := Asd.mk (show mjoins s id r = false → MTurns (.bool false) (mjoin s id r) m F w (.returned (.bool false)) w from fun e => by unfold mjoin; rw [e]; exact MTurns.stay HT.out _)
  cases hgs : rget s.roles id with
  | some x =>
    have hj : mjoins s id r = false := by unfold mjoins; rw [hgs]; rfl
    have HE := Asd.mk (HS.out hj)
    rw [hj]
    rw [hgs] at hl
    simp only [Option.getD_some, Option.isSome_some] at hl
    clear HS hgs hj
    go_enter Try.func25, Try.ntmps25
    go_wp2
    go_ret
    exact HE.out
  | none =>
    have hj : mjoins s id r = (decide (1 ≤ id) && (decide (0 ≤ r) && decide (r ≤ 2))) := by unfold mjoins; rw [hgs]; rfl
    rw [hgs] at hl
    simp only [Option.getD_none, Option.isSome_none] at hl
    clear hgs
    by_cases hok : 1 ≤ id ∧ 0 ≤ r ∧ r ≤ 2
    · obtain ⟨h1, h2, h3⟩ := hok
      have hj2 : mjoins s id r = true := by rw [hj]; simp [h1, h2, h3]
      have hjn : mjoin s id r = { s with roles := rput s.roles id r } := if_pos hj2
      rw [hj2, hjn]
      have n1 : ¬ id ≤ 0 := by omega
      have n2 : ¬ r < 0 := by omega
      have n3 : ¬ 2 < r := by omega
      clear HS hj hj2 hjn h1 h2 h3
      go_enter Try.func25, Try.ntmps25
      go_wp2_with (with_reducible refine stop_mapUpdate 63 _ _ _ rfl ?_)
      refine wp_mapUpdate rfl 63 _ _ _ rfl HM.out Try.underlying3 Try.underlying63 (by rw [RI_length]; simp only [maxLen]; omega) id (.int .i64 r) rfl rfl rfl hid ?_
      intro w1 hm hu
      rw [← RI_put] at hm
      have HE := Asd.mk (And.intro (MB.roled HB HO HN HF hu hm) (hu.mono (T := F) (fun i hi e => by rw [e]; exact (HF.out b).2 (.inr (.inl rfl)))))
      clear hm hu
      go_wp2
      go_ret
      exact ⟨rfl, F, HE.out.1, HE.out.2, fun k h => .inl h⟩
    · have hj2 : mjoins s id r = false := by
        rw [hj]
        by_cases h1 : 1 ≤ id
        · by_cases h2 : 0 ≤ r
          · have h3 : ¬ r ≤ 2 := fun h3 => hok ⟨h1, h2, h3⟩
            simp [h3]
          · simp [h2]
        · simp [h1]
      have HE := Asd.mk (HS.out hj2)
      rw [hj2]
      clear HS hj hj2
      rcases (by omega : id ≤ 0 ∨ (0 < id ∧ r < 0) ∨ (0 < id ∧ 0 ≤ r ∧ 2 < r)) with h1 | ⟨h1, h2⟩ | ⟨h1, h2, h3⟩
      all_goals
        clear hok
        go_enter Try.func25, Try.ntmps25
        go_wp2
        go_ret
        exact HE.out
def mleaves (s : MT) (id : Int) : Bool := (rget s.roles id).isSome
def mleave (s : MT) (id : Int) : MT := { mlose s id with roles := rdel s.roles id }
set_option maxHeartbeats 1000000 in
theorem mleave_calls (h : MB w m F s) (id : Int) (hid : idOk id) (hq : s.line.length ≤ 1000000) : Calls Try.prog 26 #[.pointer (some ⟨m, 0, none⟩), .int .i64 id] w (MTurns (.bool (mleaves s id)) (mleave s id) m F w) := by
  have HT := Asd.mk h
  obtain ⟨A, c, G, b, HB, HO, HM, HN, HF, hms, hc, hcm⟩ := h.cells
  clear hc hcm
  have c2 := keepsC (o := 2) HB.out rfl
  have hl := looksR HM.out id hid
  clear h HB HO HM HN HF
  have e1 : mleaves s id = (rget s.roles id).isSome := rfl
  rw [e1]
  obtain ⟨bb, hbb⟩ : ∃ bb, bb = (rget s.roles id).isSome := ⟨_, rfl⟩
  rw [← hbb] at hl
  rw [← hbb]
  clear hbb e1
  go_enter Try.func26, Try.ntmps26
  go_wp2_with fail
  refine (place_calls HT.out id).mono ?_
  rintro e w1 ⟨rfl, rfl⟩
  go_wp2_with fail
  refine (outi_calls HT.out _ (place_lt0 _ _) hq).mono ?_
  rintro e w1 ⟨rfl, F1, ht, hu, hf⟩
  have HU := Asd.mk (And.intro hu hf)
  obtain ⟨A, c, G, b, HB, HO, HM, HN, HF, hts, hc, hcm⟩ := ht.cells
  have c2 := keepsC (o := 2) HB.out rfl
  clear hu hf ht hl hc hcm
  go_wp2_with (with_reducible refine stop_delete _ _ 63 3 rfl ?_)
  refine wp_delete rfl 63 _ _ rfl HM.out Try.underlying3 Try.underlying63 id rfl rfl hid ?_
  intro w2 hm hu
  rw [← RI_del, moutI_roles] at hm
  have HE := Asd.mk (MTurns.then HU.out.1 HU.out.2 (MB.roled HB HO HN HF hu hm) (hu.mono (T := F1) (fun i hi e => by rw [e]; exact (HF.out b).2 (.inr (.inl rfl)))) (fun k h => .inl h))
  clear hm hu
  go_wp2
  go_ret
  exact ⟨rfl, HE.out⟩
def msets (s : MT) (id r : Int) : Bool := (rget s.roles id).isSome && (decide (0 ≤ r) && decide (r ≤ 2))
def msetRole (s : MT) (id r : Int) : MT := if msets s id r then (if r = 0 then mlose { s with roles := rput s.roles id r } id else { s with roles := rput s.roles id r }) else s
set_option maxHeartbeats 1000000 in
theorem mset_calls (h : MB w m F s) (id r : Int) (hid : idOk id) (hq : s.line.length ≤ 1000000) (hr : s.roles.length ≤ 1000000) : Calls Try.prog 27 #[.pointer (some ⟨m, 0, none⟩), .int .i64 id, .int .i64 r] w (MTurns (.bool (msets s id r)) (msetRole s id r) m F w) := by
  have HT := Asd.mk h
  obtain ⟨A, c, G, b, HB, HO, HM, HN, HF, hms, hc, hcm⟩ := h.cells
  clear hc hcm
  have c2 := keepsC (o := 2) HB.out rfl
  have hl := looksR HM.out id hid
  clear h
  have HS := Asd.mk (show msets s id r = false → MTurns (.bool false) (msetRole s id r) m F w (.returned (.bool false)) w from fun e => by unfold msetRole; rw [e]; exact MTurns.stay HT.out _)
  cases hgs : rget s.roles id with
  | none =>
    have hv : msets s id r = false := by unfold msets; rw [hgs]; rfl
    have HE := Asd.mk (HS.out hv)
    rw [hv]
    rw [hgs] at hl
    simp only [Option.getD_none, Option.isSome_none] at hl
    clear hgs hv HB HO HM HN HF HS
    go_enter Try.func27, Try.ntmps27
    go_wp2
    go_ret
    exact HE.out
  | some x =>
    have hj : msets s id r = (decide (0 ≤ r) && decide (r ≤ 2)) := by unfold msets; rw [hgs]; rfl
    rw [hgs] at hl
    simp only [Option.getD_some, Option.isSome_some] at hl
    clear hgs
    by_cases hok : 0 ≤ r ∧ r ≤ 2
    · obtain ⟨h2, h3⟩ := hok
      have hj2 : msets s id r = true := by rw [hj]; simp [h2, h3]
      rw [hj2]
      have n2 : ¬ r < 0 := by omega
      have n3 : ¬ 2 < r := by omega
      have HJ := Asd.mk (show msetRole s id r = if r = 0 then mlose { s with roles := rput s.roles id r } id else { s with roles := rput s.roles id r } from if_pos hj2)
      clear HS hj hj2 h2 h3
      go_enter Try.func27, Try.ntmps27
      go_wp2_with (with_reducible refine stop_mapUpdate 63 _ _ _ rfl ?_)
      refine wp_mapUpdate rfl 63 _ _ _ rfl HM.out Try.underlying3 Try.underlying63 (by rw [RI_length]; simp only [maxLen]; omega) id (.int .i64 r) rfl rfl rfl hid ?_
      intro w1 hm hu
      rw [← RI_put] at hm
      have H1 := Asd.mk (MB.roled HB HO HN HF hu hm)
      have H2 := Asd.mk (hu.mono (T := F) (fun i hi e => by rw [e]; exact (HF.out b).2 (.inr (.inl rfl))))
      clear hm hu
      by_cases h0 : r = 0
      · subst h0
        go_wp2_with fail
        refine (place_calls H1.out id).mono ?_
        rintro e w2 ⟨rfl, rfl⟩
        go_wp2_with fail
        refine (outi_calls H1.out _ (place_lt0 _ _) hq).mono ?_
        rintro e w2 ⟨rfl, F2, ht, hu, hf⟩
        have HE := Asd.mk (MTurns.then H2.out (fun k h => .inl h) ht hu hf)
        clear ht hu hf
        go_wp2
        go_ret
        exact ⟨rfl, by rw [HJ.out]; simpa [mlose] using HE.out⟩
      · have hb0 : (r == 0) = false := beq_eq_false_iff_ne.2 h0
        have HJ2 := Asd.mk (HJ.out.trans (if_neg h0))
        clear h0
        go_wp2
        go_ret
        exact ⟨rfl, by rw [HJ2.out]; exact ⟨F, H1.out, H2.out, fun k h => .inl h⟩⟩
    · have hj2 : msets s id r = false := by
        rw [hj]
        by_cases h2 : 0 ≤ r
        · have h3 : ¬ r ≤ 2 := fun h3 => hok ⟨h2, h3⟩
          simp [h3]
        · simp [h2]
      have HE := Asd.mk (HS.out hj2)
      rw [hj2]
      clear HS hj hj2
      rcases (by omega : r < 0 ∨ (0 ≤ r ∧ 2 < r)) with h1 | ⟨h1, h2⟩
      all_goals
        clear hok
        go_enter Try.func27, Try.ntmps27
        go_wp2
        go_ret
        exact HE.out
end
end Go.Proofs.Ytaeafnpldlcdnaa.Fl
