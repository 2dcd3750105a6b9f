/- What these laws lean on, part Vl: contracts of the given program's functions and plain lists. No condition. -/
import Derived.Test.YteepkanbiefpjaaGreatDoorVk
import Derived.Test.YteepkanbiefpjaaGreatDoorVf
import Derived.OrdersIn
import Derived.Deep.RegionHeld3
import Derived.Test.YteepkanbiefpjaaGreatDoorVa
set_option linter.unusedVariables false
set_option linter.unusedSimpArgs false
namespace Go.Proofs.YteepkanbiefpjaaGreatDoor.Bk
open Go.RowKit K
open MgRow (M)
theorem ids_send (s : Br) (id : Int) (m : M) : ids (send s id m) = ids s := (sm_send' s id m).ids
theorem ids_tell (s : Br) (m : M) : ids (tell s m) = ids s := (sm_tell' s m).ids
theorem ids_shut (s : Br) (id why : Int) : ids (shut s id why) = ids s := by
  unfold shut
  split
  · exact ids_send _ _ _
  · rw [(sm_leave' _ _).ids]; exact ids_send _ _ _
theorem ids_turnedN : ∀ (k : Nat) (s : Br), ids (turnedN k s) = ids s
  | 0, s => rfl
  | k + 1, s => by
    unfold turnedN
    split
    · rfl
    · rw [ids_turnedN k, ids_tell]; rfl
theorem ids_turned (s : Br) : ids (turned s) = ids s := ids_turnedN 40 s
theorem ids_list (s : Br) (id : Int) : ids (listN s id) = ids s := by
  have : ∀ (l : List Int) (t : Br), ids (l.foldl (fun s j => send s id (note (listT s j ((Fl.rget s.tab.roles j).getD 0)))) t) = ids t := by
    intro l
    induction l with
    | nil => exact fun t => rfl
    | cons a l ih => exact fun t => (ih _).trans (ids_send _ _ _)
  exact this _ s
theorem ids_does (s : Br) (id k x : Int) : ids (does s id k x).1 = ids s := by
  unfold does toOther
  repeat' split
  all_goals first | rfl | exact ids_list _ _ | exact ids_shut _ _ _ | exact ids_set _ _ _
theorem line_shut (id : Int) : ∀ (L : List (List UInt8)) (s : Br), openS s id = false → L.foldl (line id) s = s
  | [], s, h => rfl
  | l :: L, s, h => by
    rw [List.foldl_cons]
    have : line id s l = s := by unfold line; rw [h]; rfl
    rw [this]
    exact line_shut id L s h
theorem line_next {b : List (List UInt8)} {c : List UInt8} {i : Nat} (id : Int) (s : Br) (h : b.drop i = c :: b.drop (i + 1)) : (b.drop i).foldl (line id) s = (b.drop (i + 1)).foldl (line id) (line id s c) := by rw [h, List.foldl_cons]
theorem some_ids {s s' : Br} {id : Int} {c : Cn} (h : get s id = some c) (e : ids s' = ids s) : ∃ c', get s' id = some c' := ids_get (by rw [e]; exact get_ids h)
section
variable {w w' : World} {L : Lay} {s : Br} {F : Nat → Prop} {id : Int} {c : Cn}
theorem BkAt.turnE (h : BkAt L w s F) (i : Part) : ∃ Fi, PartAt L s i w Fi ∧ (∀ k, Fi k → F k) ∧
    ∀ (w' : World) (s' : Br) (Fi' : Nat → Prop), PartAt L s' i w' Fi' → (∀ j, j ≠ i → ∀ W Fj, PartAt L s j W Fj → PartAt L s' j W Fj) → Tn w Fi w' Fi' → ∃ F', BkAt L w' s' F' ∧ Tn w F w' F' ∧ ∀ k, F' k → F k ∨ Fi' k := by
  classical
  obtain ⟨Fm, h1, h2, h3⟩ := h.has
  refine ⟨Fm i, h1 i, fun k hk => (h3 k).2 ⟨i, hk⟩, fun w' s' Fi' a1 a2 a3 => ?_⟩
  refine ⟨fun k => ∃ j, (if j = i then Fi' k else Fm j k), ⟨fun j k => if j = i then Fi' k else Fm j k, fun j => ?_, fun a b k hab ha hb => ?_, fun k => Iff.rfl⟩, ⟨?_, fun k hk => ?_⟩, fun k hk => ?_⟩
  · by_cases hj : j = i
    · subst hj; simp only [if_true]; exact a1
    · simp only [hj, if_false]
      exact a2 j hj w' (Fm j) ((h1 j).upd a3.upd (fun k hk hk2 => h2 j i k hj hk hk2))
  · simp only at ha hb
    by_cases hi' : a = i <;> by_cases hj' : b = i
    · exact hab (hi'.trans hj'.symm)
    · rw [if_pos hi'] at ha
      rw [if_neg hj'] at hb
      rcases a3.new k ha with e | e
      · exact h2 b i k hj' hb e
      · have := (h1 b).lt k hb; omega
    · rw [if_neg hi'] at ha
      rw [if_pos hj'] at hb
      rcases a3.new k hb with e | e
      · exact h2 a i k hi' ha e
      · have := (h1 a).lt k ha; omega
    · rw [if_neg hi'] at ha
      rw [if_neg hj'] at hb
      exact h2 a b k hab ha hb
  · exact a3.upd.mono (fun k _ hk => (h3 k).2 ⟨i, hk⟩)
  · obtain ⟨j, hj⟩ := hk
    split at hj
    · exact (a3.new k hj).imp (fun e => (h3 k).2 ⟨i, e⟩) (fun e => e)
    · exact .inl ((h3 k).2 ⟨j, hj⟩)
  · obtain ⟨j, hj⟩ := hk
    split at hj
    · exact .inr hj
    · exact .inl ((h3 k).2 ⟨j, hj⟩)
def cLx (c : Cn) (x : Lx) : Cn := { c with lx := x }
theorem Bt.lexer (h : Bt L w s F) (hg : get s id = some c) : ∃ Fl, LexAt w (L.cn id).pl c.lx Fl ∧ (∀ k, Fl k → F k) ∧ ∀ (w' : World) (x : Lx) (Fl' : Nat → Prop), LexAt w' (L.cn id).pl x Fl' → Upd Fl w w' → (∀ k, Fl' k → Fl k ∨ w.heap.size ≤ k) → ∃ F', Bt L w' (set s id (cLx c x)) F' ∧ Tn w F w' F' ∧ ∀ k, F' k → F k ∨ Fl' k := by
  obtain ⟨Fi, hp, hF, hput⟩ := h.bk.turnE (.lex id)
  simp only [PartAt] at hp
  rw [hg] at hp
  refine ⟨Fi, hp, hF, fun w' x Fl' a1 a2 a3 => ?_⟩
  obtain ⟨F', hbk, ht, he⟩ := hput w' (set s id (cLx c x)) Fl' (by simp only [PartAt]; rw [get_set_same hg]; exact a1) (fun j hj W Fj hw => set_part hg hw (fun _ => ⟨rfl, rfl, rfl, rfl⟩) (fun _ => ⟨rfl, rfl⟩) (fun e => absurd e hj) (fun _ => rfl)) ⟨a2, a3⟩
  exact ⟨F', h.go hbk ht, ht, he⟩
theorem Bt.input (h : Bt L w s F) : ∃ Fi, Iq.QI w L.ip Fi s.inp ∧ (∀ k, Fi k → F k) ∧ ∀ (w' : World) (x : Iq.QS) (Fi' : Nat → Prop), Iq.QI w' L.ip Fi' x → Upd Fi w w' → (∀ k, Fi' k → Fi k ∨ w.heap.size ≤ k) → ∃ F', Bt L w' (wInp s x) F' ∧ Tn w F w' F' ∧ ∀ k, F' k → F k ∨ Fi' k := by
  obtain ⟨Fi, hp, hF, hput⟩ := h.bk.turnE .input
  refine ⟨Fi, hp, hF, fun w' x Fi' a1 a2 a3 => ?_⟩
  obtain ⟨F', hbk, ht, he⟩ := hput w' (wInp s x) Fi' a1 (fun j hj W Fj hw => by cases j <;> first | exact hw | exact absurd rfl hj) ⟨a2, a3⟩
  exact ⟨F', h.go hbk ht, ht, he⟩
end
theorem conv_bytes (t : List UInt8) : ∃ (kc : World → Nat) (bw : World → World), (∀ W, (convert 9 31 (.string (S t))).run Tryz.prog W = .ok (.slice (some ⟨W.heap.size, 0, none⟩) t.length (kc W)) (bw W)) ∧ (∀ W, Upd (fun _ => False) W (bw W)) ∧ (t.length ≤ 9223372036854775807 → ∀ W, Rd (bw W) (some ⟨W.heap.size, 0, none⟩) t.length t) := by
  refine ⟨fun W => grownCap W (S t).size 0 5, fun W => Lib.bytesWorld W 5 (S t), fun W => ?_, fun W => Or.bytes_upd _ _ _, fun hl W => ⟨rfl, hl, fun j u hj => ⟨_, rfl, ?_⟩⟩⟩
  · rw [Lib.run_convert_string_bytes W 9 31 5 (S t) Tryz.underlying9 Tryz.underlying31 Tryz.underlying5, S_size]
  · have hjl : j < t.length := by
      rcases Nat.lt_or_ge j t.length with h | h
      · exact h
      · rw [List.getElem?_eq_none (by rw [B_length]; exact h)] at hj; cases hj
    rw [B_get t j hjl] at hj
    cases hj
    rw [add_lit, Nat.zero_add, Lib.bytesWorld_cell W 5 (S t) j (by rw [S_size]; exact hjl)]
    have : (S t).data.toList = t := by simp [S]
    rw [this]
    simp [List.getD, hjl]
def Lines (w : World) (F : Nat → Prop) (Ao : Option Addr) (co : Nat) (ln : List (List UInt8)) : Prop := ∃ Go, OwnS w Ao co ln Go ∧ ∀ g, Go = some g → ¬ F g
theorem Lines.tn {w w' : World} {F F' : Nat → Prop} {Ao : Option Addr} {co : Nat} {ln : List (List UInt8)} (h : Lines w F Ao co ln) (t : Tn w F w' F') : Lines w' F' Ao co ln := by
  obtain ⟨Go, h1, h2⟩ := h
  refine ⟨Go, Own.upd h1 t.upd h2, fun g e hf => ?_⟩
  rcases t.new g hf with h | h
  · exact h2 g e h
  · have := Own.lt h1 g e; omega
theorem Lines.up {w w' : World} {F : Nat → Prop} {Ao : Option Addr} {co : Nat} {ln : List (List UInt8)} (h : Lines w F Ao co ln) (t : Upd (fun _ => False) w w') : Lines w' F Ao co ln := h.tn (Tn.grow F t)
section
variable {w w' : World} {L : Lay} {s : Br} {F : Nat → Prop} {id : Int} {c : Cn}
set_option maxHeartbeats 16000000 in
set_option maxRecDepth 100000 in
theorem typed_calls (n : Nat) (h : Bt L w s F) (hd : Gd n s) (hn : n ≤ 100000000) (hg : get s id = some c) (m : M) (ht : m.t.length ≤ 3000) : Calls Tryz.prog 81 #[ptr L.q, ptr (L.cn id).p, Vw.msgV m] w (Goes L (typed s id m) F w (.tuple #[])) := by
  obtain ⟨y, hy⟩ : ∃ y, y = typed s id m := ⟨_, rfl⟩
  rw [← hy]
  unfold Vw.msgV
  have H := Asd.mk h
  have HD := Asd.mk hd
  have HG := Asd.mk hg
  have HIR := Asd.mk (hd.ok.rng id (get_ids hg))
  have hk1 := (Upd.refl (fun _ => False) w).alloc (.cells #[.int .i64 m.k, .int .i64 m.a, .int .i64 m.b, .string (S m.t)] 36)
  have hm1 := heap_alloc_new w (.cells #[.int .i64 m.k, .int .i64 m.a, .int .i64 m.b, .string (S m.t)] 36)
  have hs1 := Upd.refl (fun _ => False) (w.alloc (.cells #[.int .i64 m.k, .int .i64 m.a, .int .i64 m.b, .string (S m.t)] 36))
  have m1 := keepsC (o := 1) (v := .int .i64 m.a) hm1 rfl
  have m3 := keepsC (o := 3) (v := .string (S m.t)) hm1 rfl
  have HM1 := Asd.mk hm1
  obtain ⟨v, hb⟩ := (h.up hk1).conn hg
  have b5 := keepsC (o := 5) (v := ptr (L.cn id).pl) hb rfl
  have HH := Asd.mk (h.up hk1)
  have HFS : Asd (∀ k, F k → k < w.heap.size) := ⟨h.bk.lt⟩
  obtain ⟨xl, ky, ln, hx⟩ : ∃ xl ky ln, lxAll c.lx m.t = (xl, ky, ln) := ⟨_, _, _, rfl⟩
  have HX := Asd.mk hx
  have hlx := lxAll_ok (hd.cns id c hg).lx m.t
  rw [hx] at hlx
  have HLX : Asd (LxOk xl ∧ ∀ l ∈ ln, l.length ≤ 80) := ⟨hlx⟩
  have hll := lxAll_len c.lx m.t
  rw [hx] at hll
  have hll : ky.length ≤ m.t.length ∧ ln.length ≤ m.t.length := hll
  have HLL : Asd (ky.length ≤ m.t.length ∧ ln.length ≤ m.t.length) := ⟨hll⟩
  obtain ⟨s1, hs1d⟩ : ∃ s1, s1 = set s id (cLx c xl) := ⟨_, rfl⟩
  have HS1 := Asd.mk hs1d
  have HG1 : Asd (get s1 id = some (cLx c xl)) := ⟨by rw [hs1d]; exact get_set_same hg⟩
  have HD1 : Asd (Gd n s1) := ⟨by rw [hs1d]; exact hd.set (c' := cLx c xl) hg rfl (fun _ => rfl) { (hd.cns id c hg) with lx := hlx.1 }⟩
  obtain ⟨ofr, hofr⟩ : ∃ ofr, ofr = Iq.offer s1.inp s1.tab id ky := ⟨_, rfl⟩
  obtain ⟨why, hwhy⟩ : ∃ why, why = Iq.why s1.inp s1.tab id ky.length := ⟨_, rfl⟩
  have HOF := Asd.mk hofr
  have HWH := Asd.mk hwhy
  have HY : Asd (y = ln.foldl (line id) (if ky = [] then s1 else if why = 0 then wInp s1 ofr else send (wInp s1 ofr) id ⟨8, m.a, why, []⟩)) := ⟨by
    rw [hy, hofr, hwhy, hs1d]
    unfold typed
    rw [hg]
    simp only
    rw [hx]
    rfl⟩
  have HDI : Asd (Gd (n + m.t.length) (wInp s1 ofr)) := ⟨by
    refine HD1.out.inp _ ?_ (by omega)
    have h1 := HD1.out.tot
    rw [hofr]
    rcases offer_total s1.inp s1.tab id ky with e | e <;> rw [e] <;> omega⟩
  obtain ⟨kc, bw, hcv, hbu, hbr⟩ := conv_bytes m.t
  have HBU := Asd.mk hbu
  have HBR := Asd.mk hbr
  have HLC := Asd.mk (hd.cns id c hg).lx
  have hlen := m.t.length
  clear h hd hg hy hm1 hb hx hlx hll hs1d hofr hwhy hbu hbr hlen
  go_enter Tryz.func81, Tryz.ntmps81
  go_wp2
  generalize hw1 : w.alloc (.cells #[.int .i64 m.k, .int .i64 m.a, .int .i64 m.b, .string (S m.t)] 36) = w1 at hk1 hs1 m1 m3 HM1 b5 HH ⊢
  clear hw1
  refine wp_region_held_drew (S := fun W => W.cell? ⟨(L.cn id).p, 5, none⟩ = some (ptr (L.cn id).pl) ∧ W.cell? ⟨w.heap.size, 3, none⟩ = some (.string (S m.t))) (by kernel_rfl) (by exact ⟨b5 _ (by repeat (first | assumption | with_reducible exact Upd.refl _ _ | with_reducible refine Upd.drewN ?_ _ | with_reducible refine Upd.drew ?_ | with_reducible refine Upd.alloc ?_ _ | with_reducible refine Upd.setAt ?_ ?_ | exact Or.inl rfl | exact Or.inr (by simp) | exact Or.inr (by omega))), m3 _ (by repeat (first | assumption | with_reducible exact Upd.refl _ _ | with_reducible refine Upd.drewN ?_ _ | with_reducible refine Upd.drew ?_ | with_reducible refine Upd.alloc ?_ _ | with_reducible refine Upd.setAt ?_ ?_ | exact Or.inl rfl | exact Or.inr (by simp) | exact Or.inr (by omega)))⟩) (fun hHeld => ?_)
  refine tk_ 0 ?_
  try simp only [Act.put, sl1_, sl2_, sl3_]
  refine tk_ 1 ?_
  try simp only [Act.put, sl1_, sl2_, sl3_]
  refine tk_ 2 ?_
  try simp only [Act.put, sl1_, sl2_, sl3_]
  refine tk_ 3 ?_
  try simp only [Act.put, sl1_, sl2_, sl3_]
  refine tk_ 4 ?_
  try simp only [Act.put, sl1_, sl2_, sl3_]
  refine tk_ 5 ?_
  try simp only [Act.put, sl1_, sl2_, sl3_]
  refine wpAnyH_ready (rs := [6]) (by kernel_rfl) (by simp) (AllReadyH.cons (o := ?_) ?_ (fun K hK => ?_) AllReadyH.nil)
  rotate_left 1
  · (simp only [List.getElem?_toArray, List.getElem?_cons_succ, List.getElem?_cons_zero]; exact rfl)
  go_simp
  refine hK.out _ _ (by exact ⟨b5 _ ((show Upd (fun _ => False) w1 w1.drew from (by repeat (first | assumption | with_reducible exact Upd.refl _ _ | with_reducible refine Upd.drewN ?_ _ | with_reducible refine Upd.drew ?_ | with_reducible refine Upd.alloc ?_ _ | with_reducible refine Upd.setAt ?_ ?_ | exact Or.inl rfl | exact Or.inr (by simp) | exact Or.inr (by omega)))).trans (HBU.out _) (fun _ _ h => h)), m3 _ ((show Upd (fun _ => False) w1 w1.drew from (by repeat (first | assumption | with_reducible exact Upd.refl _ _ | with_reducible refine Upd.drewN ?_ _ | with_reducible refine Upd.drew ?_ | with_reducible refine Upd.alloc ?_ _ | with_reducible refine Upd.setAt ?_ ?_ | exact Or.inl rfl | exact Or.inr (by simp) | exact Or.inr (by omega)))).trans (HBU.out _) (fun _ _ h => h))⟩) (fun hHeld => ?_)
  clear hK K
  try simp only [Act.put, List.setIfInBounds_toArray, List.set_cons_zero, List.set_cons_succ]
  refine wpAnyH_ready (rs := [7]) (by kernel_rfl) (by simp) (AllReadyH.cons (o := ?_) ?_ (fun K hK => ?_) AllReadyH.nil)
  rotate_left 1
  · (simp only [List.getElem?_toArray, List.getElem?_cons_succ, List.getElem?_cons_zero]; exact rfl)
  (go_simp; (go_at_call 102; have hX := (show Upd (fun _ => False) w1 w1.drew from (by repeat (first | assumption | with_reducible exact Upd.refl _ _ | with_reducible refine Upd.drewN ?_ _ | with_reducible refine Upd.drew ?_ | with_reducible refine Upd.alloc ?_ _ | with_reducible refine Upd.setAt ?_ ?_ | exact Or.inl rfl | exact Or.inr (by simp) | exact Or.inr (by omega)))).trans (HBU.out w1.drew) (fun _ _ h => h); obtain ⟨Fl, hLx, hFl, hput⟩ := (HH.out.up hX).lexer HG.out; refine (lpush_calls hLx HLC.out _ _ _ m.t (HBR.out (by omega) _) (fun ad e hf => by cases e; have h8 : w1.drew.heap.size < w.heap.size := HFS.out _ (hFl _ hf); have h9 := hk1.drew.size; omega) (by omega)).mono ?_; rw [HX.out]; rintro e w5 ⟨Ak, ck, Ao, co, rfl, hPI⟩; obtain ⟨F1, Gk, Go, p1, p2, p3, p4, p5, p6, p7⟩ := hPI.has; obtain ⟨F5, h5, t5, e5⟩ := hput w5 xl F1 p1 p2 p3; rw [← HS1.out] at h5; have H5 := Asd.mk h5; have X5 := (hk1.trans hX (fun _ _ h => h)); have T5 := Asd.mk ((Tn.grow F X5).trans t5); have K5 := Asd.mk p4.rd; have O5 : Asd (Lines w5 F5 Ao co ln) := ⟨Go, p5, fun g e hf => (e5 g hf).elim (fun h => by have := HFS.out g h; have := (p7 g e).1; have := X5.size; omega) (fun h => (p7 g e).2.1 h)⟩; have M5 := Asd.mk (p2.blk (hX.blk HM1.out (fun h => h)) (fun hf => by have := HFS.out _ (hFl _ hf); omega)); obtain ⟨v5, hb5⟩ := h5.conn HG1.out; have HMF : Asd (¬ F5 w.heap.size) := ⟨fun hf => (e5 _ hf).elim (fun h => by have := HFS.out _ h; omega) (fun h => (p3 _ h).elim (fun h => by have := HFS.out _ (hFl _ h); omega) (fun h => by have h9 := blk_lt (hX.blk HM1.out (fun h => h)); omega))⟩; have HC5 := Asd.mk (And.intro (keepsC (o := 5) (v := ptr (L.cn id).pl) hb5 rfl _ (Upd.refl _ _)) (keepsC (o := 3) (v := .string (S m.t)) M5.out rfl _ (Upd.refl _ _))); clear hX hLx hFl hput hPI p1 p2 p3 p4 p5 p6 p7 h5 t5 e5 hb5 X5))
  refine hK.out _ _ (by exact HC5.out) (fun hHeld => ?_)
  clear hK K
  try simp only [Act.put, List.setIfInBounds_toArray, List.set_cons_zero, List.set_cons_succ]
  refine tk_ 8 ?_
  try simp only [Act.put, sl1_, sl2_, sl3_]
  refine tk_ 9 ?_
  try simp only [Act.put, sl1_, sl2_, sl3_]
  refine tk_ 10 ?_
  try simp only [Act.put, sl1_, sl2_, sl3_]
  refine tk_ 11 ?_
  try simp only [Act.put, sl1_, sl2_, sl3_]
  refine tk_ 12 ?_
  try simp only [Act.put, sl1_, sl2_, sl3_]
  refine wpAnyH_done (by kernel_rfl) ?_ _
  clear b5 m1 m3 hs1 hcv HBU HBR HH hk1 HM1
  try clear hHeld
  by_cases hky : ky = []
  · have HYY : Asd (y = (ln.drop 0).foldl (line id) s1) := ⟨by rw [HY.out, if_pos hky]; rfl⟩
    have hkl : ky.length = 0 := by rw [hky]; rfl
    have HE2 : Asd (∃ c', get s1 id = some c') := ⟨_, HG1.out⟩
    have HD2 : Asd (Gd (n + m.t.length) s1) := ⟨HD1.out.mono (by omega)⟩
    clear hky
    go_wp2
    go_loopw [52] (fun v52 wr => ∃ (i : Nat) (st : Br) (F1 : Nat → Prop), v52 = .int .i64 (i : Int) ∧ i ≤ ln.length ∧ Asd (Bt L wr st F1) ∧ Asd (Gd (n + m.t.length) st) ∧ Asd (∃ c', get st id = some c') ∧ Asd (y = (ln.drop i).foldl (line id) st) ∧ Asd (Lines wr F1 Ao co ln) ∧ Asd (Tn w F wr F1)) (fun v52 _ => ln.length - (intOf v52).toNat)
    case atStart => exact ⟨0, s1, F5, rfl, Nat.zero_le _, H5, HD2, HE2, HYY, O5, T5⟩
    case round =>
      obtain ⟨i, st, F1, rfl, hi, HB, HGD, HEX, HL, HS, HTn⟩ := hrel
      by_cases hlt : i < ln.length
      · obtain ⟨l, hl⟩ : ∃ l, l = ln[i]'hlt := ⟨_, rfl⟩
        have hdrop : ln.drop i = l :: ln.drop (i + 1) := by rw [hl]; exact List.drop_eq_getElem_cons hlt
        obtain ⟨Go, hos, _⟩ := HS.out
        obtain ⟨A1, c1, he1, _, _, hrow, _⟩ := K.Own.slice hos
        obtain ⟨rfl, rfl⟩ : Ao = A1 ∧ co = c1 := by injection he1 with a b c; exact ⟨a, c⟩
        obtain ⟨ad, rfl, hcell⟩ := hrow i (.string (S l)) (by rw [List.getElem?_map, List.getElem?_eq_getElem hlt, ← hl]; rfl)
        have hlm : l.length ≤ 80 := HLX.out.2 l (by rw [hl]; exact List.getElem_mem _)
        have hcell2 : ∀ W, Upd (fun _ => False) wr W → W.cell? (ad.add i) = some (.string (S l)) := fun W k => k.cell hcell (fun h => h)
        obtain ⟨cx, hcx⟩ := HEX.out
        have HCX := Asd.mk hcx
        obtain ⟨vx, hbx⟩ := HB.out.conn hcx
        have x1 := keepsC (o := 1) (v := .int .i64 cx.st) hbx rfl
        have hs2 : Upd (fun _ => False) wr wr := Upd.refl _ _
        have HST := Asd.mk (line_next id st hdrop)
        clear hl hdrop hos he1 hrow hcell hcx hbx
        by_cases hst : cx.st = 1
        case neg =>
          have hb : (cx.st != 1) = true := bne_iff_ne.2 hst
          have HE : Asd (y = st) := ⟨by rw [HL.out]; exact line_shut id _ st (by unfold openS; rw [HCX.out]; exact beq_eq_false_iff_ne.2 hst)⟩
          clear hst
          go_wp2
          go_end0
          exact ⟨rfl, F1, by rw [HE.out]; exact HB.out, HTn.out⟩
        have hb : (cx.st != 1) = false := by rw [hst]; rfl
        obtain ⟨k, nn, er, hpr⟩ : ∃ k nn er, Or.parse l = (k, nn, er) := ⟨_, _, _, rfl⟩
        have hpk := parse_ok l
        rw [hpr] at hpk
        have HPK : Asd (er = 0 → 1 ≤ k ∧ k ≤ 11 ∧ 0 ≤ nn ∧ nn ≤ 1099511627776) := ⟨hpk⟩
        have HLI : Asd (line id st l = turned (if (if er ≠ 0 then (st, false) else does st id k nn).2 then (if er ≠ 0 then (st, false) else does st id k nn).1 else send (if er ≠ 0 then (st, false) else does st id k nn).1 id ⟨11, 0, 0, l⟩)) := ⟨by unfold line; rw [show openS st id = true from by unfold openS; rw [HCX.out]; exact beq_iff_eq.2 hst]; simp only [if_true]; rw [hpr]⟩
        have HCS := Asd.mk hst
        have HPR := Asd.mk hpr
        clear hpr hpk hst
        go_wp2_with fail
        refine (Or.parse_calls HB.out.env l (by omega)).mono ?_
        rw [HPR.out]
        rintro e w7 ⟨rfl, hu7⟩
        have HB7 := Asd.mk (HB.out.up hu7)
        have HT7 := Asd.mk (HTn.out.trans (Tn.grow F1 hu7))
        have HS7 := Asd.mk (HS.out.up hu7)
        have hk8 := (Upd.refl (fun _ => False) w7).alloc (.cells #[.int .i64 k, .int .i64 nn] 44)
        have hb8 := heap_alloc_new w7 (.cells #[.int .i64 k, .int .i64 nn] 44)
        have y0 := keepsC (o := 0) (v := .int .i64 k) hb8 rfl
        have y1 := keepsC (o := 1) (v := .int .i64 nn) hb8 rfl
        have hs8 := Upd.refl (fun _ => False) (w7.alloc (.cells #[.int .i64 k, .int .i64 nn] 44))
        have HB8 := Asd.mk (HB7.out.up hk8)
        have HS8 := Asd.mk (HS7.out.up hk8)
        have HT8 := Asd.mk (HT7.out.trans (Tn.grow F1 hk8))
        clear hb8 hk8 hu7 hcell2 x1 hs2
        by_cases her : er = 0
        · have hbe : (er != 0) = false := by rw [her]; rfl
          have hLI2 : line id st l = turned (if (does st id k nn).2 then (does st id k nn).1 else send (does st id k nn).1 id ⟨11, 0, 0, l⟩) := by rw [HLI.out, show (if er ≠ 0 then (st, false) else does st id k nn) = does st id k nn from if_neg (fun h => h her)]
          have HLI2 := Asd.mk hLI2
          have hkn := HPK.out her
          clear hLI2 her
          go_wp2_with fail
          refine (does_calls HB8.out HGD.out.ok HCX.out HCS.out k nn ⟨hkn.1, hkn.2.1⟩ hkn.2.2 HGD.out.names).mono ?_
          obtain ⟨d, hd⟩ : ∃ d, d = does st id k nn := ⟨_, rfl⟩
          have hdg := HGD.out.does id k nn hkn.2.2.1
          have hdi := ids_does st id k nn
          rw [← hd] at HLI2 hdg hdi ⊢
          rintro e w9 ⟨rfl, F9, h9, t9⟩
          have HB9 := Asd.mk h9
          have HT9 := Asd.mk (HT8.out.trans t9)
          have HS9 := Asd.mk (HS8.out.tn t9)
          have HGD9 := Asd.mk hdg
          obtain ⟨c9, hc9⟩ := some_ids HCX.out hdi
          have HC9 := Asd.mk hc9
          clear h9 t9 hdg hdi hc9 y0 y1 hs8 hd
          cases hd2 : d.2 with
          | true =>
            have HL9 : Asd (line id st l = turned d.1) := ⟨by rw [HLI2.out, hd2]; rfl⟩
            have HI9 : Asd (∃ c', get (turned d.1) id = some c') := ⟨some_ids HC9.out (ids_turned _)⟩
            go_wp2_with fail
            refine (turned_calls HB9.out HGD9.out.ok).mono ?_
            rintro e w10 ⟨rfl, F10, h10, t10⟩
            have HB10 := Asd.mk h10
            have HT10 := Asd.mk (HT9.out.trans t10)
            have HS10 := Asd.mk (HS9.out.tn t10)
            clear h10 t10
            go_wp2
            go_roundw
            case rel => exact ⟨i + 1, turned d.1, F10, by go_num, by omega, HB10, ⟨HGD9.out.turned⟩, HI9, ⟨by rw [HL.out, HST.out, HL9.out]⟩, HS10, HT10⟩
            case measure => simp only [intOf]; omega
          | false =>
            have HL9 : Asd (line id st l = turned (send d.1 id ⟨11, 0, 0, l⟩)) := ⟨by rw [HLI2.out, hd2]; rfl⟩
            have HI9 : Asd (∃ c', get (turned (send d.1 id ⟨11, 0, 0, l⟩)) id = some c') := ⟨some_ids HC9.out ((ids_turned _).trans (ids_send _ _ _))⟩
            go_wp2_with fail
            refine (send_calls HB9.out HGD9.out.ok HC9.out ⟨11, 0, 0, l⟩).mono ?_
            rintro e w10 ⟨rfl, F10, h10, t10⟩
            have HB10 := Asd.mk h10
            have HT10 := Asd.mk (HT9.out.trans t10)
            have HS10 := Asd.mk (HS9.out.tn t10)
            have HGD10 := Asd.mk (HGD9.out.send id ⟨11, 0, 0, l⟩)
            clear h10 t10
            go_wp2_with fail
            refine (turned_calls HB10.out HGD10.out.ok).mono ?_
            rintro e w11 ⟨rfl, F11, h11, t11⟩
            have HB11 := Asd.mk h11
            have HT11 := Asd.mk (HT10.out.trans t11)
            have HS11 := Asd.mk (HS10.out.tn t11)
            clear h11 t11
            go_wp2
            go_roundw
            case rel => exact ⟨i + 1, turned (send d.1 id ⟨11, 0, 0, l⟩), F11, by go_num, by omega, HB11, ⟨HGD10.out.turned⟩, HI9, ⟨by rw [HL.out, HST.out, HL9.out]⟩, HS11, HT11⟩
            case measure => simp only [intOf]; omega
        · have hbe : (er != 0) = true := bne_iff_ne.2 her
          have HL9 : Asd (line id st l = turned (send st id ⟨11, 0, 0, l⟩)) := ⟨by rw [HLI.out, if_pos her]; rfl⟩
          have HI9 : Asd (∃ c', get (turned (send st id ⟨11, 0, 0, l⟩)) id = some c') := ⟨some_ids HCX.out ((ids_turned _).trans (ids_send _ _ _))⟩
          clear her
          go_wp2_with fail
          refine (send_calls HB8.out HGD.out.ok HCX.out ⟨11, 0, 0, l⟩).mono ?_
          rintro e w10 ⟨rfl, F10, h10, t10⟩
          have HB10 := Asd.mk h10
          have HT10 := Asd.mk (HT8.out.trans t10)
          have HS10 := Asd.mk (HS8.out.tn t10)
          have HGD10 := Asd.mk (HGD.out.send id ⟨11, 0, 0, l⟩)
          clear h10 t10 y0 y1 hs8
          go_wp2_with fail
          refine (turned_calls HB10.out HGD10.out.ok).mono ?_
          rintro e w11 ⟨rfl, F11, h11, t11⟩
          have HB11 := Asd.mk h11
          have HT11 := Asd.mk (HT10.out.trans t11)
          have HS11 := Asd.mk (HS10.out.tn t11)
          clear h11 t11
          go_wp2
          go_roundw
          case rel => exact ⟨i + 1, turned (send st id ⟨11, 0, 0, l⟩), F11, by go_num, by omega, HB11, ⟨HGD10.out.turned⟩, HI9, ⟨by rw [HL.out, HST.out, HL9.out]⟩, HS11, HT11⟩
          case measure => simp only [intOf]; omega
      · have HE : Asd (y = st) := ⟨by rw [HL.out, List.drop_eq_nil_of_le (by omega)]; rfl⟩
        go_wp2
        go_end0
        exact ⟨rfl, F1, by rw [HE.out]; exact HB.out, HTn.out⟩
  · have hkl : 0 < ky.length := List.length_pos_iff.2 hky
    have q10 := keepsC (o := 10) (v := .pointer (some ⟨L.tb, 0, none⟩)) H5.out.own rfl
    have q11 := keepsC (o := 11) (v := .pointer (some ⟨L.ip, 0, none⟩)) H5.out.own rfl
    obtain ⟨v5, hb5⟩ := H5.out.conn HG1.out
    have b0 := keepsC (o := 0) (v := .int .i64 id) hb5 rfl
    have hs5 : Upd (fun _ => False) w5 w5 := Upd.refl _ _
    have HKL : Asd (ky ≠ []) := ⟨hky⟩
    clear hb5 hky
    go_wp2
    refine wp_region_held_drew (S := fun W => W.cell? ⟨L.q, 11, none⟩ = some (.pointer (some ⟨L.ip, 0, none⟩)) ∧ W.cell? ⟨L.q, 10, none⟩ = some (.pointer (some ⟨L.tb, 0, none⟩)) ∧ W.cell? ⟨(L.cn id).p, 0, none⟩ = some (.int .i64 id)) (by kernel_rfl) (by exact ⟨q11 _ (by repeat (first | assumption | with_reducible exact Upd.refl _ _ | with_reducible refine Upd.drewN ?_ _ | with_reducible refine Upd.drew ?_ | with_reducible refine Upd.alloc ?_ _ | with_reducible refine Upd.setAt ?_ ?_ | exact Or.inl rfl | exact Or.inr (by simp) | exact Or.inr (by omega))), q10 _ (by repeat (first | assumption | with_reducible exact Upd.refl _ _ | with_reducible refine Upd.drewN ?_ _ | with_reducible refine Upd.drew ?_ | with_reducible refine Upd.alloc ?_ _ | with_reducible refine Upd.setAt ?_ ?_ | exact Or.inl rfl | exact Or.inr (by simp) | exact Or.inr (by omega))), b0 _ (by repeat (first | assumption | with_reducible exact Upd.refl _ _ | with_reducible refine Upd.drewN ?_ _ | with_reducible refine Upd.drew ?_ | with_reducible refine Upd.alloc ?_ _ | with_reducible refine Upd.setAt ?_ ?_ | exact Or.inl rfl | exact Or.inr (by simp) | exact Or.inr (by omega)))⟩) (fun hHeld => ?_)
    refine tk_ 0 ?_
    try simp only [Act.put, sl1_, sl2_, sl3_]
    refine tk_ 1 ?_
    try simp only [Act.put, sl1_, sl2_, sl3_]
    refine tk_ 2 ?_
    try simp only [Act.put, sl1_, sl2_, sl3_]
    refine tk_ 3 ?_
    try simp only [Act.put, sl1_, sl2_, sl3_]
    refine tk_ 4 ?_
    try simp only [Act.put, sl1_, sl2_, sl3_]
    refine tk_ 5 ?_
    try simp only [Act.put, sl1_, sl2_, sl3_]
    refine tk_ 6 ?_
    try simp only [Act.put, sl1_, sl2_, sl3_]
    refine tk_ 7 ?_
    try simp only [Act.put, sl1_, sl2_, sl3_]
    refine tk_ 8 ?_
    try simp only [Act.put, sl1_, sl2_, sl3_]
    refine tk_ 9 ?_
    try simp only [Act.put, sl1_, sl2_, sl3_]
    refine tk_ 10 ?_
    try simp only [Act.put, sl1_, sl2_, sl3_]
    refine tk_ 11 ?_
    try simp only [Act.put, sl1_, sl2_, sl3_]
    refine tk_ 12 ?_
    try simp only [Act.put, sl1_, sl2_, sl3_]
    refine wpAnyH_ready (rs := [13]) (by kernel_rfl) (by simp) (AllReadyH.cons (o := ?_) ?_ (fun K hK => ?_) AllReadyH.nil)
    rotate_left 1
    · (simp only [List.getElem?_toArray, List.getElem?_cons_succ, List.getElem?_cons_zero]; exact rfl)
    (go_simp; (go_at_call 103; have hX := (show Upd (fun _ => False) w5 w5.drew from (by repeat (first | assumption | with_reducible exact Upd.refl _ _ | with_reducible refine Upd.drewN ?_ _ | with_reducible refine Upd.drew ?_ | with_reducible refine Upd.alloc ?_ _ | with_reducible refine Upd.setAt ?_ ?_ | exact Or.inl rfl | exact Or.inr (by simp) | exact Or.inr (by omega)))); obtain ⟨Ft, hT, _, _⟩ := (H5.out.up hX).table; obtain ⟨Fi, hQ, hFi, hput⟩ := (H5.out.up hX).input; refine (Iq.offer_calls hQ hT id ⟨by have := HIR.out; omega, by have := HIR.out; omega⟩ Ak ky.length ck ky (K5.out.up hX) rfl (by have := HD1.out.tot; have := HLL.out; omega)).mono ?_; rw [← HWH.out, ← HOF.out]; rintro e w6 ⟨rfl, F1, p1, p2, p3⟩; obtain ⟨F6, h6, t6, _⟩ := hput w6 ofr F1 p1 p2 p3; have H6 := Asd.mk h6; have T56 := (Tn.grow F5 hX).trans t6; have T6 := Asd.mk (T5.out.trans T56); have O6 := Asd.mk (O5.out.tn T56); have M6 := Asd.mk (T56.upd.blk M5.out (fun hf => HMF.out hf)); obtain ⟨v6, hb6⟩ := h6.conn (show get (wInp s1 ofr) id = _ from HG1.out); have HC6 := Asd.mk (And.intro (keepsC (o := 11) (v := .pointer (some ⟨L.ip, 0, none⟩)) h6.own rfl _ (Upd.refl _ _)) (And.intro (keepsC (o := 10) (v := .pointer (some ⟨L.tb, 0, none⟩)) h6.own rfl _ (Upd.refl _ _)) (keepsC (o := 0) (v := .int .i64 id) hb6 rfl _ (Upd.refl _ _)))); clear hX hT hQ hFi hput p1 p2 p3 h6 t6 T56 hb6))
    refine hK.out _ _ (by exact HC6.out) (fun hHeld => ?_)
    clear hK K
    try simp only [Act.put, List.setIfInBounds_toArray, List.set_cons_zero, List.set_cons_succ]
    refine tk_ 14 ?_
    try simp only [Act.put, sl1_, sl2_, sl3_]
    refine wpAnyH_done (by kernel_rfl) ?_ _
    clear q10 q11 b0 hs5 K5
    try clear hHeld
    have HG6 : Asd (get (wInp s1 ofr) id = some (cLx c xl)) := ⟨HG1.out⟩
    by_cases hw0 : why = 0
    · have HYY : Asd (y = (ln.drop 0).foldl (line id) (wInp s1 ofr)) := ⟨by rw [HY.out, if_neg HKL.out, if_pos hw0]; rfl⟩
      have HE2 : Asd (∃ c', get (wInp s1 ofr) id = some c') := ⟨_, HG6.out⟩
      have hbw : (why != 0) = false := by rw [hw0]; rfl
      clear hw0
      go_wp2
      go_loopw [52] (fun v52 wr => ∃ (i : Nat) (st : Br) (F1 : Nat → Prop), v52 = .int .i64 (i : Int) ∧ i ≤ ln.length ∧ Asd (Bt L wr st F1) ∧ Asd (Gd (n + m.t.length) st) ∧ Asd (∃ c', get st id = some c') ∧ Asd (y = (ln.drop i).foldl (line id) st) ∧ Asd (Lines wr F1 Ao co ln) ∧ Asd (Tn w F wr F1)) (fun v52 _ => ln.length - (intOf v52).toNat)
      case atStart => exact ⟨0, wInp s1 ofr, F6, rfl, Nat.zero_le _, H6, HDI, HE2, HYY, O6, T6⟩
      case round =>
        obtain ⟨i, st, F1, rfl, hi, HB, HGD, HEX, HL, HS, HTn⟩ := hrel
        by_cases hlt : i < ln.length
        · obtain ⟨l, hl⟩ : ∃ l, l = ln[i]'hlt := ⟨_, rfl⟩
          have hdrop : ln.drop i = l :: ln.drop (i + 1) := by rw [hl]; exact List.drop_eq_getElem_cons hlt
          obtain ⟨Go, hos, _⟩ := HS.out
          obtain ⟨A1, c1, he1, _, _, hrow, _⟩ := K.Own.slice hos
          obtain ⟨rfl, rfl⟩ : Ao = A1 ∧ co = c1 := by injection he1 with a b c; exact ⟨a, c⟩
          obtain ⟨ad, rfl, hcell⟩ := hrow i (.string (S l)) (by rw [List.getElem?_map, List.getElem?_eq_getElem hlt, ← hl]; rfl)
          have hlm : l.length ≤ 80 := HLX.out.2 l (by rw [hl]; exact List.getElem_mem _)
          have hcell2 : ∀ W, Upd (fun _ => False) wr W → W.cell? (ad.add i) = some (.string (S l)) := fun W k => k.cell hcell (fun h => h)
          obtain ⟨cx, hcx⟩ := HEX.out
          have HCX := Asd.mk hcx
          obtain ⟨vx, hbx⟩ := HB.out.conn hcx
          have x1 := keepsC (o := 1) (v := .int .i64 cx.st) hbx rfl
          have hs2 : Upd (fun _ => False) wr wr := Upd.refl _ _
          have HST := Asd.mk (line_next id st hdrop)
          clear hl hdrop hos he1 hrow hcell hcx hbx
          by_cases hst : cx.st = 1
          case neg =>
            have hb : (cx.st != 1) = true := bne_iff_ne.2 hst
            have HE : Asd (y = st) := ⟨by rw [HL.out]; exact line_shut id _ st (by unfold openS; rw [HCX.out]; exact beq_eq_false_iff_ne.2 hst)⟩
            clear hst
            go_wp2
            go_end0
            exact ⟨rfl, F1, by rw [HE.out]; exact HB.out, HTn.out⟩
          have hb : (cx.st != 1) = false := by rw [hst]; rfl
          obtain ⟨k, nn, er, hpr⟩ : ∃ k nn er, Or.parse l = (k, nn, er) := ⟨_, _, _, rfl⟩
          have hpk := parse_ok l
          rw [hpr] at hpk
          have HPK : Asd (er = 0 → 1 ≤ k ∧ k ≤ 11 ∧ 0 ≤ nn ∧ nn ≤ 1099511627776) := ⟨hpk⟩
          have HLI : Asd (line id st l = turned (if (if er ≠ 0 then (st, false) else does st id k nn).2 then (if er ≠ 0 then (st, false) else does st id k nn).1 else send (if er ≠ 0 then (st, false) else does st id k nn).1 id ⟨11, 0, 0, l⟩)) := ⟨by unfold line; rw [show openS st id = true from by unfold openS; rw [HCX.out]; exact beq_iff_eq.2 hst]; simp only [if_true]; rw [hpr]⟩
          have HCS := Asd.mk hst
          have HPR := Asd.mk hpr
          clear hpr hpk hst
          go_wp2_with fail
          refine (Or.parse_calls HB.out.env l (by omega)).mono ?_
          rw [HPR.out]
          rintro e w7 ⟨rfl, hu7⟩
          have HB7 := Asd.mk (HB.out.up hu7)
          have HT7 := Asd.mk (HTn.out.trans (Tn.grow F1 hu7))
          have HS7 := Asd.mk (HS.out.up hu7)
          have hk8 := (Upd.refl (fun _ => False) w7).alloc (.cells #[.int .i64 k, .int .i64 nn] 44)
          have hb8 := heap_alloc_new w7 (.cells #[.int .i64 k, .int .i64 nn] 44)
          have y0 := keepsC (o := 0) (v := .int .i64 k) hb8 rfl
          have y1 := keepsC (o := 1) (v := .int .i64 nn) hb8 rfl
          have hs8 := Upd.refl (fun _ => False) (w7.alloc (.cells #[.int .i64 k, .int .i64 nn] 44))
          have HB8 := Asd.mk (HB7.out.up hk8)
          have HS8 := Asd.mk (HS7.out.up hk8)
          have HT8 := Asd.mk (HT7.out.trans (Tn.grow F1 hk8))
          clear hb8 hk8 hu7 hcell2 x1 hs2
          by_cases her : er = 0
          · have hbe : (er != 0) = false := by rw [her]; rfl
            have hLI2 : line id st l = turned (if (does st id k nn).2 then (does st id k nn).1 else send (does st id k nn).1 id ⟨11, 0, 0, l⟩) := by rw [HLI.out, show (if er ≠ 0 then (st, false) else does st id k nn) = does st id k nn from if_neg (fun h => h her)]
            have HLI2 := Asd.mk hLI2
            have hkn := HPK.out her
            clear hLI2 her
            go_wp2_with fail
            refine (does_calls HB8.out HGD.out.ok HCX.out HCS.out k nn ⟨hkn.1, hkn.2.1⟩ hkn.2.2 HGD.out.names).mono ?_
            obtain ⟨d, hd⟩ : ∃ d, d = does st id k nn := ⟨_, rfl⟩
            have hdg := HGD.out.does id k nn hkn.2.2.1
            have hdi := ids_does st id k nn
            rw [← hd] at HLI2 hdg hdi ⊢
            rintro e w9 ⟨rfl, F9, h9, t9⟩
            have HB9 := Asd.mk h9
            have HT9 := Asd.mk (HT8.out.trans t9)
            have HS9 := Asd.mk (HS8.out.tn t9)
            have HGD9 := Asd.mk hdg
            obtain ⟨c9, hc9⟩ := some_ids HCX.out hdi
            have HC9 := Asd.mk hc9
            clear h9 t9 hdg hdi hc9 y0 y1 hs8 hd
            cases hd2 : d.2 with
            | true =>
              have HL9 : Asd (line id st l = turned d.1) := ⟨by rw [HLI2.out, hd2]; rfl⟩
              have HI9 : Asd (∃ c', get (turned d.1) id = some c') := ⟨some_ids HC9.out (ids_turned _)⟩
              go_wp2_with fail
              refine (turned_calls HB9.out HGD9.out.ok).mono ?_
              rintro e w10 ⟨rfl, F10, h10, t10⟩
              have HB10 := Asd.mk h10
              have HT10 := Asd.mk (HT9.out.trans t10)
              have HS10 := Asd.mk (HS9.out.tn t10)
              clear h10 t10
              go_wp2
              go_roundw
              case rel => exact ⟨i + 1, turned d.1, F10, by go_num, by omega, HB10, ⟨HGD9.out.turned⟩, HI9, ⟨by rw [HL.out, HST.out, HL9.out]⟩, HS10, HT10⟩
              case measure => simp only [intOf]; omega
            | false =>
              have HL9 : Asd (line id st l = turned (send d.1 id ⟨11, 0, 0, l⟩)) := ⟨by rw [HLI2.out, hd2]; rfl⟩
              have HI9 : Asd (∃ c', get (turned (send d.1 id ⟨11, 0, 0, l⟩)) id = some c') := ⟨some_ids HC9.out ((ids_turned _).trans (ids_send _ _ _))⟩
              go_wp2_with fail
              refine (send_calls HB9.out HGD9.out.ok HC9.out ⟨11, 0, 0, l⟩).mono ?_
              rintro e w10 ⟨rfl, F10, h10, t10⟩
              have HB10 := Asd.mk h10
              have HT10 := Asd.mk (HT9.out.trans t10)
              have HS10 := Asd.mk (HS9.out.tn t10)
              have HGD10 := Asd.mk (HGD9.out.send id ⟨11, 0, 0, l⟩)
              clear h10 t10
              go_wp2_with fail
              refine (turned_calls HB10.out HGD10.out.ok).mono ?_
              rintro e w11 ⟨rfl, F11, h11, t11⟩
              have HB11 := Asd.mk h11
              have HT11 := Asd.mk (HT10.out.trans t11)
              have HS11 := Asd.mk (HS10.out.tn t11)
              clear h11 t11
              go_wp2
              go_roundw
              case rel => exact ⟨i + 1, turned (send d.1 id ⟨11, 0, 0, l⟩), F11, by go_num, by omega, HB11, ⟨HGD10.out.turned⟩, HI9, ⟨by rw [HL.out, HST.out, HL9.out]⟩, HS11, HT11⟩
              case measure => simp only [intOf]; omega
          · have hbe : (er != 0) = true := bne_iff_ne.2 her
            have HL9 : Asd (line id st l = turned (send st id ⟨11, 0, 0, l⟩)) := ⟨by rw [HLI.out, if_pos her]; rfl⟩
            have HI9 : Asd (∃ c', get (turned (send st id ⟨11, 0, 0, l⟩)) id = some c') := ⟨some_ids HCX.out ((ids_turned _).trans (ids_send _ _ _))⟩
            clear her
            go_wp2_with fail
            refine (send_calls HB8.out HGD.out.ok HCX.out ⟨11, 0, 0, l⟩).mono ?_
            rintro e w10 ⟨rfl, F10, h10, t10⟩
            have HB10 := Asd.mk h10
            have HT10 := Asd.mk (HT8.out.trans t10)
            have HS10 := Asd.mk (HS8.out.tn t10)
            have HGD10 := Asd.mk (HGD.out.send id ⟨11, 0, 0, l⟩)
            clear h10 t10 y0 y1 hs8
            go_wp2_with fail
            refine (turned_calls HB10.out HGD10.out.ok).mono ?_
            rintro e w11 ⟨rfl, F11, h11, t11⟩
            have HB11 := Asd.mk h11
            have HT11 := Asd.mk (HT10.out.trans t11)
            have HS11 := Asd.mk (HS10.out.tn t11)
            clear h11 t11
            go_wp2
            go_roundw
            case rel => exact ⟨i + 1, turned (send st id ⟨11, 0, 0, l⟩), F11, by go_num, by omega, HB11, ⟨HGD10.out.turned⟩, HI9, ⟨by rw [HL.out, HST.out, HL9.out]⟩, HS11, HT11⟩
            case measure => simp only [intOf]; omega
        · have HE : Asd (y = st) := ⟨by rw [HL.out, List.drop_eq_nil_of_le (by omega)]; rfl⟩
          go_wp2
          go_end0
          exact ⟨rfl, F1, by rw [HE.out]; exact HB.out, HTn.out⟩
    · have HYY : Asd (y = (ln.drop 0).foldl (line id) (send (wInp s1 ofr) id ⟨8, m.a, why, []⟩)) := ⟨by rw [HY.out, if_neg HKL.out, if_neg hw0]; rfl⟩
      have HE2 : Asd (∃ c', get (send (wInp s1 ofr) id ⟨8, m.a, why, []⟩) id = some c') := ⟨some_ids HG6.out (ids_send _ _ _)⟩
      have hbw : (why != 0) = true := bne_iff_ne.2 hw0
      have m1 := keepsC (o := 1) (v := .int .i64 m.a) M6.out rfl
      have hs6 := Upd.refl (fun _ => False) w6
      clear hw0
      go_wp2_with fail
      refine (send_calls H6.out HDI.out.ok HG6.out ⟨8, m.a, why, []⟩).mono ?_
      rintro e w7 ⟨rfl, F7, h7, t7⟩
      have H7 := Asd.mk h7
      have T7 := Asd.mk (T6.out.trans t7)
      have O7 := Asd.mk (O6.out.tn t7)
      have HD7 := Asd.mk (HDI.out.send id ⟨8, m.a, why, []⟩)
      clear h7 t7 m1 hs6
      go_wp2
      go_loopw [52] (fun v52 wr => ∃ (i : Nat) (st : Br) (F1 : Nat → Prop), v52 = .int .i64 (i : Int) ∧ i ≤ ln.length ∧ Asd (Bt L wr st F1) ∧ Asd (Gd (n + m.t.length) st) ∧ Asd (∃ c', get st id = some c') ∧ Asd (y = (ln.drop i).foldl (line id) st) ∧ Asd (Lines wr F1 Ao co ln) ∧ Asd (Tn w F wr F1)) (fun v52 _ => ln.length - (intOf v52).toNat)
      case atStart => exact ⟨0, send (wInp s1 ofr) id ⟨8, m.a, why, []⟩, F7, rfl, Nat.zero_le _, H7, HD7, HE2, HYY, O7, T7⟩
      case round =>
        obtain ⟨i, st, F1, rfl, hi, HB, HGD, HEX, HL, HS, HTn⟩ := hrel
        by_cases hlt : i < ln.length
        · obtain ⟨l, hl⟩ : ∃ l, l = ln[i]'hlt := ⟨_, rfl⟩
          have hdrop : ln.drop i = l :: ln.drop (i + 1) := by rw [hl]; exact List.drop_eq_getElem_cons hlt
          obtain ⟨Go, hos, _⟩ := HS.out
          obtain ⟨A1, c1, he1, _, _, hrow, _⟩ := K.Own.slice hos
          obtain ⟨rfl, rfl⟩ : Ao = A1 ∧ co = c1 := by injection he1 with a b c; exact ⟨a, c⟩
          obtain ⟨ad, rfl, hcell⟩ := hrow i (.string (S l)) (by rw [List.getElem?_map, List.getElem?_eq_getElem hlt, ← hl]; rfl)
          have hlm : l.length ≤ 80 := HLX.out.2 l (by rw [hl]; exact List.getElem_mem _)
          have hcell2 : ∀ W, Upd (fun _ => False) wr W → W.cell? (ad.add i) = some (.string (S l)) := fun W k => k.cell hcell (fun h => h)
          obtain ⟨cx, hcx⟩ := HEX.out
          have HCX := Asd.mk hcx
          obtain ⟨vx, hbx⟩ := HB.out.conn hcx
          have x1 := keepsC (o := 1) (v := .int .i64 cx.st) hbx rfl
          have hs2 : Upd (fun _ => False) wr wr := Upd.refl _ _
          have HST := Asd.mk (line_next id st hdrop)
          clear hl hdrop hos he1 hrow hcell hcx hbx
          by_cases hst : cx.st = 1
          case neg =>
            have hb : (cx.st != 1) = true := bne_iff_ne.2 hst
            have HE : Asd (y = st) := ⟨by rw [HL.out]; exact line_shut id _ st (by unfold openS; rw [HCX.out]; exact beq_eq_false_iff_ne.2 hst)⟩
            clear hst
            go_wp2
            go_end0
            exact ⟨rfl, F1, by rw [HE.out]; exact HB.out, HTn.out⟩
          have hb : (cx.st != 1) = false := by rw [hst]; rfl
          obtain ⟨k, nn, er, hpr⟩ : ∃ k nn er, Or.parse l = (k, nn, er) := ⟨_, _, _, rfl⟩
          have hpk := parse_ok l
          rw [hpr] at hpk
          have HPK : Asd (er = 0 → 1 ≤ k ∧ k ≤ 11 ∧ 0 ≤ nn ∧ nn ≤ 1099511627776) := ⟨hpk⟩
          have HLI : Asd (line id st l = turned (if (if er ≠ 0 then (st, false) else does st id k nn).2 then (if er ≠ 0 then (st, false) else does st id k nn).1 else send (if er ≠ 0 then (st, false) else does st id k nn).1 id ⟨11, 0, 0, l⟩)) := ⟨by unfold line; rw [show openS st id = true from by unfold openS; rw [HCX.out]; exact beq_iff_eq.2 hst]; simp only [if_true]; rw [hpr]⟩
          have HCS := Asd.mk hst
          have HPR := Asd.mk hpr
          clear hpr hpk hst
          go_wp2_with fail
          refine (Or.parse_calls HB.out.env l (by omega)).mono ?_
          rw [HPR.out]
          rintro e w7 ⟨rfl, hu7⟩
          have HB7 := Asd.mk (HB.out.up hu7)
          have HT7 := Asd.mk (HTn.out.trans (Tn.grow F1 hu7))
          have HS7 := Asd.mk (HS.out.up hu7)
          have hk8 := (Upd.refl (fun _ => False) w7).alloc (.cells #[.int .i64 k, .int .i64 nn] 44)
          have hb8 := heap_alloc_new w7 (.cells #[.int .i64 k, .int .i64 nn] 44)
          have y0 := keepsC (o := 0) (v := .int .i64 k) hb8 rfl
          have y1 := keepsC (o := 1) (v := .int .i64 nn) hb8 rfl
          have hs8 := Upd.refl (fun _ => False) (w7.alloc (.cells #[.int .i64 k, .int .i64 nn] 44))
          have HB8 := Asd.mk (HB7.out.up hk8)
          have HS8 := Asd.mk (HS7.out.up hk8)
          have HT8 := Asd.mk (HT7.out.trans (Tn.grow F1 hk8))
          clear hb8 hk8 hu7 hcell2 x1 hs2
          by_cases her : er = 0
          · have hbe : (er != 0) = false := by rw [her]; rfl
            have hLI2 : line id st l = turned (if (does st id k nn).2 then (does st id k nn).1 else send (does st id k nn).1 id ⟨11, 0, 0, l⟩) := by rw [HLI.out, show (if er ≠ 0 then (st, false) else does st id k nn) = does st id k nn from if_neg (fun h => h her)]
            have HLI2 := Asd.mk hLI2
            have hkn := HPK.out her
            clear hLI2 her
            go_wp2_with fail
            refine (does_calls HB8.out HGD.out.ok HCX.out HCS.out k nn ⟨hkn.1, hkn.2.1⟩ hkn.2.2 HGD.out.names).mono ?_
            obtain ⟨d, hd⟩ : ∃ d, d = does st id k nn := ⟨_, rfl⟩
            have hdg := HGD.out.does id k nn hkn.2.2.1
            have hdi := ids_does st id k nn
            rw [← hd] at HLI2 hdg hdi ⊢
            rintro e w9 ⟨rfl, F9, h9, t9⟩
            have HB9 := Asd.mk h9
            have HT9 := Asd.mk (HT8.out.trans t9)
            have HS9 := Asd.mk (HS8.out.tn t9)
            have HGD9 := Asd.mk hdg
            obtain ⟨c9, hc9⟩ := some_ids HCX.out hdi
            have HC9 := Asd.mk hc9
            clear h9 t9 hdg hdi hc9 y0 y1 hs8 hd
            cases hd2 : d.2 with
            | true =>
              have HL9 : Asd (line id st l = turned d.1) := ⟨by rw [HLI2.out, hd2]; rfl⟩
              have HI9 : Asd (∃ c', get (turned d.1) id = some c') := ⟨some_ids HC9.out (ids_turned _)⟩
              go_wp2_with fail
              refine (turned_calls HB9.out HGD9.out.ok).mono ?_
              rintro e w10 ⟨rfl, F10, h10, t10⟩
              have HB10 := Asd.mk h10
              have HT10 := Asd.mk (HT9.out.trans t10)
              have HS10 := Asd.mk (HS9.out.tn t10)
              clear h10 t10
              go_wp2
              go_roundw
              case rel => exact ⟨i + 1, turned d.1, F10, by go_num, by omega, HB10, ⟨HGD9.out.turned⟩, HI9, ⟨by rw [HL.out, HST.out, HL9.out]⟩, HS10, HT10⟩
              case measure => simp only [intOf]; omega
            | false =>
              have HL9 : Asd (line id st l = turned (send d.1 id ⟨11, 0, 0, l⟩)) := ⟨by rw [HLI2.out, hd2]; rfl⟩
              have HI9 : Asd (∃ c', get (turned (send d.1 id ⟨11, 0, 0, l⟩)) id = some c') := ⟨some_ids HC9.out ((ids_turned _).trans (ids_send _ _ _))⟩
              go_wp2_with fail
              refine (send_calls HB9.out HGD9.out.ok HC9.out ⟨11, 0, 0, l⟩).mono ?_
              rintro e w10 ⟨rfl, F10, h10, t10⟩
              have HB10 := Asd.mk h10
              have HT10 := Asd.mk (HT9.out.trans t10)
              have HS10 := Asd.mk (HS9.out.tn t10)
              have HGD10 := Asd.mk (HGD9.out.send id ⟨11, 0, 0, l⟩)
              clear h10 t10
              go_wp2_with fail
              refine (turned_calls HB10.out HGD10.out.ok).mono ?_
              rintro e w11 ⟨rfl, F11, h11, t11⟩
              have HB11 := Asd.mk h11
              have HT11 := Asd.mk (HT10.out.trans t11)
              have HS11 := Asd.mk (HS10.out.tn t11)
              clear h11 t11
              go_wp2
              go_roundw
              case rel => exact ⟨i + 1, turned (send d.1 id ⟨11, 0, 0, l⟩), F11, by go_num, by omega, HB11, ⟨HGD10.out.turned⟩, HI9, ⟨by rw [HL.out, HST.out, HL9.out]⟩, HS11, HT11⟩
              case measure => simp only [intOf]; omega
          · have hbe : (er != 0) = true := bne_iff_ne.2 her
            have HL9 : Asd (line id st l = turned (send st id ⟨11, 0, 0, l⟩)) := ⟨by rw [HLI.out, if_pos her]; rfl⟩
            have HI9 : Asd (∃ c', get (turned (send st id ⟨11, 0, 0, l⟩)) id = some c') := ⟨some_ids HCX.out ((ids_turned _).trans (ids_send _ _ _))⟩
            clear her
            go_wp2_with fail
            refine (send_calls HB8.out HGD.out.ok HCX.out ⟨11, 0, 0, l⟩).mono ?_
            rintro e w10 ⟨rfl, F10, h10, t10⟩
            have HB10 := Asd.mk h10
            have HT10 := Asd.mk (HT8.out.trans t10)
            have HS10 := Asd.mk (HS8.out.tn t10)
            have HGD10 := Asd.mk (HGD.out.send id ⟨11, 0, 0, l⟩)
            clear h10 t10 y0 y1 hs8
            go_wp2_with fail
            refine (turned_calls HB10.out HGD10.out.ok).mono ?_
            rintro e w11 ⟨rfl, F11, h11, t11⟩
            have HB11 := Asd.mk h11
            have HT11 := Asd.mk (HT10.out.trans t11)
            have HS11 := Asd.mk (HS10.out.tn t11)
            clear h11 t11
            go_wp2
            go_roundw
            case rel => exact ⟨i + 1, turned (send st id ⟨11, 0, 0, l⟩), F11, by go_num, by omega, HB11, ⟨HGD10.out.turned⟩, HI9, ⟨by rw [HL.out, HST.out, HL9.out]⟩, HS11, HT11⟩
            case measure => simp only [intOf]; omega
        · have HE : Asd (y = st) := ⟨by rw [HL.out, List.drop_eq_nil_of_le (by omega)]; rfl⟩
          go_wp2
          go_end0
          exact ⟨rfl, F1, by rw [HE.out]; exact HB.out, HTn.out⟩
end
end Go.Proofs.YteepkanbiefpjaaGreatDoor.Bk
set_option linter.unusedVariables false
set_option linter.unusedSimpArgs false
namespace Go.Proofs.YteepkanbiefpjaaGreatDoor.Bk
open Go.RowKit K
open MgRow (M)
theorem next_facts (l : List UInt8) (n a b : Nat) (room most strikes : Int) (ha : a ≤ l.length) (hb : b ≤ 9) (hs : strikes ≤ 9) :
    (Vw.next l n a b room most strikes).at_ ≤ l.length ∧ (Vw.next l n a b room most strikes).st ≤ 9 ∧ a ≤ (Vw.next l n a b room most strikes).at_ ∧ ((Vw.next l n a b room most strikes).ok = true → (Vw.next l n a b room most strikes).m.k = 12 ∨ ((Vw.next l n a b room most strikes).m.k ≠ 12 ∧ a + 1 ≤ (Vw.next l n a b room most strikes).at_)) ∧ ((Vw.next l n a b room most strikes).ok = false → (Vw.next l n a b room most strikes).at_ = a ∧ (Vw.next l n a b room most strikes).st = b) := by
  unfold Vw.next
  split
  · split
    · exact ⟨ha, hb, Nat.le_refl _, fun _ => .inl rfl, fun h => by cases h⟩
    · rename_i h1 h2
      have h3 : ¬ strikes ≤ (b : Int) := fun h => h2 (.inl h)
      refine ⟨by simp only; omega, by simp only; omega, by simp only; omega, fun _ => .inr ⟨by simp, by simp only; omega⟩, fun h => by cases h⟩
  · split
    · exact ⟨ha, hb, Nat.le_refl _, fun h => (by cases h), fun _ => ⟨rfl, rfl⟩⟩
    · rename_i h1 h2
      have h3 : 0 < ((l.drop a).take (Vw.roomOf room most).toNat).length := List.length_pos_iff.2 h2
      have h4 : ((l.drop a).take (Vw.roomOf room most).toNat).length ≤ l.length - a := by rw [List.length_take, List.length_drop]; omega
      refine ⟨by simp only; omega, by simpa using hb, by simp only; omega, fun _ => .inr ⟨by simp, by simp only; omega⟩, fun h => by cases h⟩
theorem leave_closed {s : Br} {id : Int} {c : Cn} (hg : get s id = some c) : ∃ c', get (leave s id) id = some c' ∧ c'.st = 2 := by
  unfold leave leaveN
  rw [hg]
  simp only
  split
  · obtain ⟨c', h1, h2, _⟩ := (sm_tell (leaveN 16) (sm_leave 16) (wTab (set s id (cSt c 2)) (Fl.leave s.tab id)) (note (leftT id))).cn id (cSt c 2) (get_set_same hg)
    exact ⟨c', h1, by rcases h2 with e | e <;> rw [e]; rfl⟩
  · exact ⟨_, get_set_same hg, rfl⟩
theorem pump_closed {id : Int} {c : Cn} : ∀ (f : Nat) {s : Br}, get s id = some c → c.st ≠ 1 → pumpN id f s = s
  | 0, s, _, _ => rfl
  | f + 1, s, h, h1 => by
    unfold pumpN
    rw [h]
    simp only
    rw [if_neg h1]
def nextOf (s : Br) (c : Cn) (a b : Nat) : Vw.Nx := Vw.next s.log (Rg.roomN s.cf.log) a b (s.cf.queue - c.out.length - 200) s.cf.data s.strikes
def pumped (s : Br) (id : Int) (c : Cn) (x : Vw.Nx) : Br :=
  let s1 := set s id (cOut (cVw c (x.at_, x.st)) (if (c.out.length : Int) + (mb x.m).length ≤ s.cf.queue then c.out ++ mb x.m else c.out))
  if x.m.k = 12 then leave s1 id else s1
theorem pump_stop {s : Br} {id : Int} {c : Cn} {a b : Nat} (f : Nat) (hg : get s id = some c) (h1 : c.st = 1) (hv : c.vw = some (a, b)) (hx : (nextOf s c a b).ok = false) : pumpN id (f + 1) s = set s id (cVw c ((nextOf s c a b).at_, (nextOf s c a b).st)) := by
  conv => lhs; unfold pumpN
  rw [hg]
  simp only
  rw [if_pos h1, hv]
  simp only
  unfold nextOf at hx ⊢
  rw [if_pos hx]
theorem pump_go {s : Br} {id : Int} {c : Cn} {a b : Nat} (f : Nat) (hg : get s id = some c) (h1 : c.st = 1) (hv : c.vw = some (a, b)) (hx : (nextOf s c a b).ok = true) : pumpN id (f + 1) s = pumpN id f (pumped s id c (nextOf s c a b)) := by
  conv => lhs; unfold pumpN
  rw [hg]
  simp only
  rw [if_pos h1, hv]
  simp only
  unfold nextOf at hx ⊢
  rw [if_neg (by rw [hx]; decide)]
  rfl
theorem ids_pumped (s : Br) (id : Int) (c : Cn) (x : Vw.Nx) : ids (pumped s id c x) = ids s := by
  unfold pumped
  simp only
  split
  · rw [(sm_leave' _ _).ids]; exact ids_set _ _ _
  · exact ids_set _ _ _
theorem Gd.nextCn {n : Nat} {s : Br} {id : Int} {c : Cn} {a b : Nat} (h : Gd n s) (hg : get s id = some c) (hv : c.vw = some (a, b)) (o : List UInt8) : Gd n (Bk.set s id (cOut (cVw c ((nextOf s c a b).at_, (nextOf s c a b).st)) o)) := by
  have hc := h.cns id c hg
  have hab := hc.vw a b hv
  have hx := next_facts s.log (Rg.roomN s.cf.log) a b (s.cf.queue - c.out.length - 200) s.cf.data s.strikes hab.1 hab.2 h.str.2
  refine h.set (c' := cOut (cVw c ((nextOf s c a b).at_, (nextOf s c a b).st)) o) hg rfl (fun _ => by rw [hv]; rfl) { hc with vw := fun a' b' e => ?_ }
  simp only [cOut, cVw, Option.some.injEq, Prod.mk.injEq] at e
  obtain ⟨rfl, rfl⟩ := e
  exact ⟨hx.1, hx.2.1⟩
theorem Gd.pumped {n : Nat} {s : Br} {id : Int} {c : Cn} {a b : Nat} (h : Gd n s) (hg : get s id = some c) (hv : c.vw = some (a, b)) : Gd n (Bk.pumped s id c (nextOf s c a b)) := by
  unfold Bk.pumped
  simp only
  split
  · exact (h.nextCn hg hv _).leave id
  · exact h.nextCn hg hv _
theorem ids_pumpN (id : Int) : ∀ (f : Nat) (s : Br), ids (pumpN id f s) = ids s
  | 0, s => rfl
  | f + 1, s => by
    cases hg : get s id with
    | none => unfold pumpN; rw [hg]
    | some c =>
      by_cases h1 : c.st = 1
      · cases hv : c.vw with
        | none => unfold pumpN; rw [hg]; simp only; rw [if_pos h1, hv]
        | some q =>
          cases hx : (nextOf s c q.1 q.2).ok with
          | false => rw [pump_stop f hg h1 hv hx]; exact ids_set _ _ _
          | true => rw [pump_go f hg h1 hv hx, ids_pumpN id f]; exact ids_pumped _ _ _ _
      · rw [pump_closed (f + 1) hg h1]
theorem Gd.pumpN {n : Nat} (id : Int) : ∀ (f : Nat) {s : Br}, Gd n s → Gd n (Bk.pumpN id f s)
  | 0, s, h => h
  | f + 1, s, h => by
    cases hg : get s id with
    | none => unfold Bk.pumpN; rw [hg]; exact h
    | some c =>
      by_cases h1 : c.st = 1
      · cases hv : c.vw with
        | none => unfold Bk.pumpN; rw [hg]; simp only; rw [if_pos h1, hv]; exact h
        | some q =>
          cases hx : (nextOf s c q.1 q.2).ok with
          | false => rw [pump_stop f hg h1 hv hx]; exact h.nextCn hg hv c.out
          | true => rw [pump_go f hg h1 hv hx]; exact Gd.pumpN id f (h.pumped hg hv)
      · rw [pump_closed (f + 1) hg h1]; exact h
def Fuel (id : Int) (k : Nat) (s : Br) : Prop := ∀ c a b, get s id = some c → c.st = 1 → c.vw = some (a, b) → s.log.length - a + 1 ≤ k
theorem log_pumped (s : Br) (id : Int) (c : Cn) (x : Vw.Nx) : (pumped s id c x).log = s.log := by
  unfold pumped
  simp only
  split
  · rw [(sm_leave' _ _).log]; rfl
  · rfl
theorem Fuel.next {n k : Nat} {s : Br} {id : Int} {c : Cn} {a b : Nat} (h : Gd n s) (hf : Fuel id (k + 1) s) (hg : get s id = some c) (h1 : c.st = 1) (hv : c.vw = some (a, b)) (hx : (nextOf s c a b).ok = true) : Fuel id k (pumped s id c (nextOf s c a b)) := by
  have hc := h.cns id c hg
  have hab := hc.vw a b hv
  have hx2 := next_facts s.log (Rg.roomN s.cf.log) a b (s.cf.queue - c.out.length - 200) s.cf.data s.strikes hab.1 hab.2 h.str.2
  have hk := hf c a b hg h1 hv
  intro c' a' b' hg' h1' hv'
  rw [log_pumped]
  have hcase := hx2.2.2.2.1 hx
  have hg0 : get (Bk.set s id (cOut (cVw c ((nextOf s c a b).at_, (nextOf s c a b).st)) (if (c.out.length : Int) + (mb (nextOf s c a b).m).length ≤ s.cf.queue then c.out ++ mb (nextOf s c a b).m else c.out))) id = some _ := get_set_same hg
  unfold pumped at hg'
  simp only at hg'
  rcases hcase with e | ⟨e, he⟩
  · rw [if_pos (show (nextOf s c a b).m.k = 12 from e)] at hg'
    obtain ⟨c2, e1, e2⟩ := leave_closed hg0
    rw [hg'] at e1
    cases e1
    omega
  · rw [if_neg (show ¬ (nextOf s c a b).m.k = 12 from e), hg0] at hg'
    cases hg'
    simp only [cOut, cVw, Option.some.injEq, Prod.mk.injEq] at hv'
    obtain ⟨rfl, rfl⟩ := hv'
    have : a + 1 ≤ (nextOf s c a b).at_ := he
    omega
theorem gd_runAll {n : Nat} (f : Br → Int → Br) (h : ∀ s id, Gd n s → Gd n (f s id)) : ∀ (l : List Int) (s : Br), Gd n s → Gd n (runAll f l s)
  | [], s, hs => hs
  | a :: l, s, hs => by
    unfold runAll
    rw [List.foldl_cons]
    have h2 := gd_runAll f h l (if openS s a then f s a else s)
    unfold runAll at h2
    refine h2 ?_
    split
    · exact h s a hs
    · exact hs
theorem Gd.pump {n : Nat} {s : Br} (h : Gd n s) : Gd n (Bk.pump s) := gd_runAll _ (fun s id hs => hs.pumpN id _) _ s h
end Go.Proofs.YteepkanbiefpjaaGreatDoor.Bk
set_option linter.unusedVariables false
set_option linter.unusedSimpArgs false
namespace Go.Proofs.YteepkanbiefpjaaGreatDoor.Bk
open Go.RowKit K
open MgRow (M)
open Fl (rget)
theorem cget_none {cs : List (Int × Cn)} {id : Int} (h : id ∉ cs.map (·.1)) : cget cs id = none := by
  unfold cget
  rw [List.find?_eq_none.2 (fun p hp e => h (List.mem_map.2 ⟨p, hp, by simpa using e⟩))]
  rfl
theorem cget_filter (p : Int × Cn → Bool) (id : Int) : ∀ {cs : List (Int × Cn)}, (cs.map (·.1)).Pairwise (· < ·) → cget (cs.filter p) id = (cget cs id).filter (fun c => p (id, c))
  | [], _ => rfl
  | q :: r, h => by
    have h2 : (r.map (·.1)).Pairwise (· < ·) := by simpa using (List.pairwise_cons.1 h).2
    have ih := cget_filter p id h2
    by_cases e : q.1 = id
    · have hr : id ∉ r.map (·.1) := fun hm => by
        have : q.1 < id := (List.pairwise_cons.1 h).1 id hm
        omega
      have hq : cget (q :: r) id = some q.2 := by unfold cget; rw [List.find?_cons]; simp [e]
      have hpq : p (id, q.2) = p q := by rw [← e]
      rw [hq, List.filter_cons]
      cases hp : p q with
      | true =>
        simp only [if_true]
        unfold cget
        rw [List.find?_cons]
        simp [e, hpq, hp, Option.filter]
      | false =>
        simp only [Bool.false_eq_true, if_false]
        rw [cget_none (cs := r.filter p) (fun hm => hr ((List.Sublist.map (·.1) (List.filter_sublist (p := p) (l := r))).subset hm))]
        simp [Option.filter, hpq, hp]
    · have hq : cget (q :: r) id = cget r id := by unfold cget; rw [List.find?_cons]; simp [e]
      rw [hq, List.filter_cons]
      split
      · rw [← ih]; unfold cget; rw [List.find?_cons]; simp [e]
      · exact ih
def strike (s : Br) (p : Int × Cn → Bool) : Br := { s with cs := s.cs.filter p }
theorem get_strike {s : Br} (h : Ok s) (p : Int × Cn → Bool) (id : Int) : get (strike s p) id = (get s id).filter (fun c => p (id, c)) := cget_filter p id h.srt
theorem get_strike_some {s : Br} (h : Ok s) {p : Int × Cn → Bool} {id : Int} {c : Cn} (hg : get (strike s p) id = some c) : get s id = some c ∧ p (id, c) = true := by
  rw [get_strike h p id] at hg
  cases hx : get s id with
  | none => rw [hx] at hg; cases hg
  | some x =>
    rw [hx] at hg
    simp only [Option.filter] at hg
    split at hg
    · rename_i h1
      cases hg
      exact ⟨rfl, h1⟩
    · cases hg
theorem ids_strike (s : Br) (p : Int × Cn → Bool) : (ids (strike s p)).Sublist (ids s) := List.Sublist.map _ List.filter_sublist
theorem Ok.strike {s : Br} (h : Ok s) (p : Int × Cn → Bool) (hp : ∀ id c, get s id = some c → c.st = 1 → p (id, c) = true) : Ok (strike s p) := by
  refine ⟨List.Pairwise.sublist (ids_strike s p) h.srt, fun id hi => h.rng id ((ids_strike s p).subset hi), h.g, h.krt, fun id hr => ?_, fun id c hg h1 => h.opn id c (get_strike_some h hg).1 h1, fun id c hg => h.sts id c (get_strike_some h hg).1, h.rls⟩
  obtain ⟨c, hc, h1⟩ := h.use id hr
  refine ⟨c, ?_, h1⟩
  rw [get_strike h p id, hc]
  simp [Option.filter, hp id c hc h1]
theorem Gd.strike {n : Nat} {s : Br} (h : Gd n s) (p : Int × Cn → Bool) (hp : ∀ id c, get s id = some c → c.st = 1 → p (id, c) = true) : Gd n (Bk.strike s p) :=
  ⟨h.ok.strike p hp, h.cf, h.log, h.tot, h.str, h.spt, fun id c hg => h.cns id c (get_strike_some h.ok hg).1⟩
theorem sweep_eq (s : Br) : sweep s = strike s fun p => !(p.2.st == 2 && p.2.out.isEmpty) := rfl
theorem Gd.sweep {n : Nat} {s : Br} (h : Gd n s) : Gd n (Bk.sweep s) := h.strike _ (fun id c _ h1 => by simp [h1])
theorem Gd.settle {n : Nat} {s : Br} (h : Gd n s) : Gd n (Bk.settle s) := h.turned.pump.turned.sweep
theorem cins_map (p : Int × Cn) : ∀ cs : List (Int × Cn), p.1 ∉ cs.map (·.1) → (cs.map (·.1)).Pairwise (· < ·) → (((cins p cs).map (·.1)).Pairwise (· < ·) ∧ (∀ x, x ∈ (cins p cs).map (·.1) ↔ x = p.1 ∨ x ∈ cs.map (·.1)) ∧ ∀ id, cget (cins p cs) id = if id = p.1 then some p.2 else cget cs id)
  | [], _, _ => by
    refine ⟨by simp [cins], fun x => by simp [cins], fun id => ?_⟩
    unfold cget cins
    rw [List.find?_cons]
    by_cases e : id = p.1
    · simp [e]
    · have : ¬ p.1 = id := fun h => e h.symm
      simp [e, this]
  | y :: r, hn, hp => by
    have hp2 : (r.map (·.1)).Pairwise (· < ·) := by simpa using (List.pairwise_cons.1 hp).2
    have hy : ∀ x ∈ r.map (·.1), y.1 < x := by simpa using (List.pairwise_cons.1 hp).1
    have hne : ¬ p.1 = y.1 := fun e => hn (by simp [e])
    have hn2 : p.1 ∉ r.map (·.1) := fun e => hn (by simp only [List.map_cons, List.mem_cons]; exact .inr e)
    have hc : ∀ (z : Int × Cn) (l : List (Int × Cn)) (id : Int), cget (z :: l) id = if id = z.1 then some z.2 else cget l id := fun z l id => by
      unfold cget
      rw [List.find?_cons]
      by_cases e : id = z.1
      · simp [e]
      · have : ¬ z.1 = id := fun h => e h.symm
        simp [e, this]
    unfold cins
    split
    · rename_i hlt
      refine ⟨?_, fun x => by simp, fun id => hc p (y :: r) id⟩
      simp only [List.map_cons]
      refine List.pairwise_cons.2 ⟨fun x hx => ?_, by simpa using hp⟩
      rcases List.mem_cons.1 hx with rfl | h
      · exact hlt
      · have := hy x h; omega
    · rename_i hlt
      obtain ⟨h1, h2, h3⟩ := cins_map p r hn2 hp2
      refine ⟨?_, fun x => ?_, fun id => ?_⟩
      · simp only [List.map_cons]
        refine List.pairwise_cons.2 ⟨fun x hx => ?_, h1⟩
        rcases (h2 x).1 hx with rfl | h
        · omega
        · exact hy x h
      · simp only [List.map_cons, List.mem_cons, h2]
        constructor
        · rintro (h | h | h)
          · exact .inr (.inl h)
          · exact .inl h
          · exact .inr (.inr h)
        · rintro (h | h | h)
          · exact .inr (.inl h)
          · exact .inl h
          · exact .inr (.inr h)
      · rw [hc, hc, h3]
        by_cases e : id = p.1
        · have : ¬ id = y.1 := fun h => hne (e ▸ h)
          simp [e, hne]
        · simp [e]
def joinC (s : Br) (id : Int) : Br := { s with cs := cins (id, fresh) s.cs }
theorem get_none_ids {s : Br} {id : Int} (h : get s id = none) : id ∉ ids s := fun hm => by
  obtain ⟨c, hc⟩ := ids_get hm
  rw [h] at hc
  cases hc
theorem get_joinC {s : Br} (h : Ok s) {id : Int} (hg : get s id = none) (j : Int) : get (joinC s id) j = if j = id then some fresh else get s j := (cins_map (id, fresh) s.cs (get_none_ids hg) h.srt).2.2 j
theorem lxOk_fresh : LxOk fresh.lx := by unfold LxOk fresh; simp
theorem Gd.joinC {n : Nat} {s : Br} (h : Gd n s) {id : Int} (hg : get s id = none) (hr : 1 ≤ id ∧ id ≤ 16) : Gd n (joinC s id) := by
  obtain ⟨h1, h2, h3⟩ := cins_map (id, fresh) s.cs (get_none_ids hg) h.ok.srt
  refine ⟨⟨h1, fun x hx => ?_, h.ok.g, h.ok.krt, fun j hj => ?_, fun j c hc hst => ?_, fun j c hc => ?_, h.ok.rls⟩, h.cf, h.log, h.tot, h.str, h.spt, fun j c hc => ?_⟩
  · rcases (h2 x).1 hx with rfl | h4
    · exact hr
    · exact h.ok.rng x h4
  · obtain ⟨c, hc, hst⟩ := h.ok.use j hj
    refine ⟨c, ?_, hst⟩
    rw [get_joinC h.ok hg, if_neg (fun e => by subst e; rw [hg] at hc; cases hc)]
    exact hc
  all_goals
    rw [get_joinC h.ok hg] at hc
    split at hc
  · cases hc; exact absurd hst (by decide)
  · exact h.ok.opn j c hc hst
  · cases hc; exact .inl rfl
  · exact h.ok.sts j c hc
  · cases hc
    exact ⟨by simp [fresh], by simp [fresh], lxOk_fresh, by simp [fresh], fun _ => rfl, fun a b e => by simp [fresh] at e⟩
  · exact h.cns j c hc
theorem Gd.connect {n : Nat} {s : Br} (h : Gd n s) (id : Int) : Gd n (Bk.connect s id).1 := by
  unfold Bk.connect
  split
  · exact h
  · split
    · exact h
    · rename_i h1 h2
      exact h.joinC (by cases hx : get s id with | none => rfl | some c => rw [hx] at h2; simp at h2) (by omega)
open FdMath in
theorem all_sizes (b : List UInt8) : ((all b).1.map (fun f => f.2.length)).sum + (all b).2.1.length ≤ b.length ∧ (∀ f ∈ (all b).1, f.2.length ≤ 2048) ∧ (all b).2.1.length ≤ 3000 ∧ ((all b).2.2 ≠ 0 → (all b).2.1 = []) := by
  induction hn : b.length using Nat.strongRecOn generalizing b with
  | _ n ih =>
    by_cases h0 : (Fr.fget b).2.2.2 = 0
    · have hl := drop_lt b h0
      have h1 := ih (b.drop (Fr.fget b).2.2.1).length (by omega) _ rfl
      rw [all_ok b h0]
      rcases fget_cases b with ⟨_, a1, a2, a3, _⟩ | e | e | e
      · refine ⟨?_, ?_, h1.2.2.1, h1.2.2.2⟩
        · simp only [List.map_cons, List.sum_cons]
          have := h1.1
          rw [List.length_drop] at this
          omega
        · intro f hf
          rcases List.mem_cons.1 hf with rfl | hf
          · exact a3
          · exact h1.2.1 f hf
      all_goals rw [e] at h0; simp at h0
    · by_cases h5 : (Fr.fget b).2.2.2 = 5
      · rw [all_short b h5]
        refine ⟨by simp; omega, fun f hf => (List.not_mem_nil hf).elim, ?_, fun h => absurd rfl h⟩
        show b.length ≤ 3000
        unfold Fr.fget at h5
        split at h5
        · omega
        · split at h5
          · simp at h5
          · rename_i hx
            split at h5
            · omega
            · split at h5
              · simp at h5
              · simp at h5
      · rw [all_bad b h0 h5]
        exact ⟨by simp, fun f hf => (List.not_mem_nil hf).elim, by simp, fun _ => rfl⟩
theorem push_sizes {n l : Nat} {c : Cn} (hc : CnOk n l c) (b : List UInt8) : ((push c b).1.map (fun f => f.2.length)).sum ≤ 3000 + b.length ∧ (∀ f ∈ (push c b).1, f.2.length ≤ 2048) ∧ (push c b).2.1.length ≤ 3000 ∧ ((push c b).2.2 ≠ 0 → (push c b).2.1 = []) := by
  unfold push
  split
  · exact ⟨by simp, fun f hf => (List.not_mem_nil hf).elim, by simp, fun _ => rfl⟩
  · have h := all_sizes (c.fb ++ b)
    have := hc.fb
    rw [List.length_append] at h
    exact ⟨by omega, h.2⟩
def took (c : Cn) (b : List UInt8) : Cn := { c with idle := if b = [] then c.idle else 0, fb := (push c b).2.1, fe := (push c b).2.2 }
theorem Gd.took {n : Nat} {s : Br} {id : Int} {c : Cn} (h : Gd n s) (hg : get s id = some c) (b : List UInt8) : Gd n (Bk.set s id (took c b)) := by
  have hc := h.cns id c hg
  have hp := push_sizes hc b
  refine h.set (c' := Bk.took c b) hg rfl (fun _ => rfl) { hc with idle := ?_, fb := hp.2.2.1, fe := hp.2.2.2 }
  have := hc.idle
  unfold Bk.took
  simp only
  split <;> omega
theorem Gd.frame1 {n : Nat} {s : Br} (h : Gd n s) (id : Int) (f : UInt8 × List UInt8) (hf : f.2.length ≤ 2048) : Gd (n + f.2.length) (Bk.frame1 id s f) := by
  unfold Bk.frame1
  split
  · exact h.mono (by omega)
  · exact (h.message id f.1 f.2 hf).turned
theorem Gd.frames (id : Int) : ∀ (L : List (UInt8 × List UInt8)) {n : Nat} {s : Br}, Gd n s → (∀ f ∈ L, f.2.length ≤ 2048) → Gd (n + (L.map fun f => f.2.length).sum) (L.foldl (Bk.frame1 id) s)
  | [], n, s, h, _ => h
  | f :: L, n, s, h, hf => by
    have := Gd.frames id L (h.frame1 id f (hf f List.mem_cons_self)) (fun g hg => hf g (List.mem_cons_of_mem _ hg))
    simp only [List.map_cons, List.sum_cons, List.foldl_cons]
    rw [← Nat.add_assoc]
    exact this
theorem Gd.bytes {n : Nat} {s : Br} (h : Gd n s) (id : Int) (b : List UInt8) : Gd (n + 3000 + b.length) (Bk.bytes s id b).1 := by
  unfold Bk.bytes
  cases hg : get s id with
  | none => exact h.mono (by omega)
  | some c =>
    simp only
    split
    · exact h.mono (by omega)
    · have hp := push_sizes (h.cns id c hg) b
      have h1 := Gd.frames id (push c b).1 (h.took hg b) hp.2.1
      have h2 := h1.mono (m := n + 3000 + b.length) (by omega)
      refine Gd.settle (s := if closed ((push c b).1.foldl (Bk.frame1 id) (Bk.set s id (Bk.took c b))) id = false ∧ (push c b).2.2 ≠ 0 then Bk.shut ((push c b).1.foldl (Bk.frame1 id) (Bk.set s id (Bk.took c b))) id 1 else (push c b).1.foldl (Bk.frame1 id) (Bk.set s id (Bk.took c b))) ?_
      split
      · exact h2.shut _ _
      · exact h2
theorem Gd.cnOut {n : Nat} {s : Br} {id : Int} {c : Cn} (h : Gd n s) (hg : get s id = some c) (b : List UInt8) : Gd n (Bk.set s id (cOut c b)) := h.set (c' := cOut c b) hg rfl (fun _ => rfl) { h.cns id c hg with }
theorem Gd.write {n : Nat} {s : Br} (h : Gd n s) (id x : Int) : Gd n (Bk.write s id x).1 := by
  unfold Bk.write
  cases hg : get s id with
  | none => exact h
  | some c => exact (h.cnOut hg _).settle
def wLog (s : Br) (b : List UInt8) (q : Sp.T) : Br := { s with log := b, sp := q }
theorem Gd.wLog {n : Nat} {s : Br} (h : Gd n s) (b : List UInt8) : Gd (n + b.length) (wLog s (s.log ++ b) (Sp.put s.cf.width.toNat s.sp b)) := by
  have hm := h.mono (m := n + b.length) (by omega)
  refine ⟨⟨h.ok.srt, h.ok.rng, h.ok.g, h.ok.krt, h.ok.use, h.ok.opn, h.ok.sts, h.ok.rls⟩, h.cf, ?_, hm.tot, h.str, h.spt.put b, fun id c hg => ?_⟩
  · show (s.log ++ b).length ≤ _
    rw [List.length_append]; have := h.log; omega
  · have hc := hm.cns id c hg
    refine { hc with vw := fun x y e => ?_ }
    have := hc.vw x y e
    show x ≤ (s.log ++ b).length ∧ _
    rw [List.length_append]; omega
theorem Gd.output {n : Nat} {s : Br} (h : Gd n s) (b : List UInt8) : Gd (n + b.length) (Bk.output s b).1 := by
  unfold Bk.output
  split
  · exact h.mono (by omega)
  · exact (h.wLog b).settle
theorem Gd.drain {n : Nat} {s : Br} (h : Gd n s) (x : Int) : Gd n (Bk.drain s x).1 := h.inp _ h.tot (Nat.le_refl _)
theorem Gd.idle {n : Nat} {s : Br} {id : Int} {c : Cn} (h : Gd n s) (hg : get s id = some c) : Gd (n + 1) (Bk.set s id { c with idle := c.idle + 1 }) := by
  have hm := h.mono (m := n + 1) (by omega)
  have hc := h.cns id c hg
  have hc2 := hm.cns id c hg
  refine hm.set (c' := { c with idle := c.idle + 1 }) hg rfl (fun _ => rfl) { hc2 with idle := ?_ }
  have := hc.idle
  show 0 ≤ c.idle + 1 ∧ c.idle + 1 ≤ _
  omega
theorem Gd.tick1 {n : Nat} {s : Br} (h : Gd n s) (id : Int) : Gd (n + 1) (Bk.tick1 s id) := by
  unfold Bk.tick1
  cases hg : get s id with
  | none => exact h.mono (by omega)
  | some c =>
    simp only
    split
    · exact (h.idle hg).shut _ _
    · exact h.idle hg
theorem Gd.ticks : ∀ (l : List Int) {n : Nat} {s : Br}, Gd n s → Gd (n + l.length) (l.foldl Bk.tick1 s)
  | [], n, s, h => h
  | a :: l, n, s, h => by
    have := Gd.ticks l (h.tick1 a)
    rw [List.foldl_cons, List.length_cons, show n + (l.length + 1) = n + 1 + l.length by omega]
    exact this
theorem Gd.tickT {n : Nat} {s : Br} (h : Gd n s) : Gd n (wTab s (Fl.tick s.tab)) := h.tab (m := 16) h.ok.g.tick (tick_roles _)
theorem Gd.tick {n : Nat} {s : Br} (h : Gd n s) : Gd (n + 16) (Bk.tick s) := by
  unfold Bk.tick
  refine Gd.settle ?_
  refine (Gd.ticks (ids s) h.tickT).mono ?_
  have := h.ok.few
  simp only [ids, List.length_map]
  omega
theorem cdel_eq (cs : List (Int × Cn)) (id : Int) : cdel cs id = cs.filter fun p => !decide (p.1 = id) := rfl
theorem Gd.cutC {n : Nat} {s : Br} (h : Gd n s) (id : Int) (h2 : ∀ c, get s id = some c → c.st ≠ 1) : Gd n (Bk.strike s fun p => !decide (p.1 = id)) := h.strike _ (fun j c hg h1 => by
  simp only [Bool.not_eq_true', decide_eq_false_iff_not]
  intro e
  have e : j = id := e
  subst e
  exact h2 c hg h1)
theorem Gd.cut {n : Nat} {s : Br} (h : Gd n s) (id : Int) : Gd n (Bk.cut s id).1 := by
  unfold Bk.cut
  cases hg : get s id with
  | none => exact h
  | some c =>
    simp only
    refine ((h.leave id).cutC id (fun c' hc' => ?_)).settle
    obtain ⟨c2, h1, h2⟩ := leave_closed hg
    rw [h1] at hc'
    cases hc'
    omega
def ends (s : Br) (code : Int) : Br := { s with ended := true, code := code, inp := { s.inp with buf := [], ended := true } }
theorem Gd.ends {n : Nat} {s : Br} (h : Gd n s) (code : Int) : Gd n (ends s code) := ⟨⟨h.ok.srt, h.ok.rng, h.ok.g, h.ok.krt, h.ok.use, h.ok.opn, h.ok.sts, h.ok.rls⟩, h.cf, h.log, h.tot, h.str, h.spt, h.cns⟩
theorem Gd.end_ {n : Nat} {s : Br} (h : Gd n s) (code : Int) : Gd n (Bk.end_ s code).1 := by
  unfold Bk.end_
  split
  · exact h
  · split
    · exact h
    · exact ((h.ends code).tell _).settle
theorem Gd.new (c : Cf) (hc : rightC c = true) : Gd 0 (Bk.new c) := by
  have h : 0 ≤ c.strikes ∧ c.strikes ≤ 9 := by unfold rightC at hc; simp only [decide_eq_true_eq] at hc; omega
  have hn : ∀ id x, get (Bk.new c) id ≠ some x := fun id x e => by cases e
  refine ⟨⟨List.Pairwise.nil, fun id hi => (List.not_mem_nil hi).elim, ?_, List.Pairwise.nil, fun id hr => (by cases hr), fun id x hg => (hn id x hg).elim, fun id x hg => (hn id x hg).elim, fun p hp => (List.not_mem_nil hp).elim⟩, hc, Nat.le_refl _, ⟨Int.le_refl _, Int.le_refl _⟩, h, ⟨?_, Nat.le_refl _, (by simp [Bk.new])⟩, fun id x hg => (hn id x hg).elim⟩
  · have := Fl.G.new c.lease
    exact { this with lens := ⟨Nat.zero_le _, Nat.zero_le _⟩ }
  · show 0 < c.width.toNat
    unfold rightC at hc; simp only [decide_eq_true_eq] at hc; omega
end Go.Proofs.YteepkanbiefpjaaGreatDoor.Bk
set_option linter.unusedVariables false
set_option linter.unusedSimpArgs false
namespace Go.Proofs.YteepkanbiefpjaaGreatDoor.Bk
open Go.RowKit K
open MgRow (M)
structure Fx (s s' : Br) : Prop where
  ids : ids s' = ids s
  cn : ∀ id c, get s id = some c → ∃ c', get s' id = some c' ∧ c'.fe = c.fe ∧ c'.fb = c.fb ∧ c'.idle = c.idle
  log : s'.log = s.log
  sp : s'.sp = s.sp
  cf : s'.cf = s.cf
  ended : s'.ended = s.ended
  code : s'.code = s.code
theorem Fx.refl (s : Br) : Fx s s := ⟨rfl, fun _ c h => ⟨c, h, rfl, rfl, rfl⟩, rfl, rfl, rfl, rfl, rfl⟩
theorem Fx.trans {a b c : Br} (h : Fx a b) (k : Fx b c) : Fx a c := ⟨k.ids.trans h.ids, fun id x hx => by
  obtain ⟨y, h1, h2, h3, h4⟩ := h.cn id x hx
  obtain ⟨z, k1, k2, k3, k4⟩ := k.cn id y h1
  exact ⟨z, k1, k2.trans h2, k3.trans h3, k4.trans h4⟩, k.log.trans h.log, k.sp.trans h.sp, k.cf.trans h.cf, k.ended.trans h.ended, k.code.trans h.code⟩
theorem Sm.fx {s s' : Br} (h : Sm s s') : Fx s s' := ⟨h.ids, fun id c hg => by
  obtain ⟨c', h1, _, _, h4, h5, h6, _⟩ := h.cn id c hg
  exact ⟨c', h1, h6, h5, h4⟩, h.log, h.sp, h.cf, h.ended, h.code⟩
theorem fx_set {s : Br} {id : Int} {c c' : Cn} (hg : get s id = some c) (h1 : c'.fe = c.fe) (h2 : c'.fb = c.fb) (h3 : c'.idle = c.idle) : Fx s (set s id c') := ⟨ids_set _ _ _, fun j x hx => by
  by_cases e : j = id
  · subst e
    rw [hg] at hx
    cases hx
    exact ⟨c', get_set_same hg, h1, h2, h3⟩
  · exact ⟨x, (get_set_other e).trans hx, rfl, rfl, rfl⟩, rfl, rfl, rfl, rfl, rfl⟩
theorem fx_tab (s : Br) (t : Fl.T) : Fx s (wTab s t) := ⟨rfl, fun _ c h => ⟨c, h, rfl, rfl, rfl⟩, rfl, rfl, rfl, rfl, rfl⟩
theorem fx_inp (s : Br) (x : Iq.QS) : Fx s (wInp s x) := ⟨rfl, fun _ c h => ⟨c, h, rfl, rfl, rfl⟩, rfl, rfl, rfl, rfl, rfl⟩
theorem fx_holder (s : Br) (x : Int) : Fx s (wHolder s x) := ⟨rfl, fun _ c h => ⟨c, h, rfl, rfl, rfl⟩, rfl, rfl, rfl, rfl, rfl⟩
theorem fx_strikes (s : Br) (x : Int) : Fx s (wStrikes s x) := ⟨rfl, fun _ c h => ⟨c, h, rfl, rfl, rfl⟩, rfl, rfl, rfl, rfl, rfl⟩
theorem fx_send (s : Br) (id : Int) (m : M) : Fx s (send s id m) := (sm_send' s id m).fx
theorem fx_leave (s : Br) (id : Int) : Fx s (leave s id) := (sm_leave' s id).fx
theorem fx_tell (s : Br) (m : M) : Fx s (tell s m) := (sm_tell' s m).fx
theorem fx_shut (s : Br) (id why : Int) : Fx s (shut s id why) := by
  unfold shut
  split
  · exact fx_send _ _ _
  · exact (fx_send _ _ _).trans (fx_leave _ _)
theorem fx_turnedN : ∀ (k : Nat) (s : Br), Fx s (turnedN k s)
  | 0, s => Fx.refl s
  | k + 1, s => by
    unfold turnedN
    split
    · exact Fx.refl s
    · exact ((fx_holder s _).trans (fx_tell _ _)).trans (fx_turnedN k _)
theorem fx_turned (s : Br) : Fx s (turned s) := fx_turnedN 40 s
theorem fx_list (s : Br) (id : Int) : Fx s (listN s id) := by
  have : ∀ (l : List Int) (t : Br), Fx t (l.foldl (fun t j => send t id (note (listT t j ((Fl.rget t.tab.roles j).getD 0)))) t) := by
    intro l
    induction l with
    | nil => exact fun t => Fx.refl t
    | cons a l ih => exact fun t => (fx_send _ _ _).trans (ih _)
  exact this _ s
theorem fx_toOther (s : Br) (k x : Int) : Fx s (toOther s k x).1 := by
  unfold toOther
  cases userOf s x with
  | none => exact Fx.refl s
  | some c =>
    simp only
    split
    · exact fx_tab _ _
    · split
      · exact fx_shut _ _ _
      · split
        · exact fx_tab _ _
        · exact fx_tab _ _
theorem fx_does (s : Br) (id k x : Int) : Fx s (does s id k x).1 := by
  unfold does
  split
  · exact Fx.refl s
  · split
    · exact fx_tab _ _
    · split
      · exact fx_tab _ _
      · split
        · exact fx_list _ _
        · split
          · exact fx_shut _ _ _
          · split
            · exact fx_tab _ _
            · split
              · cases hg : get s id with
                | none => exact Fx.refl s
                | some c => exact fx_set hg rfl rfl rfl
              · split
                · split
                  · exact Fx.refl s
                  · exact fx_strikes _ _
                · exact fx_toOther _ _ _
theorem fx_line (id : Int) (s : Br) (l : List UInt8) : Fx s (line id s l) := by
  unfold line
  split
  · simp only
    split
    · simp only [Bool.false_eq_true, if_false]
      exact (fx_send _ _ _).trans (fx_turned _)
    · split
      · exact (fx_does _ _ _ _).trans (fx_turned _)
      · exact ((fx_does _ _ _ _).trans (fx_send _ _ _)).trans (fx_turned _)
  · exact Fx.refl s
theorem fx_lines (id : Int) : ∀ (L : List (List UInt8)) (s : Br), Fx s (L.foldl (line id) s)
  | [], s => Fx.refl s
  | l :: L, s => (fx_line id s l).trans (fx_lines id L _)
theorem fx_typed (s : Br) (id : Int) (m : M) : Fx s (typed s id m) := by
  unfold typed
  cases hg : get s id with
  | none => exact Fx.refl s
  | some c =>
    simp only
    have h1 : Fx s (set s id { c with lx := (lxAll c.lx m.t).1 }) := fx_set hg rfl rfl rfl
    refine Fx.trans (Fx.trans h1 ?_) (fx_lines id _ _)
    split
    · exact Fx.refl _
    · split
      · exact fx_inp _ _
      · exact (fx_inp _ _).trans (fx_send _ _ _)
theorem fx_hello (s : Br) (id : Int) (m : M) : Fx s (hello s id m) := by
  unfold hello
  split
  · exact fx_shut _ _ _
  · split
    · exact fx_shut _ _ _
    · split
      · exact fx_shut _ _ _
      · simp only
        refine (fx_tell s (note (joinT id m.t))).trans ?_
        cases hg : get (tell s (note (joinT id m.t))) id with
        | none => exact Fx.refl _
        | some c =>
          simp only
          have h1 := fx_set (c' := { c with st := 1, name := m.t, vw := some (Vw.startN (tell s (note (joinT id m.t))).log (Rg.roomN (tell s (note (joinT id m.t))).cf.log) m.b (decide (m.a / 2 % 2 = 1)), 0) }) hg rfl rfl rfl
          split
          · exact (((h1.trans (fx_tab _ _)).trans (fx_send _ _ _)).trans (fx_send _ _ _)).trans (fx_send _ _ _)
          · exact ((h1.trans (fx_tab _ _)).trans (fx_send _ _ _)).trans (fx_send _ _ _)
theorem fx_message (s : Br) (id : Int) (k : UInt8) (body : List UInt8) : Fx s (message s id k body) := by
  unfold message
  simp only
  have rest : ∀ m : M, Fx s (if m.k = 2 then typed s id m else if m.k = 3 then send s id ⟨14, 0, 0, []⟩ else if m.k = 4 then shut s id 0 else shut s id 4) := fun m => by
    split
    · exact fx_typed _ _ _
    · split
      · exact fx_send _ _ _
      · split
        · exact fx_shut _ _ _
        · exact fx_shut _ _ _
  split
  · exact fx_shut _ _ _
  · cases hg : get s id with
    | none => exact rest ⟨(k.toNat : Int), (MgOf.numA (Mg.nums (k.toNat : Int)) body : Int), (MgOf.numB (Mg.nums (k.toNat : Int)) body : Int), body.drop (6 * Mg.nums (k.toNat : Int))⟩
    | some c =>
      simp only
      by_cases h0 : c.st = 0
      · rw [if_pos (beq_iff_eq.2 h0)]; exact fx_hello _ _ _
      · rw [if_neg (fun e => h0 (beq_iff_eq.1 e))]; exact rest ⟨(k.toNat : Int), (MgOf.numA (Mg.nums (k.toNat : Int)) body : Int), (MgOf.numB (Mg.nums (k.toNat : Int)) body : Int), body.drop (6 * Mg.nums (k.toNat : Int))⟩
theorem fx_frame1 (id : Int) (s : Br) (f : UInt8 × List UInt8) : Fx s (frame1 id s f) := by
  unfold frame1
  split
  · exact Fx.refl s
  · exact (fx_message _ _ _ _).trans (fx_turned _)
theorem fx_frames (id : Int) : ∀ (L : List (UInt8 × List UInt8)) (s : Br), Fx s (L.foldl (frame1 id) s)
  | [], s => Fx.refl s
  | f :: L, s => (fx_frame1 id s f).trans (fx_frames id L _)
end Go.Proofs.YteepkanbiefpjaaGreatDoor.Bk
set_option linter.unusedVariables false
set_option linter.unusedSimpArgs false
namespace Go.Proofs.YteepkanbiefpjaaGreatDoor.Bk
open Go.RowKit K
open MgRow (M)
section
variable {w w' : World} {L : Lay} {s : Br} {F : Nat → Prop} {id : Int} {c : Cn}
set_option maxHeartbeats 16000000 in
set_option maxRecDepth 100000 in
theorem message_calls (n : Nat) (h : Bt L w s F) (hd : Gd n s) (hn : n ≤ 100000000) (hg : get s id = some c) (hst : c.st ≠ 2) (kind : UInt8) (A : Option Addr) (cp : Nat) (body : List UInt8) (hr : Rd w A body.length body) (hc : body.length ≤ cp) (hbl : body.length ≤ 2048) : Calls Tryz.prog 51 #[ptr L.q, ptr (L.cn id).p, .agg #[.int .u8 (kind.toNat : Int), .slice A body.length cp]] w (Goes L (message s id kind body) F w (.tuple #[])) := by
  obtain ⟨y, hy⟩ : ∃ y, y = message s id kind body := ⟨_, rfl⟩
  rw [← hy]
  have hk1 := (Upd.refl (fun _ => False) w).alloc (.cells #[.int .u8 (kind.toNat : Int), .slice A body.length cp] 105)
  have hm1 := heap_alloc_new w (.cells #[.int .u8 (kind.toNat : Int), .slice A body.length cp] 105)
  have hs1 := Upd.refl (fun _ => False) (w.alloc (.cells #[.int .u8 (kind.toNat : Int), .slice A body.length cp] 105))
  have f0 := keepsC (o := 0) (v := .int .u8 (kind.toNat : Int)) hm1 rfl
  have f1 := keepsC (o := 1) (v := .slice A body.length cp) hm1 rfl
  have HH := Asd.mk (h.up hk1)
  have HD := Asd.mk hd
  have HG := Asd.mk hg
  have HR := Asd.mk (hr.up hk1)
  have HY := Asd.mk hy
  have HT1 := Asd.mk (Tn.grow F hk1)
  have HST := Asd.mk (show c.st = 0 ∨ c.st = 1 from (hd.ok.sts id c hg).imp (fun h => h) (fun h => h.elim (fun h => h) (fun h => absurd h hst)))
  obtain ⟨k, hk⟩ : ∃ k : Int, k = (kind.toNat : Int) := ⟨_, rfl⟩
  have HK := Asd.mk hk
  obtain ⟨m, hm⟩ : ∃ m : M, m = ⟨k, (MgOf.numA (Mg.nums k) body : Int), (MgOf.numB (Mg.nums k) body : Int), body.drop (6 * Mg.nums k)⟩ := ⟨_, rfl⟩
  have HM := Asd.mk hm
  have HML : Asd (m.t.length ≤ 3000) := ⟨by rw [hm]; simp only [List.length_drop]; omega⟩
  clear h hd hg hr hy hm1 hst hm
  cases hi : MgOf.isMsg k body with
  | false =>
    have HI := Asd.mk hi
    have HE : Asd (y = shut s id 4) := ⟨by rw [HY.out]; unfold message; rw [← HK.out]; simp only; rw [if_pos hi]⟩
    clear hi hk
    go_enter Tryz.func51, Tryz.ntmps51
    go_wp2_with fail
    refine (MgOf.of_calls kind A cp body _ HR.out (by omega) (by omega)).mono ?_
    rintro e w2 ⟨hu2, he⟩
    rw [← HK.out, HI.out, if_neg (by decide)] at he
    subst he
    have hk3 := (Upd.refl (fun _ => False) w2).alloc (.cells #[.int .i64 0, .int .i64 0, .int .i64 0, .string (S [])] 36)
    have hm3 := heap_alloc_new w2 (.cells #[.int .i64 0, .int .i64 0, .int .i64 0, .string (S [])] 36)
    have hs3 := Upd.refl (fun _ => False) (w2.alloc (.cells #[.int .i64 0, .int .i64 0, .int .i64 0, .string (S [])] 36))
    have h13 := hu2.trans hk3 (fun _ _ h => h)
    have H3 := Asd.mk (HH.out.up h13)
    have T3 := Asd.mk (HT1.out.trans (Tn.grow F h13))
    obtain ⟨v3, hb3⟩ := H3.out.conn HG.out
    have b1 := keepsC (o := 1) (v := .int .i64 c.st) hb3 rfl
    clear hu2 h13 hk3 hm3 hb3 f0 f1 hs1 hk1
    go_wp2_with fail
    refine (shut_calls H3.out HD.out.ok HG.out 4).mono ?_
    rintro e w4 ⟨rfl, F4, h4, t4⟩
    have H4 := Asd.mk h4
    have T4 := Asd.mk (T3.out.trans t4)
    clear h4 t4 b1 hs3
    go_wp2
    go_end0
    exact ⟨rfl, F4, by rw [HE.out]; exact H4.out, T4.out⟩
  | true =>
    have HI := Asd.mk hi
    have hrt : Mg.right m.k m.a m.b m.t.length = true := by
      have h1 := hi
      unfold MgOf.isMsg at h1
      simp only [Bool.and_eq_true] at h1
      rw [HM.out]
      exact h1.2.2
    have HAB : Asd ((0 ≤ m.a ∧ m.a ≤ 1099511627776) ∧ (0 ≤ m.b ∧ m.b ≤ 1099511627776)) := ⟨by
      have := MgFr.right_nat m.k m.a m.b m.t.length hrt
      omega⟩
    have HE0 : Asd (y = if (match get s id with | some c => c.st == 0 | none => false) then hello s id m else if m.k = 2 then typed s id m else if m.k = 3 then send s id ⟨14, 0, 0, []⟩ else if m.k = 4 then shut s id 0 else shut s id 4) := ⟨by rw [HY.out]; unfold message; rw [← HK.out]; simp only; rw [if_neg (by rw [hi]; decide), HM.out]; rfl⟩
    clear hi hk hrt
    rcases HST.out with h0 | h0
    · have hb0 : (c.st == 0) = true := by rw [h0]; rfl
      have HE : Asd (y = hello s id m) := ⟨by rw [HE0.out, HG.out]; simp only; rw [if_pos hb0]⟩
      go_enter Tryz.func51, Tryz.ntmps51
      go_wp2_with fail
      refine (MgOf.of_calls kind A cp body _ HR.out (by omega) (by omega)).mono ?_
      rintro e w2 ⟨hu2, he⟩
      have e1 : k = m.k := by rw [HM.out]
      have e2 : (MgOf.numA (Mg.nums k) body : Int) = m.a := by rw [HM.out]
      have e3 : (MgOf.numB (Mg.nums k) body : Int) = m.b := by rw [HM.out]
      have e4 : body.drop (6 * Mg.nums k) = m.t := by rw [HM.out]
      rw [← HK.out, HI.out, if_pos rfl, e2, e3, e4, e1] at he
      subst he
      have hk3 := (Upd.refl (fun _ => False) w2).alloc (.cells #[.int .i64 m.k, .int .i64 m.a, .int .i64 m.b, .string (S m.t)] 36)
      have hm3 := heap_alloc_new w2 (.cells #[.int .i64 m.k, .int .i64 m.a, .int .i64 m.b, .string (S m.t)] 36)
      have hs3 := Upd.refl (fun _ => False) (w2.alloc (.cells #[.int .i64 m.k, .int .i64 m.a, .int .i64 m.b, .string (S m.t)] 36))
      have m0 := keepsC (o := 0) (v := .int .i64 m.k) hm3 rfl
      have m1 := keepsC (o := 1) (v := .int .i64 m.a) hm3 rfl
      have m2 := keepsC (o := 2) (v := .int .i64 m.b) hm3 rfl
      have m3 := keepsC (o := 3) (v := .string (S m.t)) hm3 rfl
      have h13 := hu2.trans hk3 (fun _ _ h => h)
      have H3 := Asd.mk (HH.out.up h13)
      have T3 := Asd.mk (HT1.out.trans (Tn.grow F h13))
      obtain ⟨v3, hb3⟩ := H3.out.conn HG.out
      have b1 := keepsC (o := 1) (v := .int .i64 c.st) hb3 rfl
      clear hu2 h13 hk3 hm3 hb3 f0 f1 hs1 hk1
      clear e1 e2 e3 e4
      go_wp2_with fail
      refine (hello_calls H3.out HD.out.ok HG.out h0 m HAB.out.1 HAB.out.2 HML.out).mono ?_
      rintro e w4 ⟨rfl, F4, h4, t4⟩
      have H4 := Asd.mk h4
      have T4 := Asd.mk (T3.out.trans t4)
      clear h4 t4 b1 hs3 m0 m1 m2 m3
      go_wp2
      go_end0
      exact ⟨rfl, F4, by rw [HE.out]; exact H4.out, T4.out⟩
    · have hb0 : (c.st == 0) = false := by rw [h0]; rfl
      have HE1 : Asd (y = if m.k = 2 then typed s id m else if m.k = 3 then send s id ⟨14, 0, 0, []⟩ else if m.k = 4 then shut s id 0 else shut s id 4) := ⟨by rw [HE0.out, HG.out]; simp only; rw [if_neg (by rw [hb0]; decide)]⟩
      by_cases hk2 : m.k = 2
      · have HE : Asd (y = typed s id m) := ⟨by rw [HE1.out, if_pos hk2]⟩
        have hbk2 : (m.k == 2) = true := beq_iff_eq.2 hk2
        clear hk2
        go_enter Tryz.func51, Tryz.ntmps51
        go_wp2_with fail
        refine (MgOf.of_calls kind A cp body _ HR.out (by omega) (by omega)).mono ?_
        rintro e w2 ⟨hu2, he⟩
        have e1 : k = m.k := by rw [HM.out]
        have e2 : (MgOf.numA (Mg.nums k) body : Int) = m.a := by rw [HM.out]
        have e3 : (MgOf.numB (Mg.nums k) body : Int) = m.b := by rw [HM.out]
        have e4 : body.drop (6 * Mg.nums k) = m.t := by rw [HM.out]
        rw [← HK.out, HI.out, if_pos rfl, e2, e3, e4, e1] at he
        subst he
        have hk3 := (Upd.refl (fun _ => False) w2).alloc (.cells #[.int .i64 m.k, .int .i64 m.a, .int .i64 m.b, .string (S m.t)] 36)
        have hm3 := heap_alloc_new w2 (.cells #[.int .i64 m.k, .int .i64 m.a, .int .i64 m.b, .string (S m.t)] 36)
        have hs3 := Upd.refl (fun _ => False) (w2.alloc (.cells #[.int .i64 m.k, .int .i64 m.a, .int .i64 m.b, .string (S m.t)] 36))
        have m0 := keepsC (o := 0) (v := .int .i64 m.k) hm3 rfl
        have m1 := keepsC (o := 1) (v := .int .i64 m.a) hm3 rfl
        have m2 := keepsC (o := 2) (v := .int .i64 m.b) hm3 rfl
        have m3 := keepsC (o := 3) (v := .string (S m.t)) hm3 rfl
        have h13 := hu2.trans hk3 (fun _ _ h => h)
        have H3 := Asd.mk (HH.out.up h13)
        have T3 := Asd.mk (HT1.out.trans (Tn.grow F h13))
        obtain ⟨v3, hb3⟩ := H3.out.conn HG.out
        have b1 := keepsC (o := 1) (v := .int .i64 c.st) hb3 rfl
        clear hu2 h13 hk3 hm3 hb3 f0 f1 hs1 hk1
        clear e1 e2 e3 e4
        go_wp2_with fail
        refine (typed_calls n H3.out HD.out hn HG.out m HML.out).mono ?_
        rintro e w4 ⟨rfl, F4, h4, t4⟩
        have H4 := Asd.mk h4
        have T4 := Asd.mk (T3.out.trans t4)
        clear h4 t4 b1 hs3 m0 m1 m2 m3
        go_wp2
        go_end0
        exact ⟨rfl, F4, by rw [HE.out]; exact H4.out, T4.out⟩
      by_cases hk3 : m.k = 3
      · have HE : Asd (y = send s id ⟨14, 0, 0, []⟩) := ⟨by rw [HE1.out, if_neg hk2, if_pos hk3]⟩
        have hbk2 : (m.k == 2) = false := beq_eq_false_iff_ne.2 hk2
        have hbk3 : (m.k == 3) = true := beq_iff_eq.2 hk3
        clear hk2 hk3
        go_enter Tryz.func51, Tryz.ntmps51
        go_wp2_with fail
        refine (MgOf.of_calls kind A cp body _ HR.out (by omega) (by omega)).mono ?_
        rintro e w2 ⟨hu2, he⟩
        have e1 : k = m.k := by rw [HM.out]
        have e2 : (MgOf.numA (Mg.nums k) body : Int) = m.a := by rw [HM.out]
        have e3 : (MgOf.numB (Mg.nums k) body : Int) = m.b := by rw [HM.out]
        have e4 : body.drop (6 * Mg.nums k) = m.t := by rw [HM.out]
        rw [← HK.out, HI.out, if_pos rfl, e2, e3, e4, e1] at he
        subst he
        have hk3 := (Upd.refl (fun _ => False) w2).alloc (.cells #[.int .i64 m.k, .int .i64 m.a, .int .i64 m.b, .string (S m.t)] 36)
        have hm3 := heap_alloc_new w2 (.cells #[.int .i64 m.k, .int .i64 m.a, .int .i64 m.b, .string (S m.t)] 36)
        have hs3 := Upd.refl (fun _ => False) (w2.alloc (.cells #[.int .i64 m.k, .int .i64 m.a, .int .i64 m.b, .string (S m.t)] 36))
        have m0 := keepsC (o := 0) (v := .int .i64 m.k) hm3 rfl
        have m1 := keepsC (o := 1) (v := .int .i64 m.a) hm3 rfl
        have m2 := keepsC (o := 2) (v := .int .i64 m.b) hm3 rfl
        have m3 := keepsC (o := 3) (v := .string (S m.t)) hm3 rfl
        have h13 := hu2.trans hk3 (fun _ _ h => h)
        have H3 := Asd.mk (HH.out.up h13)
        have T3 := Asd.mk (HT1.out.trans (Tn.grow F h13))
        obtain ⟨v3, hb3⟩ := H3.out.conn HG.out
        have b1 := keepsC (o := 1) (v := .int .i64 c.st) hb3 rfl
        clear hu2 h13 hk3 hm3 hb3 f0 f1 hs1 hk1
        clear e1 e2 e3 e4
        go_wp2_with fail
        refine (send_calls H3.out HD.out.ok HG.out ⟨14, 0, 0, []⟩).mono ?_
        rintro e w4 ⟨rfl, F4, h4, t4⟩
        have H4 := Asd.mk h4
        have T4 := Asd.mk (T3.out.trans t4)
        clear h4 t4 b1 hs3 m0 m1 m2 m3
        go_wp2
        go_end0
        exact ⟨rfl, F4, by rw [HE.out]; exact H4.out, T4.out⟩
      by_cases hk4 : m.k = 4
      · have HE : Asd (y = shut s id 0) := ⟨by rw [HE1.out, if_neg hk2, if_neg hk3, if_pos hk4]⟩
        have hbk2 : (m.k == 2) = false := beq_eq_false_iff_ne.2 hk2
        have hbk3 : (m.k == 3) = false := beq_eq_false_iff_ne.2 hk3
        have hbk4 : (m.k == 4) = true := beq_iff_eq.2 hk4
        clear hk2 hk3 hk4
        go_enter Tryz.func51, Tryz.ntmps51
        go_wp2_with fail
        refine (MgOf.of_calls kind A cp body _ HR.out (by omega) (by omega)).mono ?_
        rintro e w2 ⟨hu2, he⟩
        have e1 : k = m.k := by rw [HM.out]
        have e2 : (MgOf.numA (Mg.nums k) body : Int) = m.a := by rw [HM.out]
        have e3 : (MgOf.numB (Mg.nums k) body : Int) = m.b := by rw [HM.out]
        have e4 : body.drop (6 * Mg.nums k) = m.t := by rw [HM.out]
        rw [← HK.out, HI.out, if_pos rfl, e2, e3, e4, e1] at he
        subst he
        have hk3 := (Upd.refl (fun _ => False) w2).alloc (.cells #[.int .i64 m.k, .int .i64 m.a, .int .i64 m.b, .string (S m.t)] 36)
        have hm3 := heap_alloc_new w2 (.cells #[.int .i64 m.k, .int .i64 m.a, .int .i64 m.b, .string (S m.t)] 36)
        have hs3 := Upd.refl (fun _ => False) (w2.alloc (.cells #[.int .i64 m.k, .int .i64 m.a, .int .i64 m.b, .string (S m.t)] 36))
        have m0 := keepsC (o := 0) (v := .int .i64 m.k) hm3 rfl
        have m1 := keepsC (o := 1) (v := .int .i64 m.a) hm3 rfl
        have m2 := keepsC (o := 2) (v := .int .i64 m.b) hm3 rfl
        have m3 := keepsC (o := 3) (v := .string (S m.t)) hm3 rfl
        have h13 := hu2.trans hk3 (fun _ _ h => h)
        have H3 := Asd.mk (HH.out.up h13)
        have T3 := Asd.mk (HT1.out.trans (Tn.grow F h13))
        obtain ⟨v3, hb3⟩ := H3.out.conn HG.out
        have b1 := keepsC (o := 1) (v := .int .i64 c.st) hb3 rfl
        clear hu2 h13 hk3 hm3 hb3 f0 f1 hs1 hk1
        clear e1 e2 e3 e4
        go_wp2_with fail
        refine (shut_calls H3.out HD.out.ok HG.out 0).mono ?_
        rintro e w4 ⟨rfl, F4, h4, t4⟩
        have H4 := Asd.mk h4
        have T4 := Asd.mk (T3.out.trans t4)
        clear h4 t4 b1 hs3 m0 m1 m2 m3
        go_wp2
        go_end0
        exact ⟨rfl, F4, by rw [HE.out]; exact H4.out, T4.out⟩
      have HE : Asd (y = shut s id 4) := ⟨by rw [HE1.out, if_neg hk2, if_neg hk3, if_neg hk4]⟩
      have hbk2 : (m.k == 2) = false := beq_eq_false_iff_ne.2 hk2
      have hbk3 : (m.k == 3) = false := beq_eq_false_iff_ne.2 hk3
      have hbk4 : (m.k == 4) = false := beq_eq_false_iff_ne.2 hk4
      clear hk2 hk3 hk4
      go_enter Tryz.func51, Tryz.ntmps51
      go_wp2_with fail
      refine (MgOf.of_calls kind A cp body _ HR.out (by omega) (by omega)).mono ?_
      rintro e w2 ⟨hu2, he⟩
      have e1 : k = m.k := by rw [HM.out]
      have e2 : (MgOf.numA (Mg.nums k) body : Int) = m.a := by rw [HM.out]
      have e3 : (MgOf.numB (Mg.nums k) body : Int) = m.b := by rw [HM.out]
      have e4 : body.drop (6 * Mg.nums k) = m.t := by rw [HM.out]
      rw [← HK.out, HI.out, if_pos rfl, e2, e3, e4, e1] at he
      subst he
      have hk3 := (Upd.refl (fun _ => False) w2).alloc (.cells #[.int .i64 m.k, .int .i64 m.a, .int .i64 m.b, .string (S m.t)] 36)
      have hm3 := heap_alloc_new w2 (.cells #[.int .i64 m.k, .int .i64 m.a, .int .i64 m.b, .string (S m.t)] 36)
      have hs3 := Upd.refl (fun _ => False) (w2.alloc (.cells #[.int .i64 m.k, .int .i64 m.a, .int .i64 m.b, .string (S m.t)] 36))
      have m0 := keepsC (o := 0) (v := .int .i64 m.k) hm3 rfl
      have m1 := keepsC (o := 1) (v := .int .i64 m.a) hm3 rfl
      have m2 := keepsC (o := 2) (v := .int .i64 m.b) hm3 rfl
      have m3 := keepsC (o := 3) (v := .string (S m.t)) hm3 rfl
      have h13 := hu2.trans hk3 (fun _ _ h => h)
      have H3 := Asd.mk (HH.out.up h13)
      have T3 := Asd.mk (HT1.out.trans (Tn.grow F h13))
      obtain ⟨v3, hb3⟩ := H3.out.conn HG.out
      have b1 := keepsC (o := 1) (v := .int .i64 c.st) hb3 rfl
      clear hu2 h13 hk3 hm3 hb3 f0 f1 hs1 hk1
      clear e1 e2 e3 e4
      go_wp2_with fail
      refine (shut_calls H3.out HD.out.ok HG.out 4).mono ?_
      rintro e w4 ⟨rfl, F4, h4, t4⟩
      have H4 := Asd.mk h4
      have T4 := Asd.mk (T3.out.trans t4)
      clear h4 t4 b1 hs3 m0 m1 m2 m3
      go_wp2
      go_end0
      exact ⟨rfl, F4, by rw [HE.out]; exact H4.out, T4.out⟩
end
end Go.Proofs.YteepkanbiefpjaaGreatDoor.Bk
set_option linter.unusedVariables false
set_option linter.unusedSimpArgs false
namespace Go.Proofs.YteepkanbiefpjaaGreatDoor.K
open Go
def noDefer (ops : Array Oper) : Bool := ops.toList.all fun o => match o.op with
  | .defer _ => false
  | _ => true
theorem noDefer_at {ops : Array Oper} (h : noDefer ops = true) {j : Nat} {o : Oper} (ho : ops[j]? = some o) : ∀ c, o.op ≠ .defer c := by
  intro c e
  have hm : o ∈ ops.toList := by
    rw [Array.mem_toList_iff]
    exact Array.mem_of_getElem? ho
  have := List.all_eq_true.1 h o hm
  rw [e] at this
  cases this
section
variable {P : Program} {ops : Array Oper} {Q : Exit → Act → World → Prop} {md : Region.Mode} {S : World → Prop} {l n : Nat}
theorem rowsIn_wide {row : String} {args : Array Value} {w : World} {R : Value → World → Prop} (h : Rows P row args w R) : RowsIn (Fence.wide.inRound l) n P row args w R :=
  fun c cs _ => let ⟨v, w', r, s⟩ := h c cs; ⟨v, w', r, stepsIn_wide.2 s⟩
theorem wpIn_of_wp {o : Oper} (hd : ∀ c, o.op ≠ .defer c) {a : Act} {w : World} {K : Act → World → Prop} (h : o.wp P a w K Q) : o.wpIn (Fence.wide.inRound l) n P a w K Q := by
  unfold Oper.wpIn
  refine ⟨fun _ _ => trivial, ?_⟩
  rw [Fence.inRound_round, Oper.semAt_eq _ _ _ hd]
  unfold Oper.wp at h
  generalize (execOp a.eval o).run P w = r at h
  cases r with
  | ok x w' =>
    cases x <;> simp only [Oper.upon, Oper.uponIn] at h ⊢
    case value v => exact h
    case skip => exact h
    case defer d => exact h
    case enter f args => exact ⟨fun h => by simp [Fence.wide, Fence.inRound] at h, CallsIn.inRound l (callsIn_wide.2 h)⟩
    case row row args => exact ⟨fun h => by simp [Fence.wide, Fence.inRound] at h, rowsIn_wide h⟩
  | halt x w' =>
    cases x <;> simp only [Oper.upon, Oper.uponIn] at h ⊢
    case panic v => exact h
theorem wpOpIn_of_wpOp (hd : noDefer ops = true) (hl : ¬ LetsOut Q) {i : Nat} {a : Act} {w : World} {K : Act → World → Prop} (h : wpOp P ops Q i K a w) : wpOpIn (Fence.wide.inRound l) n P ops Q i K a w := by
  unfold wpOp at h
  unfold wpOpIn
  cases ho : ops[i]? with
  | none => rw [ho] at h; exact h
  | some o =>
    rw [ho] at h
    simp only at h ⊢
    split
    · rename_i hw
      rw [if_pos hw] at h
      exact wpIn_of_wp (noDefer_at hd ho) (h.resolve_right (fun h => hl h.2))
    · rename_i hw
      rw [if_neg hw] at h
      exact ⟨fun _ _ => trivial, h⟩
theorem wpAnyIn_of_wpAny (hd : noDefer ops = true) (hl : ¬ LetsOut Q) : ∀ (fuel : Nat) (listed : Array Bool) (a : Act) (w : World), wpAny P md ops Q fuel listed a w → wpAnyIn (Fence.wide.inRound l) n P md ops Q fuel listed a w
  | 0, _, _, _, h => h
  | fuel + 1, listed, a, w, h => ⟨h.1, fun i hi => wpOpIn_mono (fun a' w' h' => wpAnyIn_of_wpAny hd hl fuel _ a' w' h') (wpOpIn_of_wpOp hd hl (h.2 i hi))⟩
theorem wpIn_region_held {id : Nat} {a : Act} {w : World} (hd : noDefer ops = true) (hl : LetsOut Q → False) (hm : P.follows .mixedOrders = true) (hS : S w.drew)
    (h : S w.drew → wpAnyH P .any ops Q S ops.size (Array.replicate ops.size false) a w.drew) : (Code.region id ops true).wpIn (Fence.wide.inRound l) n P Q a w :=
  wpIn_region_any hm (wpAnyIn_of_wpAny hd hl _ _ _ _ (wpAny_of_held _ _ _ _ (h hS)))
end
end Go.Proofs.YteepkanbiefpjaaGreatDoor.K
