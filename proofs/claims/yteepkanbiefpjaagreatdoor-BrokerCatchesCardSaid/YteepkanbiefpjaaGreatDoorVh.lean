/- What these laws lean on, part Vh: contracts of the given program's functions and plain lists. No condition. -/
import Derived.Test.YteepkanbiefpjaaGreatDoorVg
import Derived.RangeFuncNested
import Derived.Shelf.RegionOpen
import Derived.Test.YteepkanbiefpjaaGreatDoorVc
import Derived.Test.YteepkanbiefpjaaGreatDoorVa
set_option linter.unusedVariables false
set_option linter.unusedSimpArgs false
namespace Go.Proofs.YteepkanbiefpjaaGreatDoor.Bk
open Go.RowKit K
open MgRow (M)
attribute [local go_sem] Oper.semAt_some
theorem mget_ents (L : Lay) (s : Br) (id : Int) : mget (ents L s) id = (get s id).map fun _ => ptr (L.cn id).p := by
  unfold mget ents get cget
  rw [List.find?_map, Option.map_map, Option.map_map]
  have e : ((fun p : Ent => decide (p.1 = id)) ∘ fun p : Int × Cn => (p.1, ptr (L.cn p.1).p)) = fun p : Int × Cn => decide (p.1 = id) := rfl
  rw [e]
  cases hf : s.cs.find? (fun p => decide (p.1 = id)) with
  | none => rfl
  | some p =>
    have := List.find?_some hf
    simp only [decide_eq_true_eq] at this
    subst this
    rfl
theorem zconn : ∀ w, (zeroValue 92).run Tryz.prog w = .ok (.pointer none) w := fun w => by kernel_rfl
section
variable {w : World} {L : Lay} {s : Br} {F : Nat → Prop} {id : Int} {c : Cn}
theorem Bt.look (h : Bt L w s F) (id : Int) (hx : -9223372036854775808 ≤ id ∧ id ≤ 9223372036854775807) : ∀ W, Upd (fun _ => False) w W → (Instr.lookup 89 (.map (some L.m)) (.int .i64 id) false).run Tryz.prog W = .ok (match get s id with | some _ => .pointer (some ⟨(L.cn id).p, 0, none⟩) | none => .pointer none) W := fun W k => by
  obtain ⟨Fm, hm, _⟩ := h.bk.part .map
  have hm1 : mapV w Tryz.prog 3 L.m (ents L s) := hm.1
  rw [(hm1.upd k (fun h => h)).look1 Tryz.underlying3 Tryz.underlying89 zconn id hx, mget_ents]
  cases get s id <;> rfl
set_option maxHeartbeats 1000000 in
theorem all_calls (q : Nat) (w : World) : Calls Tryz.prog 96 #[ptr q] w fun e w' => e = .returned (.func (.func 121) #[] #[.pointer (some ⟨w.heap.size, 0, none⟩)]) ∧ w' = w.alloc (.cells #[ptr q] 23) := by
  go_enter Tryz.func96, Tryz.ntmps96
  go_wp2
  go_ret
  exact ⟨rfl, rfl⟩
set_option maxHeartbeats 8000000 in
set_option maxRecDepth 100000 in
theorem all1_in (step : Br → Int → Br) (hids : ∀ s id, ids (step s id) = ids s) (n l : Nat) (L : Lay) (w : World) (s0 : Br) (F0 : Nat → Prop) (hn : s0.cs.length ≤ 1000) (hrg : ∀ id ∈ ids s0, 1 ≤ id ∧ id ≤ 16) (B : Nat) (hB : w.cell? ⟨B, 0, none⟩ = some (ptr L.q)) (hBF : ¬ F0 B)
    (J : Br → (Nat → Prop) → World → Prop) (W : World) (h1 : ∀ s F W, J s F W → Bt L W s F ∧ Tn w F0 W F ∧ l < W.heap.size) (h2 : ∀ s F W W', J s F W → Upd (fun _ => False) W W' → J s F W')
    (h3 : ∀ s F i W, J s F W → (openS s i = true ∧ i ∈ ids s) → YieldAt Fence.wide (n - 1) Tryz.prog l #[ptr (L.cn i).p] W fun e W' => e = .returned (.bool true) ∧ ∃ F', J (step s i) F' W' ∧ (∀ k, F' k → F k ∨ W.heap.size ≤ k) ∧ Upd (fun k => F k ∨ k = l) W W') (h0 : J s0 F0 W) :
    CallsIn Fence.wide n Tryz.prog 121 #[.func (.yield l) #[] #[], .pointer (some ⟨B, 0, none⟩)] W fun e W' => (∃ v, e = .returned v) ∧ ∃ F, J (runAll step (ids s0) s0) F W' := by
  have hBc : ∀ s F W, J s F W → ∀ W', Upd (fun _ => False) W W' → W'.cell? ⟨B, 0, none⟩ = some (.pointer (some ⟨L.q, 0, none⟩)) := fun s F W hj W' hu => by
    obtain ⟨a, b, _⟩ := h1 s F W hj
    exact hu.cell (b.upd.cell hB hBF) (fun h => h)
  have hc0 := hBc _ _ _ h0
  obtain ⟨hb0, ht0, hl0⟩ := h1 _ _ _ h0
  have hfK : Fence.wide.fn 68 := trivial
  have hu0 : Upd (fun _ => False) W W := Upd.refl _ _
  refine callsIn_of_wp Tryz.func121 rfl trivial ?_ rfl
  simp only [Tryz.ntmps121, List.size_toArray, List.length_cons, List.length_nil, Nat.reduceAdd, Nat.reduceSub, Array.replicate_succ, Array.replicate_zero, List.push_toArray, List.append_toArray, List.nil_append, List.cons_append]
  have HBC := Asd.mk hBc
  have H1 := Asd.mk h1
  have H2 := Asd.mk h2
  have H3 := Asd.mk h3
  have H0 := Asd.mk h0
  have HN := Asd.mk hn
  have HI := Asd.mk hids
  have HRG := Asd.mk hrg
  have HB0 := Asd.mk hb0
  clear hBc h1 h2 h3 h0 hn hids hB hBF hrg hb0 ht0
  gi_wp2_with fail
  refine ⟨fun h => by simp [Fence.wide] at h, ?_⟩
  refine (callsIn_wide.2 (ids_calls HB0.out.bk HN.out)).mono ?_
  rintro e w1 ⟨A, c, G, rfl, hO, hG, hu⟩
  obtain ⟨N, hN⟩ : ∃ N, N = (ids s0).length := ⟨_, rfl⟩
  rw [← hN]
  have HO := Asd.mk hO
  have HG := Asd.mk hG
  have HU := Asd.mk hu
  have HNN := Asd.mk hN
  clear hO hG hu hN
  gi_wp2
  have hN1 : N ≤ 1000 := by rw [HNN.out]; simp only [ids, List.length_map]; exact HN.out
  gi_loopw [9] (fun v9 wr => ∃ (i : Nat) (s : Br) (F : Nat → Prop), v9 = .int .i64 (i : Int) ∧ i ≤ N ∧ Asd (J s F wr) ∧ Asd (ids s = ids s0) ∧ Asd (runAll step (ids s0) s0 = runAll step ((ids s0).drop i) s) ∧ Asd (OI wr (.slice A (ids s0).length c) (ids s0) G ∧ ∀ g, G = some g → ¬ F g)) (fun v9 _ => N - (intOf v9).toNat)
  case atStart =>
    exact ⟨0, s0, F0, rfl, Nat.zero_le _, ⟨H2.out _ _ _ _ H0.out HU.out⟩, ⟨rfl⟩, ⟨rfl⟩, ⟨HO.out, fun g hg hf => by have := HG.out g hg; have := HB0.out.bk.lt g hf; omega⟩⟩
  case round =>
    obtain ⟨i, s, F, rfl, hi, HJ, HID, HR, HS⟩ := hrel
    have hbt := (H1.out _ _ _ HJ.out).1
    have hbox := HBC.out _ _ _ HJ.out
    have hs : Upd (fun _ => False) wr wr := Upd.refl _ _
    by_cases hlt : i < N
    · obtain ⟨id, hid⟩ : ∃ id, id = (ids s0)[i]'(by rw [← HNN.out]; exact hlt) := ⟨_, rfl⟩
      have hmem0 : id ∈ ids s0 := by rw [hid]; exact List.getElem_mem _
      have hmem : id ∈ ids s := by rw [HID.out]; exact hmem0
      have hdrop : (ids s0).drop i = id :: (ids s0).drop (i + 1) := by rw [hid]; exact List.drop_eq_getElem_cons (by rw [← HNN.out]; exact hlt)
      obtain ⟨cn, hg⟩ := ids_get hmem
      obtain ⟨A1, c1, he1, _, _, hrow, _⟩ := K.Own.slice HS.out.1
      obtain ⟨rfl, rfl⟩ : A = A1 ∧ c = c1 := by injection he1 with a b c; exact ⟨a, c⟩
      obtain ⟨ad, rfl, hcell⟩ := hrow i (.int .i64 id) (by rw [I, List.getElem?_map, List.getElem?_eq_getElem (by rw [← HNN.out]; exact hlt), ← hid]; rfl)
      have hq := keepsC (o := 12) (v := .map (some L.m)) hbt.own rfl
      have hlook := hbt.look id (by have := HRG.out id hmem0; omega)
      rw [hg] at hlook
      simp only at hlook
      obtain ⟨v, hb⟩ := hbt.conn hg
      have hst := keepsC (o := 1) (v := .int .i64 cn.st) hb rfl
      have hcell2 : ∀ W, Upd (fun _ => False) wr W → W.cell? (ad.add i) = some (.int .i64 id) := fun W k => k.cell hcell (fun h => h)
      have HM := Asd.mk hmem
      have HD := Asd.mk hdrop
      have HG2 := Asd.mk hg
      clear hid hmem hmem0 hdrop hrow hcell hb hg hbt
      by_cases ho : cn.st = 1
      · have hob : (cn.st == 1) = true := beq_iff_eq.2 ho
        have hopen : openS s id = true := by unfold openS; rw [HG2.out]; exact hob
        have hnext : runAll step (ids s0) s0 = runAll step ((ids s0).drop (i + 1)) (step s id) := by
          rw [HR.out, HD.out]
          unfold runAll
          rw [List.foldl_cons, if_pos hopen]
        have HNX := Asd.mk hnext
        obtain ⟨fn, tmps, assign, body, hy, hR⟩ := H3.out s F id wr HJ.out ⟨hopen, HM.out⟩
        clear hopen ho hnext
        have HIL : Asd (l < wr.heap.size ∧ ∀ g, G = some g → g ≠ l) := ⟨(H1.out _ _ _ HJ.out).2.2, fun g hg => by have := HG.out g hg; omega⟩
        gi_wp2
        refine ⟨fun h => by simp [Fence.wide] at h, ?_⟩
        refine hR.mono ?_
        rintro e W' ⟨rfl, F', hJ', hn', hu'⟩
        have HJ2 := Asd.mk hJ'
        have HS2 : Asd (OI W' (.slice (some ad) (ids s0).length c) (ids s0) G ∧ ∀ g, G = some g → ¬ F' g) := ⟨HS.out.1.upd hu' (fun g hg h => h.elim (HS.out.2 g hg) (HIL.out.2 g hg)), fun g hg h => (hn' g h).elim (HS.out.2 g hg) (fun h => by have := HS.out.1.lt g hg; omega)⟩
        have HID2 : Asd (ids (step s id) = ids s0) := ⟨(HI.out s id).trans HID.out⟩
        clear hJ' hn' hu' hy hR hlook hst hq hbox hcell2 hs
        gi_wp2
        go_roundw
        case rel => exact ⟨i + 1, step s id, F', by go_num, by omega, HJ2, HID2, HNX, HS2⟩
        case measure => simp only [intOf]; omega
      · have hob : (cn.st == 1) = false := beq_eq_false_iff_ne.2 ho
        have hnext : runAll step (ids s0) s0 = runAll step ((ids s0).drop (i + 1)) s := by
          rw [HR.out, HD.out]
          unfold runAll
          rw [List.foldl_cons, if_neg (by unfold openS; rw [HG2.out]; simp [hob])]
        have HNX := Asd.mk hnext
        clear ho hnext
        gi_wp2
        refine ⟨fun _ h => (by cases h), ?_⟩
        gi_wp2
        go_roundw
        case rel => exact ⟨i + 1, s, F, by go_num, by omega, HJ, HID, HNX, HS⟩
        case measure => simp only [intOf]; omega
    · have hiN : i = N := by omega
      have hend : runAll step (ids s0) s0 = s := by
        rw [HR.out, List.drop_eq_nil_of_le (by have := HNN.out; omega)]
        rfl
      have HE := Asd.mk hend
      clear hend
      gi_wp2
      go_end0
      exact ⟨⟨_, rfl⟩, F, by rw [HE.out]; exact HJ.out⟩
end
end Go.Proofs.YteepkanbiefpjaaGreatDoor.Bk
set_option linter.unusedVariables false
set_option linter.unusedSimpArgs false
namespace Go.Proofs.YteepkanbiefpjaaGreatDoor.Bk
open Go.RowKit K
open MgRow (M)
attribute [local go_sem] Oper.semAt_some
def Bk1 (L : Lay) (f : Nat) (W : World) (s : Br) (F : Nat → Prop) : Prop := Bt L W s F ∧ Ok s ∧ cnt s ≤ f
theorem thing1 (L : Lay) (f : Nat) : Thing hiB (Bk1 L f) := ⟨fun k hn hS h => ⟨h.1.upd k hn hS, h.2⟩, fun h => env_size h.1.env, fun h hk => h.1.bk.lt _ hk⟩
theorem openS_get {s : Br} {id : Int} (h : openS s id = true) : ∃ c, get s id = some c ∧ c.st = 1 := by
  unfold openS at h
  cases hg : get s id with
  | none => rw [hg] at h; cases h
  | some c => rw [hg] at h; exact ⟨c, rfl, beq_iff_eq.1 h⟩
set_option maxHeartbeats 8000000 in
set_option maxRecDepth 100000 in
theorem tell_gen (f : Nat) (lv : Br → Int → Br) (hsm : ∀ s id, Sm s (lv s id)) (hok : ∀ s id, Ok s → Ok (lv s id)) (hsend : SendC f lv) : TellC f lv := by
  intro w L s F m h ho hcnt
  unfold Vw.msgV
  have H := Asd.mk h
  have HO := Asd.mk ho
  have HC := Asd.mk hcnt
  have HS := Asd.mk hsend
  have HSM := Asd.mk hsm
  have HOK := Asd.mk hok
  clear h ho hcnt hsend hsm hok
  refine (callsIn_wide (n := 6)).1 ?_
  refine callsIn_of_wp_marks Tryz.func75 rfl trivial ?_ rfl
  simp only [Tryz.ntmps75, List.size_toArray, List.length_cons, List.length_nil, Nat.reduceAdd, Nat.reduceSub, Array.replicate_succ, Array.replicate_zero, List.push_toArray, List.append_toArray, List.nil_append, List.cons_append]
  gi_wp2_with fail
  refine ⟨trivial, ?_⟩
  refine (callsIn_wide.2 (all_calls L.q _)).mono ?_
  rintro e w1 ⟨rfl, rfl⟩
  gi_wp2
  have hk0 : Upd (fun _ => False) w (((w.alloc (.cells #[ptr L.q] 23)).alloc (.cells #[.int .i64 m.k, .int .i64 m.a, .int .i64 m.b, .string (S m.t)] 36)).alloc (.cells #[ptr L.q] 23)) := (((Upd.refl _ _).alloc _).alloc _).alloc _
  have x1 := heap_alloc_new w (.cells #[ptr L.q] 23)
  have x2 := heap_alloc_new (w.alloc (.cells #[ptr L.q] 23)) (.cells #[.int .i64 m.k, .int .i64 m.a, .int .i64 m.b, .string (S m.t)] 36)
  have x3 := heap_alloc_new ((w.alloc (.cells #[ptr L.q] 23)).alloc (.cells #[.int .i64 m.k, .int .i64 m.a, .int .i64 m.b, .string (S m.t)] 36)) (.cells #[ptr L.q] 23)
  rw [World.size_alloc] at x2
  rw [World.size_alloc, World.size_alloc] at x3
  have y1 := (((Upd.refl (fun _ => False) _).alloc (.cells #[.int .i64 m.k, .int .i64 m.a, .int .i64 m.b, .string (S m.t)] 36)).alloc (.cells #[ptr L.q] 23)).blk x1 (fun h => h)
  have y2 := ((Upd.refl (fun _ => False) _).alloc (.cells #[ptr L.q] 23)).blk x2 (fun h => h)
  have hsz : (((w.alloc (.cells #[ptr L.q] 23)).alloc (.cells #[.int .i64 m.k, .int .i64 m.a, .int .i64 m.b, .string (S m.t)] 36)).alloc (.cells #[ptr L.q] 23)).heap.size = w.heap.size + 3 := by simp only [World.size_alloc]
  clear x1 x2
  generalize hW0 : ((w.alloc (.cells #[ptr L.q] 23)).alloc (.cells #[.int .i64 m.k, .int .i64 m.a, .int .i64 m.b, .string (S m.t)] 36)).alloc (.cells #[ptr L.q] 23) = W0 at hk0 x3 y1 y2 hsz ⊢
  have hFlt : ∀ k, F k → k < w.heap.size := fun k hk => H.out.bk.lt k hk
  have X3 : W0.cell? ⟨w.heap.size + 1 + 1, 0, none⟩ = some (ptr L.q) := by simp [World.cell?, x3]
  have Y1 := Asd.mk y1
  have Y2 := Asd.mk y2
  have HF := Asd.mk hFlt
  have HSZ := Asd.mk hsz
  clear x3 y1 y2 hFlt hsz hW0
  have hids : ∀ s id, ids (sendW lv s id m) = ids s := fun s id => (sm_send lv HSM.out s id m).ids
  refine wp_rangeAll (thing1 L f) (gf := 121) (lb := #[.pointer (some ⟨w.heap.size + 1 + 1, 0, none⟩)]) rfl (enters_of Tryz.func121 (by kernel_rfl) rfl) rfl (fun s i => openS s i = true ∧ i ∈ ids s) (fun _ i => ptr (L.cn i).p) (fun s id => sendW lv s id m) s (tellW lv s m) F ⟨H.out.up hk0, HO.out, HC.out⟩
    (fun l J W h1 h2 h3 h0 => all1_in (fun s id => sendW lv s id m) hids 5 l L W0 s F (by have := HO.out.few; omega) HO.out.rng (w.heap.size + 1 + 1) X3 (fun h => by have := HF.out _ h; omega) J W (fun s F W hj => ⟨(h1 s F W hj).1.1, (h1 s F W hj).2⟩) h2 h3 h0)
    (fun _ i => { tmps := #[ptr L.q, .agg #[.int .i64 m.k, .int .i64 m.a, .int .i64 m.b, .string (S m.t)], .pointer (some ⟨w.heap.size, 0, none⟩), .pointer (some ⟨w.heap.size + 1, 0, none⟩), ptr (L.cn i).p, ptr L.q, .func (.func 121) #[] #[.pointer (some ⟨w.heap.size + 1 + 1, 0, none⟩)], ptr (L.cn i).p, undef, undef, undef, undef], defers := [] }) ?assign ?body ?done
  case assign =>
    intro l s1 i W K hK
    gi_wp2
    exact hK
  case body =>
    rintro l s1 i W F1 ⟨hb1, ho1, hc1⟩ ht1 ⟨hop, hi⟩
    obtain ⟨c, hg, hst⟩ := openS_get hop
    have z1 := ht1.upd.blk Y1.out (fun h => by have := HF.out _ h; omega)
    have z2 := ht1.upd.blk Y2.out (fun h => by have := HF.out _ h; omega)
    have b0 := keepsC (o := 0) (v := .pointer (some ⟨L.q, 0, none⟩)) z1 rfl
    have m0 := keepsC (o := 0) (v := .int .i64 m.k) z2 rfl
    have m1 := keepsC (o := 1) (v := .int .i64 m.a) z2 rfl
    have m2 := keepsC (o := 2) (v := .int .i64 m.b) z2 rfl
    have m3 := keepsC (o := 3) (v := .string (S m.t)) z2 rfl
    have hs : Upd (fun _ => False) W W := Upd.refl _ _
    have HB1 := Asd.mk hb1
    have HO1 := Asd.mk ho1
    have HC1 := Asd.mk hc1
    have HG1 := Asd.mk hg
    clear hb1 ho1 hc1 hg hst hop hi z1 z2 ht1 X3 hids
    gi_wp2_with fail
    refine ⟨trivial, ?_⟩
    refine (CallsIn.inRound l (callsIn_wide.2 (HS.out W L s1 F1 i c m HB1.out HO1.out HC1.out HG1.out))).mono ?_
    rintro e W' ⟨rfl, F2, h2, t2⟩
    have hgood : Bk1 L f W' (sendW lv s1 i m) F2 := ⟨h2, ok_send lv HOK.out HO1.out i m, Nat.le_trans (sm_send lv HSM.out s1 i m).cnt HC1.out⟩
    gi_wp2
    exact ⟨F2, hgood, t2⟩
  case done =>
    rintro D W F1 hD hFD ⟨hb1, ho1, hc1⟩ ht1 hdef
    have hu := upd_putObj W D (.deferred none)
    have hD2 : hiB ≤ D := by have := env_size H.out.env; have := HSZ.out; omega
    have hend : Goes L (tellW lv s m) F w (.tuple #[]) (.returned (.tuple #[])) (W.putObj D (.deferred none)) := ⟨rfl, F1, hb1.upd hu (fun j hj e => by subst e; exact hFD hj) (fun j e => by omega), ⟨((hk0.mono (T := F) (fun _ _ h => h.elim)).trans ht1.upd (fun _ _ h => h)).trans hu (fun j hj e => by have := HSZ.out; omega), fun k hk => (ht1.new k hk).imp id (fun h => by have := HSZ.out; omega)⟩⟩
    gi_wp2
    refine ⟨by simp, .inl ⟨_, _, rfl, run_takeDeferred hdef, ?_⟩⟩
    exact ⟨_, results_none rfl _ _ _, hend⟩
theorem three : ∀ f : Nat, LeaveC f (leaveN f) ∧ SendC f (leaveN f) ∧ TellC f (leaveN f)
  | 0 => by
    have h1 : LeaveC 0 (leaveN 0) := leave_gen (leaveN 0) 0 (fun s id c hg => ⟨fun h => by unfold leaveN; rw [hg]; simp only; rw [if_neg h]; rfl, fun _ h => absurd rfl h⟩) (fun h => absurd rfl h)
    have h2 := send_gen 0 (leaveN 0) h1
    exact ⟨h1, h2, tell_gen 0 (leaveN 0) (sm_leave 0) (ok_leave 0) h2⟩
  | f + 1 => by
    obtain ⟨a, b, c⟩ := three f
    have h1 : LeaveC (f + 1) (leaveN (f + 1)) := leave_gen (leaveN (f + 1)) (f + 1) (fun s id x hg => ⟨fun h => by unfold leaveN; rw [hg]; simp only; rw [if_neg h], fun h _ => by
      (conv => lhs; unfold leaveN; rw [hg]; simp only; rw [if_pos h])
      rfl⟩) (fun _ => c)
    have h2 := send_gen (f + 1) (leaveN (f + 1)) h1
    exact ⟨h1, h2, tell_gen (f + 1) (leaveN (f + 1)) (sm_leave (f + 1)) (ok_leave (f + 1)) h2⟩
section
variable {w : World} {L : Lay} {s : Br} {F : Nat → Prop} {id : Int} {c : Cn}
theorem leave_calls (h : Bt L w s F) (ho : Ok s) (hg : get s id = some c) : Calls Tryz.prog 69 #[ptr L.q, ptr (L.cn id).p] w (Goes L (leave s id) F w (.tuple #[])) := (three 17).1 w L s F id c h ho (by have := ho.cnt; omega) hg
theorem send_calls (h : Bt L w s F) (ho : Ok s) (hg : get s id = some c) (m : M) : Calls Tryz.prog 82 #[ptr L.q, ptr (L.cn id).p, Vw.msgV m] w (Goes L (send s id m) F w (.tuple #[])) := (three 17).2.1 w L s F id c m h ho (by have := ho.cnt; omega) hg
theorem tell_calls (h : Bt L w s F) (ho : Ok s) (m : M) : Calls Tryz.prog 75 #[ptr L.q, Vw.msgV m] w (Goes L (tell s m) F w (.tuple #[])) := (three 17).2.2 w L s F m h ho (by have := ho.cnt; omega)
end
theorem sm_leave' (s : Br) (id : Int) : Sm s (leave s id) := sm_leave 17 s id
theorem sm_send' (s : Br) (id : Int) (m : M) : Sm s (send s id m) := sm_send leave sm_leave' s id m
theorem sm_tell' (s : Br) (m : M) : Sm s (tell s m) := sm_tell leave sm_leave' s m
theorem ok_leave' {s : Br} (h : Ok s) (id : Int) : Ok (leave s id) := ok_leave 17 s id h
theorem ok_send' {s : Br} (h : Ok s) (id : Int) (m : M) : Ok (send s id m) := ok_send leave (fun s id h => ok_leave' h id) h id m
theorem ok_tell' {s : Br} (h : Ok s) (m : M) : Ok (tell s m) := ok_tell leave (fun s id h => ok_leave' h id) h m
end Go.Proofs.YteepkanbiefpjaaGreatDoor.Bk
set_option linter.unusedVariables false
set_option linter.unusedSimpArgs false
namespace Go.Proofs.YteepkanbiefpjaaGreatDoor.Bk
open Go.RowKit K
open MgRow (M)
theorem least (p : Nat → Prop) (h : ∃ k, p k) : ∃ k, p k ∧ ∀ j, p j → k ≤ j := by
  obtain ⟨k, hk⟩ := h
  induction k using Nat.strongRecOn with
  | ind k ih =>
    by_cases hs : ∃ j, j < k ∧ p j
    · obtain ⟨j, h1, h2⟩ := hs
      exact ih j h1 h2
    · exact ⟨k, hk, fun j hj => by
        by_cases h1 : j < k
        · exact absurd ⟨j, h1, hj⟩ hs
        · omega⟩
theorem wp_scope_ghost {P : Program} {Q : Exit → Act → World → Prop} {a : Act} {w : World} {c rest : Code} (l : Nat) (Jk : Nat → Act → World → Prop) (hf : findLabel c l = some rest)
    (first : c.wp P (Exit.jump l (fun a w => ∃ k, Jk k a w) Q) a w)
    (pass : ∀ k a w, Jk k a w → rest.wp P (Exit.jump l (fun a' w' => ∃ k', k' < k ∧ Jk k' a' w') Q) a w) : (Code.scope c).wp P Q a w := by
  classical
  refine wp_scope_jumps l (fun a w => ∃ k, Jk k a w) (fun a w => if h : ∃ k, Jk k a w then Classical.choose (least _ h) else 0) hf first (fun a w hJ => ?_)
  have h0 := Classical.choose_spec (least _ hJ)
  refine wp_mono (pass _ a w h0.1) (fun e a' w' he => ?_)
  cases e with
  | goto t =>
    obtain ⟨ht, k', hk, hj⟩ := he
    have hJ' : ∃ k, Jk k a' w' := ⟨k', hj⟩
    refine ⟨ht, hJ', ?_⟩
    rw [dif_pos hJ', dif_pos hJ]
    exact Nat.lt_of_le_of_lt ((Classical.choose_spec (least _ hJ')).2 k' hj) hk
  | normal => exact he
  | exit id => exact he
  | ret => exact he
  | panic ch => exact he
  | outgrown => exact he
section
variable {w : World} {L : Lay} {s : Br} {F : Nat → Prop} {id : Int} {c : Cn}
set_option maxHeartbeats 4000000 in
theorem shut_calls (h : Bt L w s F) (ho : Ok s) (hg : get s id = some c) (why : Int) : Calls Tryz.prog 54 #[ptr L.q, ptr (L.cn id).p, .int .i64 why] w (Goes L (shut s id why) F w (.tuple #[])) := by
  obtain ⟨s1, hs1⟩ : ∃ s1, s1 = send s id ⟨13, why, 0, []⟩ := ⟨_, rfl⟩
  have hsh : shut s id why = if closed s1 id then s1 else leave s1 id := by unfold shut; rw [hs1]
  obtain ⟨c1, hg1, _⟩ := (sm_send' s id ⟨13, why, 0, []⟩).cn id c hg
  rw [← hs1] at hg1
  have ho1 : Ok s1 := by rw [hs1]; exact ok_send' ho _ _
  have H := Asd.mk h
  have HO := Asd.mk ho
  have HG := Asd.mk hg
  have HO1 := Asd.mk ho1
  have HG1 := Asd.mk hg1
  have HSH := Asd.mk hsh
  have HS1 := Asd.mk hs1
  clear h ho hg ho1 hg1 hsh hs1
  go_enter Tryz.func54, Tryz.ntmps54
  go_wp2_with fail
  refine (send_calls H.out HO.out HG.out ⟨13, why, 0, []⟩).mono ?_
  rw [← HS1.out]
  rintro e w1 ⟨rfl, F1, h1, t1⟩
  obtain ⟨v, hb⟩ := h1.conn HG1.out
  have b1 := keepsC (o := 1) (v := .int .i64 c1.st) hb rfl
  have hs : Upd (fun _ => False) w1 w1 := Upd.refl _ _
  have H1 := Asd.mk h1
  have T1 := Asd.mk t1
  clear h1 t1 hb
  by_cases hc : c1.st = 2
  · have hcb : (c1.st != 2) = false := by rw [hc]; rfl
    have HE : Asd (shut s id why = s1) := ⟨by rw [HSH.out, if_pos (by unfold closed; rw [HG1.out]; simp [hc])]⟩
    clear hc
    go_wp2
    go_end0
    exact ⟨rfl, F1, by rw [HE.out]; exact H1.out, T1.out⟩
  · have hcb : (c1.st != 2) = true := bne_iff_ne.2 hc
    have HE : Asd (shut s id why = leave s1 id) := ⟨by rw [HSH.out, if_neg (by unfold closed; rw [HG1.out]; simp [hc])]⟩
    clear hc
    go_wp2_with fail
    refine (leave_calls H1.out HO1.out HG1.out).mono ?_
    rintro e w2 ⟨rfl, F2, h2, t2⟩
    go_wp2
    go_end0
    exact ⟨rfl, F2, by rw [HE.out]; exact h2, T1.out.trans t2⟩
end
theorem ch_send (lv : Br → Int → Br) (h : ∀ s id, (lv s id).tab = s.tab ∨ cnt (lv s id) < cnt s) (s : Br) (id : Int) (m : M) : (sendW lv s id m).tab = s.tab ∨ cnt (sendW lv s id m) < cnt s := by
  unfold sendW
  cases hg : get s id with
  | none => exact .inl rfl
  | some c =>
    simp only
    split
    · exact .inl rfl
    · split
      · exact .inl rfl
      · exact h s id
theorem ch_fold (f : Br → Int → Br) (hs : ∀ s id, Sm s (f s id)) (h : ∀ s id, (f s id).tab = s.tab ∨ cnt (f s id) < cnt s) : ∀ (l : List Int) (s : Br), (runAll f l s).tab = s.tab ∨ cnt (runAll f l s) < cnt s
  | [], s => .inl rfl
  | a :: l, s => by
    unfold runAll
    rw [List.foldl_cons]
    have h2 := ch_fold f hs h l (if openS s a then f s a else s)
    have h3 := (sm_fold f hs l (if openS s a then f s a else s)).cnt
    unfold runAll at h2 h3
    have h1 : (if openS s a then f s a else s).tab = s.tab ∨ cnt (if openS s a then f s a else s) < cnt s := by
      split
      · exact h s a
      · exact .inl rfl
    rcases h1 with h1 | h1
    · rcases h2 with h2 | h2
      · exact .inl (h2.trans h1)
      · refine .inr (Nat.lt_of_lt_of_le h2 ?_)
        split
        · exact (hs s a).cnt
        · exact Nat.le_refl _
    · exact .inr (by omega)
theorem ch_tell (lv : Br → Int → Br) (hs : ∀ s id, Sm s (lv s id)) (h : ∀ s id, (lv s id).tab = s.tab ∨ cnt (lv s id) < cnt s) (s : Br) (m : M) : (tellW lv s m).tab = s.tab ∨ cnt (tellW lv s m) < cnt s :=
  ch_fold _ (fun s id => sm_send lv hs s id m) (fun s id => ch_send lv h s id m) _ s
theorem ch_leave : ∀ (f : Nat) (s : Br) (id : Int), (leaveN f s id).tab = s.tab ∨ cnt (leaveN f s id) < cnt s
  | 0, s, id => by
    unfold leaveN
    cases hg : get s id with
    | none => exact .inl rfl
    | some c =>
      simp only
      by_cases h1 : c.st = 1
      · exact .inr (cnt_lost hg (by omega) _)
      · rw [if_neg h1]; exact .inl rfl
  | f + 1, s, id => by
    unfold leaveN
    cases hg : get s id with
    | none => exact .inl rfl
    | some c =>
      simp only
      by_cases h1 : c.st = 1
      · rw [if_pos h1]
        have h2 := cnt_lost hg (by omega) (Fl.leave s.tab id)
        have h3 := (sm_tell (leaveN f) (sm_leave f) (wTab (set s id (cSt c 2)) (Fl.leave s.tab id)) (note (leftT id))).cnt
        exact .inr (by omega)
      · rw [if_neg h1]; exact .inl rfl
def meas (s : Br) : Nat := 2 * cnt s + (if s.tab.holder = s.holder then 0 else 1)
theorem meas_less {s : Br} (h : s.tab.holder ≠ s.holder) (m : M) : meas (tell (wHolder s s.tab.holder) m) < meas s := by
  have h1 := ch_tell leave sm_leave' (ch_leave 17) (wHolder s s.tab.holder) m
  have h2 := (sm_tell' (wHolder s s.tab.holder) m)
  have h3 : cnt (wHolder s s.tab.holder) = cnt s := rfl
  have h4 : (tell (wHolder s s.tab.holder) m).holder = s.tab.holder := h2.holder
  have h5 := h2.cnt
  unfold meas
  rw [if_neg h, h4]
  rcases h1 with h1 | h1
  · have h6 : (tell (wHolder s s.tab.holder) m).tab = s.tab := h1
    rw [h6, if_pos rfl]
    omega
  · have h6 : cnt (tell (wHolder s s.tab.holder) m) < cnt s := h1
    split <;> omega
theorem ok_holder {s : Br} (h : Ok s) (n : Int) : Ok (wHolder s n) := ⟨h.srt, h.rng, h.g, h.krt, h.use, h.opn, h.sts, h.rls⟩
theorem ok_turnedN : ∀ (k : Nat) {s : Br}, Ok s → Ok (turnedN k s)
  | 0, s, h => h
  | k + 1, s, h => by
    unfold turnedN
    split
    · exact h
    · exact ok_turnedN k (ok_tell' (ok_holder h _) _)
theorem ok_turned {s : Br} (h : Ok s) : Ok (turned s) := ok_turnedN 40 h
section
variable {w w' : World} {L : Lay} {s : Br} {F : Nat → Prop} {id : Int} {c : Cn}
theorem Bt.setOwn (h : Bt L w s F) (s' : Br) (hs : ∀ j, j ≠ .own → ∀ W Fj, PartAt L s j W Fj → PartAt L s' j W Fj) (hu : Upd (fun k => k = L.q) w w') (hb : w'.heap[L.q]? = some (.cells (bcells L s') 91 (0, 0))) : ∃ F', Bt L w' s' F' ∧ Tn w F w' F' := by
  obtain ⟨Fi, hp, hF, _, hput⟩ := h.bk.turn .own
  have hq : Fi L.q := (hp.2 _).2 rfl
  obtain ⟨F', hbk, ht⟩ := hput w' L s' Fi ⟨hb, hp.2⟩ hs ⟨hu.mono (fun k _ e => by subst e; exact hq), fun k hk => .inl hk⟩
  exact ⟨F', h.go hbk ht, ht⟩
def TJ (L : Lay) (s0 : Br) (w0 : World) (F0 : Nat → Prop) (k : Nat) (a : Act) (w : World) : Prop := ∃ (u1 u2 u3 u4 u5 u6 u7 u8 u9 u10 u11 u12 u13 u14 u15 u16 u17 u18 u19 u20 u21 : Value) (s : Br) (F : Nat → Prop), a = { tmps := #[ptr L.q, u1, u2, u3, u4, u5, u6, u7, u8, u9, u10, u11, u12, u13, u14, u15, u16, u17, u18, u19, u20, u21], defers := [] } ∧ Asd (Bt L w s F) ∧ Asd (Ok s) ∧ Asd (meas s < k) ∧ Asd (turned s0 = turnedN k s) ∧ Asd (Tn w0 F0 w F)
set_option maxHeartbeats 8000000 in
set_option maxRecDepth 100000 in
theorem turned_calls (h : Bt L w s F) (ho : Ok s) : Calls Tryz.prog 52 #[ptr L.q] w (Goes L (turned s) F w (.tuple #[])) := by
  have H := Asd.mk h
  have HO := Asd.mk ho
  clear h ho
  go_enter Tryz.func52, Tryz.ntmps52
  go_wp2
  refine wp_scope_ghost 0 (TJ L s w F) rfl ?_ ?_
  · have HM0 : Asd (meas s < 40) := ⟨by have := HO.out.cnt; unfold meas; split <;> omega⟩
    obtain ⟨Ft, hT, _, _⟩ := H.out.table
    have hTT := Asd.mk hT
    have q10 := keepsC (o := 10) (v := .pointer (some ⟨L.tb, 0, none⟩)) H.out.own rfl
    have q16 := keepsC (o := 16) (v := .int .i64 s.holder) H.out.own rfl
    have qf := fun o => keepsF (o := o) H.out.own
    have hs : Upd (fun _ => False) w w := Upd.refl _ _
    clear hT
    go_wp2
    go_step3
    go_wp2_with fail
    refine (Fl.holder_calls hTT.out).mono ?_
    rintro e w2 ⟨rfl, rfl⟩
    by_cases he : s.tab.holder = s.holder
    · have hb : (s.tab.holder != s.holder) = false := by rw [he]; simp
      have hend : turned s = s := by
        have h1 : turned s = turnedN 40 s := rfl
        have h2 := HM0.out
        obtain ⟨k2, hk2⟩ : ∃ k2, 40 = k2 + 1 := ⟨40 - 1, by omega⟩
        rw [h1, hk2]
        unfold turnedN
        rw [if_pos he]
      have HE := Asd.mk hend
      clear he hend
      go_wp2
      go_end0
      exact ⟨rfl, F, by rw [HE.out]; exact H.out, Tn.refl w F⟩
    · have hb : (s.tab.holder != s.holder) = true := bne_iff_ne.2 he
      obtain ⟨F2, h2, t2⟩ := H.out.setOwn (w' := w.setCell ⟨L.q, 16, none⟩ (.int .i64 s.tab.holder)) (wHolder s s.tab.holder) (fun j hj W Fj hw => by cases j <;> first | exact hw | exact absurd rfl hj) ((Upd.refl (fun k => k = L.q) _).setCell (fun _ => rfl) _) (blk_setCell (o := 16) H.out.own _)
      have H2 := Asd.mk h2
      have T2 := Asd.mk t2
      have hml := meas_less he ⟨9, s.tab.holder, 0, []⟩
      have hnx : ∃ k', k' < 40 ∧ meas (tell (wHolder s s.tab.holder) ⟨9, s.tab.holder, 0, []⟩) < k' ∧ turned s = turnedN k' (tell (wHolder s s.tab.holder) ⟨9, s.tab.holder, 0, []⟩) := by
        have h1 : turned s = turnedN 40 s := rfl
        have h2 := HM0.out
        obtain ⟨k2, hk2⟩ : ∃ k2, 40 = k2 + 1 := ⟨40 - 1, by omega⟩
        refine ⟨k2, by omega, by omega, ?_⟩
        rw [h1, hk2]
        conv => lhs; unfold turnedN; rw [if_neg he]
      have HNX := Asd.mk hnx
      clear he h2 t2 hml hnx
      go_wp2_with fail
      refine (tell_calls H2.out (ok_holder HO.out _) ⟨9, s.tab.holder, 0, []⟩).mono ?_
      rintro e w3 ⟨rfl, F3, h3, t3⟩
      obtain ⟨k', hk', hm', ht'⟩ := HNX.out
      have H3 := Asd.mk h3
      have T3 := Asd.mk (T2.out.trans t3)
      have HO3 := Asd.mk (ok_tell' (ok_holder HO.out s.tab.holder) ⟨9, s.tab.holder, 0, []⟩)
      have HK := Asd.mk (And.intro hk' (And.intro hm' ht'))
      clear hk' hm' ht' h3 t3
      go_wp2
      go_step3
      exact ⟨rfl, k', _, _, _, _, _, _, _, _, _, _, _, _, _, _, _, _, _, _, _, _, _, _, _, rfl, H3, HO3, ⟨HK.out.2.1⟩, ⟨HK.out.2.2⟩, ⟨(Tn.refl w F).trans T3.out⟩⟩
  · rintro k a W ⟨u1, u2, u3, u4, u5, u6, u7, u8, u9, u10, u11, u12, u13, u14, u15, u16, u17, u18, u19, u20, u21, s1, F1, rfl, HB, HO1, HM, HT, HTn⟩
    obtain ⟨Ft, hT, _, _⟩ := HB.out.table
    have hTT := Asd.mk hT
    have q10 := keepsC (o := 10) (v := .pointer (some ⟨L.tb, 0, none⟩)) HB.out.own rfl
    have q16 := keepsC (o := 16) (v := .int .i64 s1.holder) HB.out.own rfl
    have qf := fun o => keepsF (o := o) HB.out.own
    have hs : Upd (fun _ => False) W W := Upd.refl _ _
    clear hT
    go_wp2_with fail
    refine (Fl.holder_calls hTT.out).mono ?_
    rintro e w2 ⟨rfl, rfl⟩
    by_cases he : s1.tab.holder = s1.holder
    · have hb : (s1.tab.holder != s1.holder) = false := by rw [he]; simp
      have hend : turned s = s1 := by
        have h1 := HT.out
        have h2 := HM.out
        obtain ⟨k2, hk2⟩ : ∃ k2, k = k2 + 1 := ⟨k - 1, by omega⟩
        rw [h1, hk2]
        unfold turnedN
        rw [if_pos he]
      have HE := Asd.mk hend
      clear he hend
      go_wp2
      go_end0
      exact ⟨rfl, F1, by rw [HE.out]; exact HB.out, HTn.out⟩
    · have hb : (s1.tab.holder != s1.holder) = true := bne_iff_ne.2 he
      obtain ⟨F2, h2, t2⟩ := HB.out.setOwn (w' := W.setCell ⟨L.q, 16, none⟩ (.int .i64 s1.tab.holder)) (wHolder s1 s1.tab.holder) (fun j hj W Fj hw => by cases j <;> first | exact hw | exact absurd rfl hj) ((Upd.refl (fun k => k = L.q) _).setCell (fun _ => rfl) _) (blk_setCell (o := 16) HB.out.own _)
      have H2 := Asd.mk h2
      have T2 := Asd.mk t2
      have hml := meas_less he ⟨9, s1.tab.holder, 0, []⟩
      have hnx : ∃ k', k' < k ∧ meas (tell (wHolder s1 s1.tab.holder) ⟨9, s1.tab.holder, 0, []⟩) < k' ∧ turned s = turnedN k' (tell (wHolder s1 s1.tab.holder) ⟨9, s1.tab.holder, 0, []⟩) := by
        have h1 := HT.out
        have h2 := HM.out
        obtain ⟨k2, hk2⟩ : ∃ k2, k = k2 + 1 := ⟨k - 1, by omega⟩
        refine ⟨k2, by omega, by omega, ?_⟩
        rw [h1, hk2]
        conv => lhs; unfold turnedN; rw [if_neg he]
      have HNX := Asd.mk hnx
      clear he h2 t2 hml hnx
      go_wp2_with fail
      refine (tell_calls H2.out (ok_holder HO1.out _) ⟨9, s1.tab.holder, 0, []⟩).mono ?_
      rintro e w3 ⟨rfl, F3, h3, t3⟩
      obtain ⟨k', hk', hm', ht'⟩ := HNX.out
      have H3 := Asd.mk h3
      have T3 := Asd.mk (T2.out.trans t3)
      have HO3 := Asd.mk (ok_tell' (ok_holder HO1.out s1.tab.holder) ⟨9, s1.tab.holder, 0, []⟩)
      have HK := Asd.mk (And.intro hk' (And.intro hm' ht'))
      clear hk' hm' ht' h3 t3
      go_wp2
      go_step3
      exact ⟨rfl, k', HK.out.1, _, _, _, _, _, _, _, _, _, _, _, _, _, _, _, _, _, _, _, _, _, _, _, rfl, H3, HO3, ⟨HK.out.2.1⟩, ⟨HK.out.2.2⟩, ⟨(HTn.out).trans T3.out⟩⟩
end
end Go.Proofs.YteepkanbiefpjaaGreatDoor.Bk
set_option linter.unusedVariables false
set_option linter.unusedSimpArgs false
namespace Go.Proofs.YteepkanbiefpjaaGreatDoor.Bk
open Go.RowKit K
open MgRow (M)
@[go_sem] theorem S_get (l : List UInt8) (i : Nat) (h : i < (S l).size) : (S l)[i]'h = l[i]'(by rw [S_size] at h; exact h) := rfl
set_option maxRecDepth 100000 in
set_option maxHeartbeats 1000000 in
theorem word_calls (r : Int) (h : r = 0 ∨ r = 1 ∨ r = 2) (w : World) : Calls Tryz.prog 101 #[.int .i64 r] w fun e w' => e = .returned (.string (S (wordOf r))) ∧ Upd (fun _ => False) w w' := by
  rcases h with rfl | rfl | rfl
  · have hx : (Instr.index 195 (.agg #[.string { data := #[111, 98, 115, 101, 114, 118, 101, 114] }, .string { data := #[119, 114, 105, 116, 101, 114] }, .string { data := #[111, 119, 110, 101, 114] }]) (.int .i64 0)).run Tryz.prog w = .ok (.string (S (wordOf 0))) w := by kernel_rfl
    go_enter Tryz.func101, Tryz.ntmps101
    go_wp2
    go_ret
    exact ⟨rfl, Upd.refl _ _⟩
  · have hx : (Instr.index 195 (.agg #[.string { data := #[111, 98, 115, 101, 114, 118, 101, 114] }, .string { data := #[119, 114, 105, 116, 101, 114] }, .string { data := #[111, 119, 110, 101, 114] }]) (.int .i64 1)).run Tryz.prog w = .ok (.string (S (wordOf 1))) w := by kernel_rfl
    go_enter Tryz.func101, Tryz.ntmps101
    go_wp2
    go_ret
    exact ⟨rfl, Upd.refl _ _⟩
  · have hx : (Instr.index 195 (.agg #[.string { data := #[111, 98, 115, 101, 114, 118, 101, 114] }, .string { data := #[119, 114, 105, 116, 101, 114] }, .string { data := #[111, 119, 110, 101, 114] }]) (.int .i64 2)).run Tryz.prog w = .ok (.string (S (wordOf 2))) w := by kernel_rfl
    go_enter Tryz.func101, Tryz.ntmps101
    go_wp2
    go_ret
    exact ⟨rfl, Upd.refl _ _⟩
set_option maxHeartbeats 2000000 in
theorem named_calls (t : List UInt8) (ht : t.length ≤ 100000) (w : World) : Calls Tryz.prog 97 #[.string (S t)] w fun e w' => e = .returned (.bool (named t)) ∧ w = w' := by
  go_enter Tryz.func97, Tryz.ntmps97
  have stl : ∀ x : List UInt8, (S x).toList = x := fun x => by rw [ByteArray.toList_eq]; simp [S]
  go_wp2
  go_loopw [6] (fun v6 wr => ∃ i : Nat, v6 = .int .i64 (i : Int) ∧ i ≤ t.length ∧ Asd (named t = ((t.drop i).all (fun c => decide (32 < c.toNat) && decide (c.toNat ≤ 126)) && !t.isEmpty)) ∧ wr = w) (fun v6 _ => t.length - (intOf v6).toNat)
  case atStart => exact ⟨0, rfl, Nat.zero_le _, ⟨rfl⟩, rfl⟩
  case round =>
    obtain ⟨i, rfl, hi, HN, rfl⟩ := hrel
    by_cases hlt : i < t.length
    · obtain ⟨x, hx⟩ : ∃ x, x = t[i]'hlt := ⟨_, rfl⟩
      have hdrop : t.drop i = x :: t.drop (i + 1) := by rw [hx]; exact List.drop_eq_getElem_cons hlt
      have hx' := hx.symm
      rw [hdrop, List.all_cons] at HN
      have hxl := x.toNat_lt
      clear hx hdrop
      by_cases h1 : x.toNat ≤ 32
      · have HE : Asd (named t = false) := ⟨by rw [HN.out, decide_eq_false (by omega)]; simp⟩
        have h1' : (x.toNat : Int) ≤ 32 := by omega
        clear HN
        go_wp2
        go_ret
        exact ⟨by rw [HE.out]; rfl, rfl⟩
      · have h1' : ¬ (x.toNat : Int) ≤ 32 := by omega
        by_cases h2 : 126 < x.toNat
        · have HE : Asd (named t = false) := ⟨by rw [HN.out, decide_eq_false (show ¬ x.toNat ≤ 126 by omega)]; simp⟩
          have h2' : 126 < (x.toNat : Int) := by omega
          clear HN
          go_wp2
          go_ret
          exact ⟨by rw [HE.out]; rfl, rfl⟩
        · have h2' : ¬ 126 < (x.toNat : Int) := by omega
          have HE : Asd (named t = ((t.drop (i + 1)).all (fun c => decide (32 < c.toNat) && decide (c.toNat ≤ 126)) && !t.isEmpty)) := ⟨by rw [HN.out, decide_eq_true (show 32 < x.toNat by omega), decide_eq_true (show x.toNat ≤ 126 by omega)]; simp⟩
          clear HN
          go_wp2
          go_roundw
          case rel => exact ⟨i + 1, by go_num, by omega, HE, trivial⟩
          case measure => simp only [intOf]; omega
    · have hil : i = t.length := by omega
      subst hil
      rw [List.drop_length] at HN
      cases hz : t.isEmpty with
      | true =>
        have HE : Asd (named t = false) := ⟨by rw [HN.out, hz]; rfl⟩
        clear HN
        have hz2 : (t == []) = true := by rw [List.isEmpty_iff.1 hz]; rfl
        go_wp2
        go_ret
        exact ⟨by rw [HE.out]; rfl, rfl⟩
      | false =>
        have HE : Asd (named t = true) := ⟨by rw [HN.out, hz]; rfl⟩
        clear HN
        have hz2 : (t == []) = false := by cases t with | nil => cases hz | cons a b => rfl
        go_wp2
        go_ret
        exact ⟨by rw [HE.out]; rfl, rfl⟩
section
variable {w w' : World} {L : Lay} {s : Br} {F : Nat → Prop} {id : Int} {c : Cn}
set_option maxHeartbeats 4000000 in
theorem role_calls (h : Bt L w s F) (ho : Fl.G s.tab 16 0) (b : Bool) : Calls Tryz.prog 99 #[ptr L.q, .bool b] w fun e w' => e = .returned (.int .i64 (roleOf s b)) ∧ Upd (fun _ => False) w w' := by
  have H := Asd.mk h
  have HO := Asd.mk ho
  have q10 := keepsC (o := 10) (v := .pointer (some ⟨L.tb, 0, none⟩)) h.own rfl
  have hs : Upd (fun _ => False) w w := Upd.refl _ _
  clear h ho
  cases b with
  | false =>
    go_enter Tryz.func99, Tryz.ntmps99
    go_wp2
    go_ret
    exact ⟨rfl, hs⟩
  | true =>
    obtain ⟨Ft, hT, hFt, _⟩ := H.out.table
    have HT := Asd.mk hT
    have hlen := HO.out.lens.2
    have hkl : (Fl.keys s.tab).length = s.tab.roles.length := by simp [Fl.keys]
    clear hT
    go_enter Tryz.func99, Tryz.ntmps99
    go_wp2_with fail
    refine (Fl.users_calls HT.out (by omega)).mono ?_
    rintro e w1 ⟨A, cc, G, rfl, hO, hG, hu⟩
    obtain ⟨N, hN⟩ : ∃ N, N = (Fl.keys s.tab).length := ⟨_, rfl⟩
    have hN16 : N ≤ 16 := by omega
    have HN := Asd.mk hN
    rw [← hN]
    have HOI := Asd.mk hO
    have HU := Asd.mk hu
    have q10' := fun W (k : Upd (fun _ => False) w1 W) => q10 W (hu.trans k (fun _ _ h => h))
    have HT1 := Asd.mk (HT.out.up hu)
    have hs1 : Upd (fun _ => False) w1 w1 := Upd.refl _ _
    clear hO hG hu hN hkl hlen q10 HT hs
    go_wp2
    go_loopw [17] (fun v17 wr => ∃ i : Nat, v17 = .int .i64 (i : Int) ∧ i ≤ N ∧ Asd (roleOf s true = if ((Fl.keys s.tab).drop i).any (fun id => Fl.rget s.tab.roles id == some 2) then 1 else 2) ∧ wr = w1) (fun v17 _ => N - (intOf v17).toNat)
    case atStart => exact ⟨0, rfl, Nat.zero_le _, ⟨by unfold roleOf; rfl⟩, rfl⟩
    case round =>
      obtain ⟨i, rfl, hi, HR, rfl⟩ := hrel
      by_cases hlt : i < N
      · obtain ⟨id, hid⟩ : ∃ id, id = (Fl.keys s.tab)[i]'(by rw [← HN.out]; exact hlt) := ⟨_, rfl⟩
        have hdrop : (Fl.keys s.tab).drop i = id :: (Fl.keys s.tab).drop (i + 1) := by rw [hid]; exact List.drop_eq_getElem_cons (by rw [← HN.out]; exact hlt)
        obtain ⟨A1, c1, he1, _, _, hrow, _⟩ := K.Own.slice HOI.out
        obtain ⟨rfl, rfl⟩ : A = A1 ∧ cc = c1 := by injection he1 with a b c; exact ⟨a, c⟩
        obtain ⟨ad, rfl, hcell⟩ := hrow i (.int .i64 id) (by rw [I, List.getElem?_map, List.getElem?_eq_getElem (by rw [← HN.out]; exact hlt), ← hid]; rfl)
        have hmem : id ∈ Fl.keys s.tab := by rw [hid]; exact List.getElem_mem _
        have hidr : 1 ≤ id ∧ id ≤ 9223372036854775807 := by
          obtain ⟨p, hp, rfl⟩ := List.mem_map.1 hmem
          exact HO.out.ids p hp
        rw [hdrop, List.any_cons] at HR
        have HR2 := Asd.mk HR.out
        clear hid hdrop hrow hmem HR
        go_wp2_with fail
        refine (Fl.role_calls HT1.out id ⟨by omega, by omega⟩).mono ?_
        obtain ⟨r, hr⟩ : ∃ r, r = Fl.rget s.tab.roles id := ⟨_, rfl⟩
        rw [← hr] at HR2 ⊢
        rintro e w2 ⟨rfl, rfl⟩
        clear hr
        by_cases h2 : r = some 2
        · subst h2
          have HE : Asd (roleOf s true = 1) := ⟨by rw [HR2.out]; rfl⟩
          clear HR2
          go_wp2
          go_ret
          exact ⟨by rw [HE.out]; rfl, HU.out⟩
        · have h2b : ((r.getD 0) == 2) = false := by
            cases r with
            | none => rfl
            | some x => exact beq_eq_false_iff_ne.2 (fun e => h2 (by rw [show x = 2 from e]))
          have h2c : (r == some 2) = false := beq_eq_false_iff_ne.2 h2
          rw [h2c, Bool.false_or] at HR2
          have HE := Asd.mk HR2.out
          clear HR2 h2 h2c
          go_wp2
          go_roundw
          case rel => exact ⟨i + 1, by go_num, by omega, HE, trivial⟩
          case measure => simp only [intOf]; omega
      · have HE : Asd (roleOf s true = 2) := ⟨by rw [HR.out, List.drop_eq_nil_of_le (by have := HN.out; omega)]; rfl⟩
        go_wp2
        go_ret
        exact ⟨by rw [HE.out]; rfl, HU.out⟩
end
end Go.Proofs.YteepkanbiefpjaaGreatDoor.Bk
set_option linter.unusedVariables false
set_option linter.unusedSimpArgs false
namespace Go.Proofs.YteepkanbiefpjaaGreatDoor.Bk
open Go.RowKit K
open MgRow (M)
open Fl (rget rput rins rdel)
theorem rins_fst {p : Int × Int} {x : Int} : ∀ {R : List (Int × Int)}, x ∈ (rins p R).map (·.1) → x = p.1 ∨ x ∈ R.map (·.1)
  | [], h => by simpa [rins] using h
  | y :: r, h => by
    simp only [rins] at h
    split at h
    · simpa using h
    · simp only [List.map_cons, List.mem_cons] at h ⊢
      rcases h with h | h
      · exact .inr (.inl h)
      · exact (rins_fst h).imp id .inr
theorem rins_sorted {p : Int × Int} : ∀ {R : List (Int × Int)}, (R.map (·.1)).Pairwise (· < ·) → p.1 ∉ R.map (·.1) → ((rins p R).map (·.1)).Pairwise (· < ·)
  | [], _, _ => by simp [rins]
  | y :: r, h, hn => by
    simp only [List.map_cons, List.pairwise_cons, List.mem_cons, not_or] at h hn
    simp only [rins]
    split
    · rename_i hlt
      simp only [List.map_cons, List.pairwise_cons, List.mem_cons]
      refine ⟨fun a ha => ?_, h⟩
      rcases ha with rfl | ha
      · exact hlt
      · have := h.1 a ha; omega
    · rename_i hlt
      simp only [List.map_cons, List.pairwise_cons]
      refine ⟨fun a ha => ?_, rins_sorted h.2 hn.2⟩
      rcases rins_fst ha with rfl | ha
      · have := hn.1; omega
      · exact h.1 a ha
theorem keys_get {s : Fl.T} {id : Int} (h : id ∈ Fl.keys s) : (rget s.roles id).isSome = true := by
  obtain ⟨p, hp, rfl⟩ := List.mem_map.1 h
  unfold rget
  cases hf : s.roles.find? (fun q => decide (q.1 = p.1)) with
  | some q => rfl
  | none => have := List.find?_eq_none.1 hf p hp; simp at this
theorem Ok.joined {s : Br} {id : Int} {c c2 : Cn} (h : Ok s) (hg : get s id = some c) (hst : c.st ≠ 1) (h2 : c2.st = 1) (hv : c2.vw.isSome = true) (r : Int) (hr : 0 ≤ r ∧ r ≤ 2) : Ok (wTab (Bk.set s id c2) (Fl.join s.tab id r)) := by
  have hid := h.rng id (get_ids hg)
  have hnone : rget s.tab.roles id = none := by
    cases hx : rget s.tab.roles id with
    | none => rfl
    | some x =>
      obtain ⟨y, h4, h5⟩ := h.use id (by rw [hx]; rfl)
      rw [hg] at h4
      cases h4
      exact absurd h5 hst
  have hj : Fl.join s.tab id r = { s.tab with roles := rput s.tab.roles id r } := by
    unfold Fl.join Fl.joins
    rw [hnone, if_pos]
    simp only [Option.isSome_none, Bool.not_false, Bool.true_and, Bool.and_eq_true, decide_eq_true_eq]
    exact ⟨hid.1, hr.1, hr.2⟩
  have hput : rput s.tab.roles id r = rins (id, r) s.tab.roles := by unfold Fl.rput; rw [Fl.rdel_none _ _ hnone]
  have hnk : id ∉ Fl.keys s.tab := fun hm => by have := keys_get hm; rw [hnone] at this; cases this
  have hsorted : (Fl.keys (Fl.join s.tab id r)).Pairwise (· < ·) := by
    rw [hj]
    unfold Fl.keys
    simp only
    rw [hput]
    exact rins_sorted h.krt hnk
  have hids : ids (wTab (Bk.set s id c2) (Fl.join s.tab id r)) = ids s := ids_set s id c2
  have huse : ∀ j, (rget (Fl.join s.tab id r).roles j).isSome = true → ∃ x, get (Bk.set s id c2) j = some x ∧ x.st = 1 := fun j hjs => by
    by_cases e : j = id
    · subst e
      exact ⟨c2, get_set_same hg, h2⟩
    · rw [hj] at hjs
      simp only at hjs
      rw [Fl.rget_put_other _ _ _ _ e] at hjs
      obtain ⟨x, h4, h5⟩ := h.use j hjs
      exact ⟨x, (get_set_other e).trans h4, h5⟩
  have hlen : (Fl.join s.tab id r).roles.length ≤ 16 := by
    have := seq_len (a := 1) (b := 16) hsorted (fun x hx => by
      obtain ⟨y, h4, _⟩ := huse x (keys_get hx)
      have := get_ids h4
      rw [ids_set] at this
      exact h.rng x this) (by omega)
    simp only [Fl.keys, List.length_map] at this
    omega
  have hG := h.g.join id r (by omega)
  refine ⟨by rw [hids]; exact h.srt, by rw [hids]; exact h.rng, { hG with lens := ⟨?_, hlen⟩ }, hsorted, huse, fun j x hx h1 => ?_, fun j x hx => ?_, fun p hp => ?_⟩
  · show (Fl.join s.tab id r).queue.length ≤ 16
    rw [hj]
    exact h.g.lens.1
  · have hx' : get (Bk.set s id c2) j = some x := hx
    show x.vw.isSome = true ∧ (rget (Fl.join s.tab id r).roles j).isSome = true
    by_cases e : j = id
    · subst e
      rw [get_set_same hg] at hx'
      cases hx'
      refine ⟨hv, ?_⟩
      rw [hj]
      simp only
      rw [Fl.rget_put_same]
      rfl
    · rw [get_set_other e] at hx'
      have := h.opn j x hx' h1
      refine ⟨this.1, ?_⟩
      rw [hj]
      simp only
      rw [Fl.rget_put_other _ _ _ _ e]
      exact this.2
  · have hx' : get (Bk.set s id c2) j = some x := hx
    by_cases e : j = id
    · subst e
      rw [get_set_same hg] at hx'
      cases hx'
      exact .inr (.inl h2)
    · rw [get_set_other e] at hx'
      exact h.sts j x hx'
  · have hp' : p ∈ (Fl.join s.tab id r).roles := hp
    rw [hj] at hp'
    rcases Fl.rput_mem hp' with rfl | h1
    · exact hr
    · exact h.rls p h1
theorem roleOf_range (s : Br) (b : Bool) : roleOf s b = 0 ∨ roleOf s b = 1 ∨ roleOf s b = 2 := by
  unfold roleOf
  split
  · split
    · exact .inr (.inl rfl)
    · exact .inr (.inr rfl)
  · exact .inl rfl
end Go.Proofs.YteepkanbiefpjaaGreatDoor.Bk
set_option linter.unusedVariables false
set_option linter.unusedSimpArgs false
namespace Go.Proofs.YteepkanbiefpjaaGreatDoor.Bk
open Go.RowKit K
open MgRow (M)
section
variable {w w' : World} {L : Lay} {s : Br} {F : Nat → Prop} {id : Int} {c : Cn}
def cNm (c : Cn) (t : List UInt8) : Cn := { c with st := 1, name := t }
theorem set_set (s : Br) (id : Int) (a b : Cn) : set (set s id a) id b = set s id b := by
  unfold set cset
  simp only [List.map_map]
  congr 1
  refine List.map_congr_left (fun p _ => ?_)
  simp only [Function.comp]
  by_cases h : p.1 = id
  · rw [if_pos h, if_pos rfl, if_pos h]
  · rw [if_neg h, if_neg h]
theorem Bt.newView (h : Bt L w s F) (hg : get s id = some c) {w1 : World} (hu : Upd (fun _ => False) w w1) {v at_ st : Nat} (hV : Vw.V w1 v at_ st) (hv : w.heap.size ≤ v) : ∃ F', Bt L (w1.setCell ⟨(L.cn id).p, 7, none⟩ (.pointer (some ⟨v, 0, none⟩))) (set s id (cVw c (at_, st))) F' ∧ Tn w F (w1.setCell ⟨(L.cn id).p, 7, none⟩ (.pointer (some ⟨v, 0, none⟩))) F' := by
  obtain ⟨Fi, hp, hF, _, hput⟩ := h.bk.turn (.conn id)
  obtain ⟨v0, hb⟩ := h.conn hg
  have hlt := blk_lt hb
  have hne : v ≠ (L.cn id).p := by omega
  have hu2 := (Upd.refl (fun k => k = (L.cn id).p) w1).setCell (p := ⟨(L.cn id).p, 7, none⟩) (fun _ => rfl) (.pointer (some ⟨v, 0, none⟩))
  have hpin : Fi (L.cn id).p := by
    simp only [PartAt] at hp
    rw [hg] at hp
    simp only [ConnAt] at hp
    cases hv : c.vw with
    | none => rw [hv] at hp; exact (hp.2 _).2 rfl
    | some q => rw [hv] at hp; obtain ⟨_, _, _, _, a4⟩ := hp; exact (a4 _).2 (.inl rfl)
  have hpart : PartAt L (set s id (cVw c (at_, st))) (.conn id) (w1.setCell ⟨(L.cn id).p, 7, none⟩ (.pointer (some ⟨v, 0, none⟩))) (fun k => k = (L.cn id).p ∨ k = v) := by
    simp only [PartAt]
    rw [get_set_same hg]
    simp only [ConnAt, cVw]
    exact ⟨v, blk_setCell (o := 7) (hu.blk hb (fun h => h)) _, hu2.blk hV hne, hne, fun k => Iff.rfl⟩
  obtain ⟨F', hbk, ht⟩ := hput _ L (set s id (cVw c (at_, st))) _ hpart (fun j hj W Fj hw => set_part hg hw (fun e => absurd e hj) (fun _ => ⟨rfl, rfl⟩) (fun _ => rfl) (fun _ => rfl)) ⟨(hu.mono (T := Fi) (fun _ _ h => h.elim)).trans hu2 (fun k _ e => by subst e; exact hpin), fun k hk => hk.elim (fun e => .inl (by rw [e]; exact hpin)) (fun e => .inr (by omega))⟩
  exact ⟨F', h.go hbk ht, ht⟩
theorem Bt.view (h : Bt L w s F) (hg : get s id = some c) {a b : Nat} (hv : c.vw = some (a, b)) : ∃ v, w.heap[(L.cn id).p]? = some (.cells (ccells (L.cn id) id c (.pointer (some ⟨v, 0, none⟩))) 101 (0, 0)) ∧ Vw.V w v a b := by
  obtain ⟨Fo, ho, _⟩ := h.bk.part (.conn id)
  simp only [PartAt] at ho
  rw [hg] at ho
  simp only [ConnAt] at ho
  rw [hv] at ho
  obtain ⟨v, h1, h2, _⟩ := ho
  exact ⟨v, h1, h2⟩
theorem Bt.ring (h : Bt L w s F) : ∃ g, Rg.Ring w L.lg g (Rg.roomN s.cf.log) s.log := by
  obtain ⟨Fi, ⟨g, hr, _⟩, _⟩ := h.bk.part .ring
  exact ⟨g, hr⟩
theorem Bt.apart (h : Bt L w s F) (hg : get s id = some c) : L.q ≠ (L.cn id).p := by
  obtain ⟨Fi, hp, _, hd, _⟩ := h.bk.turn (.conn id)
  obtain ⟨Fj, ho, hdis⟩ := hd .own (by intro e; cases e)
  intro e
  refine hdis (L.cn id).p ?_ ((ho.2 _).2 e.symm)
  simp only [PartAt] at hp
  rw [hg] at hp
  simp only [ConnAt] at hp
  cases hv : c.vw with
  | none => rw [hv] at hp; exact (hp.2 _).2 rfl
  | some q => rw [hv] at hp; obtain ⟨_, _, _, _, a4⟩ := hp; exact (a4 _).2 (.inl rfl)
theorem itoa_calls (i : Int) (h0 : 0 ≤ i) (h1 : i < 100) (w : World) : Calls Tryz.prog 35 #[.int .i64 i] w fun e w' => e = .returned (.string (S (Lib.itoa i))) ∧ w = w' := by
  obtain ⟨n, rfl⟩ : ∃ n : Nat, i = (n : Int) := ⟨i.toNat, by omega⟩
  exact (Tryz.strconv_Itoa_small n (by omega) w).mono fun e w' ⟨he, hw⟩ => ⟨by rw [he]; unfold Lib.itoa; rw [if_neg (by omega)]; rfl, hw.symm⟩
set_option maxHeartbeats 8000000 in
set_option maxRecDepth 100000 in
theorem hello_calls (h : Bt L w s F) (ho : Ok s) (hg : get s id = some c) (hst : c.st = 0) (m : M) (ha : 0 ≤ m.a ∧ m.a ≤ 1099511627776) (hbb : 0 ≤ m.b ∧ m.b ≤ 1099511627776) (ht : m.t.length ≤ 3000) : Calls Tryz.prog 80 #[ptr L.q, ptr (L.cn id).p, Vw.msgV m] w (Goes L (hello s id m) F w (.tuple #[])) := by
  unfold Vw.msgV
  have H := Asd.mk h
  have HO := Asd.mk ho
  have HG := Asd.mk hg
  have HST := Asd.mk hst
  have hk1 := (Upd.refl (fun _ => False) w).alloc (.cells #[.int .i64 m.k, .int .i64 m.a, .int .i64 m.b, .string (S m.t)] 36)
  have hm1 := heap_alloc_new w (.cells #[.int .i64 m.k, .int .i64 m.a, .int .i64 m.b, .string (S m.t)] 36)
  have hs1 := Upd.refl (fun _ => False) (w.alloc (.cells #[.int .i64 m.k, .int .i64 m.a, .int .i64 m.b, .string (S m.t)] 36))
  have m0 := keepsC (o := 0) (v := .int .i64 m.k) hm1 rfl
  have m1 := keepsC (o := 1) (v := .int .i64 m.a) hm1 rfl
  have m2 := keepsC (o := 2) (v := .int .i64 m.b) hm1 rfl
  have m3 := keepsC (o := 3) (v := .string (S m.t)) hm1 rfl
  have HM1 := Asd.mk hm1
  clear h ho hg hst hm1
  by_cases hk : m.k = 1
  case neg =>
    have hkb : (m.k != 1) = true := bne_iff_ne.2 hk
    have HE : Asd (hello s id m = shut s id 4) := ⟨by unfold hello; rw [if_pos hk]⟩
    rw [HE.out]
    clear hk HE
    go_enter Tryz.func80, Tryz.ntmps80
    go_wp2_with fail
    refine (shut_calls (H.out.up hk1) HO.out HG.out 4).mono ?_
    rintro e w2 ⟨rfl, F2, h2, t2⟩
    go_wp2
    go_end0
    exact ⟨rfl, F2, h2, (Tn.grow F hk1).trans t2⟩
  have hkb : (m.k != 1) = false := by rw [hk]; rfl
  by_cases hv : m.a / 4 = 1
  case neg =>
    have hvb : (m.a / 4 != 1) = true := bne_iff_ne.2 hv
    have HE : Asd (hello s id m = shut s id 2) := ⟨by unfold hello; rw [if_neg (fun h => h hk), if_pos hv]⟩
    rw [HE.out]
    clear hk hv HE
    go_enter Tryz.func80, Tryz.ntmps80
    go_wp2_with fail
    refine (shut_calls (H.out.up hk1) HO.out HG.out 2).mono ?_
    rintro e w2 ⟨rfl, F2, h2, t2⟩
    go_wp2
    go_end0
    exact ⟨rfl, F2, h2, (Tn.grow F hk1).trans t2⟩
  have hvb : (m.a / 4 != 1) = false := by rw [hv]; rfl
  cases hn : named m.t with
  | false =>
    have HE : Asd (hello s id m = shut s id 3) := ⟨by unfold hello; rw [if_neg (fun h => h hk), if_neg (fun h => h hv), if_pos hn]⟩
    have HN := Asd.mk hn
    rw [HE.out]
    clear hk hv hn HE
    go_enter Tryz.func80, Tryz.ntmps80
    go_wp2_with fail
    refine (named_calls m.t (by omega) _).mono ?_
    rw [HN.out]
    rintro e w2 ⟨rfl, rfl⟩
    go_wp2_with fail
    refine (shut_calls (H.out.up hk1) HO.out HG.out 3).mono ?_
    rintro e w2 ⟨rfl, F2, h2, t2⟩
    go_wp2
    go_end0
    exact ⟨rfl, F2, h2, (Tn.grow F hk1).trans t2⟩
  | true =>
    have HN := Asd.mk hn
    have hHE : hello s id m = hello s id m := rfl
    have hil := Lib.itoa_length_le id (by have := HO.out.rng id (get_ids HG.out); omega) (by have := HO.out.rng id (get_ids HG.out); omega)
    have HIR : Asd (1 ≤ id ∧ id ≤ 16) := ⟨HO.out.rng id (get_ids HG.out)⟩
    obtain ⟨v, hb⟩ := H.out.conn HG.out
    have HP : Asd ((L.cn id).p < w.heap.size) := ⟨blk_lt hb⟩
    have b0 := keepsC (o := 0) (v := .int .i64 id) (hk1.blk hb (fun h => h)) rfl
    obtain ⟨J, hJ⟩ : ∃ J : List UInt8, J = [106, 111, 105, 110, 101, 100, 32] := ⟨_, rfl⟩
    obtain ⟨sp, hsp⟩ : ∃ sp : List UInt8, sp = [32] := ⟨_, rfl⟩
    have hJl : J.length = 7 := by rw [hJ]; rfl
    have hsl : sp.length = 1 := by rw [hsp]; rfl
    have n1 : ¬ 9223372036854775807 < J.length + (Lib.itoa id).length := by omega
    have n2 : ¬ 9223372036854775807 < J.length + (Lib.itoa id).length + sp.length := by omega
    have n3 : ¬ 9223372036854775807 < J.length + (Lib.itoa id).length + sp.length + m.t.length := by omega
    have n2' : ¬ 9223372036854775807 < J.length + ((Lib.itoa id).length + sp.length) := by omega
    have n3' : ¬ 9223372036854775807 < J.length + ((Lib.itoa id).length + sp.length) + m.t.length := by omega
    have n3'' : ¬ 9223372036854775807 < J.length + ((Lib.itoa id).length + (sp.length + m.t.length)) := by omega
    have e1 : ({ data := #[106, 111, 105, 110, 101, 100, 32] } : ByteArray) = S J := by rw [hJ]; rfl
    have e2 : ({ data := #[32] } : ByteArray) = S sp := by rw [hsp]; rfl
    have HJ : Asd (joinT id m.t = J ++ (Lib.itoa id ++ (sp ++ m.t))) := ⟨by rw [hJ, hsp]; simp [joinT]⟩
    clear hJ hsp hJl hsl
    have ha4 : m.a = 4 ∨ m.a = 5 ∨ m.a = 6 ∨ m.a = 7 := by omega
    obtain ⟨y2, hy2, hy2b⟩ : ∃ y2, Go.bits .and .i64 m.a 2 = y2 ∧ (y2 == 2) = decide (m.a / 2 % 2 = 1) := by rcases ha4 with h | h | h | h <;> (rw [h]; exact ⟨_, rfl, by decide⟩)
    obtain ⟨y1, hy1, hy1b⟩ : ∃ y1, Go.bits .and .i64 m.a 1 = y1 ∧ (y1 == 1) = decide (m.a % 2 = 1) := by rcases ha4 with h | h | h | h <;> (rw [h]; exact ⟨_, rfl, by decide⟩)
    have HK := Asd.mk hk
    have HV := Asd.mk hv
    clear hk hv hn hb hHE ha4
    go_enter Tryz.func80, Tryz.ntmps80
    go_wp2_with fail
    refine (named_calls m.t (by omega) _).mono ?_
    rw [HN.out]
    rintro e w2 ⟨rfl, rfl⟩
    go_wp2
    generalize hw1 : w.alloc (.cells #[.int .i64 m.k, .int .i64 m.a, .int .i64 m.b, .string (S m.t)] 36) = w1 at hk1 hs1 b0 m0 m1 m2 m3 HM1 ⊢
    clear hw1
    refine wp_region_held_drew (S := fun W => W.cell? ⟨(L.cn id).p, 0, none⟩ = some (.int .i64 id) ∧ W.cell? ⟨w.heap.size, 3, none⟩ = some (.string (S m.t))) (by kernel_rfl) (by exact ⟨b0 _ (by repeat (first | assumption | with_reducible exact Upd.refl _ _ | with_reducible refine Upd.drewN ?_ _ | with_reducible refine Upd.drew ?_ | with_reducible refine Upd.alloc ?_ _ | with_reducible refine Upd.setAt ?_ ?_ | exact Or.inl rfl | exact Or.inr (by simp) | exact Or.inr (by omega))), m3 _ (by repeat (first | assumption | with_reducible exact Upd.refl _ _ | with_reducible refine Upd.drewN ?_ _ | with_reducible refine Upd.drew ?_ | with_reducible refine Upd.alloc ?_ _ | with_reducible refine Upd.setAt ?_ ?_ | exact Or.inl rfl | exact Or.inr (by simp) | exact Or.inr (by omega)))⟩) (fun hHeld => ?_)
    refine tk_ 0 ?_
    try simp only [Act.put, sl1_, sl2_, sl3_]
    refine tk_ 1 ?_
    try simp only [Act.put, sl1_, sl2_, sl3_]
    refine tk_ 2 ?_
    try simp only [Act.put, sl1_, sl2_, sl3_]
    refine tk_ 3 ?_
    try simp only [Act.put, sl1_, sl2_, sl3_]
    refine tk_ 4 ?_
    try simp only [Act.put, sl1_, sl2_, sl3_]
    refine tk_ 8 ?_
    try simp only [Act.put, sl1_, sl2_, sl3_]
    refine tk_ 9 ?_
    try simp only [Act.put, sl1_, sl2_, sl3_]
    refine wpAnyH_ready (rs := [5]) (by kernel_rfl) (by simp) (AllReadyH.cons (o := ?_) ?_ (fun K hK => ?_) AllReadyH.nil)
    rotate_left 1
    · (simp only [List.getElem?_toArray, List.getElem?_cons_succ, List.getElem?_cons_zero]; exact rfl)
    (go_simp; (go_at_call 35; refine (itoa_calls id (by have := HIR.out; omega) (by have := HIR.out; omega) _).mono ?_; rintro e w2 ⟨rfl, rfl⟩))
    refine hK.out _ _ (by exact ⟨b0 _ (by repeat (first | assumption | with_reducible exact Upd.refl _ _ | with_reducible refine Upd.drewN ?_ _ | with_reducible refine Upd.drew ?_ | with_reducible refine Upd.alloc ?_ _ | with_reducible refine Upd.setAt ?_ ?_ | exact Or.inl rfl | exact Or.inr (by simp) | exact Or.inr (by omega))), m3 _ (by repeat (first | assumption | with_reducible exact Upd.refl _ _ | with_reducible refine Upd.drewN ?_ _ | with_reducible refine Upd.drew ?_ | with_reducible refine Upd.alloc ?_ _ | with_reducible refine Upd.setAt ?_ ?_ | exact Or.inl rfl | exact Or.inr (by simp) | exact Or.inr (by omega)))⟩) (fun hHeld => ?_)
    clear hK K
    try simp only [Act.put, List.setIfInBounds_toArray, List.set_cons_zero, List.set_cons_succ]
    refine tk_ 6 ?_
    try simp only [Act.put, sl1_, sl2_, sl3_]
    refine tk_ 7 ?_
    try simp only [Act.put, sl1_, sl2_, sl3_]
    refine tk_ 10 ?_
    try simp only [Act.put, sl1_, sl2_, sl3_]
    refine tk_ 11 ?_
    try simp only [Act.put, sl1_, sl2_, sl3_]
    refine wpAnyH_ready (rs := [12]) (by kernel_rfl) (by simp) (AllReadyH.cons (o := ?_) ?_ (fun K hK => ?_) AllReadyH.nil)
    rotate_left 1
    · (simp only [List.getElem?_toArray, List.getElem?_cons_succ, List.getElem?_cons_zero]; exact rfl)
    (go_simp; (go_at_call 75; rw [← HJ.out]; refine (tell_calls (H.out.up (hk1.trans (show Upd (fun _ => False) w1 w1.drew from (by repeat (first | assumption | with_reducible exact Upd.refl _ _ | with_reducible refine Upd.drewN ?_ _ | with_reducible refine Upd.drew ?_ | with_reducible refine Upd.alloc ?_ _ | with_reducible refine Upd.setAt ?_ ?_ | exact Or.inl rfl | exact Or.inr (by simp) | exact Or.inr (by omega)))) (fun _ _ h => h))) HO.out (note (joinT id m.t))).mono ?_; rintro e w2 ⟨rfl, F2, h2, t2⟩; have H2 := Asd.mk h2; have T2 := Asd.mk ((Tn.grow F (hk1.trans (show Upd (fun _ => False) w1 w1.drew from (by repeat (first | assumption | with_reducible exact Upd.refl _ _ | with_reducible refine Upd.drewN ?_ _ | with_reducible refine Upd.drew ?_ | with_reducible refine Upd.alloc ?_ _ | with_reducible refine Upd.setAt ?_ ?_ | exact Or.inl rfl | exact Or.inr (by simp) | exact Or.inr (by omega)))) (fun _ _ h => h))).trans t2); obtain ⟨c1, hg1, hc1⟩ := (sm_tell' s (note (joinT id m.t))).cn id c HG.out; obtain ⟨v2, hb2⟩ := h2.conn hg1; have hm2 := t2.upd.blk (show w1.drew.heap[w.heap.size]? = _ from HM1.out) (fun h => by have := H.out.bk.lt _ h; omega); have HC2 := Asd.mk (And.intro (keepsC (o := 0) (v := .int .i64 id) hb2 rfl _ (Upd.refl _ _)) (keepsC (o := 3) (v := .string (S m.t)) hm2 rfl _ (Upd.refl _ _))); have HG1 := Asd.mk hg1; have HB2 := Asd.mk hb2; have HM2 := Asd.mk hm2; clear h2 t2 hg1 hb2 hm2 hc1))
    refine hK.out _ _ (by exact HC2.out) (fun hHeld => ?_)
    clear hK K
    try simp only [Act.put, List.setIfInBounds_toArray, List.set_cons_zero, List.set_cons_succ]
    refine wpAnyH_done (by kernel_rfl) ?_ _
    have HO2 := Asd.mk (ok_tell' HO.out (note (joinT id m.t)))
    obtain ⟨s1, hs1'⟩ : ∃ s1, s1 = tell s (note (joinT id m.t)) := ⟨_, rfl⟩
    rw [← hs1'] at H2 HG1 HO2
    have HS1 := Asd.mk hs1'
    clear hs1' b0 m0 m1 m2 m3 hs1 n1 n2 n3 n2' n3' n3'' e1 e2 hHeld
    have b1 := keepsC (o := 1) (v := .int .i64 c1.st) HB2.out rfl
    have b2 := keepsC (o := 2) (v := .string (S c1.name)) HB2.out rfl
    have bf := fun o => keepsF (o := o) HB2.out
    have m3 := keepsC (o := 3) (v := .string (S m.t)) HM2.out rfl
    have hs2 : Upd (fun _ => False) w2 w2 := Upd.refl _ _
    have hne : w.heap.size ≠ (L.cn id).p := by have := HP.out; omega
    have bb1 := blk_setCell (o := 1) (show w2.drew.heap[(L.cn id).p]? = _ from HB2.out) (.int .i64 1)
    have bb2 := blk_setCell (o := 2) bb1 (.string (S m.t))
    have mm1 : (w2.drew.setCell ⟨(L.cn id).p, 1, none⟩ (.int .i64 1)).cell? ⟨w.heap.size, 3, none⟩ = some (.string (S m.t)) := (World.cell?_setCell_other _ _ _ _ (fun e => hne (by injection e with e1 e2; exact e1.symm))).trans (m3 _ (by repeat (first | assumption | with_reducible exact Upd.refl _ _ | with_reducible refine Upd.drewN ?_ _ | with_reducible refine Upd.drew ?_ | with_reducible refine Upd.alloc ?_ _ | with_reducible refine Upd.setAt ?_ ?_ | exact Or.inl rfl | exact Or.inr (by simp) | exact Or.inr (by omega))))
    have mm2 : ((w2.drew.setCell ⟨(L.cn id).p, 1, none⟩ (.int .i64 1)).setCell ⟨(L.cn id).p, 2, none⟩ (.string (S m.t))).cell? ⟨w.heap.size, 3, none⟩ = some (.string (S m.t)) := (World.cell?_setCell_other _ _ _ _ (fun e => hne (by injection e with e1 e2; exact e1.symm))).trans mm1
    have cc2 : (w2.drew.setCell ⟨(L.cn id).p, 1, none⟩ (.int .i64 1)).cell? ⟨(L.cn id).p, 2, none⟩ = some (.string (S c1.name)) := by simp [World.cell?, bb1, ccells]
    have ff2 : (w2.drew.setCell ⟨(L.cn id).p, 1, none⟩ (.int .i64 1)).frozen? ⟨(L.cn id).p, 2, none⟩ = false := by simp [World.frozen?, bb1]
    go_wp2
    refine wp_region_held_drew (S := fun W => W.cell? ⟨w.heap.size, 3, none⟩ = some (.string (S m.t))) (by kernel_rfl) (by exact m3 _ (by repeat (first | assumption | with_reducible exact Upd.refl _ _ | with_reducible refine Upd.drewN ?_ _ | with_reducible refine Upd.drew ?_ | with_reducible refine Upd.alloc ?_ _ | with_reducible refine Upd.setAt ?_ ?_ | exact Or.inl rfl | exact Or.inr (by simp) | exact Or.inr (by omega)))) (fun hHeld => ?_)
    refine tk_ 0 ?_
    try simp only [Act.put, sl1_, sl2_, sl3_]
    refine tk_ 1 ?_
    try simp only [Act.put, sl1_, sl2_, sl3_]
    refine tk_ 2 ?_
    try simp only [Act.put, sl1_, sl2_, sl3_]
    refine tk_ 3 ?_
    try simp only [Act.put, sl1_, sl2_, sl3_]
    refine tk_ 4 ?_
    try simp only [Act.put, sl1_, sl2_, sl3_]
    refine tk_ 5 ?_
    try simp only [Act.put, sl1_, sl2_, sl3_]
    refine wpAnyH_ready (rs := [6]) (by kernel_rfl) (by simp) (AllReadyH.cons (o := ?_) ?_ (fun K hK => ?_) AllReadyH.nil)
    rotate_left 1
    · (simp only [List.getElem?_toArray, List.getElem?_cons_succ, List.getElem?_cons_zero]; exact rfl)
    go_simp
    refine hK.out _ _ (by exact mm1) (fun hHeld => ?_)
    clear hK K
    try simp only [Act.put, List.setIfInBounds_toArray, List.set_cons_zero, List.set_cons_succ]
    refine tk_ 7 ?_
    try simp only [Act.put, sl1_, sl2_, sl3_]
    refine tk_ 8 ?_
    try simp only [Act.put, sl1_, sl2_, sl3_]
    refine wpAnyH_ready (rs := [9]) (by kernel_rfl) (by simp) (AllReadyH.cons (o := ?_) ?_ (fun K hK => ?_) AllReadyH.nil)
    rotate_left 1
    · (simp only [List.getElem?_toArray, List.getElem?_cons_succ, List.getElem?_cons_zero]; exact rfl)
    go_simp
    refine hK.out _ _ (by exact mm2) (fun hHeld => ?_)
    clear hK K
    try simp only [Act.put, List.setIfInBounds_toArray, List.set_cons_zero, List.set_cons_succ]
    refine wpAnyH_done (by kernel_rfl) ?_ _
    have hne2 : w.heap.size ≠ (L.cn id).p := hne
    obtain ⟨F3, h3, t3⟩ := H2.out.setConn (w' := ((w2.setCell ⟨(L.cn id).p, 1, none⟩ (.int .i64 1)).setCell ⟨(L.cn id).p, 2, none⟩ (.string (S m.t))).drew) (c' := cNm c1 m.t) HG1.out rfl ⟨rfl, rfl⟩ rfl rfl ((((Upd.refl (fun k => k = (L.cn id).p) w2).setCell (fun _ => rfl) _).setCell (fun _ => rfl) _).drew) (fun v hv => blk_setCell (o := 2) (blk_setCell (o := 1) hv (.int .i64 1)) (.string (S m.t)))
    have H3 := Asd.mk h3
    have T3 := Asd.mk t3
    have HM3 := Asd.mk (((((Upd.refl (fun k => k = (L.cn id).p) w2).setCell (p := ⟨(L.cn id).p, 1, none⟩) (fun _ => rfl) (.int .i64 1)).setCell (p := ⟨(L.cn id).p, 2, none⟩) (fun _ => rfl) (.string (S m.t))).drew).blk HM2.out (fun e => hne2 e))
    have hg3 : get (set s1 id (cNm c1 m.t)) id = some (cNm c1 m.t) := get_set_same HG1.out
    have HG3 := Asd.mk hg3
    clear h3 t3 hg3 bb1 bb2 mm1 mm2 cc2 ff2 b1 b2 bf m3 hs2
    try clear hHeld
    generalize hw3 : ((w2.setCell ⟨(L.cn id).p, 1, none⟩ (.int .i64 1)).setCell ⟨(L.cn id).p, 2, none⟩ (.string (S m.t))).drew = w3 at H3 T3 HM3 ⊢
    clear hw3
    have m1 := keepsC (o := 1) (v := .int .i64 m.a) HM3.out rfl
    have m2 := keepsC (o := 2) (v := .int .i64 m.b) HM3.out rfl
    have q8 := keepsC (o := 8) (v := .pointer (some ⟨L.lg, 0, none⟩)) H3.out.own rfl
    obtain ⟨v3, hb3⟩ := H3.out.conn HG3.out
    have hqp := H3.out.apart HG3.out
    have c7 := keepsC (o := 7) (v := v3) hb3 rfl
    have c7f := fun o => keepsF (o := o) hb3
    have hs3 : Upd (fun _ => False) w3 w3 := Upd.refl _ _
    go_wp2
    refine wp_region_held_drew (S := fun W => W.cell? ⟨w.heap.size, 1, none⟩ = some (.int .i64 m.a) ∧ W.cell? ⟨w.heap.size, 2, none⟩ = some (.int .i64 m.b) ∧ W.cell? ⟨L.q, 8, none⟩ = some (.pointer (some ⟨L.lg, 0, none⟩))) (by kernel_rfl) (by exact ⟨m1 _ (by repeat (first | assumption | with_reducible exact Upd.refl _ _ | with_reducible refine Upd.drewN ?_ _ | with_reducible refine Upd.drew ?_ | with_reducible refine Upd.alloc ?_ _ | with_reducible refine Upd.setAt ?_ ?_ | exact Or.inl rfl | exact Or.inr (by simp) | exact Or.inr (by omega))), m2 _ (by repeat (first | assumption | with_reducible exact Upd.refl _ _ | with_reducible refine Upd.drewN ?_ _ | with_reducible refine Upd.drew ?_ | with_reducible refine Upd.alloc ?_ _ | with_reducible refine Upd.setAt ?_ ?_ | exact Or.inl rfl | exact Or.inr (by simp) | exact Or.inr (by omega))), q8 _ (by repeat (first | assumption | with_reducible exact Upd.refl _ _ | with_reducible refine Upd.drewN ?_ _ | with_reducible refine Upd.drew ?_ | with_reducible refine Upd.alloc ?_ _ | with_reducible refine Upd.setAt ?_ ?_ | exact Or.inl rfl | exact Or.inr (by simp) | exact Or.inr (by omega)))⟩) (fun hHeld => ?_)
    refine tk_ 0 ?_
    try simp only [Act.put, sl1_, sl2_, sl3_]
    refine tk_ 1 ?_
    try simp only [Act.put, sl1_, sl2_, sl3_]
    refine tk_ 2 ?_
    try simp only [Act.put, sl1_, sl2_, sl3_]
    refine tk_ 3 ?_
    try simp only [Act.put, sl1_, sl2_, sl3_]
    refine tk_ 4 ?_
    try simp only [Act.put, sl1_, sl2_, sl3_]
    refine tk_ 5 ?_
    try simp only [Act.put, sl1_, sl2_, sl3_]
    refine tk_ 6 ?_
    try simp only [Act.put, sl1_, sl2_, sl3_]
    refine tk_ 7 ?_
    try simp only [Act.put, sl1_, sl2_, sl3_]
    refine tk_ 8 ?_
    try simp only [Act.put, sl1_, sl2_, sl3_]
    refine tk_ 9 ?_
    try simp only [Act.put, sl1_, sl2_, sl3_]
    refine tk_ 10 ?_
    try simp only [Act.put, sl1_, sl2_, sl3_]
    refine wpAnyH_ready (rs := [11]) (by kernel_rfl) (by simp) (AllReadyH.cons (o := ?_) ?_ (fun K hK => ?_) AllReadyH.nil)
    rotate_left 1
    · (simp only [List.getElem?_toArray, List.getElem?_cons_succ, List.getElem?_cons_zero]; exact rfl)
    (go_simp; (go_at_call 98; obtain ⟨g, hr⟩ := (H3.out.up (show Upd (fun _ => False) w3 w3.drew from (by repeat (first | assumption | with_reducible exact Upd.refl _ _ | with_reducible refine Upd.drewN ?_ _ | with_reducible refine Upd.drew ?_ | with_reducible refine Upd.alloc ?_ _ | with_reducible refine Upd.setAt ?_ ?_ | exact Or.inl rfl | exact Or.inr (by simp) | exact Or.inr (by omega))))).ring; refine (Vw.new_calls hr m.b (by omega) _).mono ?_; rintro e w4 ⟨nv, rfl, hV, hu4, hnv⟩; have h34 := (show Upd (fun _ => False) w3 w3.drew from (by repeat (first | assumption | with_reducible exact Upd.refl _ _ | with_reducible refine Upd.drewN ?_ _ | with_reducible refine Upd.drew ?_ | with_reducible refine Upd.alloc ?_ _ | with_reducible refine Upd.setAt ?_ ?_ | exact Or.inl rfl | exact Or.inr (by simp) | exact Or.inr (by omega)))).trans hu4 (fun _ _ h => h); have hb4 := h34.blk hb3 (fun h => h); obtain ⟨F5, h5, t5⟩ := H3.out.newView HG3.out h34 hV hnv; have hu5 := (h34.mono (T := fun k => k = (L.cn id).p) (fun _ _ h => h.elim)).setCell (p := ⟨(L.cn id).p, 7, none⟩) (fun _ => rfl) (.pointer (some ⟨nv, 0, none⟩)); have hm5 := hu5.blk HM3.out (fun e => hne2 e); have HC5 := Asd.mk (And.intro (keepsC (o := 1) (v := .int .i64 m.a) hm5 rfl _ (Upd.refl _ _)) (And.intro (keepsC (o := 2) (v := .int .i64 m.b) hm5 rfl _ (Upd.refl _ _)) (keepsC (o := 8) (v := .pointer (some ⟨L.lg, 0, none⟩)) h5.own rfl _ (Upd.refl _ _)))); have HM5 := Asd.mk hm5; have H5 := Asd.mk h5; have T5 := Asd.mk t5; have d7 := keepsC (o := 7) (v := v3) hb4 rfl; have d7f := fun o => keepsF (o := o) hb4; have hs4 : Upd (fun _ => False) w4 w4 := Upd.refl _ _; clear hV hr hb4 h5 t5 hm5))
    refine hK.out _ _ (by exact ⟨m1 _ h34, m2 _ h34, q8 _ h34⟩) (fun hHeld => ?_)
    clear hK K
    try simp only [Act.put, List.setIfInBounds_toArray, List.set_cons_zero, List.set_cons_succ]
    refine tk_ 12 ?_
    try simp only [Act.put, sl1_, sl2_, sl3_]
    refine tk_ 13 ?_
    try simp only [Act.put, sl1_, sl2_, sl3_]
    refine wpAnyH_ready (rs := [14]) (by kernel_rfl) (by simp) (AllReadyH.cons (o := ?_) ?_ (fun K hK => ?_) AllReadyH.nil)
    rotate_left 1
    · (simp only [List.getElem?_toArray, List.getElem?_cons_succ, List.getElem?_cons_zero]; exact rfl)
    go_simp
    refine hK.out _ _ (by exact HC5.out) (fun hHeld => ?_)
    clear hK K
    try simp only [Act.put, List.setIfInBounds_toArray, List.set_cons_zero, List.set_cons_succ]
    refine wpAnyH_done (by kernel_rfl) ?_ _
    clear m1 m2 q8 c7 c7f hs3 d7 d7f hs4 hb3 hu5 hu4 hnv h34 hqp
    try clear hHeld
    generalize hw5 : w4.setCell ⟨(L.cn id).p, 7, none⟩ (.pointer (some ⟨nv, 0, none⟩)) = w5 at H5 T5 HM5 HC5 ⊢
    clear hw5 HC5
    obtain ⟨c2, hc2⟩ : ∃ c2, c2 = cVw (cNm c1 m.t) (Vw.startN s1.log (Rg.roomN s1.cf.log) m.b (decide (m.a / 2 % 2 = 1)), 0) := ⟨_, rfl⟩
    obtain ⟨s2, hs2⟩ : ∃ s2, s2 = set s1 id c2 := ⟨_, rfl⟩
    have H5b : Asd (Bt L w5 s2 F5) := ⟨by
      have := H5.out
      rw [set_set] at this
      rw [hs2, hc2]
      exact this⟩
    clear H5
    obtain ⟨r, hr⟩ : ∃ r, r = roleOf s2 (decide (m.a % 2 = 1)) := ⟨_, rfl⟩
    obtain ⟨s3, hs3⟩ : ∃ s3, s3 = wTab s2 (Fl.join s2.tab id r) := ⟨_, rfl⟩
    obtain ⟨s4, hs4⟩ : ∃ s4, s4 = send s3 id ⟨5, id, (Vw.startN s1.log (Rg.roomN s1.cf.log) m.b (decide (m.a / 2 % 2 = 1)) : Int), wordOf r⟩ := ⟨_, rfl⟩
    obtain ⟨s5, hs5⟩ : ∃ s5, s5 = send s4 id ⟨9, s4.holder, 0, []⟩ := ⟨_, rfl⟩
    have HE : Asd (hello s id m = if s5.ended then send s5 id ⟨15, s5.code, 0, []⟩ else s5) := ⟨by
      rw [hs5, hs4, hs3, hr, hs2, hc2]
      unfold hello
      rw [if_neg (fun h => h HK.out), if_neg (fun h => h HV.out), if_neg (by rw [HN.out]; simp)]
      simp only
      rw [← HS1.out, HG1.out]
      rfl⟩
    have hrr : r = 0 ∨ r = 1 ∨ r = 2 := by rw [hr]; exact roleOf_range _ _
    have HO3 : Asd (Ok s3) := ⟨by
      rw [hs3, hs2]
      refine HO2.out.joined HG1.out ?_ (by rw [hc2]; rfl) (by rw [hc2]; rfl) r (by omega)
      obtain ⟨x, hx1, hx2, _⟩ := (sm_tell' s (note (joinT id m.t))).cn id c HG.out
      rw [← HS1.out, HG1.out] at hx1
      cases hx1
      have := HST.out
      omega⟩
    have HG5 : Asd (Fl.G s2.tab 16 0) := ⟨by rw [hs2]; exact HO2.out.g⟩
    have HGc : Asd (get s2 id = some c2) := ⟨by rw [hs2]; exact get_set_same HG1.out⟩
    have HVW : Asd (c2.vw = some (Vw.startN s1.log (Rg.roomN s1.cf.log) m.b (decide (m.a / 2 % 2 = 1)), 0)) := ⟨by rw [hc2]; rfl⟩
    obtain ⟨ln, hln⟩ : ∃ ln, ln = Vw.startN s1.log (Rg.roomN s1.cf.log) m.b (decide (m.a / 2 % 2 = 1)) := ⟨_, rfl⟩
    rw [← hln] at hs4 HVW
    have HR := Asd.mk hr
    have HS3 := Asd.mk hs3
    have HS4 := Asd.mk hs4
    have HS5 := Asd.mk hs5
    have HRR := Asd.mk hrr
    clear hr hs3 hs4 hs5 hln hc2 hs2
    have m1 := keepsC (o := 1) (v := .int .i64 m.a) HM5.out rfl
    have hs5' : Upd (fun _ => False) w5 w5 := Upd.refl _ _
    go_wp2_with fail
    refine (role_calls H5b.out HG5.out (decide (m.a % 2 = 1))).mono ?_
    rw [← HR.out]
    rintro e w6 ⟨rfl, hu6⟩
    have H6 := Asd.mk (H5b.out.up hu6)
    have HM6 := Asd.mk (hu6.blk HM5.out (fun h => h))
    have T6 := Asd.mk (((((T2.out.trans T3.out).trans T5.out)).trans (Tn.grow F5 hu6)))
    clear m1 hs5' hu6 hrr
    obtain ⟨v6, hb6⟩ := H6.out.conn HGc.out
    have q10 := keepsC (o := 10) (v := .pointer (some ⟨L.tb, 0, none⟩)) H6.out.own rfl
    have b0 := keepsC (o := 0) (v := .int .i64 id) hb6 rfl
    have hs6 : Upd (fun _ => False) w6 w6 := Upd.refl _ _
    clear hb6
    go_wp2
    refine wp_region_held_drew (S := fun W => W.cell? ⟨L.q, 10, none⟩ = some (.pointer (some ⟨L.tb, 0, none⟩)) ∧ W.cell? ⟨(L.cn id).p, 0, none⟩ = some (.int .i64 id)) (by kernel_rfl) (by exact ⟨q10 _ (by repeat (first | assumption | with_reducible exact Upd.refl _ _ | with_reducible refine Upd.drewN ?_ _ | with_reducible refine Upd.drew ?_ | with_reducible refine Upd.alloc ?_ _ | with_reducible refine Upd.setAt ?_ ?_ | exact Or.inl rfl | exact Or.inr (by simp) | exact Or.inr (by omega))), b0 _ (by repeat (first | assumption | with_reducible exact Upd.refl _ _ | with_reducible refine Upd.drewN ?_ _ | with_reducible refine Upd.drew ?_ | with_reducible refine Upd.alloc ?_ _ | with_reducible refine Upd.setAt ?_ ?_ | exact Or.inl rfl | exact Or.inr (by simp) | exact Or.inr (by omega)))⟩) (fun hHeld => ?_)
    refine tk_ 0 ?_
    try simp only [Act.put, sl1_, sl2_, sl3_]
    refine tk_ 1 ?_
    try simp only [Act.put, sl1_, sl2_, sl3_]
    refine tk_ 2 ?_
    try simp only [Act.put, sl1_, sl2_, sl3_]
    refine tk_ 3 ?_
    try simp only [Act.put, sl1_, sl2_, sl3_]
    refine tk_ 4 ?_
    try simp only [Act.put, sl1_, sl2_, sl3_]
    refine tk_ 5 ?_
    try simp only [Act.put, sl1_, sl2_, sl3_]
    refine tk_ 6 ?_
    try simp only [Act.put, sl1_, sl2_, sl3_]
    refine tk_ 7 ?_
    try simp only [Act.put, sl1_, sl2_, sl3_]
    refine tk_ 8 ?_
    try simp only [Act.put, sl1_, sl2_, sl3_]
    refine wpAnyH_ready (rs := [9]) (by kernel_rfl) (by simp) (AllReadyH.cons (o := ?_) ?_ (fun K hK => ?_) AllReadyH.nil)
    rotate_left 1
    · (simp only [List.getElem?_toArray, List.getElem?_cons_succ, List.getElem?_cons_zero]; exact rfl)
    (go_simp; (go_at_call 100; obtain ⟨Ft, hT, _, hput⟩ := (H6.out.up (show Upd (fun _ => False) w6 w6.drew from (by repeat (first | assumption | with_reducible exact Upd.refl _ _ | with_reducible refine Upd.drewN ?_ _ | with_reducible refine Upd.drew ?_ | with_reducible refine Upd.alloc ?_ _ | with_reducible refine Upd.setAt ?_ ?_ | exact Or.inl rfl | exact Or.inr (by simp) | exact Or.inr (by omega))))).table; refine (Fl.join_calls hT id r ⟨by have := HIR.out; omega, by have := HIR.out; omega⟩ (by have := HG5.out.lens.2; omega)).mono ?_; rintro e w7 ⟨rfl, Ft', hT2, hu2, hn2⟩; obtain ⟨F7, h7, t7⟩ := hput w7 _ Ft' hT2 hu2 hn2; rw [← HS3.out] at h7; have H7 := Asd.mk h7; have T7 := Asd.mk (T6.out.trans ((Tn.grow F5 (show Upd (fun _ => False) w6 w6.drew from (by repeat (first | assumption | with_reducible exact Upd.refl _ _ | with_reducible refine Upd.drewN ?_ _ | with_reducible refine Upd.drew ?_ | with_reducible refine Upd.alloc ?_ _ | with_reducible refine Upd.setAt ?_ ?_ | exact Or.inl rfl | exact Or.inr (by simp) | exact Or.inr (by omega))))).trans t7)); have hg7 : get s3 id = some c2 := (by rw [HS3.out]; exact HGc.out); have HG7 := Asd.mk hg7; obtain ⟨v7, hb7⟩ := h7.conn hg7; have HC7 := Asd.mk (And.intro (keepsC (o := 10) (v := .pointer (some ⟨L.tb, 0, none⟩)) h7.own rfl _ (Upd.refl _ _)) (keepsC (o := 0) (v := .int .i64 id) hb7 rfl _ (Upd.refl _ _))); clear hT hput hT2 hu2 hn2 h7 t7 hg7 hb7))
    refine hK.out _ _ (by exact HC7.out) (fun hHeld => ?_)
    clear hK K
    try simp only [Act.put, List.setIfInBounds_toArray, List.set_cons_zero, List.set_cons_succ]
    refine wpAnyH_done (by kernel_rfl) ?_ _
    clear q10 b0 hs6
    try clear hHeld
    obtain ⟨nv7, hb7, hV7⟩ := H7.out.view HG7.out HVW.out
    have b0 := keepsC (o := 0) (v := .int .i64 id) hb7 rfl
    have b7 := keepsC (o := 7) (v := .pointer (some ⟨nv7, 0, none⟩)) hb7 rfl
    have HV7 := Asd.mk hV7
    have hs7 : Upd (fun _ => False) w7 w7 := Upd.refl _ _
    clear hb7 hV7
    go_wp2
    refine wp_region_held_drew (S := fun W => W.cell? ⟨(L.cn id).p, 0, none⟩ = some (.int .i64 id)) (by kernel_rfl) (by exact b0 _ (by repeat (first | assumption | with_reducible exact Upd.refl _ _ | with_reducible refine Upd.drewN ?_ _ | with_reducible refine Upd.drew ?_ | with_reducible refine Upd.alloc ?_ _ | with_reducible refine Upd.setAt ?_ ?_ | exact Or.inl rfl | exact Or.inr (by simp) | exact Or.inr (by omega)))) (fun hHeld => ?_)
    refine tk_ 0 ?_
    try simp only [Act.put, sl1_, sl2_, sl3_]
    refine tk_ 1 ?_
    try simp only [Act.put, sl1_, sl2_, sl3_]
    refine tk_ 2 ?_
    try simp only [Act.put, sl1_, sl2_, sl3_]
    refine tk_ 3 ?_
    try simp only [Act.put, sl1_, sl2_, sl3_]
    refine tk_ 4 ?_
    try simp only [Act.put, sl1_, sl2_, sl3_]
    refine tk_ 5 ?_
    try simp only [Act.put, sl1_, sl2_, sl3_]
    refine tk_ 6 ?_
    try simp only [Act.put, sl1_, sl2_, sl3_]
    refine tk_ 7 ?_
    try simp only [Act.put, sl1_, sl2_, sl3_]
    refine tk_ 8 ?_
    try simp only [Act.put, sl1_, sl2_, sl3_]
    refine tk_ 11 ?_
    try simp only [Act.put, sl1_, sl2_, sl3_]
    refine wpAnyH_ready (rs := [9]) (by kernel_rfl) (by simp) (AllReadyH.cons (o := ?_) ?_ (fun K hK => ?_) AllReadyH.nil)
    rotate_left 1
    · (simp only [List.getElem?_toArray, List.getElem?_cons_succ, List.getElem?_cons_zero]; exact rfl)
    go_simp
    refine hK.out _ _ (by exact b0 _ (by repeat (first | assumption | with_reducible exact Upd.refl _ _ | with_reducible refine Upd.drewN ?_ _ | with_reducible refine Upd.drew ?_ | with_reducible refine Upd.alloc ?_ _ | with_reducible refine Upd.setAt ?_ ?_ | exact Or.inl rfl | exact Or.inr (by simp) | exact Or.inr (by omega)))) (fun hHeld => ?_)
    clear hK K
    try simp only [Act.put, List.setIfInBounds_toArray, List.set_cons_zero, List.set_cons_succ]
    refine wpAnyH_ready (rs := [10]) (by kernel_rfl) (by simp) (AllReadyH.cons (o := ?_) ?_ (fun K hK => ?_) AllReadyH.nil)
    rotate_left 1
    · (simp only [List.getElem?_toArray, List.getElem?_cons_succ, List.getElem?_cons_zero]; exact rfl)
    (go_simp; (go_at_call 77; refine (Vw.at_calls (show Vw.V w7.drew nv7 ln 0 from HV7.out)).mono ?_; rintro e w8 ⟨rfl, rfl⟩))
    refine hK.out _ _ (by exact b0 _ (by repeat (first | assumption | with_reducible exact Upd.refl _ _ | with_reducible refine Upd.drewN ?_ _ | with_reducible refine Upd.drew ?_ | with_reducible refine Upd.alloc ?_ _ | with_reducible refine Upd.setAt ?_ ?_ | exact Or.inl rfl | exact Or.inr (by simp) | exact Or.inr (by omega)))) (fun hHeld => ?_)
    clear hK K
    try simp only [Act.put, List.setIfInBounds_toArray, List.set_cons_zero, List.set_cons_succ]
    refine wpAnyH_ready (rs := [12]) (by kernel_rfl) (by simp) (AllReadyH.cons (o := ?_) ?_ (fun K hK => ?_) AllReadyH.nil)
    rotate_left 1
    · (simp only [List.getElem?_toArray, List.getElem?_cons_succ, List.getElem?_cons_zero]; exact rfl)
    (go_simp; (go_at_call 101; refine (word_calls r HRR.out _).mono ?_; rintro e w8 ⟨rfl, hu8⟩; have h78 := (show Upd (fun _ => False) w7 w7.drew from (by repeat (first | assumption | with_reducible exact Upd.refl _ _ | with_reducible refine Upd.drewN ?_ _ | with_reducible refine Upd.drew ?_ | with_reducible refine Upd.alloc ?_ _ | with_reducible refine Upd.setAt ?_ ?_ | exact Or.inl rfl | exact Or.inr (by simp) | exact Or.inr (by omega)))).trans hu8 (fun _ _ h => h)))
    refine hK.out _ _ (by exact b0 _ h78) (fun hHeld => ?_)
    clear hK K
    try simp only [Act.put, List.setIfInBounds_toArray, List.set_cons_zero, List.set_cons_succ]
    refine tk_ 13 ?_
    try simp only [Act.put, sl1_, sl2_, sl3_]
    refine wpAnyH_ready (rs := [14]) (by kernel_rfl) (by simp) (AllReadyH.cons (o := ?_) ?_ (fun K hK => ?_) AllReadyH.nil)
    rotate_left 1
    · (simp only [List.getElem?_toArray, List.getElem?_cons_succ, List.getElem?_cons_zero]; exact rfl)
    (go_simp; (go_at_call 82; refine (send_calls (H7.out.up h78) HO3.out HG7.out ⟨5, id, (ln : Int), wordOf r⟩).mono ?_; rw [← HS4.out]; rintro e w9 ⟨rfl, F9, h9, t9⟩; have H9 := Asd.mk h9; have T9 := Asd.mk (T7.out.trans ((Tn.grow F7 h78).trans t9)); obtain ⟨c9, hg9, _⟩ := (sm_send' s3 id ⟨5, id, (ln : Int), wordOf r⟩).cn id c2 HG7.out; rw [← HS4.out] at hg9; obtain ⟨v9, hb9⟩ := h9.conn hg9; have HG9 := Asd.mk hg9; have HC9 := Asd.mk (keepsC (o := 0) (v := .int .i64 id) hb9 rfl _ (Upd.refl _ _)); clear h9 t9 hg9 hb9))
    refine hK.out _ _ (by exact HC9.out) (fun hHeld => ?_)
    clear hK K
    try simp only [Act.put, List.setIfInBounds_toArray, List.set_cons_zero, List.set_cons_succ]
    refine wpAnyH_done (by kernel_rfl) ?_ _
    have HO4 : Asd (Ok s4) := ⟨by rw [HS4.out]; exact ok_send' HO3.out _ _⟩
    have q16 := keepsC (o := 16) (v := .int .i64 s4.holder) H9.out.own rfl
    have hs9 : Upd (fun _ => False) w9 w9 := Upd.refl _ _
    clear b0 b7 hs7
    try clear hHeld
    go_wp2_with fail
    refine (send_calls H9.out HO4.out HG9.out ⟨9, s4.holder, 0, []⟩).mono ?_
    rw [← HS5.out]
    rintro e w10 ⟨rfl, F10, h10, t10⟩
    have H10 := Asd.mk h10
    have T10 := Asd.mk (T9.out.trans t10)
    have HO5 : Asd (Ok s5) := ⟨by rw [HS5.out]; exact ok_send' HO4.out _ _⟩
    obtain ⟨c10, hg10, _⟩ := (sm_send' s4 id ⟨9, s4.holder, 0, []⟩).cn id c9 HG9.out
    rw [← HS5.out] at hg10
    have HG10 := Asd.mk hg10
    have q14 := keepsC (o := 14) (v := .bool s5.ended) h10.own rfl
    have q15 := keepsC (o := 15) (v := .int .i64 s5.code) h10.own rfl
    have hs10 : Upd (fun _ => False) w10 w10 := Upd.refl _ _
    clear q16 hs9 h10 t10 hg10
    cases hen : s5.ended with
    | false =>
      have HE2 : Asd (hello s id m = s5) := ⟨by rw [HE.out, hen]; rfl⟩
      rw [hen] at q14
      clear hen
      go_wp2
      go_end0
      exact ⟨rfl, F10, by rw [HE2.out]; exact H10.out, T10.out⟩
    | true =>
      have HE2 : Asd (hello s id m = send s5 id ⟨15, s5.code, 0, []⟩) := ⟨by rw [HE.out, hen]; rfl⟩
      rw [hen] at q14
      clear hen
      go_wp2_with fail
      refine (send_calls H10.out HO5.out HG10.out ⟨15, s5.code, 0, []⟩).mono ?_
      rw [← HE2.out]
      rintro e w11 ⟨rfl, F11, h11, t11⟩
      go_wp2
      go_end0
      exact ⟨rfl, F11, h11, T10.out.trans t11⟩
end
end Go.Proofs.YteepkanbiefpjaaGreatDoor.Bk
