/- What these laws lean on, part Vm: contracts of the given program's functions and plain lists. No condition. -/
import Derived.Test.YteepkanbiefpjaaGreatDoorVl
import Derived.Sort.LoopGhostIn
import Derived.Sort.CutIn
import Derived.Test.YteepkanbiefpjaaGreatDoorVd
import Derived.Deep.RegionHeld3
import Derived.Test.YteepkanbiefpjaaGreatDoorVa
set_option linter.unusedVariables false
set_option linter.unusedSimpArgs false
namespace Go.Proofs.YteepkanbiefpjaaGreatDoor.Bk
open Go.RowKit K
open MgRow (M)
attribute [local go_sem] Oper.semAt_some
def Bk2 (L : Lay) (n : Nat) (W : World) (s : Br) (F : Nat → Prop) : Prop := Bt L W s F ∧ Gd n s
theorem thing2 (L : Lay) (n : Nat) : Thing hiB (Bk2 L n) := ⟨fun k hn hS h => ⟨h.1.upd k hn hS, h.2⟩, fun h => env_size h.1.env, fun h hk => h.1.bk.lt _ hk⟩
section
variable {w w' : World} {L : Lay} {s : Br} {F : Nat → Prop} {id : Int} {c : Cn}
theorem Bt.setViewE (h : Bt L w s F) (hg : get s id = some c) {a b : Nat} (hv : c.vw = some (a, b)) : ∃ v, w.heap[(L.cn id).p]? = some (.cells (ccells (L.cn id) id c (.pointer (some ⟨v, 0, none⟩))) 101 (0, 0)) ∧ Vw.V w v a b ∧ (∃ g, Rg.Ring w L.lg g (Rg.roomN s.cf.log) s.log ∧ ¬ Rg.Its L.lg g v) ∧ (v ≠ L.q ∧ v ≠ (L.cn id).p ∧ F v) ∧ ∀ (w' : World) (a' b' : Nat), Vw.V w' v a' b' → Upd (fun i => i = v) w w' → ∃ F', Bt L w' (set s id (cVw c (a', b'))) F' ∧ Tn w F w' F' ∧ ∀ k, F' k → F k := by
  obtain ⟨v, h1, h2, h3, h4, _⟩ := h.setView hg hv
  refine ⟨v, h1, h2, h3, h4, fun w' a' b' hV hu => ?_⟩
  obtain ⟨Fi, hp, hF, hput⟩ := h.bk.turnE (.conn id)
  simp only [PartAt] at hp
  rw [hg] at hp
  simp only [ConnAt] at hp
  rw [hv] at hp
  obtain ⟨v2, a1, a2, a3, a4⟩ := hp
  have hvv : v2 = v := by
    rw [h1] at a1
    simp only [ccells, Option.some.injEq, Obj.cells.injEq, Array.mk.injEq, List.cons.injEq, Value.pointer.injEq, Addr.mk.injEq, and_true, true_and] at a1
    exact a1.symm
  subst hvv
  have hFv : Fi v2 := (a4 _).2 (.inr rfl)
  have hpart : PartAt L (set s id (cVw c (a', b'))) (.conn id) w' Fi := by
    simp only [PartAt]
    rw [get_set_same hg]
    simp only [ConnAt, cVw]
    exact ⟨v2, hu.blk a1 (fun e => a3 e.symm), hV, a3, a4⟩
  obtain ⟨F', hbk, ht, he⟩ := hput w' (set s id (cVw c (a', b'))) Fi hpart (fun j hj W Fj hw => set_part hg hw (fun e => absurd e hj) (fun _ => ⟨rfl, rfl⟩) (fun _ => rfl) (fun _ => rfl)) ⟨hu.mono (fun k _ e => by subst e; exact hFv), fun k hk => .inl hk⟩
  exact ⟨F', h.go hbk ht, ht, fun k hk => (he k hk).elim (fun h => h) (fun h => hF k h)⟩
def st4 (w : World) (r : Nat) (v0 v1 v2 v3 : Value) : World := (((w.setCell ⟨r, 0, none⟩ v0).setCell ⟨r, 1, none⟩ v1).setCell ⟨r, 2, none⟩ v2).setCell ⟨r, 3, none⟩ v3
def PutB (L : Lay) (s : Br) (id : Int) (c : Cn) (l : List UInt8) (F : Nat → Prop) (w : World) (e : Ending) (w' : World) : Prop := ∃ bo F', e = .returned (.bool bo) ∧ Bt L w' (set s id (cOut c (if (c.out.length : Int) + l.length ≤ s.cf.queue then c.out ++ l else c.out))) F' ∧ Tn w F w' F' ∧ ∃ Fo, (∀ k, Fo k → F k) ∧ Upd Fo w w'
theorem Bt.putOut {w : World} {L : Lay} {s : Br} {F : Nat → Prop} {id : Int} {c : Cn} (h : Bt L w s F) (hg : get s id = some c) (A : Option Addr) (cp : Nat) (l : List UInt8) (hr : Rd w A l.length l) : Calls Tryz.prog 106 #[ptr (L.cn id).po, .slice A l.length cp] w (PutB L s id c l F w) := by
  obtain ⟨Fo, hq, hFo, hput⟩ := h.out hg
  by_cases hf : (c.out.length : Int) + l.length ≤ s.cf.queue
  · refine (Oq.put_yes hq A l.length cp l hr (by omega)).mono ?_
    rintro e w3 ⟨rfl, Fo', hq', hu3, hn3⟩
    obtain ⟨F3, h3, t3⟩ := hput w3 _ Fo' hq' hu3 hn3
    exact ⟨true, F3, rfl, by rw [if_pos hf]; exact h3, t3, Fo, hFo, hu3⟩
  · refine (Oq.put_no hq A l.length cp (by omega)).mono ?_
    rintro e w3 ⟨rfl, hd3⟩
    have hu3 := hd3.upd (fun _ => False)
    obtain ⟨F3, h3, t3⟩ := hput w3 c.out Fo (hq.upd hu3 (fun _ _ h => h)) (hu3.mono (fun _ _ h => h.elim)) (fun k hk => .inl hk)
    exact ⟨false, F3, rfl, by rw [if_neg hf]; exact h3, t3, Fo, hFo, hu3.mono (fun _ _ h => h.elim)⟩
theorem four_updS {S : Nat → Prop} {w w5 : World} {r : Nat} (h : Upd S w w5) (hr : r < w.heap.size → S r) (v0 v1 v2 v3 : Value) : Upd S w (st4 w5 r v0 v1 v2 v3) :=
  (((h.setCell (p := ⟨r, 0, none⟩) hr v0).setCell (p := ⟨r, 1, none⟩) hr v1).setCell (p := ⟨r, 2, none⟩) hr v2).setCell (p := ⟨r, 3, none⟩) hr v3
theorem four_at (w : World) (r : Nat) (v0 v1 v2 v3 : Value) : Upd (fun k => k = r) w (st4 w r v0 v1 v2 v3) := four_updS (S := fun k => k = r) (Upd.refl _ _) (fun _ => rfl) v0 v1 v2 v3
theorem four_tn {W w6 : World} {F1 F6 : Nat → Prop} {r : Nat} (T : Tn W F1 w6 F6) (hr : W.heap.size ≤ r) (v0 v1 v2 v3 : Value) : Tn W F1 (st4 w6 r v0 v1 v2 v3) F6 := ⟨four_updS T.upd (fun e => by omega) v0 v1 v2 v3, T.new⟩
set_option maxHeartbeats 32000000 in
set_option maxRecDepth 100000 in
theorem pump_calls (n : Nat) (h : Bt L w s F) (hd : Gd n s) (hn : n ≤ 100000000) : Calls Tryz.prog 83 #[ptr L.q] w (Goes L (pump s) F w (.tuple #[])) := by
  have H := Asd.mk h
  have HD := Asd.mk hd
  clear h hd
  refine (callsIn_wide (n := 6)).1 ?_
  refine callsIn_of_wp_marks Tryz.func83 rfl trivial ?_ rfl
  simp only [Tryz.ntmps83, List.size_toArray, List.length_cons, List.length_nil, Nat.reduceAdd, Nat.reduceSub, Array.replicate_succ, Array.replicate_zero, List.push_toArray, List.append_toArray, List.nil_append, List.cons_append]
  gi_wp2_with fail
  refine ⟨trivial, ?_⟩
  refine (callsIn_wide.2 (all_calls L.q _)).mono ?_
  rintro e w1 ⟨rfl, rfl⟩
  gi_wp2
  have hk0 : Upd (fun _ => False) w ((w.alloc (.cells #[ptr L.q] 23)).alloc (.cells #[ptr L.q] 23)) := ((Upd.refl _ _).alloc _).alloc _
  have x1 := heap_alloc_new w (.cells #[ptr L.q] 23)
  have x3 := heap_alloc_new (w.alloc (.cells #[ptr L.q] 23)) (.cells #[ptr L.q] 23)
  rw [World.size_alloc] at x3
  have y1 := ((Upd.refl (fun _ => False) _).alloc (.cells #[ptr L.q] 23)).blk x1 (fun h => h)
  have hsz : ((w.alloc (.cells #[ptr L.q] 23)).alloc (.cells #[ptr L.q] 23)).heap.size = w.heap.size + 2 := by simp only [World.size_alloc]
  clear x1
  generalize hW0 : (w.alloc (.cells #[ptr L.q] 23)).alloc (.cells #[ptr L.q] 23) = W0 at hk0 x3 y1 hsz ⊢
  have hFlt : ∀ k, F k → k < w.heap.size := fun k hk => H.out.bk.lt k hk
  have X3 : W0.cell? ⟨w.heap.size + 1, 0, none⟩ = some (ptr L.q) := by simp [World.cell?, x3]
  have Y1 := Asd.mk y1
  have HF := Asd.mk hFlt
  have HSZ := Asd.mk hsz
  clear x3 y1 hFlt hsz hW0
  have hids : ∀ (s : Br) (id : Int), ids (pumpN id (s.log.length + 2) s) = ids s := fun s id => ids_pumpN id _ s
  refine wp_rangeAll (thing2 L n) (gf := 121) (lb := #[.pointer (some ⟨w.heap.size + 1, 0, none⟩)]) rfl (enters_of Tryz.func121 (by kernel_rfl) rfl) rfl (fun s i => openS s i = true ∧ i ∈ ids s) (fun _ i => ptr (L.cn i).p) (fun s id => pumpN id (s.log.length + 2) s) s (pump s) F ⟨H.out.up hk0, HD.out⟩
    (fun l J W h1 h2 h3 h0 => all1_in (fun s id => pumpN id (s.log.length + 2) s) hids 5 l L W0 s F (by have := HD.out.ok.few; omega) HD.out.ok.rng (w.heap.size + 1) X3 (fun h => by have := HF.out _ h; omega) J W (fun s F W hj => ⟨(h1 s F W hj).1.1, (h1 s F W hj).2⟩) h2 h3 h0)
    (fun _ i => { tmps := #[ptr L.q, .pointer (some ⟨w.heap.size, 0, none⟩), ptr (L.cn i).p, undef, undef, ptr L.q, .func (.func 121) #[] #[.pointer (some ⟨w.heap.size + 1, 0, none⟩)], ptr (L.cn i).p, undef, undef, undef, undef, undef, undef, undef, undef, undef, undef, undef, undef, undef, undef, undef, undef, undef, undef, undef, undef, undef, undef, undef, undef, undef, undef, undef, undef, undef, undef, undef, undef, undef, undef, undef, undef, undef, undef, undef, undef, undef, undef, undef, undef, undef, undef, undef], defers := [] }) ?assign ?body ?done
  case assign =>
    intro l s1 i W K hK
    gi_wp2
    exact hK
  case done =>
    rintro D W F1 hD hFD ⟨hb1, hd1⟩ ht1 hdef
    have hu := upd_putObj W D (.deferred none)
    have hD2 : hiB ≤ D := by have := env_size H.out.env; have := HSZ.out; omega
    have hend : Goes L (pump s) F w (.tuple #[]) (.returned (.tuple #[])) (W.putObj D (.deferred none)) := ⟨rfl, F1, hb1.upd hu (fun j hj e => by subst e; exact hFD hj) (fun j e => by omega), ⟨((hk0.mono (T := F) (fun _ _ h => h.elim)).trans ht1.upd (fun _ _ h => h)).trans hu (fun j hj e => by have := HSZ.out; omega), fun k hk => (ht1.new k hk).imp (fun h => h) (fun h => by have := HSZ.out; omega)⟩⟩
    gi_wp2
    refine ⟨by simp, .inl ⟨_, _, rfl, run_takeDeferred hdef, ?_⟩⟩
    exact ⟨_, results_none rfl _ _ _, hend⟩
  case body =>
    rintro l s1 i W F1 ⟨hb1, hd1⟩ ht1 ⟨hop, hi⟩
    obtain ⟨c0, hg0, hst0⟩ := openS_get hop
    have z1 := ht1.upd.blk Y1.out (fun h => by have := HF.out _ h; omega)
    have hnb : ¬ F1 w.heap.size := fun h => (ht1.new _ h).elim (fun h => by have := HF.out _ h; omega) (fun h => by have := HSZ.out; omega)
    have HB1 := Asd.mk hb1
    have HD1 := Asd.mk hd1
    have HG0 := Asd.mk hg0
    have HZ1 := Asd.mk z1
    have HNB := Asd.mk hnb
    have HNBL := Asd.mk (blk_lt z1)
    clear hb1 hd1 hg0 hst0 hop hi z1 ht1 X3 hids hnb
    gi_wp2
    gi_loopg [] (s1.log.length + 2) (fun k wr => ∃ (st : Br) (F2 : Nat → Prop), Asd (Bt L wr st F2) ∧ Asd (Gd n st) ∧ Asd (∃ c, get st i = some c) ∧ Asd (pumpN i (s1.log.length + 2) s1 = pumpN i k st) ∧ Asd (Fuel i k st) ∧ Asd (Tn W F1 wr F2))
    case atStart => exact ⟨s1, F1, HB1, HD1, ⟨_, HG0.out⟩, ⟨rfl⟩, ⟨fun c a b hg h1 hv => by omega⟩, ⟨Tn.refl W F1⟩⟩
    case round =>
      obtain ⟨st, F2, HB, HGD, HEX, HP, HFU, HTn⟩ := hrel
      obtain ⟨c, hc⟩ := HEX.out
      have HC := Asd.mk hc
      by_cases hst : c.st = 1
      case neg =>
        have hb : (c.st == 1) = false := beq_eq_false_iff_ne.2 hst
        obtain ⟨v1, hbc⟩ := HB.out.conn hc
        have k1 := keepsC (o := 1) (v := .int .i64 c.st) hbc rfl
        have hs : Upd (fun _ => False) wr wr := Upd.refl _ _
        have HE : Asd (pumpN i (s1.log.length + 2) s1 = st) := ⟨by rw [HP.out]; exact pump_closed gk hc hst⟩
        clear hst hbc hc
        gi_wp2
        exact ⟨F2, by rw [HE.out]; exact ⟨HB.out, HGD.out⟩, HTn.out⟩
      have hob : (c.st == 1) = true := beq_iff_eq.2 hst
      obtain ⟨a, b, hv⟩ : ∃ a b, c.vw = some (a, b) := by
        have := (HGD.out.ok.opn i c hc hst).1
        cases e : c.vw with
        | none => rw [e] at this; cases this
        | some q => exact ⟨q.1, q.2, rfl⟩
      have hfu := HFU.out c a b hc hst hv
      obtain ⟨k, rfl⟩ : ∃ k, gk = k + 1 := ⟨gk - 1, by omega⟩
      have hcn := HGD.out.cns i c hc
      have HAB := Asd.mk (hcn.vw a b hv)
      obtain ⟨vv, hbv, hV, ⟨g, hR, hRn⟩, hvq, hput⟩ := HB.out.setViewE hc hv
      have hvw : vv < wr.heap.size := HB.out.bk.lt _ hvq.2.2
      have hne1 : (L.cn i).p ≠ vv := fun e => hvq.2.1 e.symm
      have hne2 : L.q ≠ vv := fun e => hvq.1 e.symm
      have hne3 : w.heap.size ≠ vv := fun e => by
        rcases HTn.out.new vv hvq.2.2 with h | h
        · exact HNB.out (e ▸ h)
        · have := HNBL.out; omega
      have hbox := HTn.out.upd.blk HZ1.out HNB.out
      have k1 := keepsC (o := 1) (v := .int .i64 c.st) hbv rfl
      have k7 := keepsCS (S := fun i => i = vv) (o := 7) (v := .pointer (some ⟨vv, 0, none⟩)) hbv hne1 rfl
      have k6 := keepsCS (S := fun i => i = vv) (o := 6) (v := ptr (L.cn i).po) hbv hne1 rfl
      have q8 := keepsCS (S := fun i => i = vv) (o := 8) (v := .pointer (some ⟨L.lg, 0, none⟩)) HB.out.own hne2 rfl
      have q1 := keepsCS (S := fun i => i = vv) (o := 1) (v := .int .i64 st.cf.data) HB.out.own hne2 rfl
      have q13 := keepsCS (S := fun i => i = vv) (o := 13) (v := .int .i64 st.strikes) HB.out.own hne2 rfl
      have bx := keepsCS (S := fun i => i = vv) (o := 0) (v := ptr L.q) hbox hne3 rfl
      have hs : Upd (fun _ => False) wr wr := Upd.refl _ _
      have hsv : Upd (fun i => i = vv) wr wr := Upd.refl _ _
      have HV := Asd.mk hV
      have HRI := Asd.mk hR
      have HRN := Asd.mk hRn
      have HPUT := Asd.mk hput
      have HVW := Asd.mk hv
      have HST := Asd.mk hst
      have HBX := Asd.mk hbox
      have HBNF : Asd (¬ F2 w.heap.size) := ⟨fun h => (HTn.out.new _ h).elim HNB.out (fun h => by have := HNBL.out; omega)⟩
      have hcf := HGD.out.cf
      unfold rightC at hcf
      simp only [decide_eq_true_eq] at hcf
      have HCF : Asd (220 ≤ st.cf.queue ∧ st.cf.queue ≤ 65536 ∧ 1 ≤ st.cf.data ∧ st.cf.data ≤ 2042) := ⟨by omega⟩
      obtain ⟨Fo, hqo, _, _⟩ := HB.out.out hc
      obtain ⟨rm, hrm⟩ : ∃ rm, rm = st.cf.queue - (c.out.length : Int) := ⟨_, rfl⟩
      have hrm2 : 0 ≤ rm ∧ rm ≤ 65536 := by have := hqo.fit; omega
      have HRM := Asd.mk hrm
      have HRB : Asd ((-1000000000 ≤ rm - 200 ∧ rm - 200 ≤ 1000000000) ∧ b ≤ 1000000000 ∧ (-9223372036854775808 ≤ st.cf.data ∧ st.cf.data ≤ 9223372036854775807)) := ⟨by have := HCF.out; have := HAB.out; omega⟩
      have HW200 : Asd (IntKind.i64.wrap (rm - 200) = rm - 200) := ⟨w64i _ (by omega) (by omega)⟩
      obtain ⟨x, hx⟩ : ∃ x, x = nextOf st c a b := ⟨_, rfl⟩
      have HX := Asd.mk hx
      have HXD : Asd (x = Vw.next st.log (Rg.roomN st.cf.log) a b (rm - 200) st.cf.data st.strikes) := ⟨by rw [hx, hrm]; rfl⟩
      clear hrm2
      clear hc hst hv hfu hcn hbv hV hR hRn hput hvq hbox hcf hqo hrm hx hne1 hne2 hne3
      gi_upto_region 4 with fail
      gi_cut [3, 4] from 13 (fun v3 v4 wc => ∃ (bm : Nat) (F9 : Nat → Prop), v3 = .pointer (some ⟨bm, 0, none⟩) ∧ v4 = .bool x.ok ∧ Asd (wc.heap[bm]? = some (.cells #[.int .i64 x.m.k, .int .i64 x.m.a, .int .i64 x.m.b, .string (S x.m.t)] 36 (0, 0))) ∧ Asd (Bt L wc (set st i (cVw c (x.at_, x.st))) F9) ∧ Asd (Tn W F1 wc F9) ∧ Asd (¬ F9 bm))
      case first =>
        refine wpIn_region_held (S := fun W => W.cell? ⟨(L.cn i).p, 7, none⟩ = some (.pointer (some ⟨vv, 0, none⟩)) ∧ W.cell? ⟨w.heap.size, 0, none⟩ = some (ptr L.q) ∧ W.cell? ⟨L.q, 8, none⟩ = some (.pointer (some ⟨L.lg, 0, none⟩)) ∧ W.cell? ⟨(L.cn i).p, 6, none⟩ = some (ptr (L.cn i).po) ∧ W.cell? ⟨L.q, 1, none⟩ = some (.int .i64 st.cf.data) ∧ W.cell? ⟨L.q, 13, none⟩ = some (.int .i64 st.strikes)) (by kernel_rfl) (fun ⟨a, w, h⟩ => h) (by kernel_rfl) (by exact ⟨k7 _ (by repeat (first | assumption | with_reducible exact Upd.refl _ _ | with_reducible refine Upd.drewN ?_ _ | with_reducible refine Upd.drew ?_ | with_reducible refine Upd.alloc ?_ _ | with_reducible refine Upd.setAt ?_ ?_ | exact Or.inl rfl | exact Or.inr (by simp) | exact Or.inr (by omega))), bx _ (by repeat (first | assumption | with_reducible exact Upd.refl _ _ | with_reducible refine Upd.drewN ?_ _ | with_reducible refine Upd.drew ?_ | with_reducible refine Upd.alloc ?_ _ | with_reducible refine Upd.setAt ?_ ?_ | exact Or.inl rfl | exact Or.inr (by simp) | exact Or.inr (by omega))), q8 _ (by repeat (first | assumption | with_reducible exact Upd.refl _ _ | with_reducible refine Upd.drewN ?_ _ | with_reducible refine Upd.drew ?_ | with_reducible refine Upd.alloc ?_ _ | with_reducible refine Upd.setAt ?_ ?_ | exact Or.inl rfl | exact Or.inr (by simp) | exact Or.inr (by omega))), k6 _ (by repeat (first | assumption | with_reducible exact Upd.refl _ _ | with_reducible refine Upd.drewN ?_ _ | with_reducible refine Upd.drew ?_ | with_reducible refine Upd.alloc ?_ _ | with_reducible refine Upd.setAt ?_ ?_ | exact Or.inl rfl | exact Or.inr (by simp) | exact Or.inr (by omega))), q1 _ (by repeat (first | assumption | with_reducible exact Upd.refl _ _ | with_reducible refine Upd.drewN ?_ _ | with_reducible refine Upd.drew ?_ | with_reducible refine Upd.alloc ?_ _ | with_reducible refine Upd.setAt ?_ ?_ | exact Or.inl rfl | exact Or.inr (by simp) | exact Or.inr (by omega))), q13 _ (by repeat (first | assumption | with_reducible exact Upd.refl _ _ | with_reducible refine Upd.drewN ?_ _ | with_reducible refine Upd.drew ?_ | with_reducible refine Upd.alloc ?_ _ | with_reducible refine Upd.setAt ?_ ?_ | exact Or.inl rfl | exact Or.inr (by simp) | exact Or.inr (by omega)))⟩) (fun hHeld => ?_)
        refine tk_ 0 ?_
        try simp only [Act.put, sl1_, sl2_, sl3_]
        refine tk_ 1 ?_
        try simp only [Act.put, sl1_, sl2_, sl3_]
        refine tk_ 2 ?_
        try simp only [Act.put, sl1_, sl2_, sl3_]
        refine tk_ 3 ?_
        try simp only [Act.put, sl1_, sl2_, sl3_]
        refine tk_ 4 ?_
        try simp only [Act.put, sl1_, sl2_, sl3_]
        refine tk_ 5 ?_
        try simp only [Act.put, sl1_, sl2_, sl3_]
        refine tk_ 6 ?_
        try simp only [Act.put, sl1_, sl2_, sl3_]
        refine tk_ 7 ?_
        try simp only [Act.put, sl1_, sl2_, sl3_]
        refine tk_ 8 ?_
        try simp only [Act.put, sl1_, sl2_, sl3_]
        refine tk_ 9 ?_
        try simp only [Act.put, sl1_, sl2_, sl3_]
        refine tk_ 10 ?_
        try simp only [Act.put, sl1_, sl2_, sl3_]
        refine tk_ 11 ?_
        try simp only [Act.put, sl1_, sl2_, sl3_]
        refine tk_ 14 ?_
        try simp only [Act.put, sl1_, sl2_, sl3_]
        refine tk_ 15 ?_
        try simp only [Act.put, sl1_, sl2_, sl3_]
        refine tk_ 16 ?_
        try simp only [Act.put, sl1_, sl2_, sl3_]
        refine tk_ 17 ?_
        try simp only [Act.put, sl1_, sl2_, sl3_]
        refine tk_ 18 ?_
        try simp only [Act.put, sl1_, sl2_, sl3_]
        refine tk_ 19 ?_
        try simp only [Act.put, sl1_, sl2_, sl3_]
        refine tk_ 20 ?_
        try simp only [Act.put, sl1_, sl2_, sl3_]
        refine tk_ 21 ?_
        try simp only [Act.put, sl1_, sl2_, sl3_]
        refine tk_ 22 ?_
        try simp only [Act.put, sl1_, sl2_, sl3_]
        refine wpAnyH_ready (rs := [12, 27]) (by kernel_rfl) (by simp) (AllReadyH.cons (o := ?o1_0) ?l1_0 (fun K hK => ?s1_0) (AllReadyH.cons (o := ?o1_1) ?l1_1 (fun K hK => ?s1_1) AllReadyH.nil))
        case l1_0 => (simp only [List.getElem?_toArray, List.getElem?_cons_succ, List.getElem?_cons_zero]; exact rfl)
        case l1_1 => (simp only [List.getElem?_toArray, List.getElem?_cons_succ, List.getElem?_cons_zero]; exact rfl)
        case s1_0 =>
          (go_simp; (go_at_call 108; have hX := (show Upd (fun _ => False) wr wr.drew from (by repeat (first | assumption | with_reducible exact Upd.refl _ _ | with_reducible refine Upd.drewN ?_ _ | with_reducible refine Upd.drew ?_ | with_reducible refine Upd.alloc ?_ _ | with_reducible refine Upd.setAt ?_ ?_ | exact Or.inl rfl | exact Or.inr (by simp) | exact Or.inr (by omega)))); obtain ⟨Fo, hq, hFo, _⟩ := (HB.out.up hX).out HC.out; refine (Oq.room_calls hq).mono ?_; rw [← HRM.out]; rintro e w5 ⟨rfl, hd5⟩; have f5 := hX.trans (hd5.upd (fun _ => False)) (fun _ _ h => h); have u5 : Upd (fun i => i = vv) wr w5 := f5.mono (fun _ _ h => h.elim); clear hq hFo hd5 hX))
          refine hK.out _ _ (by exact ⟨k7 _ u5, bx _ u5, q8 _ u5, k6 _ u5, q1 _ u5, q13 _ u5⟩) (fun hHeld => ?_)
          clear hK K
          try simp only [Act.put, List.setIfInBounds_toArray, List.set_cons_zero, List.set_cons_succ]
          refine tk_ 13 ?_
          try simp only [Act.put, sl1_, sl2_, sl3_]
          refine wpAnyH_ready (rs := [23, 27]) (by kernel_rfl) (by simp) (AllReadyH.cons (o := ?o2_0) ?l2_0 (fun K hK => ?s2_0) (AllReadyH.cons (o := ?o2_1) ?l2_1 (fun K hK => ?s2_1) AllReadyH.nil))
          case l2_0 => (simp only [List.getElem?_toArray, List.getElem?_cons_succ, List.getElem?_cons_zero]; exact rfl)
          case l2_1 => (simp only [List.getElem?_toArray, List.getElem?_cons_succ, List.getElem?_cons_zero]; exact rfl)
          case s2_0 =>
            (go_simp; (go_at_call 107; rw [HW200.out]; have hX := (show Upd (fun _ => False) wr w5 from f5); refine (Vw.next_calls (HRI.out.up hX) (HV.out.up hX (fun h => h)) HRN.out HAB.out.1 HRB.out.2.1 (rm - 200) st.cf.data st.strikes HRB.out.1 HRB.out.2.2).mono ?_; unfold Vw.NextPost Vw.msgV; rw [← HXD.out]; rintro e w6 ⟨rfl, hV6, hu6⟩; have u6 := (hX.mono (T := fun i => i = vv) (fun _ _ h => h.elim)).trans hu6 (fun _ _ h => h); have z6 := u6.size; obtain ⟨F6, h6, t6, e6⟩ := HPUT.out w6 _ _ hV6 u6; have H6 := Asd.mk h6; have T6 := Asd.mk (HTn.out.trans t6); have E6 := Asd.mk e6; clear hV6 hu6 hX h6 t6 e6))
            refine hK.out _ _ (by exact ⟨k7 _ u6, bx _ u6, q8 _ u6, k6 _ u6, q1 _ u6, q13 _ u6⟩) (fun hHeld => ?_)
            clear hK K
            try simp only [Act.put, List.setIfInBounds_toArray, List.set_cons_zero, List.set_cons_succ]
            refine tk_ 24 ?_
            try simp only [Act.put, sl1_, sl2_, sl3_]
            refine tk_ 25 ?_
            try simp only [Act.put, sl1_, sl2_, sl3_]
            refine tk_ 26 ?_
            try simp only [Act.put, sl1_, sl2_, sl3_]
            refine wpAnyH_ready (rs := [27]) (by kernel_rfl) (by simp) (AllReadyH.cons (o := ?o3_0) ?l3_0 (fun K hK => ?s3_0) AllReadyH.nil)
            case l3_0 => (simp only [List.getElem?_toArray, List.getElem?_cons_succ, List.getElem?_cons_zero]; exact rfl)
            case s3_0 =>
              go_simp
              refine hK.out _ _ (by exact ⟨k7 _ (by repeat (first | assumption | with_reducible exact Upd.refl _ _ | with_reducible refine Upd.drewN ?_ _ | with_reducible refine Upd.drew ?_ | with_reducible refine Upd.alloc ?_ _ | with_reducible refine Upd.setAt ?_ ?_ | exact Or.inl rfl | exact Or.inr (by simp) | exact Or.inr (by omega))), bx _ (by repeat (first | assumption | with_reducible exact Upd.refl _ _ | with_reducible refine Upd.drewN ?_ _ | with_reducible refine Upd.drew ?_ | with_reducible refine Upd.alloc ?_ _ | with_reducible refine Upd.setAt ?_ ?_ | exact Or.inl rfl | exact Or.inr (by simp) | exact Or.inr (by omega))), q8 _ (by repeat (first | assumption | with_reducible exact Upd.refl _ _ | with_reducible refine Upd.drewN ?_ _ | with_reducible refine Upd.drew ?_ | with_reducible refine Upd.alloc ?_ _ | with_reducible refine Upd.setAt ?_ ?_ | exact Or.inl rfl | exact Or.inr (by simp) | exact Or.inr (by omega))), k6 _ (by repeat (first | assumption | with_reducible exact Upd.refl _ _ | with_reducible refine Upd.drewN ?_ _ | with_reducible refine Upd.drew ?_ | with_reducible refine Upd.alloc ?_ _ | with_reducible refine Upd.setAt ?_ ?_ | exact Or.inl rfl | exact Or.inr (by simp) | exact Or.inr (by omega))), q1 _ (by repeat (first | assumption | with_reducible exact Upd.refl _ _ | with_reducible refine Upd.drewN ?_ _ | with_reducible refine Upd.drew ?_ | with_reducible refine Upd.alloc ?_ _ | with_reducible refine Upd.setAt ?_ ?_ | exact Or.inl rfl | exact Or.inr (by simp) | exact Or.inr (by omega))), q13 _ (by repeat (first | assumption | with_reducible exact Upd.refl _ _ | with_reducible refine Upd.drewN ?_ _ | with_reducible refine Upd.drew ?_ | with_reducible refine Upd.alloc ?_ _ | with_reducible refine Upd.setAt ?_ ?_ | exact Or.inl rfl | exact Or.inr (by simp) | exact Or.inr (by omega)))⟩) (fun hHeld => ?_)
              clear hK K
              try simp only [Act.put, List.setIfInBounds_toArray, List.set_cons_zero, List.set_cons_succ]
              refine wpAnyH_ready (rs := [28]) (by kernel_rfl) (by simp) (AllReadyH.cons (o := ?_) ?_ (fun K hK => ?_) AllReadyH.nil)
              rotate_left 1
              · (simp only [List.getElem?_toArray, List.getElem?_cons_succ, List.getElem?_cons_zero]; exact rfl)
              go_simp
              refine hK.out _ _ (by exact ⟨k7 _ (by repeat (first | assumption | with_reducible exact Upd.refl _ _ | with_reducible refine Upd.drewN ?_ _ | with_reducible refine Upd.drew ?_ | with_reducible refine Upd.alloc ?_ _ | with_reducible refine Upd.setAt ?_ ?_ | exact Or.inl rfl | exact Or.inr (by simp) | exact Or.inr (by omega))), bx _ (by repeat (first | assumption | with_reducible exact Upd.refl _ _ | with_reducible refine Upd.drewN ?_ _ | with_reducible refine Upd.drew ?_ | with_reducible refine Upd.alloc ?_ _ | with_reducible refine Upd.setAt ?_ ?_ | exact Or.inl rfl | exact Or.inr (by simp) | exact Or.inr (by omega))), q8 _ (by repeat (first | assumption | with_reducible exact Upd.refl _ _ | with_reducible refine Upd.drewN ?_ _ | with_reducible refine Upd.drew ?_ | with_reducible refine Upd.alloc ?_ _ | with_reducible refine Upd.setAt ?_ ?_ | exact Or.inl rfl | exact Or.inr (by simp) | exact Or.inr (by omega))), k6 _ (by repeat (first | assumption | with_reducible exact Upd.refl _ _ | with_reducible refine Upd.drewN ?_ _ | with_reducible refine Upd.drew ?_ | with_reducible refine Upd.alloc ?_ _ | with_reducible refine Upd.setAt ?_ ?_ | exact Or.inl rfl | exact Or.inr (by simp) | exact Or.inr (by omega))), q1 _ (by repeat (first | assumption | with_reducible exact Upd.refl _ _ | with_reducible refine Upd.drewN ?_ _ | with_reducible refine Upd.drew ?_ | with_reducible refine Upd.alloc ?_ _ | with_reducible refine Upd.setAt ?_ ?_ | exact Or.inl rfl | exact Or.inr (by simp) | exact Or.inr (by omega))), q13 _ (by repeat (first | assumption | with_reducible exact Upd.refl _ _ | with_reducible refine Upd.drewN ?_ _ | with_reducible refine Upd.drew ?_ | with_reducible refine Upd.alloc ?_ _ | with_reducible refine Upd.setAt ?_ ?_ | exact Or.inl rfl | exact Or.inr (by simp) | exact Or.inr (by omega)))⟩) (fun hHeld => ?_)
              clear hK K
              try simp only [Act.put, List.setIfInBounds_toArray, List.set_cons_zero, List.set_cons_succ]
              refine tk_ 29 ?_
              try simp only [Act.put, sl1_, sl2_, sl3_]
              refine wpAnyH_done (by kernel_rfl) ?_ _
              gi_wp2
              gi_meet
              exact ⟨w6.heap.size, F6, rfl, rfl, ⟨heap_alloc_new w6 _⟩, ⟨H6.out.up ((Upd.refl _ _).alloc _)⟩, ⟨T6.out.trans (Tn.grow F6 ((Upd.refl _ _).alloc _))⟩, ⟨fun h => by have := H6.out.bk.lt _ h; omega⟩⟩
          case s2_1 =>
            go_simp
            refine hK.out _ _ (by exact ⟨k7 _ (by repeat (first | assumption | with_reducible exact Upd.refl _ _ | with_reducible refine Upd.drewN ?_ _ | with_reducible refine Upd.drew ?_ | with_reducible refine Upd.alloc ?_ _ | with_reducible refine Upd.setAt ?_ ?_ | exact Or.inl rfl | exact Or.inr (by simp) | exact Or.inr (by omega))), bx _ (by repeat (first | assumption | with_reducible exact Upd.refl _ _ | with_reducible refine Upd.drewN ?_ _ | with_reducible refine Upd.drew ?_ | with_reducible refine Upd.alloc ?_ _ | with_reducible refine Upd.setAt ?_ ?_ | exact Or.inl rfl | exact Or.inr (by simp) | exact Or.inr (by omega))), q8 _ (by repeat (first | assumption | with_reducible exact Upd.refl _ _ | with_reducible refine Upd.drewN ?_ _ | with_reducible refine Upd.drew ?_ | with_reducible refine Upd.alloc ?_ _ | with_reducible refine Upd.setAt ?_ ?_ | exact Or.inl rfl | exact Or.inr (by simp) | exact Or.inr (by omega))), k6 _ (by repeat (first | assumption | with_reducible exact Upd.refl _ _ | with_reducible refine Upd.drewN ?_ _ | with_reducible refine Upd.drew ?_ | with_reducible refine Upd.alloc ?_ _ | with_reducible refine Upd.setAt ?_ ?_ | exact Or.inl rfl | exact Or.inr (by simp) | exact Or.inr (by omega))), q1 _ (by repeat (first | assumption | with_reducible exact Upd.refl _ _ | with_reducible refine Upd.drewN ?_ _ | with_reducible refine Upd.drew ?_ | with_reducible refine Upd.alloc ?_ _ | with_reducible refine Upd.setAt ?_ ?_ | exact Or.inl rfl | exact Or.inr (by simp) | exact Or.inr (by omega))), q13 _ (by repeat (first | assumption | with_reducible exact Upd.refl _ _ | with_reducible refine Upd.drewN ?_ _ | with_reducible refine Upd.drew ?_ | with_reducible refine Upd.alloc ?_ _ | with_reducible refine Upd.setAt ?_ ?_ | exact Or.inl rfl | exact Or.inr (by simp) | exact Or.inr (by omega)))⟩) (fun hHeld => ?_)
            clear hK K
            try simp only [Act.put, List.setIfInBounds_toArray, List.set_cons_zero, List.set_cons_succ]
            refine wpAnyH_ready (rs := [23]) (by kernel_rfl) (by simp) (AllReadyH.cons (o := ?o4_0) ?l4_0 (fun K hK => ?s4_0) AllReadyH.nil)
            case l4_0 => (simp only [List.getElem?_toArray, List.getElem?_cons_succ, List.getElem?_cons_zero]; exact rfl)
            case s4_0 =>
              (go_simp; (go_at_call 107; rw [HW200.out]; have hX := (show Upd (fun _ => False) wr (w5.alloc (.cells #[.int .i64 0, .int .i64 0, .int .i64 0, .string { data := #[] }] 36)) from (by repeat (first | assumption | with_reducible exact Upd.refl _ _ | with_reducible refine Upd.drewN ?_ _ | with_reducible refine Upd.drew ?_ | with_reducible refine Upd.alloc ?_ _ | with_reducible refine Upd.setAt ?_ ?_ | exact Or.inl rfl | exact Or.inr (by simp) | exact Or.inr (by omega)))); refine (Vw.next_calls (HRI.out.up hX) (HV.out.up hX (fun h => h)) HRN.out HAB.out.1 HRB.out.2.1 (rm - 200) st.cf.data st.strikes HRB.out.1 HRB.out.2.2).mono ?_; unfold Vw.NextPost Vw.msgV; rw [← HXD.out]; rintro e w6 ⟨rfl, hV6, hu6⟩; have u6 := (hX.mono (T := fun i => i = vv) (fun _ _ h => h.elim)).trans hu6 (fun _ _ h => h); have z6 := u6.size; obtain ⟨F6, h6, t6, e6⟩ := HPUT.out w6 _ _ hV6 u6; have H6 := Asd.mk h6; have T6 := Asd.mk (HTn.out.trans t6); have E6 := Asd.mk e6; have M6 := Asd.mk (hu6.blk (heap_alloc_new w5 (.cells #[.int .i64 0, .int .i64 0, .int .i64 0, .string { data := #[] }] 36)) (by intro e; have := f5.size; omega)); clear hV6 hu6 hX h6 t6 e6))
              refine hK.out _ _ (by exact ⟨k7 _ u6, bx _ u6, q8 _ u6, k6 _ u6, q1 _ u6, q13 _ u6⟩) (fun hHeld => ?_)
              clear hK K
              try simp only [Act.put, List.setIfInBounds_toArray, List.set_cons_zero, List.set_cons_succ]
              refine tk_ 24 ?_
              try simp only [Act.put, sl1_, sl2_, sl3_]
              refine tk_ 25 ?_
              try simp only [Act.put, sl1_, sl2_, sl3_]
              refine tk_ 26 ?_
              try simp only [Act.put, sl1_, sl2_, sl3_]
              obtain ⟨⟨c0, z0⟩, c1, c2, c3, c4⟩ := MgOf.four M6.out
              have c1' := fun v0 => (c1 v0).1
              have z1' := fun v0 => (c1 v0).2
              have c2' := fun v0 v1 => (c2 v0 v1).1
              have z2' := fun v0 v1 => (c2 v0 v1).2
              have c3' := fun v0 v1 v2 => (c3 v0 v1 v2).1
              have z3' := fun v0 v1 v2 => (c3 v0 v1 v2).2
              have C4 := Asd.mk c4
              clear c1 c2 c3 c4
              have hbz : wr.heap.size ≤ w5.heap.size := by have := f5.size; omega
              refine wpAnyH_ready (rs := [28]) (by kernel_rfl) (by simp) (AllReadyH.cons (o := ?_) ?_ (fun K hK => ?_) AllReadyH.nil)
              rotate_left 1
              · (simp only [List.getElem?_toArray, List.getElem?_cons_succ, List.getElem?_cons_zero]; exact rfl)
              go_simp
              refine hK.out _ _ (by exact ⟨k7 _ (by repeat (first | assumption | with_reducible exact Upd.refl _ _ | with_reducible refine Upd.drewN ?_ _ | with_reducible refine Upd.drew ?_ | with_reducible refine Upd.alloc ?_ _ | with_reducible refine Upd.setAt ?_ ?_ | exact Or.inl rfl | exact Or.inr (by simp) | exact Or.inr (by omega))), bx _ (by repeat (first | assumption | with_reducible exact Upd.refl _ _ | with_reducible refine Upd.drewN ?_ _ | with_reducible refine Upd.drew ?_ | with_reducible refine Upd.alloc ?_ _ | with_reducible refine Upd.setAt ?_ ?_ | exact Or.inl rfl | exact Or.inr (by simp) | exact Or.inr (by omega))), q8 _ (by repeat (first | assumption | with_reducible exact Upd.refl _ _ | with_reducible refine Upd.drewN ?_ _ | with_reducible refine Upd.drew ?_ | with_reducible refine Upd.alloc ?_ _ | with_reducible refine Upd.setAt ?_ ?_ | exact Or.inl rfl | exact Or.inr (by simp) | exact Or.inr (by omega))), k6 _ (by repeat (first | assumption | with_reducible exact Upd.refl _ _ | with_reducible refine Upd.drewN ?_ _ | with_reducible refine Upd.drew ?_ | with_reducible refine Upd.alloc ?_ _ | with_reducible refine Upd.setAt ?_ ?_ | exact Or.inl rfl | exact Or.inr (by simp) | exact Or.inr (by omega))), q1 _ (by repeat (first | assumption | with_reducible exact Upd.refl _ _ | with_reducible refine Upd.drewN ?_ _ | with_reducible refine Upd.drew ?_ | with_reducible refine Upd.alloc ?_ _ | with_reducible refine Upd.setAt ?_ ?_ | exact Or.inl rfl | exact Or.inr (by simp) | exact Or.inr (by omega))), q13 _ (by repeat (first | assumption | with_reducible exact Upd.refl _ _ | with_reducible refine Upd.drewN ?_ _ | with_reducible refine Upd.drew ?_ | with_reducible refine Upd.alloc ?_ _ | with_reducible refine Upd.setAt ?_ ?_ | exact Or.inl rfl | exact Or.inr (by simp) | exact Or.inr (by omega)))⟩) (fun hHeld => ?_)
              clear hK K
              try simp only [Act.put, List.setIfInBounds_toArray, List.set_cons_zero, List.set_cons_succ]
              refine tk_ 29 ?_
              try simp only [Act.put, sl1_, sl2_, sl3_]
              refine wpAnyH_done (by kernel_rfl) ?_ _
              gi_wp2
              gi_meet
              have hbz2 : wr.heap.size ≤ w5.heap.size := hbz
              have hW0 : W.heap.size ≤ w5.heap.size := Nat.le_trans HTn.out.upd.size hbz2
              have hnb : ¬ F6 w5.heap.size := fun h => by have := HB.out.bk.lt _ (E6.out _ h); omega
              have hib : hiB ≤ w5.heap.size := Nat.le_trans (env_size HB.out.env) hbz2
              exact ⟨w5.heap.size, F6, rfl, rfl, ⟨C4.out _ _ _ _⟩, ⟨H6.out.upd (four_at w6 w5.heap.size _ _ _ _) (fun i h e => by subst e; exact hnb h) (fun i e => by subst e; exact hib)⟩, ⟨four_tn T6.out hW0 _ _ _ _⟩, ⟨hnb⟩⟩
        case s1_1 =>
          go_simp
          refine hK.out _ _ (by exact ⟨k7 _ (by repeat (first | assumption | with_reducible exact Upd.refl _ _ | with_reducible refine Upd.drewN ?_ _ | with_reducible refine Upd.drew ?_ | with_reducible refine Upd.alloc ?_ _ | with_reducible refine Upd.setAt ?_ ?_ | exact Or.inl rfl | exact Or.inr (by simp) | exact Or.inr (by omega))), bx _ (by repeat (first | assumption | with_reducible exact Upd.refl _ _ | with_reducible refine Upd.drewN ?_ _ | with_reducible refine Upd.drew ?_ | with_reducible refine Upd.alloc ?_ _ | with_reducible refine Upd.setAt ?_ ?_ | exact Or.inl rfl | exact Or.inr (by simp) | exact Or.inr (by omega))), q8 _ (by repeat (first | assumption | with_reducible exact Upd.refl _ _ | with_reducible refine Upd.drewN ?_ _ | with_reducible refine Upd.drew ?_ | with_reducible refine Upd.alloc ?_ _ | with_reducible refine Upd.setAt ?_ ?_ | exact Or.inl rfl | exact Or.inr (by simp) | exact Or.inr (by omega))), k6 _ (by repeat (first | assumption | with_reducible exact Upd.refl _ _ | with_reducible refine Upd.drewN ?_ _ | with_reducible refine Upd.drew ?_ | with_reducible refine Upd.alloc ?_ _ | with_reducible refine Upd.setAt ?_ ?_ | exact Or.inl rfl | exact Or.inr (by simp) | exact Or.inr (by omega))), q1 _ (by repeat (first | assumption | with_reducible exact Upd.refl _ _ | with_reducible refine Upd.drewN ?_ _ | with_reducible refine Upd.drew ?_ | with_reducible refine Upd.alloc ?_ _ | with_reducible refine Upd.setAt ?_ ?_ | exact Or.inl rfl | exact Or.inr (by simp) | exact Or.inr (by omega))), q13 _ (by repeat (first | assumption | with_reducible exact Upd.refl _ _ | with_reducible refine Upd.drewN ?_ _ | with_reducible refine Upd.drew ?_ | with_reducible refine Upd.alloc ?_ _ | with_reducible refine Upd.setAt ?_ ?_ | exact Or.inl rfl | exact Or.inr (by simp) | exact Or.inr (by omega)))⟩) (fun hHeld => ?_)
          clear hK K
          try simp only [Act.put, List.setIfInBounds_toArray, List.set_cons_zero, List.set_cons_succ]
          refine wpAnyH_ready (rs := [12]) (by kernel_rfl) (by simp) (AllReadyH.cons (o := ?o5_0) ?l5_0 (fun K hK => ?s5_0) AllReadyH.nil)
          case l5_0 => (simp only [List.getElem?_toArray, List.getElem?_cons_succ, List.getElem?_cons_zero]; exact rfl)
          case s5_0 =>
            (go_simp; (go_at_call 108; have hX := (show Upd (fun _ => False) wr (wr.drew.alloc (.cells #[.int .i64 0, .int .i64 0, .int .i64 0, .string { data := #[] }] 36)) from (by repeat (first | assumption | with_reducible exact Upd.refl _ _ | with_reducible refine Upd.drewN ?_ _ | with_reducible refine Upd.drew ?_ | with_reducible refine Upd.alloc ?_ _ | with_reducible refine Upd.setAt ?_ ?_ | exact Or.inl rfl | exact Or.inr (by simp) | exact Or.inr (by omega)))); obtain ⟨Fo, hq, hFo, _⟩ := (HB.out.up hX).out HC.out; refine (Oq.room_calls hq).mono ?_; rw [← HRM.out]; rintro e w5 ⟨rfl, hd5⟩; have f5 := hX.trans (hd5.upd (fun _ => False)) (fun _ _ h => h); have u5 : Upd (fun i => i = vv) wr w5 := f5.mono (fun _ _ h => h.elim); have M5 := Asd.mk (hd5.upd (fun _ => False) |>.blk (heap_alloc_new wr.drew (.cells #[.int .i64 0, .int .i64 0, .int .i64 0, .string { data := #[] }] 36)) (fun h => h)); clear hq hFo hd5 hX))
            refine hK.out _ _ (by exact ⟨k7 _ u5, bx _ u5, q8 _ u5, k6 _ u5, q1 _ u5, q13 _ u5⟩) (fun hHeld => ?_)
            clear hK K
            try simp only [Act.put, List.setIfInBounds_toArray, List.set_cons_zero, List.set_cons_succ]
            refine tk_ 13 ?_
            try simp only [Act.put, sl1_, sl2_, sl3_]
            refine wpAnyH_ready (rs := [23]) (by kernel_rfl) (by simp) (AllReadyH.cons (o := ?o6_0) ?l6_0 (fun K hK => ?s6_0) AllReadyH.nil)
            case l6_0 => (simp only [List.getElem?_toArray, List.getElem?_cons_succ, List.getElem?_cons_zero]; exact rfl)
            case s6_0 =>
              (go_simp; (go_at_call 107; rw [HW200.out]; have hX := (show Upd (fun _ => False) wr w5 from f5); refine (Vw.next_calls (HRI.out.up hX) (HV.out.up hX (fun h => h)) HRN.out HAB.out.1 HRB.out.2.1 (rm - 200) st.cf.data st.strikes HRB.out.1 HRB.out.2.2).mono ?_; unfold Vw.NextPost Vw.msgV; rw [← HXD.out]; rintro e w6 ⟨rfl, hV6, hu6⟩; have u6 := (hX.mono (T := fun i => i = vv) (fun _ _ h => h.elim)).trans hu6 (fun _ _ h => h); have z6 := u6.size; obtain ⟨F6, h6, t6, e6⟩ := HPUT.out w6 _ _ hV6 u6; have H6 := Asd.mk h6; have T6 := Asd.mk (HTn.out.trans t6); have E6 := Asd.mk e6; have M6 := Asd.mk (hu6.blk M5.out (by intro e; have e2 : wr.heap.size = vv := e; omega)); clear hV6 hu6 hX h6 t6 e6))
              refine hK.out _ _ (by exact ⟨k7 _ u6, bx _ u6, q8 _ u6, k6 _ u6, q1 _ u6, q13 _ u6⟩) (fun hHeld => ?_)
              clear hK K
              try simp only [Act.put, List.setIfInBounds_toArray, List.set_cons_zero, List.set_cons_succ]
              refine tk_ 24 ?_
              try simp only [Act.put, sl1_, sl2_, sl3_]
              refine tk_ 25 ?_
              try simp only [Act.put, sl1_, sl2_, sl3_]
              refine tk_ 26 ?_
              try simp only [Act.put, sl1_, sl2_, sl3_]
              obtain ⟨⟨c0, z0⟩, c1, c2, c3, c4⟩ := MgOf.four (show w6.heap[wr.heap.size]? = _ from M6.out)
              have c1' := fun v0 => (c1 v0).1
              have z1' := fun v0 => (c1 v0).2
              have c2' := fun v0 v1 => (c2 v0 v1).1
              have z2' := fun v0 v1 => (c2 v0 v1).2
              have c3' := fun v0 v1 v2 => (c3 v0 v1 v2).1
              have z3' := fun v0 v1 v2 => (c3 v0 v1 v2).2
              have C4 := Asd.mk c4
              clear c1 c2 c3 c4
              have hbz : wr.heap.size ≤ wr.drew.heap.size := by have := (show wr.heap.size ≤ wr.drew.heap.size from Nat.le_refl _); omega
              refine wpAnyH_ready (rs := [28]) (by kernel_rfl) (by simp) (AllReadyH.cons (o := ?_) ?_ (fun K hK => ?_) AllReadyH.nil)
              rotate_left 1
              · (simp only [List.getElem?_toArray, List.getElem?_cons_succ, List.getElem?_cons_zero]; exact rfl)
              go_simp
              refine hK.out _ _ (by exact ⟨k7 _ (by repeat (first | assumption | with_reducible exact Upd.refl _ _ | with_reducible refine Upd.drewN ?_ _ | with_reducible refine Upd.drew ?_ | with_reducible refine Upd.alloc ?_ _ | with_reducible refine Upd.setAt ?_ ?_ | exact Or.inl rfl | exact Or.inr (by simp) | exact Or.inr (by omega))), bx _ (by repeat (first | assumption | with_reducible exact Upd.refl _ _ | with_reducible refine Upd.drewN ?_ _ | with_reducible refine Upd.drew ?_ | with_reducible refine Upd.alloc ?_ _ | with_reducible refine Upd.setAt ?_ ?_ | exact Or.inl rfl | exact Or.inr (by simp) | exact Or.inr (by omega))), q8 _ (by repeat (first | assumption | with_reducible exact Upd.refl _ _ | with_reducible refine Upd.drewN ?_ _ | with_reducible refine Upd.drew ?_ | with_reducible refine Upd.alloc ?_ _ | with_reducible refine Upd.setAt ?_ ?_ | exact Or.inl rfl | exact Or.inr (by simp) | exact Or.inr (by omega))), k6 _ (by repeat (first | assumption | with_reducible exact Upd.refl _ _ | with_reducible refine Upd.drewN ?_ _ | with_reducible refine Upd.drew ?_ | with_reducible refine Upd.alloc ?_ _ | with_reducible refine Upd.setAt ?_ ?_ | exact Or.inl rfl | exact Or.inr (by simp) | exact Or.inr (by omega))), q1 _ (by repeat (first | assumption | with_reducible exact Upd.refl _ _ | with_reducible refine Upd.drewN ?_ _ | with_reducible refine Upd.drew ?_ | with_reducible refine Upd.alloc ?_ _ | with_reducible refine Upd.setAt ?_ ?_ | exact Or.inl rfl | exact Or.inr (by simp) | exact Or.inr (by omega))), q13 _ (by repeat (first | assumption | with_reducible exact Upd.refl _ _ | with_reducible refine Upd.drewN ?_ _ | with_reducible refine Upd.drew ?_ | with_reducible refine Upd.alloc ?_ _ | with_reducible refine Upd.setAt ?_ ?_ | exact Or.inl rfl | exact Or.inr (by simp) | exact Or.inr (by omega)))⟩) (fun hHeld => ?_)
              clear hK K
              try simp only [Act.put, List.setIfInBounds_toArray, List.set_cons_zero, List.set_cons_succ]
              refine tk_ 29 ?_
              try simp only [Act.put, sl1_, sl2_, sl3_]
              refine wpAnyH_done (by kernel_rfl) ?_ _
              gi_wp2
              gi_meet
              have hbz2 : wr.heap.size ≤ wr.heap.size := hbz
              have hW0 : W.heap.size ≤ wr.heap.size := Nat.le_trans HTn.out.upd.size hbz2
              have hnb : ¬ F6 wr.heap.size := fun h => by have := HB.out.bk.lt _ (E6.out _ h); omega
              have hib : hiB ≤ wr.heap.size := Nat.le_trans (env_size HB.out.env) hbz2
              exact ⟨wr.heap.size, F6, rfl, rfl, ⟨C4.out _ _ _ _⟩, ⟨H6.out.upd (four_at w6 wr.heap.size _ _ _ _) (fun i h e => by subst e; exact hnb h) (fun i e => by subst e; exact hib)⟩, ⟨four_tn T6.out hW0 _ _ _ _⟩, ⟨hnb⟩⟩
      case rest =>
        obtain ⟨bm, F9, rfl, rfl, HM9, H9, T9, HN9⟩ := hcut
        have hg9 : get (set st i (cVw c (x.at_, x.st))) i = some (cVw c (x.at_, x.st)) := get_set_same HC.out
        have HG9 := Asd.mk hg9
        obtain ⟨v9, hb9⟩ := H9.out.conn hg9
        have hbx9 := T9.out.upd.blk HZ1.out HNB.out
        have hm9 := HM9.out
        have d6 := keepsC (o := 6) (v := ptr (L.cn i).po) hb9 rfl
        have dx := keepsC (o := 0) (v := ptr L.q) hbx9 rfl
        have m0 := keepsC (o := 0) (v := .int .i64 x.m.k) hm9 rfl
        have m1 := keepsC (o := 1) (v := .int .i64 x.m.a) hm9 rfl
        have m2 := keepsC (o := 2) (v := .int .i64 x.m.b) hm9 rfl
        have m3 := keepsC (o := 3) (v := .string (S x.m.t)) hm9 rfl
        have hs9 : Upd (fun _ => False) wc wc := Upd.refl _ _
        clear hg9 hb9 hbx9 hm9 k1 k7 k6 q8 q1 q13 bx hs hsv
        cases hok : x.ok with
        | false =>
          have HE : Asd (pumpN i (s1.log.length + 2) s1 = set st i (cVw c (x.at_, x.st))) := ⟨by rw [HP.out, pump_stop k HC.out HST.out HVW.out (by rw [← HX.out]; exact hok), ← HX.out]⟩
          have HGE : Asd (Gd n (set st i (cVw c (x.at_, x.st)))) := ⟨by have := HGD.out.nextCn HC.out HVW.out c.out; rw [← HX.out] at this; exact this⟩
          clear hok
          gi_wp2
          exact ⟨F9, by rw [HE.out]; exact ⟨H9.out, HGE.out⟩, T9.out⟩
        | true =>
          have hok2 : (nextOf st c a b).ok = true := by rw [← HX.out]; exact hok
          obtain ⟨s5, hs5⟩ : ∃ s5, s5 = set st i (cOut (cVw c (x.at_, x.st)) (if (c.out.length : Int) + (mb x.m).length ≤ st.cf.queue then c.out ++ mb x.m else c.out)) := ⟨_, rfl⟩
          have HG5 : Asd (Gd n s5) := ⟨by rw [hs5, HX.out]; exact HGD.out.nextCn HC.out HVW.out _⟩
          have HS5 : Asd (∃ c5, get s5 i = some c5) := ⟨_, by rw [hs5]; exact get_set_same HC.out⟩
          have HPP : Asd (pumped st i c x = if x.m.k = 12 then leave s5 i else s5) := ⟨by rw [hs5]; rfl⟩
          have HPE : Asd (pumpN i (s1.log.length + 2) s1 = pumpN i k (pumped st i c x)) := ⟨by rw [HP.out, pump_go k HC.out HST.out HVW.out hok2, ← HX.out]⟩
          have HFE : Asd (Fuel i k (pumped st i c x)) := ⟨by rw [HX.out]; exact Fuel.next HGD.out HFU.out HC.out HST.out HVW.out hok2⟩
          have HGP : Asd (Gd n (pumped st i c x)) := ⟨by rw [HX.out]; exact HGD.out.pumped HC.out HVW.out⟩
          have HSS : Asd (set (set st i (cVw c (x.at_, x.st))) i (cOut (cVw c (x.at_, x.st)) (if (c.out.length : Int) + (mb x.m).length ≤ st.cf.queue then c.out ++ mb x.m else c.out)) = s5) := ⟨by rw [hs5, set_set]⟩
          have HEP : Asd (∃ c5, get (pumped st i c x) i = some c5) := ⟨ids_get (by rw [ids_pumped]; exact get_ids HC.out)⟩
          clear hok hok2 hs5
          gi_upto_region 6 with fail
          refine wpIn_region_held (S := fun W => W.cell? ⟨(L.cn i).p, 6, none⟩ = some (ptr (L.cn i).po) ∧ W.cell? ⟨bm, 0, none⟩ = some (.int .i64 x.m.k) ∧ W.cell? ⟨bm, 1, none⟩ = some (.int .i64 x.m.a) ∧ W.cell? ⟨bm, 2, none⟩ = some (.int .i64 x.m.b) ∧ W.cell? ⟨bm, 3, none⟩ = some (.string (S x.m.t)) ∧ W.cell? ⟨w.heap.size, 0, none⟩ = some (ptr L.q)) (by kernel_rfl) (fun ⟨a, w, h⟩ => h) (by kernel_rfl) (by exact ⟨d6 _ (by repeat (first | assumption | with_reducible exact Upd.refl _ _ | with_reducible refine Upd.drewN ?_ _ | with_reducible refine Upd.drew ?_ | with_reducible refine Upd.alloc ?_ _ | with_reducible refine Upd.setAt ?_ ?_ | exact Or.inl rfl | exact Or.inr (by simp) | exact Or.inr (by omega))), m0 _ (by repeat (first | assumption | with_reducible exact Upd.refl _ _ | with_reducible refine Upd.drewN ?_ _ | with_reducible refine Upd.drew ?_ | with_reducible refine Upd.alloc ?_ _ | with_reducible refine Upd.setAt ?_ ?_ | exact Or.inl rfl | exact Or.inr (by simp) | exact Or.inr (by omega))), m1 _ (by repeat (first | assumption | with_reducible exact Upd.refl _ _ | with_reducible refine Upd.drewN ?_ _ | with_reducible refine Upd.drew ?_ | with_reducible refine Upd.alloc ?_ _ | with_reducible refine Upd.setAt ?_ ?_ | exact Or.inl rfl | exact Or.inr (by simp) | exact Or.inr (by omega))), m2 _ (by repeat (first | assumption | with_reducible exact Upd.refl _ _ | with_reducible refine Upd.drewN ?_ _ | with_reducible refine Upd.drew ?_ | with_reducible refine Upd.alloc ?_ _ | with_reducible refine Upd.setAt ?_ ?_ | exact Or.inl rfl | exact Or.inr (by simp) | exact Or.inr (by omega))), m3 _ (by repeat (first | assumption | with_reducible exact Upd.refl _ _ | with_reducible refine Upd.drewN ?_ _ | with_reducible refine Upd.drew ?_ | with_reducible refine Upd.alloc ?_ _ | with_reducible refine Upd.setAt ?_ ?_ | exact Or.inl rfl | exact Or.inr (by simp) | exact Or.inr (by omega))), dx _ (by repeat (first | assumption | with_reducible exact Upd.refl _ _ | with_reducible refine Upd.drewN ?_ _ | with_reducible refine Upd.drew ?_ | with_reducible refine Upd.alloc ?_ _ | with_reducible refine Upd.setAt ?_ ?_ | exact Or.inl rfl | exact Or.inr (by simp) | exact Or.inr (by omega)))⟩) (fun hHeld => ?_)
          refine tk_ 0 ?_
          try simp only [Act.put, sl1_, sl2_, sl3_]
          refine tk_ 1 ?_
          try simp only [Act.put, sl1_, sl2_, sl3_]
          refine tk_ 2 ?_
          try simp only [Act.put, sl1_, sl2_, sl3_]
          refine tk_ 3 ?_
          try simp only [Act.put, sl1_, sl2_, sl3_]
          refine tk_ 4 ?_
          try simp only [Act.put, sl1_, sl2_, sl3_]
          refine wpAnyH_ready (rs := [5]) (by kernel_rfl) (by simp) (AllReadyH.cons (o := ?_) ?_ (fun K hK => ?_) AllReadyH.nil)
          rotate_left 1
          · (simp only [List.getElem?_toArray, List.getElem?_cons_succ, List.getElem?_cons_zero]; exact rfl)
          (go_simp; (go_at_call 21; refine (mput_calls x.m _).mono ?_; rintro e w2 ⟨A, cp, rfl, hrd, hc1, hc2, hu2⟩; have h12 := (show Upd (fun _ => False) wc wc.drew from (by repeat (first | assumption | with_reducible exact Upd.refl _ _ | with_reducible refine Upd.drewN ?_ _ | with_reducible refine Upd.drew ?_ | with_reducible refine Upd.alloc ?_ _ | with_reducible refine Upd.setAt ?_ ?_ | exact Or.inl rfl | exact Or.inr (by simp) | exact Or.inr (by omega)))).trans hu2 (fun _ _ h => h); have HR := Asd.mk hrd; clear hrd hc1 hc2 hu2))
          refine hK.out _ _ (by exact ⟨d6 _ h12, m0 _ h12, m1 _ h12, m2 _ h12, m3 _ h12, dx _ h12⟩) (fun hHeld => ?_)
          clear hK K
          try simp only [Act.put, List.setIfInBounds_toArray, List.set_cons_zero, List.set_cons_succ]
          refine wpAnyH_ready (rs := [6]) (by kernel_rfl) (by simp) (AllReadyH.cons (o := ?_) ?_ (fun K hK => ?_) AllReadyH.nil)
          rotate_left 1
          · (simp only [List.getElem?_toArray, List.getElem?_cons_succ, List.getElem?_cons_zero]; exact rfl)
          (go_simp; (go_at_call 106; refine ((H9.out.up h12).putOut HG9.out A cp (mb x.m) HR.out).mono ?_; rintro e w3 ⟨bo, F3, rfl, h3, t3, Fo3, hFo3, hu3⟩; have e3 := HSS.out; have h3' : Bt L w3 s5 F3 := (by rw [← e3]; exact h3); have H3 := Asd.mk h3'; have T3 := Asd.mk ((T9.out.trans (Tn.grow F9 h12)).trans t3); obtain ⟨c5, hg5⟩ := HS5.out; obtain ⟨v5, hb5⟩ := h3'.conn hg5; have hm5 := hu3.blk (h12.blk HM9.out (fun h => h)) (fun hf => HN9.out (hFo3 _ hf)); have hx5 := T3.out.upd.blk HZ1.out HNB.out; have HC3 := Asd.mk (show (fun W => W.cell? ⟨(L.cn i).p, 6, none⟩ = some (ptr (L.cn i).po) ∧ W.cell? ⟨bm, 0, none⟩ = some (.int .i64 x.m.k) ∧ W.cell? ⟨bm, 1, none⟩ = some (.int .i64 x.m.a) ∧ W.cell? ⟨bm, 2, none⟩ = some (.int .i64 x.m.b) ∧ W.cell? ⟨bm, 3, none⟩ = some (.string (S x.m.t)) ∧ W.cell? ⟨w.heap.size, 0, none⟩ = some (ptr L.q)) w3 from ⟨keepsC (o := 6) (v := ptr (L.cn i).po) hb5 rfl _ (Upd.refl _ _), keepsC (o := 0) (v := .int .i64 x.m.k) hm5 rfl _ (Upd.refl _ _), keepsC (o := 1) (v := .int .i64 x.m.a) hm5 rfl _ (Upd.refl _ _), keepsC (o := 2) (v := .int .i64 x.m.b) hm5 rfl _ (Upd.refl _ _), keepsC (o := 3) (v := .string (S x.m.t)) hm5 rfl _ (Upd.refl _ _), keepsC (o := 0) (v := ptr L.q) hx5 rfl _ (Upd.refl _ _)⟩); have n0 := keepsC (o := 0) (v := .int .i64 x.m.k) hm5 rfl; have nx := keepsC (o := 0) (v := ptr L.q) hx5 rfl; have hs3 : Upd (fun _ => False) w3 w3 := Upd.refl _ _; clear h3 h3' t3 hu3 hFo3 hg5 hb5 hm5 hx5 e3 d6 dx m0 m1 m2 m3 hs9))
          refine hK.out _ _ (by exact HC3.out) (fun hHeld => ?_)
          clear hK K
          try simp only [Act.put, List.setIfInBounds_toArray, List.set_cons_zero, List.set_cons_succ]
          refine wpAnyH_done (by kernel_rfl) ?_ _
          clear h12 HC3
          by_cases hk12 : x.m.k = 12
          · have hb12 : (x.m.k == 12) = true := beq_iff_eq.2 hk12
            have HPL : Asd (pumped st i c x = leave s5 i) := ⟨by rw [HPP.out, if_pos hk12]⟩
            clear hk12
            obtain ⟨c5, hg5⟩ := HS5.out
            have HG5' := Asd.mk hg5
            clear hg5
            gi_wp2_with fail
            refine ⟨trivial, ?_⟩
            refine (CallsIn.inRound l (callsIn_wide.2 (leave_calls H3.out HG5.out.ok HG5'.out))).mono ?_
            rintro e w7 ⟨rfl, F7, h7, t7⟩
            have H7 := Asd.mk h7
            have T7 := Asd.mk (T3.out.trans t7)
            clear h7 t7 n0 nx hs3
            gi_wp2
            gi_roundg k
            case measure => omega
            case rel => exact ⟨pumped st i c x, F7, ⟨by rw [HPL.out]; exact H7.out⟩, HGP, HEP, HPE, HFE, T7⟩
          · have hb12 : (x.m.k == 12) = false := beq_eq_false_iff_ne.2 hk12
            have HPL : Asd (pumped st i c x = s5) := ⟨by rw [HPP.out, if_neg hk12]⟩
            clear hk12
            gi_wp2
            gi_roundg k
            case measure => omega
            case rel => exact ⟨pumped st i c x, F3, ⟨by rw [HPL.out]; exact H3.out⟩, HGP, HEP, HPE, HFE, T3⟩
end
end Go.Proofs.YteepkanbiefpjaaGreatDoor.Bk
set_option linter.unusedVariables false
set_option linter.unusedSimpArgs false
namespace Go.Proofs.YteepkanbiefpjaaGreatDoor.Bk
open Go.RowKit K
def delC (s : Br) (id : Int) : Br := strike s fun p => !decide (p.1 = id)
theorem get_delC {s : Br} (h : Ok s) (id j : Int) : get (delC s id) j = if j = id then none else get s j := by
  unfold delC
  rw [get_strike h]
  by_cases e : j = id
  · subst e
    rw [if_pos rfl]
    cases get s j <;> simp [Option.filter]
  · rw [if_neg e]
    cases get s j <;> simp [Option.filter, e]
def sweep1 (s : Br) (id : Int) : Br := match get s id with
  | some c => if c.st = 2 ∧ c.out = [] then delC s id else s
  | none => s
theorem cget_app {a b : List (Int × Cn)} {id : Int} (h : id ∉ a.map (·.1)) : cget (a ++ b) id = cget b id := by
  unfold cget
  rw [List.find?_append, List.find?_eq_none.2 (fun p hp e => h (List.mem_map.2 ⟨p, hp, by simpa using e⟩))]
  rfl
theorem cdel_app {a b : List (Int × Cn)} {id : Int} (h : id ∉ a.map (·.1)) : (a ++ b).filter (fun p => !decide (p.1 = id)) = a ++ b.filter (fun p => !decide (p.1 = id)) := by
  rw [List.filter_append, List.filter_eq_self.2 (fun p hp => by simp only [Bool.not_eq_true', decide_eq_false_iff_not]; exact fun e => h (List.mem_map.2 ⟨p, hp, e⟩))]
theorem sweep_go (s : Br) : ∀ (b a : List (Int × Cn)), ((a ++ b).map (·.1)).Pairwise (· < ·) → (b.map (·.1)).foldl sweep1 { s with cs := a ++ b } = { s with cs := a ++ b.filter fun p => !(p.2.st == 2 && p.2.out.isEmpty) }
  | [], a, _ => rfl
  | q :: r, a, h => by
    have hpw := h
    rw [List.map_append, List.pairwise_append] at hpw
    have ha : q.1 ∉ a.map (·.1) := fun hm => by
      have := hpw.2.2 _ hm q.1 (by simp)
      omega
    have hr : q.1 ∉ r.map (·.1) := fun hm => by
      have h2 := hpw.2.1
      rw [List.map_cons] at h2
      have := (List.pairwise_cons.1 h2).1 _ hm
      omega
    have hg : get { s with cs := a ++ q :: r } q.1 = some q.2 := by
      show cget (a ++ q :: r) q.1 = _
      rw [cget_app ha]
      unfold cget
      rw [List.find?_cons]
      simp
    rw [List.map_cons, List.foldl_cons, List.filter_cons]
    unfold sweep1
    rw [hg]
    simp only
    by_cases hc : q.2.st = 2 ∧ q.2.out = []
    · rw [if_pos hc]
      have hk : (!(q.2.st == 2 && q.2.out.isEmpty)) = false := by simp [hc.1, hc.2]
      rw [hk]
      have hd : delC { s with cs := a ++ q :: r } q.1 = { s with cs := a ++ r } := by
        unfold delC strike
        simp only
        rw [cdel_app ha, List.filter_cons]
        simp only [decide_true, Bool.not_true, Bool.false_eq_true, if_false]
        rw [List.filter_eq_self.2 (fun p hp => by simp only [Bool.not_eq_true', decide_eq_false_iff_not]; exact fun e => hr (List.mem_map.2 ⟨p, hp, e⟩))]
      rw [hd]
      simp only [Bool.false_eq_true, if_false]
      exact sweep_go s r a (List.Pairwise.sublist (List.Sublist.map _ (List.Sublist.append_left (List.sublist_cons_self q r) a)) h)
    · rw [if_neg hc]
      have hk : (!(q.2.st == 2 && q.2.out.isEmpty)) = true := by
        cases h1 : (q.2.st == 2) with
        | false => rfl
        | true =>
          have h2 : q.2.out ≠ [] := fun e => hc ⟨beq_iff_eq.1 h1, e⟩
          simp [h2]
      rw [hk]
      simp only [if_true]
      have := sweep_go s r (a ++ [q]) (by simpa using h)
      simp only [List.append_assoc, List.singleton_append] at this
      exact this
theorem sweep_is {s : Br} (h : Ok s) : (ids s).foldl sweep1 s = sweep s := sweep_go s s.cs [] h.srt
theorem sub_sweep1 {s : Br} (h : Ok s) {id : Int} {p : Int} (hp : p ≠ id) : get (sweep1 s id) p = get s p := by
  unfold sweep1
  split
  · split
    · rw [get_delC h, if_neg hp]
    · rfl
  · rfl
theorem Gd.sweep1 {n : Nat} {s : Br} (h : Gd n s) (id : Int) : Gd n (sweep1 s id) := by
  unfold Bk.sweep1
  split
  · rename_i c hg
    split
    · rename_i hc
      exact h.cutC id (fun c' hc' => by rw [hg] at hc'; cases hc'; omega)
    · exact h
  · exact h
section
variable {w w' : World} {L : Lay} {s : Br} {F : Nat → Prop} {id : Int} {c : Cn}
theorem Bt.map (h : Bt L w s F) : mapV w Tryz.prog 3 L.m (ents L s) := by
  obtain ⟨Fm, hm, _⟩ := h.bk.part .map
  exact hm.1
theorem ents_delC (L : Lay) (s : Br) (id : Int) : ents L (delC s id) = mdel (ents L s) id := by
  unfold ents delC strike mdel
  rw [List.filter_map]
  rfl
theorem Bt.drop (h : Bt L w s F) (ho : Ok s) (id : Int) (hu : Upd (fun k => k = L.m) w w') (hm : mapV w' Tryz.prog 3 L.m (mdel (ents L s) id)) : ∃ F', Bt L w' (delC s id) F' ∧ Tn w F w' F' := by
  obtain ⟨Fm, h1, h2, h3, h4⟩ := h.bk.turns (fun j => j = .map ∨ j = .conn id ∨ j = .feed id ∨ j = .lex id ∨ j = .out id)
  have hmF : ∀ k, Fm .map k ↔ k = L.m := (h1 .map).2
  have hgn : get (delC s id) id = none := by rw [get_delC ho, if_pos rfl]
  have hgo : ∀ j, j ≠ id → get (delC s id) j = get s j := fun j hj => by rw [get_delC ho, if_neg hj]
  obtain ⟨F', hbk, ht⟩ := h4 w' L (delC s id) (fun j => match j with | .map => fun k => k = L.m | _ => fun _ => False) (fun j hj => by
      rcases hj with rfl | rfl | rfl | rfl | rfl
      · exact ⟨by rw [ents_delC]; exact hm, fun k => Iff.rfl⟩
      all_goals
        simp only [PartAt, hgn]
        exact fun k hk => hk)
    (fun i j k hi hj hne hk hk2 => by
      rcases hi with rfl | rfl | rfl | rfl | rfl
      · rcases hj with rfl | rfl | rfl | rfl | rfl
        · exact hne rfl
        all_goals exact hk2
      all_goals exact hk)
    (fun j hj k hk => by
      rcases hj with rfl | rfl | rfl | rfl | rfl
      · exact .inl ⟨.map, .inl rfl, (hmF k).2 hk⟩
      all_goals exact hk.elim)
    (fun j hj W Fj hw => by
      cases j with
      | own => exact hw
      | ring => exact hw
      | spot => exact hw
      | table => exact hw
      | input => exact hw
      | map => exact absurd (.inl rfl) hj
      | conn x =>
        have hx : x ≠ id := fun e => hj (by subst e; exact .inr (.inl rfl))
        simp only [PartAt] at hw ⊢
        rw [hgo x hx]; exact hw
      | feed x =>
        have hx : x ≠ id := fun e => hj (by subst e; exact .inr (.inr (.inl rfl)))
        simp only [PartAt] at hw ⊢
        rw [hgo x hx]; exact hw
      | lex x =>
        have hx : x ≠ id := fun e => hj (by subst e; exact .inr (.inr (.inr (.inl rfl))))
        simp only [PartAt] at hw ⊢
        rw [hgo x hx]; exact hw
      | out x =>
        have hx : x ≠ id := fun e => hj (by subst e; exact .inr (.inr (.inr (.inr rfl))))
        simp only [PartAt] at hw ⊢
        rw [hgo x hx]; exact hw)
    (hu.mono (fun k _ e => ⟨.map, .inl rfl, (hmF k).2 e⟩))
  exact ⟨F', h.go hbk ht, ht⟩
theorem oi_at {KK : List Int} {A : Option Addr} {cc : Nat} {G : Option Nat} (h : OI w (.slice A KK.length cc) KK G) {i : Nat} (hi : i < KK.length) : ∃ ad, A = some ad ∧ w.cell? (ad.add i) = some (.int .i64 KK[i]) := by
  obtain ⟨A1, c1, he1, _, _, hrow, _⟩ := K.Own.slice h
  obtain ⟨rfl, rfl⟩ : A = A1 ∧ cc = c1 := by injection he1 with a b c; exact ⟨a, c⟩
  exact hrow i (.int .i64 KK[i]) (by rw [I, List.getElem?_map, List.getElem?_eq_getElem hi]; rfl)
set_option maxHeartbeats 8000000 in
set_option maxRecDepth 100000 in
theorem settle_calls (n : Nat) (h : Bt L w s F) (hd : Gd n s) (hn : n ≤ 100000000) : Calls Tryz.prog 55 #[ptr L.q] w (Goes L (settle s) F w (.tuple #[])) := by
  obtain ⟨s1, hs1⟩ : ∃ s1, s1 = turned s := ⟨_, rfl⟩
  obtain ⟨s2, hs2⟩ : ∃ s2, s2 = pump s1 := ⟨_, rfl⟩
  obtain ⟨s3, hs3⟩ : ∃ s3, s3 = turned s2 := ⟨_, rfl⟩
  have HS : Asd (settle s = sweep s3) := ⟨by rw [hs3, hs2, hs1]; rfl⟩
  have hd1 : Gd n s1 := by rw [hs1]; exact hd.turned
  have hd2 : Gd n s2 := by rw [hs2]; exact hd1.pump
  have hd3 : Gd n s3 := by rw [hs3]; exact hd2.turned
  have H := Asd.mk h
  have HD := Asd.mk hd
  have HD1 := Asd.mk hd1
  have HD2 := Asd.mk hd2
  have HD3 := Asd.mk hd3
  have HS1 := Asd.mk hs1
  have HS2 := Asd.mk hs2
  have HS3 := Asd.mk hs3
  clear h hd hd1 hd2 hd3 hs1 hs2 hs3
  rw [HS.out]
  go_enter Tryz.func55, Tryz.ntmps55
  go_wp2_with fail
  refine (turned_calls H.out HD.out.ok).mono ?_
  rw [← HS1.out]
  rintro e w1 ⟨rfl, F1, h1, t1⟩
  have H1 := Asd.mk h1
  have T1 := Asd.mk t1
  clear h1 t1
  go_wp2_with fail
  refine (pump_calls n H1.out HD1.out hn).mono ?_
  rw [← HS2.out]
  rintro e w2 ⟨rfl, F2, h2, t2⟩
  have H2 := Asd.mk h2
  have T2 := Asd.mk (T1.out.trans t2)
  clear h2 t2
  go_wp2_with fail
  refine (turned_calls H2.out HD2.out.ok).mono ?_
  rw [← HS3.out]
  rintro e w3 ⟨rfl, F3, h3, t3⟩
  have H3 := Asd.mk h3
  have T3 := Asd.mk (T2.out.trans t3)
  clear h3 t3
  go_wp2_with fail
  refine (ids_calls H3.out.bk (by have := HD3.out.ok.few; omega)).mono ?_
  rintro e w4 ⟨A, cc, G, rfl, hO, hGn, hu⟩
  obtain ⟨KK, hKK⟩ : ∃ KK, KK = ids s3 := ⟨_, rfl⟩
  rw [← hKK] at hO ⊢
  obtain ⟨N, hN⟩ : ∃ N, N = KK.length := ⟨_, rfl⟩
  have hN16 : N ≤ 16 := by
    have := HD3.out.ok.few
    rw [hN, hKK]; simp only [ids, List.length_map]; omega
  have HN := Asd.mk hN
  rw [← hN]
  have HOI := Asd.mk hO
  have HGn := Asd.mk hGn
  have HU := Asd.mk hu
  have HKK := Asd.mk hKK
  have HPW : Asd (KK.Pairwise (· < ·)) := ⟨by rw [hKK]; exact HD3.out.ok.srt⟩
  have HRG : Asd (∀ j ∈ KK, 1 ≤ j ∧ j ≤ 16) := ⟨by rw [hKK]; exact HD3.out.ok.rng⟩
  clear hO hGn hu hN hKK
  go_wp2
  go_loopw [14] (fun v14 wr => ∃ (i : Nat) (st : Br) (F4 : Nat → Prop), v14 = .int .i64 (i : Int) ∧ i ≤ N ∧ Asd (Bt L wr st F4) ∧ Asd (Gd n st) ∧ Asd (∀ j ∈ KK.drop i, ∃ x, get st j = some x) ∧ Asd (sweep s3 = (KK.drop i).foldl sweep1 st) ∧ Asd (OI wr (.slice A KK.length cc) KK G ∧ ∀ g, G = some g → ¬ F4 g) ∧ Asd (Tn w F wr F4)) (fun v14 _ => N - (intOf v14).toNat)
  case atStart => exact ⟨0, s3, F3, rfl, Nat.zero_le _, ⟨H3.out.up HU.out⟩, HD3, ⟨fun j hj => ids_get (by rw [HKK.out] at hj; exact hj)⟩, ⟨by rw [HKK.out]; exact (sweep_is HD3.out.ok).symm⟩, ⟨HOI.out, fun g hg hf => by have := HGn.out g hg; have := H3.out.bk.lt g hf; omega⟩, ⟨T3.out.trans (Tn.grow F3 HU.out)⟩⟩
  case round =>
    obtain ⟨i, st, F4, rfl, hi, HB, HGD, HEX, HL, HSO, HTn⟩ := hrel
    by_cases hlt : i < N
    · have hlt2 : i < KK.length := by rw [← HN.out]; exact hlt
      obtain ⟨ad, rfl, hcell⟩ := oi_at HSO.out.1 hlt2
      obtain ⟨j, hj⟩ : ∃ j, j = KK[i] := ⟨_, rfl⟩
      rw [← hj] at hcell
      have hdrop : KK.drop i = j :: KK.drop (i + 1) := by rw [hj]; exact List.drop_eq_getElem_cons hlt2
      have hjm : j ∈ KK := by rw [hj]; exact List.getElem_mem _
      obtain ⟨x, hx⟩ := HEX.out j (by rw [hdrop]; exact List.mem_cons_self)
      have HX := Asd.mk hx
      have HJR := Asd.mk (HRG.out j hjm)
      have HNX : Asd (sweep s3 = (KK.drop (i + 1)).foldl sweep1 (sweep1 st j)) := ⟨by rw [HL.out, hdrop, List.foldl_cons]⟩
      have HEX2 : Asd (∀ p ∈ KK.drop (i + 1), ∃ x, get (sweep1 st j) p = some x) := ⟨fun p hp => by
        have hpj : p ≠ j := by
          have h2 : (KK.drop i).Pairwise (· < ·) := List.Pairwise.sublist (List.drop_sublist _ _) HPW.out
          rw [hdrop] at h2
          have := (List.pairwise_cons.1 h2).1 p hp
          omega
        rw [sub_sweep1 HGD.out.ok hpj]
        exact HEX.out p (by rw [hdrop]; exact List.mem_cons_of_mem _ hp)⟩
      have HG2 := Asd.mk (HGD.out.sweep1 j)
      have hcell2 : ∀ W, Upd (fun _ => False) wr W → W.cell? (ad.add i) = some (.int .i64 j) := fun W k => k.cell hcell (fun h => h)
      have q12 := keepsC (o := 12) (v := .map (some L.m)) HB.out.own rfl
      have hlook := HB.out.look j (by have := HJR.out; omega)
      rw [hx] at hlook
      simp only at hlook
      obtain ⟨vx, hbx⟩ := HB.out.conn hx
      have x1 := keepsC (o := 1) (v := .int .i64 x.st) hbx rfl
      have x6 := keepsC (o := 6) (v := ptr (L.cn j).po) hbx rfl
      have hs2 : Upd (fun _ => False) wr wr := Upd.refl _ _
      clear hj hdrop hcell hjm hx hbx
      by_cases hst : x.st = 2
      case neg =>
        have hb : (x.st == 2) = false := beq_eq_false_iff_ne.2 hst
        have HE : Asd (sweep1 st j = st) := ⟨by unfold sweep1; rw [HX.out]; simp only; rw [if_neg (fun h => hst h.1)]⟩
        have HNX3 : Asd (sweep s3 = (KK.drop (i + 1)).foldl sweep1 st) := ⟨by rw [HNX.out, HE.out]⟩
        have HEX3 : Asd (∀ p ∈ KK.drop (i + 1), ∃ x, get st p = some x) := ⟨by rw [← HE.out]; exact HEX2.out⟩
        clear hst
        go_wp2
        go_roundw
        case rel => exact ⟨i + 1, st, F4, by go_num, by omega, HB, HGD, HEX3, HNX3, HSO, HTn⟩
        case measure => simp only [intOf]; omega
      have hb : (x.st == 2) = true := beq_iff_eq.2 hst
      obtain ⟨Fo, hq, _, _⟩ := HB.out.out HX.out
      have HQ := Asd.mk hq
      clear hq
      by_cases ho : x.out = []
      case neg =>
        have hl : ((x.out.length : Int) == 0) = false := beq_eq_false_iff_ne.2 (fun e => ho (List.length_eq_zero_iff.1 (by omega)))
        have HE : Asd (sweep1 st j = st) := ⟨by unfold sweep1; rw [HX.out]; simp only; rw [if_neg (fun h => ho h.2)]⟩
        have HNX3 : Asd (sweep s3 = (KK.drop (i + 1)).foldl sweep1 st) := ⟨by rw [HNX.out, HE.out]⟩
        have HEX3 : Asd (∀ p ∈ KK.drop (i + 1), ∃ x, get st p = some x) := ⟨by rw [← HE.out]; exact HEX2.out⟩
        clear hst ho
        go_wp2_with fail
        refine (Oq.len_calls HQ.out).mono ?_
        rintro e w5 ⟨rfl, rfl⟩
        go_wp2
        go_roundw
        case rel => exact ⟨i + 1, st, F4, by go_num, by omega, HB, HGD, HEX3, HNX3, HSO, HTn⟩
        case measure => simp only [intOf]; omega
      have hl : ((x.out.length : Int) == 0) = true := by rw [ho]; rfl
      have HE : Asd (sweep1 st j = delC st j) := ⟨by unfold sweep1; rw [HX.out]; simp only; rw [if_pos ⟨hst, ho⟩]⟩
      clear hst ho
      go_wp2_with fail
      refine (Oq.len_calls HQ.out).mono ?_
      rintro e w5 ⟨rfl, rfl⟩
      have HM := Asd.mk HB.out.map
      go_wp2_with (with_reducible refine stop_delete _ _ 89 3 rfl ?_)
      refine wp_delete rfl 89 _ _ rfl HM.out Tryz.underlying3 Tryz.underlying89 j rfl rfl (by have := HJR.out; omega) ?_
      intro w6 hm hu
      obtain ⟨F6, h6, t6⟩ := HB.out.drop HGD.out.ok j hu hm
      have H6 : Asd (Bt L w6 (sweep1 st j) F6) := ⟨by rw [HE.out]; exact h6⟩
      have T6 := Asd.mk (HTn.out.trans t6)
      have HS6 : Asd (OI w6 (.slice (some ad) KK.length cc) KK G ∧ ∀ g, G = some g → ¬ F6 g) := ⟨HSO.out.1.upd t6.upd (fun g hg => HSO.out.2 g hg), fun g hg hf => (t6.new g hf).elim (HSO.out.2 g hg) (fun h => by have := HSO.out.1.lt g hg; omega)⟩
      clear hm hu h6 t6 q12 hlook x1 x6 hs2 hcell2
      go_wp2
      go_roundw
      case rel => exact ⟨i + 1, sweep1 st j, F6, by go_num, by omega, H6, HG2, HEX2, HNX, HS6, T6⟩
      case measure => simp only [intOf]; omega
    · have HE : Asd (sweep s3 = st) := ⟨by rw [HL.out, List.drop_eq_nil_of_le (by have := HN.out; omega)]; rfl⟩
      go_wp2
      go_end0
      exact ⟨rfl, F4, by rw [HE.out]; exact HB.out, HTn.out⟩
end
end Go.Proofs.YteepkanbiefpjaaGreatDoor.Bk
set_option linter.unusedVariables false
set_option linter.unusedSimpArgs false
namespace Go.Proofs.YteepkanbiefpjaaGreatDoor.Bk
open Go.RowKit K
open MgRow (M)
section
variable {w w' : World} {L : Lay} {s : Br} {F : Nat → Prop} {id : Int} {c : Cn}
theorem Bt.outE (h : Bt L w s F) (hg : get s id = some c) : ∃ Fo, Oq.Que w (L.cn id).po c.out s.cf.queue Fo ∧ (∀ k, Fo k → F k) ∧ ∀ (w' : World) (b : List UInt8) (Fo' : Nat → Prop), Oq.Que w' (L.cn id).po b s.cf.queue Fo' → Upd Fo w w' → (∀ k, Fo' k → Fo k ∨ w.heap.size ≤ k) → ∃ F', Bt L w' (set s id (cOut c b)) F' ∧ Tn w F w' F' ∧ ∀ k, F' k → F k ∨ Fo' k := by
  obtain ⟨Fi, hp, hF, hput⟩ := h.bk.turnE (.out id)
  simp only [PartAt] at hp
  rw [hg] at hp
  refine ⟨Fi, hp, hF, fun w' b Fo' a1 a2 a3 => ?_⟩
  obtain ⟨F', hbk, ht, he⟩ := hput w' (set s id (cOut c b)) Fo' (by simp only [PartAt]; rw [get_set_same hg]; exact a1) (fun j hj W Fj hw => set_part hg hw (fun _ => ⟨rfl, rfl, rfl, rfl⟩) (fun _ => ⟨rfl, rfl⟩) (fun _ => rfl) (fun e => absurd e hj)) ⟨a2, a3⟩
  exact ⟨F', h.go hbk ht, ht, he⟩
def Apart (w : World) (A : Option Addr) (cp : Nat) (l : List UInt8) (lo : Nat) (F : Nat → Prop) : Prop := ∃ G, K.Own w 5 1 (.slice A l.length cp) l.length (B l) G ∧ ∀ g, G = some g → ¬ F g ∧ lo ≤ g
theorem Apart.tn {w w' : World} {A : Option Addr} {cp : Nat} {l : List UInt8} {lo : Nat} {F F' : Nat → Prop} (h : Apart w A cp l lo F) (t : Tn w F w' F') : Apart w' A cp l lo F' := by
  obtain ⟨G, h1, h2⟩ := h
  refine ⟨G, h1.upd t.upd (fun g e => (h2 g e).1), fun g e => ⟨fun hf => ?_, (h2 g e).2⟩⟩
  rcases t.new g hf with h | h
  · exact (h2 g e).1 h
  · have := h1.lt g e; omega
theorem Apart.up {w w' : World} {A : Option Addr} {cp : Nat} {l : List UInt8} {lo : Nat} {F : Nat → Prop} (h : Apart w A cp l lo F) (k : Upd (fun _ => False) w w') : Apart w' A cp l lo F := h.tn (Tn.grow F k)
theorem Apart.lo {A : Option Addr} {cp : Nat} {l : List UInt8} {lo lo2 : Nat} (h : Apart w A cp l lo F) (k : lo2 ≤ lo) : Apart w A cp l lo2 F := by
  obtain ⟨G, h1, h2⟩ := h
  exact ⟨G, h1, fun g e => ⟨(h2 g e).1, by have := (h2 g e).2; omega⟩⟩
theorem Apart.rd {A : Option Addr} {cp : Nat} {l : List UInt8} {lo : Nat} (h : Apart w A cp l lo F) : Rd w A l.length l := by
  obtain ⟨G, h1, _⟩ := h
  exact h1.rd
theorem Apart.nil (w : World) (lo : Nat) (F : Nat → Prop) : Apart w none 0 [] lo F := ⟨none, Own.nil w _ _, fun g e => by cases e⟩
def Gives (L : Lay) (s : Br) (F : Nat → Prop) (w : World) (l : List UInt8) (v : Value → Value) (e : Ending) (w' : World) : Prop := ∃ A cp, e = .returned (v (.slice A l.length cp)) ∧ ∃ F', Bt L w' s F' ∧ Tn w F w' F' ∧ Apart w' A cp l w.heap.size F'
set_option maxHeartbeats 8000000 in
set_option maxRecDepth 100000 in
theorem write_calls (n : Nat) (h : Bt L w s F) (hd : Gd n s) (hn : n ≤ 100000000) (id x : Int) (hid : -9223372036854775808 ≤ id ∧ id ≤ 9223372036854775807) : Calls Tryz.prog 23 #[ptr L.q, .int .i64 id, .int .i64 x] w (Gives L (write s id x).1 F w (write s id x).2.1 (fun v => .tuple #[v, .int .i64 (write s id x).2.2])) := by
  have q12 := keepsC (o := 12) (v := .map (some L.m)) h.own rfl
  have hlook := h.look id hid
  have hs : Upd (fun _ => False) w w := Upd.refl _ _
  have H := Asd.mk h
  have HD := Asd.mk hd
  cases hg : get s id with
  | none =>
    have hw : write s id x = (s, [], 2) := by unfold write; rw [hg]
    rw [hw]
    rw [hg] at hlook
    simp only at hlook ⊢
    clear h hd hg hw
    go_enter Tryz.func23, Tryz.ntmps23
    go_wp2
    go_ret2
    exact ⟨none, 0, rfl, F, H.out, Tn.refl _ _, Apart.nil _ _ _⟩
  | some c =>
    obtain ⟨k, hk⟩ : ∃ k, k = Oq.takeN x c.out.length := ⟨_, rfl⟩
    have hw : write s id x = (settle (set s id (cOut c (c.out.drop k))), c.out.take k, 0) := by unfold write; rw [hg, hk]
    rw [hw]
    rw [hg] at hlook
    simp only at hlook ⊢
    have HG := Asd.mk hg
    have HK := Asd.mk hk
    have HKL : Asd ((c.out.take k).length = k) := ⟨by rw [List.length_take, hk]; have := Oq.takeN_le x c.out.length; omega⟩
    obtain ⟨vx, hbx⟩ := h.conn hg
    have x6 := keepsC (o := 6) (v := ptr (L.cn id).po) hbx rfl
    obtain ⟨Fo, hq, hFo, hput⟩ := h.outE hg
    have HQ := Asd.mk hq
    have HFO := Asd.mk hFo
    have HPUT := Asd.mk hput
    clear h hd hg hw hk hbx hq hFo hput
    go_enter Tryz.func23, Tryz.ntmps23
    go_wp2_with fail
    refine (Oq.take_calls HQ.out x).mono ?_
    rw [← HK.out]
    rintro e w1 ⟨g, Fo1, rfl, hg1, hg2, hO1, hQ1, hU1, hn1⟩
    obtain ⟨F1, h1, t1, e1⟩ := HPUT.out w1 _ Fo1 hQ1 hU1 hn1
    have H1 := Asd.mk h1
    have T1 := Asd.mk t1
    have HA1 : Asd (Apart w1 (some ⟨g, 0, none⟩) k (c.out.take k) w.heap.size F1) := ⟨⟨some g, by rw [HKL.out]; exact hO1, fun g' e => by cases e; exact ⟨fun hf => (e1 g hf).elim (fun hf2 => by have := H.out.bk.lt _ hf2; omega) hg2, hg1⟩⟩⟩
    have HD1 := Asd.mk (HD.out.cnOut HG.out (c.out.drop k))
    clear hg1 hg2 hO1 hQ1 hU1 hn1 h1 t1 e1 q12 hlook x6 hs
    go_wp2_with fail
    refine (settle_calls n H1.out HD1.out hn).mono ?_
    rintro e w2 ⟨rfl, F2, h2, t2⟩
    have H2 := Asd.mk h2
    have T2 := Asd.mk (T1.out.trans t2)
    have HA2 := Asd.mk (HA1.out.tn t2)
    clear h2 t2
    go_wp2
    go_ret2
    exact ⟨some ⟨g, 0, none⟩, k, by rw [HKL.out]; rfl, F2, H2.out, T2.out, HA2.out⟩
set_option maxHeartbeats 8000000 in
set_option maxRecDepth 100000 in
theorem drain_calls (h : Bt L w s F) (x : Int) : Calls Tryz.prog 37 #[ptr L.q, .int .i64 x] w (Gives L (drain s x).1 F w (drain s x).2 (fun v => v)) := by
  obtain ⟨k, hk⟩ : ∃ k, k = Oq.takeN x s.inp.buf.length := ⟨_, rfl⟩
  have hw : drain s x = (wInp s { s.inp with buf := s.inp.buf.drop k }, s.inp.buf.take k) := by unfold drain; rw [hk]
  rw [hw]
  simp only
  obtain ⟨Fi, hi, hFi, hput⟩ := h.input
  obtain ⟨q, Fq, hb, hq, hne, hF⟩ := hi.has
  have HKL : Asd ((s.inp.buf.take k).length = k) := ⟨by rw [List.length_take, hk]; have := Oq.takeN_le x s.inp.buf.length; omega⟩
  have HK := Asd.mk hk
  have H := Asd.mk h
  have HQ := Asd.mk hq
  have HB := Asd.mk hb
  have HNE := Asd.mk hne
  have HF := Asd.mk hF
  have HFI := Asd.mk hFi
  have HPUT := Asd.mk hput
  have q11 := keepsC (o := 11) (v := ptr L.ip) h.own rfl
  have i0 := keepsC (o := 0) (v := .pointer (some ⟨q, 0, none⟩)) hb rfl
  have hs : Upd (fun _ => False) w w := Upd.refl _ _
  clear h hw hk hi hFi hput hb hq hne hF
  go_enter Tryz.func37, Tryz.ntmps37
  go_wp2_with fail
  refine (Oq.take_calls HQ.out x).mono ?_
  rw [← HK.out]
  rintro e w1 ⟨g, Fo1, rfl, hg1, hg2, hO1, hQ1, hU1, hn1⟩
  obtain ⟨F1, h1, t1, e1⟩ := HPUT.out w1 { s.inp with buf := s.inp.buf.drop k } (fun k => k = L.ip ∨ Fo1 k) ⟨q, Fo1, hU1.blk HB.out HNE.out, hQ1, fun hf => (hn1 _ hf).elim HNE.out (fun h => by have := blk_lt HB.out; omega), fun k => Iff.rfl⟩ (hU1.mono (fun k _ hk => (HF.out k).2 (.inr hk))) (fun k hk => hk.elim (fun e => .inl ((HF.out k).2 (.inl e))) (fun hk => (hn1 k hk).imp (fun h => (HF.out k).2 (.inr h)) (fun h => h)))
  have H1 := Asd.mk h1
  have T1 := Asd.mk t1
  have HA1 : Asd (Apart w1 (some ⟨g, 0, none⟩) k (s.inp.buf.take k) w.heap.size F1) := ⟨⟨some g, by rw [HKL.out]; exact hO1, fun g' e => by cases e; exact ⟨fun hf => (e1 g hf).elim (fun hf2 => by have := H.out.bk.lt _ hf2; omega) (fun h => h.elim (fun e => by have := blk_lt HB.out; omega) hg2), hg1⟩⟩⟩
  clear hg1 hg2 hO1 hQ1 hU1 hn1 h1 t1 e1 q11 i0 hs
  go_wp2
  go_ret
  exact ⟨some ⟨g, 0, none⟩, k, by rw [HKL.out]; rfl, F1, H1.out, T1.out, HA1.out⟩
set_option maxHeartbeats 8000000 in
set_option maxRecDepth 100000 in
theorem cut_calls (n : Nat) (h : Bt L w s F) (hd : Gd n s) (hn : n ≤ 100000000) (id : Int) (hid : -9223372036854775808 ≤ id ∧ id ≤ 9223372036854775807) : Calls Tryz.prog 31 #[ptr L.q, .int .i64 id] w (Goes L (cut s id).1 F w (.int .i64 (cut s id).2)) := by
  have q12 := keepsC (o := 12) (v := .map (some L.m)) h.own rfl
  have hlook := h.look id hid
  have hs : Upd (fun _ => False) w w := Upd.refl _ _
  have H := Asd.mk h
  have HD := Asd.mk hd
  cases hg : get s id with
  | none =>
    have hw : cut s id = (s, 2) := by unfold cut; rw [hg]
    rw [hw]
    rw [hg] at hlook
    simp only at hlook ⊢
    clear h hd hg hw
    go_enter Tryz.func31, Tryz.ntmps31
    go_wp2
    go_ret
    exact ⟨rfl, F, H.out, Tn.refl _ _⟩
  | some c =>
    have hw : cut s id = (settle (delC (leave s id) id), 0) := by unfold cut; rw [hg]; rfl
    rw [hw]
    rw [hg] at hlook
    simp only at hlook ⊢
    have HG := Asd.mk hg
    have HD1 := Asd.mk (hd.leave id)
    have HD2 : Asd (Gd n (delC (leave s id) id)) := ⟨(hd.leave id).cutC id (fun c' hc' => by
      obtain ⟨c2, e1, e2⟩ := leave_closed hg
      rw [e1] at hc'
      cases hc'
      omega)⟩
    clear h hd hg hw
    go_enter Tryz.func31, Tryz.ntmps31
    go_wp2_with fail
    refine (leave_calls H.out HD.out.ok HG.out).mono ?_
    rintro e w1 ⟨rfl, F1, h1, t1⟩
    have H1 := Asd.mk h1
    have T1 := Asd.mk t1
    have HM := Asd.mk h1.map
    have q12' := keepsC (o := 12) (v := .map (some L.m)) h1.own rfl
    have hs1 : Upd (fun _ => False) w1 w1 := Upd.refl _ _
    clear h1 t1 q12 hlook hs
    go_wp2_with (with_reducible refine stop_delete _ _ 89 3 rfl ?_)
    refine wp_delete rfl 89 _ _ rfl HM.out Tryz.underlying3 Tryz.underlying89 id rfl rfl hid ?_
    intro w2 hm hu
    obtain ⟨F2, h2, t2⟩ := H1.out.drop HD1.out.ok id hu hm
    have H2 := Asd.mk h2
    have T2 := Asd.mk (T1.out.trans t2)
    clear hm hu h2 t2 q12' hs1
    go_wp2_with fail
    refine (settle_calls n H2.out HD2.out hn).mono ?_
    rintro e w3 ⟨rfl, F3, h3, t3⟩
    have H3 := Asd.mk h3
    have T3 := Asd.mk (T2.out.trans t3)
    clear h3 t3
    go_wp2
    go_ret
    exact ⟨rfl, F3, H3.out, T3.out⟩
end
end Go.Proofs.YteepkanbiefpjaaGreatDoor.Bk
set_option linter.unusedVariables false
set_option linter.unusedSimpArgs false
namespace Go.Proofs.YteepkanbiefpjaaGreatDoor.Iq
open Go.RowKit K Fl
theorem takeN_all (n : Nat) : Oq.takeN (n : Int) n = n := by unfold Oq.takeN mx mn; split <;> split <;> omega
section
variable {w : World} {p t : Nat} {x : QS} {s : T} {F Ft : Nat → Prop}
def fin (x : QS) : QS := { x with buf := [], ended := true }
set_option maxHeartbeats 2000000 in
theorem end_calls (h : QI w p F x) : Calls Tryz.prog 74 #[.pointer (some ⟨p, 0, none⟩)] w (QTurns (.tuple #[]) (fin x) p F w) := by
  have HOWN := Asd.mk h.own
  obtain ⟨q, Fq, HB, HQ, HF, hps⟩ := h.cells
  have ff := fun o => keepsF (o := o) HB.out
  have c1 := keepsC (o := 1) HB.out rfl
  have hk : Upd (fun _ => False) w w := Upd.refl _ _
  have hb2 : (w.setCell ⟨p, 1, none⟩ (.bool true)).heap[p]? = some (.cells #[.pointer (some ⟨q, 0, none⟩), .bool true, .int .i64 x.total] 129 (0, 0)) := by rw [hp_same HB.out]; rfl
  have hu2 : Upd (fun i => i = p) w (w.setCell ⟨p, 1, none⟩ (.bool true)) := (Upd.refl (fun i => i = p) w).setAt (.inl rfl)
  have HU2 := Asd.mk hu2
  have hd2 : Upd (fun _ => False) (w.setCell ⟨p, 1, none⟩ (.bool true)) (w.setCell ⟨p, 1, none⟩ (.bool true)).drew := (by repeat (first | assumption | with_reducible exact Upd.refl _ _ | with_reducible refine Upd.drewN ?_ _ | with_reducible refine Upd.drew ?_ | with_reducible refine Upd.alloc ?_ _ | with_reducible refine Upd.setAt ?_ ?_ | exact Or.inl rfl | exact Or.inr (by simp) | exact Or.inr (by omega)))
  have HB2 := Asd.mk (hd2.blk hb2 (fun h => h))
  have HQ2 := Asd.mk ((HQ.out.upd hu2 (fun i hi e => HF.out.1 (by rw [← e]; exact hi))).upd hd2 (fun _ _ h => h))
  have HC := Asd.mk (fun W k => keepsC (o := 0) hb2 rfl W k)
  have HD2 := Asd.mk hd2
  have hp2 := blk_lt HB2.out
  have hp3 : p < (w.setCell ⟨p, 1, none⟩ (.bool true)).heap.size := blk_lt hb2
  have HS2 : Asd (w.heap.size ≤ (w.setCell ⟨p, 1, none⟩ (.bool true)).drew.heap.size) := ⟨Nat.le_trans hu2.size hd2.size⟩
  clear h hb2 hu2 hd2
  go_enter Tryz.func74, Tryz.ntmps74
  go_wp2
  refine wp_region_held_drew (S := fun W => W.cell? ⟨p, 0, none⟩ = some (.pointer (some ⟨q, 0, none⟩))) (by kernel_rfl) (by exact HC.out _ HD2.out) (fun hHeld => ?_)
  refine tk_ 0 ?_
  try simp only [Act.put, sl1_, sl2_, sl3_]
  refine tk_ 1 ?_
  try simp only [Act.put, sl1_, sl2_, sl3_]
  refine tk_ 2 ?_
  try simp only [Act.put, sl1_, sl2_, sl3_]
  refine tk_ 3 ?_
  try simp only [Act.put, sl1_, sl2_, sl3_]
  refine tk_ 4 ?_
  try simp only [Act.put, sl1_, sl2_, sl3_]
  refine tk_ 5 ?_
  try simp only [Act.put, sl1_, sl2_, sl3_]
  refine tk_ 6 ?_
  try simp only [Act.put, sl1_, sl2_, sl3_]
  refine tk_ 7 ?_
  try simp only [Act.put, sl1_, sl2_, sl3_]
  refine wpAnyH_ready (rs := [8]) (by kernel_rfl) (by simp) (AllReadyH.cons (o := ?_) ?_ (fun K hK => ?_) AllReadyH.nil)
  rotate_left 1
  · (simp only [List.getElem?_toArray, List.getElem?_cons_succ, List.getElem?_cons_zero]; exact rfl)
  (go_simp; (go_at_call 78; refine (Oq.len_calls HQ2.out).mono ?_; rintro e w4 ⟨rfl, rfl⟩))
  refine hK.out _ _ (by exact hHeld) (fun hHeld => ?_)
  clear hK K
  try simp only [Act.put, List.setIfInBounds_toArray, List.set_cons_zero, List.set_cons_succ]
  refine wpAnyH_ready (rs := [9]) (by kernel_rfl) (by simp) (AllReadyH.cons (o := ?_) ?_ (fun K hK => ?_) AllReadyH.nil)
  rotate_left 1
  · (simp only [List.getElem?_toArray, List.getElem?_cons_succ, List.getElem?_cons_zero]; exact rfl)
  (go_simp; (go_at_call 58; refine (Oq.take_calls HQ2.out _).mono ?_; rw [takeN_all]; rintro e w5 ⟨g5, F5, rfl, _, _, _, hq5, hu5, hf5⟩; rw [List.drop_length] at hq5; have HQ5 := Asd.mk hq5; have hb5 := hu5.blk HB2.out HF.out.1; have HB5 := Asd.mk hb5; have hc5 := keepsC (o := 0) hb5 rfl _ (Upd.refl _ _); have HC5 := Asd.mk hc5; have HN5 : Asd (¬ F5 p) := ⟨fun h => (hf5 p h).elim HF.out.1 (fun h => by omega)⟩; have HU5 := Asd.mk (And.intro hu5 hf5); clear hq5 hb5 hc5 hu5 hf5))
  refine hK.out _ _ (by exact HC5.out) (fun hHeld => ?_)
  clear hK K
  try simp only [Act.put, List.setIfInBounds_toArray, List.set_cons_zero, List.set_cons_succ]
  refine wpAnyH_done (by kernel_rfl) ?_ _
  go_wp2
  go_end0
  refine ⟨rfl, fun k => k = p ∨ F5 k, ⟨q, F5, HB5.out, HQ5.out, HN5.out, fun k => Iff.rfl⟩, ?_, fun k hk => ?_⟩
  · refine (HU2.out.trans HD2.out (fun _ _ h => h.elim)).mono (T := F) (fun i hi e => by rw [e]; exact HOWN.out) |>.trans HU5.out.1 (fun i hi h => (HF.out.2 i).2 (.inr h))
  · rcases hk with rfl | h
    · exact .inl HOWN.out
    · exact (HU5.out.2 k h).elim (fun h => .inl ((HF.out.2 k).2 (.inr h))) (fun h => .inr (Nat.le_trans HS2.out h))
end
def At3 (w0 w : World) (t p : Nat) (s : T) (x : QS) : Prop := ∃ F Fq, TB w t F s ∧ QI w p Fq x ∧ Upd (fun _ => False) w0 w ∧ (∀ k, F k → w0.heap.size ≤ k) ∧ (∀ k, Fq k → w0.heap.size ≤ k) ∧ ∀ k, F k → ¬ Fq k
section
variable {w0 w w1 : World} {t p : Nat} {s s' : T} {x x' : QS} {v : Value} {f : FuncId} {args : Array Value}
theorem At3.up (h : At3 w0 w t p s x) (k : Upd (fun _ => False) w w1) : At3 w0 w1 t p s x := by
  obtain ⟨F, Fq, h1, h2, h3, h4, h5, h6⟩ := h
  exact ⟨F, Fq, h1.up k, h2.up k, h3.trans k (fun _ _ h => h), h4, h5, h6⟩
theorem At3.out (h : At3 w0 w t p s x) : Upd (fun _ => False) w0 w := by obtain ⟨F, Fq, h1, h2, h3, h4, h5, h6⟩ := h; exact h3
theorem At3.turnQ (h : At3 w0 w t p s x) (hc : ∀ F Fq, TB w t F s → QI w p Fq x → Calls Tryz.prog f args w (QTurns v x' p Fq w)) : Calls Tryz.prog f args w fun e w' => e = .returned v ∧ At3 w0 w' t p s x' := by
  obtain ⟨F, Fq, h1, h2, h3, h4, h5, h6⟩ := h
  refine (hc F Fq h1 h2).mono fun e w' ⟨he, F', ht', hu', hf'⟩ => ⟨he, F, F', h1.upd hu' (fun i hi hf => h6 i hi hf), ht', h3.trans hu' (fun i hi h => by have := h5 i h; omega), h4, fun k hk => (hf' k hk).elim (fun h => h5 k h) (fun h => Nat.le_trans h3.size h), fun k hk hm => (hf' k hm).elim (fun h => h6 k hk h) (fun h => by have := h1.lt k hk; omega)⟩
theorem At3.offer (h : At3 w0 w t p s x) (id : Int) (hid : idOk id) (A : Option Addr) (n c : Nat) (l : List UInt8) (hr : Rd w A n l) (hb : 0 ≤ x.total ∧ x.total + n ≤ 1000000000) : Calls Tryz.prog 103 #[.pointer (some ⟨p, 0, none⟩), .pointer (some ⟨t, 0, none⟩), .int .i64 id, .slice A n c] w fun e w' => e = .returned (.int .i64 (why x s id n)) ∧ At3 w0 w' t p s (offer x s id l) :=
  h.turnQ fun F Fq ht hq => offer_calls hq ht id hid A n c l hr hr.len hb
end
end Go.Proofs.YteepkanbiefpjaaGreatDoor.Iq
