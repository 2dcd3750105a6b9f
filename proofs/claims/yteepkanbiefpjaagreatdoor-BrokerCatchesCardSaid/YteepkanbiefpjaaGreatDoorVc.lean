/- What these laws lean on, part Vc: contracts of the given program's functions and plain lists. No condition. -/
import Derived.Test.YteepkanbiefpjaaGreatDoorVb
import Derived.Test.YteepkanbiefpjaaGreatDoorVa
set_option linter.unusedVariables false
set_option linter.unusedSimpArgs false
namespace Go.Proofs.YteepkanbiefpjaaGreatDoor.Fl
open Go.RowKit K Go.Sort Go.Lib Go.Shelf
structure T where
  lease : Int
  left : Int
  holder : Int
  queue : List Int
  roles : List (Int × Int)
def RI (R : List (Int × Int)) : List Ent := R.map fun p => (p.1, .int .i64 p.2)
def rget (R : List (Int × Int)) (x : Int) : Option Int := (R.find? fun p => decide (p.1 = x)).map (·.2)
def rins (p : Int × Int) : List (Int × Int) → List (Int × Int)
  | [] => [p]
  | y :: r => if p.1 < y.1 then p :: y :: r else y :: rins p r
def rdel (R : List (Int × Int)) (x : Int) : List (Int × Int) := R.filter fun p => !decide (p.1 = x)
def rput (R : List (Int × Int)) (x r : Int) : List (Int × Int) := rins (x, r) (rdel R x)
theorem RI_get (R : List (Int × Int)) (x : Int) : mget (RI R) x = (rget R x).map (Value.int .i64) := by
  unfold mget rget RI
  rw [List.find?_map, Option.map_map, Option.map_map]
  rfl
theorem RI_ins (p : Int × Int) : ∀ R, RI (rins p R) = ins (p.1, .int .i64 p.2) (RI R)
  | [] => rfl
  | y :: r => by
    simp only [RI, List.map_cons, rins, ins]
    split
    · rfl
    · rw [List.map_cons]
      exact congrArg _ (RI_ins p r)
theorem RI_del (R : List (Int × Int)) (x : Int) : RI (rdel R x) = mdel (RI R) x := by
  unfold RI rdel mdel
  rw [List.filter_map]
  rfl
theorem RI_put (R : List (Int × Int)) (x r : Int) : RI (rput R x r) = mput (RI R) x (.int .i64 r) := by
  unfold rput mput
  rw [RI_ins, RI_del]
theorem RI_length (R : List (Int × Int)) : (RI R).length = R.length := by simp [RI]
structure TB (w : World) (t : Nat) (F : Nat → Prop) (s : T) : Prop where
  mk ::
  has : ∃ A c G b, w.heap[t]? = some (.cells #[.int .i64 s.lease, .int .i64 s.left, .int .i64 s.holder, .slice A s.queue.length c, .map (some b)] 141 (0, 0)) ∧ OI w (.slice A s.queue.length c) s.queue G ∧ mapV w Tryz.prog 3 b (RI s.roles) ∧ t ≠ b ∧ some t ≠ G ∧ some b ≠ G ∧ ∀ k, F k ↔ k = t ∨ k = b ∨ some k = G
section
variable {w w1 : World} {t : Nat} {s : T} {F S : Nat → Prop}
theorem TB.upd (h : TB w t F s) (k : Upd S w w1) (hn : ∀ i, F i → ¬ S i) : TB w1 t F s := by
  obtain ⟨A, c, G, b, hb, ho, hm, h1, h2, h3, hF⟩ := h.has
  exact ⟨A, c, G, b, k.blk hb (hn t ((hF t).2 (.inl rfl))), ho.upd k (fun g e => hn g ((hF g).2 (.inr (.inr e.symm)))), hm.upd k (hn b ((hF b).2 (.inr (.inl rfl)))), h1, h2, h3, hF⟩
theorem TB.up (h : TB w t F s) (k : Upd (fun _ => False) w w1) : TB w1 t F s := h.upd k (fun _ _ h => h)
theorem TB.lt (h : TB w t F s) : ∀ k, F k → k < w.heap.size := by
  obtain ⟨A, c, G, b, hb, ho, hm, h1, h2, h3, hF⟩ := h.has
  intro k hk
  rcases (hF k).1 hk with rfl | rfl | e
  · exact blk_lt hb
  · exact hm.lt
  · exact ho.lt k e.symm
end
def Turns (v : Value) (s : T) (t : Nat) (F : Nat → Prop) (w : World) (e : Ending) (w' : World) : Prop :=
  e = .returned v ∧ ∃ F', TB w' t F' s ∧ Upd F w w' ∧ ∀ k, F' k → F k ∨ w.heap.size ≤ k
def NewPost (s : T) (w : World) (e : Ending) (w' : World) : Prop := ∃ t F, e = .returned (.pointer (some ⟨t, 0, none⟩)) ∧ TB w' t F s ∧ Upd (fun _ => False) w w' ∧ ∀ k, F k → w.heap.size ≤ k
def clampLease (n : Int) : Int := mx 1 (mn n 1000)
def new (lease : Int) : T := ⟨clampLease lease, 0, 0, [], []⟩
set_option maxHeartbeats 400000 in
theorem new_calls (n : Int) (w : World) : Calls Tryz.prog 45 #[.int .i64 n] w (NewPost (new n) w) := by
  have hmm := @run_makeMap Tryz.prog
  obtain ⟨L, hL⟩ : ∃ L, L = clampLease n := ⟨_, rfl⟩
  have hL2 : mx 1 (mn n 1000) = L := by rw [hL]; rfl
  have HL := Asd.mk hL
  clear hL
  go_enter Tryz.func45, Tryz.ntmps45
  go_wp2
  go_ret
  have h1 := heap_alloc_new (w.alloc (.map #[] 0)) (.cells #[.int .i64 L, .int .i64 0, .int .i64 0, .slice none 0 0, .map (some w.heap.size)] 141)
  rw [show (w.alloc (.map #[] 0)).heap.size = w.heap.size + 1 by simp] at h1
  refine ⟨w.heap.size + 1, fun k => k = w.heap.size + 1 ∨ k = w.heap.size ∨ some k = none, rfl, ⟨none, 0, none, w.heap.size, ?_, OI.nil _, (mapV.made w _ _).upd ((Upd.refl (fun _ => False) _).alloc _) (fun h => h), by omega, by simp, by simp, fun k => Iff.rfl⟩, ((Upd.refl _ _).alloc _).alloc _, fun k hk => ?_⟩
  · rw [h1]
    simp only [new, ← HL.out, List.length_nil]
  · rcases hk with rfl | rfl | h
    · omega
    · omega
    · cases h
set_option maxHeartbeats 400000 in
theorem is_calls (id x : Int) (B : Nat) (W : World) (hc : W.cell? ⟨B, 0, none⟩ = some (.int .i64 id)) : FnGives Tryz.prog 176 #[.pointer (some ⟨B, 0, none⟩)] #[.int .i64 x] (.bool (x == id)) W := by
  show Calls Tryz.prog 176 #[.int .i64 x, .pointer (some ⟨B, 0, none⟩)] W _
  go_enter Tryz.func176, Tryz.ntmps176
  go_wp2
  go_ret
  exact ⟨rfl, 0, rfl⟩
def DelPost (l : List Int) (G : Option Nat) (w : World) (e : Ending) (w' : World) : Prop := ∃ A c, e = .returned (.slice A l.length c) ∧ OI w' (.slice A l.length c) l G ∧ Upd (fun i => some i = G) w w'
theorem del_calls {w : World} {A : Option Addr} {c : Nat} {l : List Int} {G : Option Nat} (h : OI w (.slice A l.length c) l G) (hl : l.length ≤ 1000000) (id : Int) (B : Nat) (hB : w.cell? ⟨B, 0, none⟩ = some (.int .i64 id)) (hne : some B ≠ G) :
    Calls Tryz.prog 175 #[.slice A l.length c, .func (.func 176) #[] #[.pointer (some ⟨B, 0, none⟩)]] w (DelPost (l.filter fun x => !(x == id)) G w) := by
  have eg : ∀ args w, (callFunc 176 args).run Tryz.prog w = .ok (.enter 176 args) w := enters_of Tryz.func176 (by kernel_rfl) rfl
  have zi : ∀ w, (zeroValue 3).run Tryz.prog w = .ok (.int .i64 0) w := fun w => by kernel_rfl
  have hBs : B < w.heap.size := World.block_lt_of_cell? w _ hB
  have hp : PredAt Tryz.prog 176 #[.pointer (some ⟨B, 0, none⟩)] (Value.int .i64) (fun x => x == id) w := fun W x hb => is_calls id x B W ((hb.cell (p := ⟨B, 0, none⟩) hBs).trans hB)
  rcases h.cells with ⟨rfl, rfl⟩ | ⟨g, o, rfl, rfl, hc⟩
  · clear hp eg zi
    go_enter Tryz.func175, Tryz.ntmps175
    go_wp2_with fail
    refine (Tryz.slices_IndexFunc_empty (α := Int) none c _ w).mono ?_
    rintro e w2 ⟨rfl, rfl⟩
    have H := Asd.mk h
    clear h
    go_wp2
    go_ret
    exact ⟨none, c, rfl, by simpa using H.out, Upd.refl _ _⟩
  · have hlen : l.toArray.size = l.length := by simp
    have hcap : l.length ≤ c := by
      obtain ⟨A', c', hv, h1, _⟩ := OI.slice h
      injection hv with e1 e2 e3
      rw [e3]; exact h1
    have hover : PredOver Tryz.prog 176 #[.pointer (some ⟨B, 0, none⟩)] (Value.int .i64) (fun x => x == id) g o l.toArray.size w := fun n os dk x _ => is_calls id x B _ (by
      unfold sortWorld
      rw [cell?_grow _ _ _ (by show B < (putRow _ _ _ _ _).heap.size; rw [size_putRow]; exact hBs), cell?_putRow_other _ _ g o _ _ (Or.inl (fun e => hne (by rw [← e])))]
      exact hB)
    have := Tryz.slices_DeleteFunc (Value.int .i64) (fun _ => rfl) (fun x => x == id) 176 #[.pointer (some ⟨B, 0, none⟩)] eg 0 zi g o c l.toArray w hp hover h.holds (by rw [hlen]; omega) (by rw [hlen]; exact hcap)
    rw [hlen] at this
    refine this.mono fun e w' ⟨he, q, hw⟩ => ?_
    subst hw
    have hfl : (l.filter fun x => !(x == id)).length ≤ l.length := List.length_filter_le _ _
    obtain ⟨h1, h2⟩ := h.put q ((l.filter fun x => !(x == id)) ++ List.replicate (l.length - (l.filter fun x => !(x == id)).length) 0).toArray (by simp; omega)
    refine ⟨some ⟨g, o, none⟩, c, by simpa using he, ?_, h2.mono (fun i hi e => by rw [e])⟩
    have h3 := Own.take h1 (l.filter fun x => !(x == id)).length (by simp)
    unfold OI
    have e4 : (I ((l.filter fun x => !(x == id)) ++ List.replicate (l.length - (l.filter fun x => !(x == id)).length) 0).toArray.toList).take ((l.filter fun x => !(x == id)).length * 1) = I (l.filter fun x => !(x == id)) := by
      rw [← I_take, Nat.mul_one]
      simp
    rw [e4] at h3
    exact h3
section
variable {w : World} {t : Nat} {F : Nat → Prop} {s : T}
theorem TB.cells (h : TB w t F s) : ∃ A c G b, Asd (w.heap[t]? = some (.cells #[.int .i64 s.lease, .int .i64 s.left, .int .i64 s.holder, .slice A s.queue.length c, .map (some b)] 141 (0, 0))) ∧ Asd (OI w (.slice A s.queue.length c) s.queue G) ∧ Asd (mapV w Tryz.prog 3 b (RI s.roles)) ∧ Asd (t ≠ b ∧ some t ≠ G ∧ some b ≠ G) ∧ Asd (∀ k, F k ↔ k = t ∨ k = b ∨ some k = G) ∧ t < w.heap.size := by
  obtain ⟨A, c, G, b, hb, ho, hm, h1, h2, h3, hF⟩ := h.has
  exact ⟨A, c, G, b, ⟨hb⟩, ⟨ho⟩, ⟨hm⟩, ⟨h1, h2, h3⟩, ⟨hF⟩, blk_lt hb⟩
set_option maxHeartbeats 400000 in
theorem holder_calls (h : TB w t F s) : Calls Tryz.prog 65 #[.pointer (some ⟨t, 0, none⟩)] w fun e w' => e = .returned (.int .i64 s.holder) ∧ w = w' := by
  obtain ⟨A, c, G, b, HB, _⟩ := h.cells
  have c2 := keepsC (o := 2) HB.out rfl
  clear h HB
  go_enter Tryz.func65, Tryz.ntmps65
  go_wp2
  go_ret
  exact ⟨rfl, rfl⟩
def idOk (x : Int) : Prop := -9223372036854775808 ≤ x ∧ x ≤ 9223372036854775807
theorem zrole : ∀ w, (zeroValue 49).run Tryz.prog w = .ok (.int .i64 0) w := fun w => by kernel_rfl
theorem TB.looks (h : TB w t F s) (x : Int) (hx : idOk x) (b : Nat) (hm : mapV w Tryz.prog 3 b (RI s.roles)) : ∀ W, Upd (fun _ => False) w W → (Instr.lookup 139 (.map (some b)) (.int .i64 x) true).run Tryz.prog W = .ok (.tuple #[.int .i64 ((rget s.roles x).getD 0), .bool (rget s.roles x).isSome]) W := fun W k => by
  rw [(hm.upd k (fun h => h)).look Tryz.underlying3 Tryz.underlying139 zrole x hx, RI_get]
  cases rget s.roles x <;> rfl
set_option maxHeartbeats 400000 in
theorem role_calls (h : TB w t F s) (x : Int) (hx : idOk x) : Calls Tryz.prog 64 #[.pointer (some ⟨t, 0, none⟩), .int .i64 x] w fun e w' => e = .returned (.tuple #[.int .i64 ((rget s.roles x).getD 0), .bool (rget s.roles x).isSome]) ∧ w = w' := by
  obtain ⟨A, c, G, b, HB, HO, HM, _⟩ := h.cells
  have c4 := keepsC (o := 4) HB.out rfl
  have hl := h.looks x hx b HM.out
  clear h HB HO HM hx
  go_enter Tryz.func64, Tryz.ntmps64
  go_wp2
  go_ret2
  exact ⟨rfl, rfl⟩
def forget (s : T) (id : Int) : T := { s with queue := s.queue.filter fun x => !(x == id) }
set_option maxHeartbeats 1000000 in
theorem forget_calls (h : TB w t F s) (id : Int) (hq : s.queue.length ≤ 1000000) : Calls Tryz.prog 155 #[.pointer (some ⟨t, 0, none⟩), .int .i64 id] w (Turns (.tuple #[]) (forget s id) t F w) := by
  obtain ⟨A, c, G, b, HB, HO, HM, HN, HF, hts⟩ := h.cells
  have hbl := HM.out.lt
  have c3 := keepsC (o := 3) HB.out rfl
  have hbox := heap_alloc_new w (.cells #[.int .i64 id] 3)
  have HK := (Upd.refl (fun _ => False) w).alloc (.cells #[.int .i64 id] 3)
  obtain ⟨w1, hw1⟩ : ∃ w1, w1 = w.alloc (.cells #[.int .i64 id] 3) := ⟨_, rfl⟩
  rw [← hw1] at hbox HK
  clear h
  go_enter Tryz.func155, Tryz.ntmps155
  go_wp2_with fail
  rw [← hw1]
  clear hw1
  refine (clone_calls (HO.out.up HK) hq).mono ?_
  rintro e w2 ⟨A2, c2, G2, rfl, h1, h2, h3⟩
  have HO2 := Asd.mk h1
  have HG2 := Asd.mk h2
  have HK2 := Asd.mk (HK.trans h3 (fun _ _ h => h))
  have hbox2 := h3.blk hbox (fun h => h)
  have hlt : w.heap.size < w1.heap.size := blk_lt hbox
  clear h1 h2 h3 hbox HO c3
  have hw2 := HK
  go_wp2_with fail
  refine (del_calls HO2.out hq id w.heap.size (by simp [World.cell?, hbox2]) (fun e => by have := HG2.out _ e.symm; omega)).mono ?_
  rintro e w3 ⟨A3, c3, rfl, h1, h2⟩
  have HO3 := Asd.mk h1
  have HU3 : Asd (Upd (fun _ => False) w w3) := ⟨HK2.out.trans h2 (fun i hi e => by have := HG2.out _ e.symm; omega)⟩
  have hb3 := HU3.out.blk HB.out (fun h => h)
  have HM3 := Asd.mk (HM.out.upd HU3.out (fun h => h))
  have HB3 := Asd.mk hb3
  have d3 := keepsC (o := 3) hb3 rfl
  have f3 := keepsF (o := 3) hb3
  clear h1 h2 hb3 HB HM hbox2 HK2 hw2 HK HO2
  go_wp2
  go_end0
  have hb4 := blk_setCell (o := 3) HB3.out (.slice A3 (s.queue.filter fun x => !(x == id)).length c3)
  have hk4 : Upd (fun i => i = t) w3 (w3.setCell ⟨t, 3, none⟩ (.slice A3 (s.queue.filter fun x => !(x == id)).length c3)) := Upd.setAt (Upd.refl _ _) (.inl rfl)
  obtain ⟨n1, n2, n3⟩ := HN.out
  have hg : ∀ g, G2 = some g → w.heap.size < g := fun g e => by have := HG2.out g e; omega
  refine ⟨rfl, fun k => k = t ∨ k = b ∨ some k = G2, ⟨⟨A3, c3, G2, b, hb4, HO3.out.upd hk4 (fun g e e2 => by have := hg g e; omega), HM3.out.upd hk4 (fun e => n1 e.symm), n1, fun e => by have := hg _ e.symm; omega, fun e => by have := hg _ e.symm; omega, fun k => Iff.rfl⟩⟩, (HU3.out.mono (fun _ _ h => h.elim)).trans hk4 (fun i hi e => (HF.out i).2 (.inl e)), fun k hk => ?_⟩
  rcases hk with e | e | e
  · exact .inl ((HF.out k).2 (.inl e))
  · exact .inl ((HF.out k).2 (.inr (.inl e)))
  · exact .inr (by have := hg k e.symm; omega)
def tc (s : T) (A : Option Addr) (c b : Nat) : Obj := .cells #[.int .i64 s.lease, .int .i64 s.left, .int .i64 s.holder, .slice A s.queue.length c, .map (some b)] 141 (0, 0)
theorem TB.with {w2 : World} {s' : T} (h : TB w t F s) (hu : Upd (fun i => i = t) w w2) (hb : ∀ A c b, w.heap[t]? = some (tc s A c b) → w2.heap[t]? = some (tc s' A c b)) (hq : s'.queue = s.queue) (hr : s'.roles = s.roles) : TB w2 t F s' := by
  obtain ⟨A, c, G, b, h0, ho, hm, h1, h2, h3, hF⟩ := h.has
  have := hb A c b h0
  refine ⟨A, c, G, b, this, ?_, ?_, h1, h2, h3, hF⟩
  · rw [hq]
    exact ho.upd hu (fun g e e2 => h2 (by rw [e, e2]))
  · rw [hr]
    exact hm.upd hu (fun e => h1 e.symm)
theorem Turns.then {w1 w2 : World} {F1 F2 : Nat → Prop} {s' : T} (hu : Upd F w w1) (hf : ∀ k, F1 k → F k ∨ w.heap.size ≤ k) (h2 : TB w2 t F2 s') (hu2 : Upd F1 w1 w2) (hf2 : ∀ k, F2 k → F1 k ∨ w1.heap.size ≤ k) : ∃ F', TB w2 t F' s' ∧ Upd F w w2 ∧ ∀ k, F' k → F k ∨ w.heap.size ≤ k :=
  ⟨F2, h2, hu.trans hu2 (fun i hi h => (hf i h).elim (fun h => h) (fun h => absurd hi (by omega))), fun k hk => (hf2 k hk).elim (fun h => hf k h) (fun h => .inr (Nat.le_trans hu.size h))⟩
theorem Turns.at {w1 w2 : World} {F1 : Nat → Prop} {s' : T} (hu : Upd F w w1) (hf : ∀ k, F1 k → F k ∨ w.heap.size ≤ k) (h2 : TB w2 t F1 s') (hu2 : Upd (fun i => i = t) w1 w2) : ∃ F', TB w2 t F' s' ∧ Upd F w w2 ∧ ∀ k, F' k → F k ∨ w.heap.size ≤ k :=
  Turns.then hu hf h2 (hu2.mono (fun i hi e => by obtain ⟨A, c, G, b, _, _, _, _, _, _, hF⟩ := h2.has; exact (hF i).2 (.inl e))) (fun k h => .inl h)
theorem TB.own (h : TB w t F s) : F t := by obtain ⟨A, c, G, b, _, _, _, _, _, _, hF⟩ := h.has; exact (hF t).2 (.inl rfl)
def grant (s : T) (id : Int) : T := { forget s id with holder := id, left := s.lease }
set_option maxHeartbeats 1000000 in
theorem grant_calls (h : TB w t F s) (id : Int) (hq : s.queue.length ≤ 1000000) : Calls Tryz.prog 119 #[.pointer (some ⟨t, 0, none⟩), .int .i64 id] w (Turns (.tuple #[]) (grant s id) t F w) := by
  go_enter Tryz.func119, Tryz.ntmps119
  go_wp2_with fail
  refine (forget_calls h id hq).mono ?_
  rintro e w1 ⟨rfl, F1, ht, hu, hf⟩
  have HT := Asd.mk ht
  have HU := Asd.mk (And.intro hu hf)
  obtain ⟨A, c, G, b, HB, HO, HM, HN, HF, hts⟩ := ht.cells
  have c0 := keepsC (o := 0) HB.out rfl
  have c1 := keepsC (o := 1) HB.out rfl
  have c2 := keepsC (o := 2) HB.out rfl
  have f0 := fun o => keepsF (o := o) HB.out
  have hle : (forget s id).lease = s.lease := rfl
  rw [hle] at c0
  clear h hu hf ht HB HO HM HN HF hle
  go_wp2
  go_end0
  refine ⟨rfl, Turns.at HU.out.1 HU.out.2 (s' := grant s id) (HT.out.with (s' := grant s id) (by repeat (first | assumption | with_reducible exact Upd.refl _ _ | with_reducible refine Upd.drewN ?_ _ | with_reducible refine Upd.drew ?_ | with_reducible refine Upd.alloc ?_ _ | with_reducible refine Upd.setAt ?_ ?_ | exact Or.inl rfl | exact Or.inr (by simp) | exact Or.inr (by omega))) (fun A c b hb => ?_) rfl rfl) (by repeat (first | assumption | with_reducible exact Upd.refl _ _ | with_reducible refine Upd.drewN ?_ _ | with_reducible refine Upd.drew ?_ | with_reducible refine Upd.alloc ?_ _ | with_reducible refine Upd.setAt ?_ ?_ | exact Or.inl rfl | exact Or.inr (by simp) | exact Or.inr (by omega)))⟩
  have h1 := blk_setCell (o := 1) (blk_setCell (o := 2) hb (.int .i64 id)) (.int .i64 s.lease)
  exact h1
def zero (s : T) : T := { s with holder := 0, left := 0 }
def pass (s : T) : T := match s.queue with
  | [] => zero s
  | q :: _ => grant (zero s) q
set_option maxHeartbeats 1000000 in
theorem pass_calls (h : TB w t F s) (hq : s.queue.length ≤ 1000000) : Calls Tryz.prog 92 #[.pointer (some ⟨t, 0, none⟩)] w (Turns (.tuple #[]) (pass s) t F w) := by
  obtain ⟨A, c, G, b, HB, HO, HM, HN, HF, hts⟩ := h.cells
  have c0 := keepsC (o := 0) HB.out rfl
  have c1 := keepsC (o := 1) HB.out rfl
  have c2 := keepsC (o := 2) HB.out rfl
  have c3 := keepsC (o := 3) HB.out rfl
  have f0 := fun o => keepsF (o := o) HB.out
  have h1 : TB ((w.setCell ⟨t, 2, none⟩ (.int .i64 0)).setCell ⟨t, 1, none⟩ (.int .i64 0)) t F (zero s) := h.with (s' := zero s) (by repeat (first | assumption | with_reducible exact Upd.refl _ _ | with_reducible refine Upd.drewN ?_ _ | with_reducible refine Upd.drew ?_ | with_reducible refine Upd.alloc ?_ _ | with_reducible refine Upd.setAt ?_ ?_ | exact Or.inl rfl | exact Or.inr (by simp) | exact Or.inr (by omega))) (fun A c b hb => blk_setCell (o := 1) (blk_setCell (o := 2) hb (.int .i64 0)) (.int .i64 0)) rfl rfl
  have H1 := Asd.mk h1
  have HT := Asd.mk h.own
  have hqz : (zero s).queue = s.queue := rfl
  have hz : (zero s).queue.length ≤ 1000000 := hq
  have HZ := Asd.mk hz
  clear h h1 hqz hz
  cases hqs : s.queue with
  | nil =>
    have hp : pass s = zero s := by unfold pass; rw [hqs]
    rw [hp]
    rw [hqs] at c3
    simp only [List.length_nil] at c3
    clear hp hqs hq
    go_enter Tryz.func92, Tryz.ntmps92
    go_wp2
    go_end0
    exact ⟨rfl, F, H1.out, (show Upd (fun i => i = t) _ _ from (by repeat (first | assumption | with_reducible exact Upd.refl _ _ | with_reducible refine Upd.drewN ?_ _ | with_reducible refine Upd.drew ?_ | with_reducible refine Upd.alloc ?_ _ | with_reducible refine Upd.setAt ?_ ?_ | exact Or.inl rfl | exact Or.inr (by simp) | exact Or.inr (by omega)))).mono (fun i hi e => by rw [e]; exact HT.out), fun k hk => .inl hk⟩
  | cons q r =>
    have hp : pass s = grant (zero s) q := by unfold pass; rw [hqs]
    rw [hp]
    obtain ⟨ad, rfl, hcell⟩ := HO.out.at 0 (by rw [hqs]; simp)
    have hq0 : s.queue[0]'(by rw [hqs]; simp) = q := by simp [hqs]
    rw [hq0] at hcell
    rw [hqs] at c3
    have hlen : 0 < (q :: r).length := by simp
    have hne : ad.block ≠ t := fun e => HN.out.2.1 (by
      have := Own.slice HO.out
      obtain ⟨A', c', hv, _, _, _, hG⟩ := this
      injection hv with e1
      rw [← e]
      exact (hG ad e1.symm).symm)
    have hcw := fun W (k : Upd (fun i => i = t) w W) => k.cell hcell (by simp only [add_block]; exact hne)
    have hcw2 := hcw ((w.setCell ⟨t, 2, none⟩ (.int .i64 0)).setCell ⟨t, 1, none⟩ (.int .i64 0)) (by repeat (first | assumption | with_reducible exact Upd.refl _ _ | with_reducible refine Upd.drewN ?_ _ | with_reducible refine Upd.drew ?_ | with_reducible refine Upd.alloc ?_ _ | with_reducible refine Upd.setAt ?_ ?_ | exact Or.inl rfl | exact Or.inr (by simp) | exact Or.inr (by omega)))
    obtain ⟨n, hn⟩ : ∃ n, n = (q :: r).length := ⟨_, rfl⟩
    rw [← hn] at c3 hlen
    rw [hqs, ← hn] at hq
    clear hp hqs hq0 hn hcw hne hcell
    rw [show ad.add 0 = ad from rfl] at hcw2
    have hni : (0 : Int) < (n : Int) := by omega
    have HU := Asd.mk ((show Upd (fun i => i = t) w ((w.setCell ⟨t, 2, none⟩ (.int .i64 0)).setCell ⟨t, 1, none⟩ (.int .i64 0)) from (by repeat (first | assumption | with_reducible exact Upd.refl _ _ | with_reducible refine Upd.drewN ?_ _ | with_reducible refine Upd.drew ?_ | with_reducible refine Upd.alloc ?_ _ | with_reducible refine Upd.setAt ?_ ?_ | exact Or.inl rfl | exact Or.inr (by simp) | exact Or.inr (by omega)))).mono (T := F) (fun i hi e => by rw [e]; exact HT.out))
    go_enter Tryz.func92, Tryz.ntmps92
    go_wp2_with fail
    refine (grant_calls H1.out q HZ.out).mono ?_
    rintro e w2 ⟨rfl, F2, ht, hu, hf⟩
    have HE := Asd.mk (Turns.then HU.out (fun k h => .inl h) ht hu hf)
    clear ht hu hf
    go_wp2
    go_end0
    exact ⟨rfl, HE.out⟩
theorem forget_len (s : T) (id : Int) (hq : s.queue.length ≤ 1000000) : (forget s id).queue.length ≤ 1000000 := Nat.le_trans (List.length_filter_le _ _) hq
def lose (s : T) (id : Int) : T := if s.holder = id then pass (forget s id) else forget s id
set_option maxHeartbeats 1000000 in
theorem lose_calls (h : TB w t F s) (id : Int) (hq : s.queue.length ≤ 1000000) : Calls Tryz.prog 118 #[.pointer (some ⟨t, 0, none⟩), .int .i64 id] w (Turns (.tuple #[]) (lose s id) t F w) := by
  go_enter Tryz.func118, Tryz.ntmps118
  go_wp2_with fail
  refine (forget_calls h id hq).mono ?_
  rintro e w1 ⟨rfl, F1, ht, hu, hf⟩
  have HT := Asd.mk ht
  have HU := Asd.mk (And.intro hu hf)
  obtain ⟨A, c, G, b, HB, _⟩ := ht.cells
  have c2 := keepsC (o := 2) HB.out rfl
  have hle : (forget s id).holder = s.holder := rfl
  have HL := Asd.mk (forget_len s id hq)
  rw [hle] at c2
  clear h hu hf ht HB hle hq
  by_cases hid : s.holder = id
  · have hp : lose s id = pass (forget s id) := if_pos hid
    have HP := Asd.mk hp
    rw [hid] at c2
    have hb : (id == id) = true := by simp
    clear hp hid
    go_wp2_with fail
    refine (pass_calls HT.out HL.out).mono ?_
    rintro e w2 ⟨rfl, F2, ht, hu, hf⟩
    have HE := Asd.mk (Turns.then HU.out.1 HU.out.2 ht hu hf)
    clear ht hu hf
    go_wp2
    go_end0
    exact ⟨rfl, by rw [HP.out]; exact HE.out⟩
  · have hp : lose s id = forget s id := if_neg hid
    have HP := Asd.mk hp
    have hb : (s.holder == id) = false := beq_eq_false_iff_ne.2 hid
    clear hp hid
    go_wp2
    go_end0
    exact ⟨rfl, by rw [HP.out]; exact ⟨F1, HT.out, HU.out.1, HU.out.2⟩⟩
def joins (s : T) (id r : Int) : Bool := !(rget s.roles id).isSome && (decide (1 ≤ id) && (decide (0 ≤ r) && decide (r ≤ 2)))
def join (s : T) (id r : Int) : T := if joins s id r then { s with roles := rput s.roles id r } else s
theorem TB.roled {w2 : World} {A : Option Addr} {c b : Nat} {G : Option Nat} {R : List (Int × Int)} (HB : Asd (w.heap[t]? = some (.cells #[.int .i64 s.lease, .int .i64 s.left, .int .i64 s.holder, .slice A s.queue.length c, .map (some b)] 141 (0, 0)))) (HO : Asd (OI w (.slice A s.queue.length c) s.queue G)) (HN : Asd (t ≠ b ∧ some t ≠ G ∧ some b ≠ G)) (HF : Asd (∀ k, F k ↔ k = t ∨ k = b ∨ some k = G)) (hu : Upd (fun i => i = b) w w2) (hm : mapV w2 Tryz.prog 3 b (RI R)) : TB w2 t F { s with roles := R } :=
  ⟨A, c, G, b, hu.blk HB.out HN.out.1, HO.out.upd hu (fun g e e2 => HN.out.2.2 (by rw [e, e2])), hm, HN.out.1, HN.out.2.1, HN.out.2.2, HF.out⟩
set_option maxHeartbeats 1000000 in
theorem join_calls (h : TB w t F s) (id r : Int) (hid : idOk id) (hr : s.roles.length ≤ 1000000) : Calls Tryz.prog 100 #[.pointer (some ⟨t, 0, none⟩), .int .i64 id, .int .i64 r] w (Turns (.bool (joins s id r)) (join s id r) t F w) := by
  have HT := Asd.mk h
  obtain ⟨A, c, G, b, HB, HO, HM, HN, HF, hts⟩ := h.cells
  have c4 := keepsC (o := 4) HB.out rfl
  have hl := h.looks id hid b HM.out
  clear h
  have stay : joins s id r = false → Turns (.bool false) (join s id r) t F w (.returned (.bool false)) w := fun e => ⟨rfl, F, by unfold join; rw [e]; exact HT.out, Upd.refl _ _, fun k h => .inl h⟩
  have HS := Asd.mk stay
  clear stay
  obtain ⟨g, hg⟩ : ∃ g, g = rget s.roles id := ⟨_, rfl⟩
  rw [← hg] at hl
  cases hgs : g with
  | some x =>
    have hj : joins s id r = false := by unfold joins; rw [← hg, hgs]; rfl
    have HE := Asd.mk (HS.out hj)
    rw [hj]
    rw [hgs] at hl
    simp only [Option.getD_some, Option.isSome_some] at hl
    clear HS hg hgs hj
    go_enter Tryz.func100, Tryz.ntmps100
    go_wp2
    go_ret
    exact HE.out
  | none =>
    have hj : joins s id r = (decide (1 ≤ id) && (decide (0 ≤ r) && decide (r ≤ 2))) := by unfold joins; rw [← hg, hgs]; rfl
    rw [hgs] at hl
    simp only [Option.getD_none, Option.isSome_none] at hl
    clear hg hgs
    by_cases hok : 1 ≤ id ∧ 0 ≤ r ∧ r ≤ 2
    · obtain ⟨h1, h2, h3⟩ := hok
      have hj2 : joins s id r = true := by rw [hj]; simp [h1, h2, h3]
      have hjn : join s id r = { s with roles := rput s.roles id r } := if_pos hj2
      rw [hj2, hjn]
      have n1 : ¬ id < 1 := by omega
      have n2 : ¬ r < 0 := by omega
      have n3 : ¬ 2 < r := by omega
      clear HS hj hj2 hjn h1 h2 h3
      go_enter Tryz.func100, Tryz.ntmps100
      go_wp2_with (with_reducible refine stop_mapUpdate 139 _ _ _ rfl ?_)
      refine wp_mapUpdate rfl 139 _ _ _ rfl HM.out Tryz.underlying3 Tryz.underlying139 (by rw [RI_length]; simp only [maxLen]; omega) id (.int .i64 r) rfl rfl rfl hid ?_
      intro w1 hm hu
      rw [← RI_put] at hm
      have HE := Asd.mk (And.intro (TB.roled HB HO HN HF hu hm) (hu.mono (T := F) (fun i hi e => by rw [e]; exact (HF.out b).2 (.inr (.inl rfl)))))
      clear hm hu
      go_wp2
      go_ret
      exact ⟨rfl, F, HE.out.1, HE.out.2, fun k h => .inl h⟩
    · have hj2 : joins s id r = false := by
        rw [hj]
        by_cases h1 : 1 ≤ id
        · by_cases h2 : 0 ≤ r
          · have h3 : ¬ r ≤ 2 := fun h3 => hok ⟨h1, h2, h3⟩
            simp [h3]
          · simp [h2]
        · simp [h1]
      have HE := Asd.mk (HS.out hj2)
      rw [hj2]
      clear HS hj hj2
      rcases (by omega : id < 1 ∨ (1 ≤ id ∧ r < 0) ∨ (1 ≤ id ∧ 0 ≤ r ∧ 2 < r)) with h1 | ⟨h1, h2⟩ | ⟨h1, h2, h3⟩
      all_goals
        clear hok
        go_enter Tryz.func100, Tryz.ntmps100
        go_wp2
        go_ret
        exact HE.out
theorem pass_roles (s : T) : (pass s).roles = s.roles := by unfold pass; split <;> rfl
theorem lose_roles (s : T) (id : Int) : (lose s id).roles = s.roles := by unfold lose; split; rw [pass_roles]; rfl; rfl
def leaves (s : T) (id : Int) : Bool := (rget s.roles id).isSome
def leave (s : T) (id : Int) : T := if leaves s id then { lose s id with roles := rdel s.roles id } else s
set_option maxHeartbeats 1000000 in
theorem leave_calls (h : TB w t F s) (id : Int) (hid : idOk id) (hq : s.queue.length ≤ 1000000) : Calls Tryz.prog 91 #[.pointer (some ⟨t, 0, none⟩), .int .i64 id] w (Turns (.bool (leaves s id)) (leave s id) t F w) := by
  have HT := Asd.mk h
  obtain ⟨A, c, G, b, HB, HO, HM, HN, HF, hts⟩ := h.cells
  have c4 := keepsC (o := 4) HB.out rfl
  have hl := h.looks id hid b HM.out
  clear h
  cases hgs : rget s.roles id with
  | none =>
    have hv : leaves s id = false := by unfold leaves; rw [hgs]; rfl
    have hl2 : leave s id = s := by unfold leave; rw [hv]; rfl
    rw [hv, hl2]
    rw [hgs] at hl
    simp only [Option.getD_none, Option.isSome_none] at hl
    clear hgs hv hl2 HB HO HM HN HF
    go_enter Tryz.func91, Tryz.ntmps91
    go_wp2
    go_ret
    exact ⟨rfl, F, HT.out, Upd.refl _ _, fun k h => .inl h⟩
  | some r =>
    have hv : leaves s id = true := by unfold leaves; rw [hgs]; rfl
    have hl2 : leave s id = { lose s id with roles := rdel s.roles id } := by unfold leave; rw [hv]; rfl
    rw [hv, hl2]
    rw [hgs] at hl
    simp only [Option.getD_some, Option.isSome_some] at hl
    clear hgs hv hl2 HB HO HM HN HF
    go_enter Tryz.func91, Tryz.ntmps91
    go_wp2_with fail
    refine (lose_calls HT.out id hq).mono ?_
    rintro e w1 ⟨rfl, F1, ht, hu, hf⟩
    have HU := Asd.mk (And.intro hu hf)
    obtain ⟨A, c, G, b, HB, HO, HM, HN, HF, hts⟩ := ht.cells
    have c4 := keepsC (o := 4) HB.out rfl
    clear hu hf ht hl HT
    go_wp2_with (with_reducible refine stop_delete _ _ 139 3 rfl ?_)
    refine wp_delete rfl 139 _ _ rfl HM.out Tryz.underlying3 Tryz.underlying139 id rfl rfl hid ?_
    intro w2 hm hu
    rw [← RI_del, lose_roles] at hm
    have HE := Asd.mk (Turns.then HU.out.1 HU.out.2 (TB.roled HB HO HN HF hu hm) (hu.mono (T := F1) (fun i hi e => by rw [e]; exact (HF.out b).2 (.inr (.inl rfl)))) (fun k h => .inl h))
    clear hm hu
    go_wp2
    go_ret
    exact ⟨rfl, HE.out⟩
def sets (s : T) (id r : Int) : Bool := (rget s.roles id).isSome && (decide (0 ≤ r) && decide (r ≤ 2))
def setRole (s : T) (id r : Int) : T := if sets s id r then (if r = 0 then lose { s with roles := rput s.roles id r } id else { s with roles := rput s.roles id r }) else s
set_option maxHeartbeats 1000000 in
theorem set_calls (h : TB w t F s) (id r : Int) (hid : idOk id) (hq : s.queue.length ≤ 1000000) (hr : s.roles.length ≤ 1000000) : Calls Tryz.prog 165 #[.pointer (some ⟨t, 0, none⟩), .int .i64 id, .int .i64 r] w (Turns (.bool (sets s id r)) (setRole s id r) t F w) := by
  have HT := Asd.mk h
  obtain ⟨A, c, G, b, HB, HO, HM, HN, HF, hts⟩ := h.cells
  have c4 := keepsC (o := 4) HB.out rfl
  have hl := h.looks id hid b HM.out
  clear h
  have stay : sets s id r = false → Turns (.bool false) (setRole s id r) t F w (.returned (.bool false)) w := fun e => ⟨rfl, F, by unfold setRole; rw [e]; exact HT.out, Upd.refl _ _, fun k h => .inl h⟩
  have HS := Asd.mk stay
  clear stay
  cases hgs : rget s.roles id with
  | none =>
    have hv : sets s id r = false := by unfold sets; rw [hgs]; rfl
    have HE := Asd.mk (HS.out hv)
    rw [hv]
    rw [hgs] at hl
    simp only [Option.getD_none, Option.isSome_none] at hl
    clear hgs hv HB HO HM HN HF HS
    go_enter Tryz.func165, Tryz.ntmps165
    go_wp2
    go_ret
    exact HE.out
  | some x =>
    have hj : sets s id r = (decide (0 ≤ r) && decide (r ≤ 2)) := by unfold sets; rw [hgs]; rfl
    rw [hgs] at hl
    simp only [Option.getD_some, Option.isSome_some] at hl
    clear hgs
    by_cases hok : 0 ≤ r ∧ r ≤ 2
    · obtain ⟨h2, h3⟩ := hok
      have hj2 : sets s id r = true := by rw [hj]; simp [h2, h3]
      rw [hj2]
      have n2 : ¬ r < 0 := by omega
      have n3 : ¬ 2 < r := by omega
      have HJ := Asd.mk (show setRole s id r = if r = 0 then lose { s with roles := rput s.roles id r } id else { s with roles := rput s.roles id r } from if_pos hj2)
      clear HS hj hj2 h2 h3
      go_enter Tryz.func165, Tryz.ntmps165
      go_wp2_with (with_reducible refine stop_mapUpdate 139 _ _ _ rfl ?_)
      refine wp_mapUpdate rfl 139 _ _ _ rfl HM.out Tryz.underlying3 Tryz.underlying139 (by rw [RI_length]; simp only [maxLen]; omega) id (.int .i64 r) rfl rfl rfl hid ?_
      intro w1 hm hu
      rw [← RI_put] at hm
      have H1 := Asd.mk (TB.roled HB HO HN HF hu hm)
      have H2 := Asd.mk (hu.mono (T := F) (fun i hi e => by rw [e]; exact (HF.out b).2 (.inr (.inl rfl))))
      clear hm hu
      by_cases h0 : r = 0
      · subst h0
        go_wp2_with fail
        refine (lose_calls H1.out id hq).mono ?_
        rintro e w2 ⟨rfl, F2, ht, hu, hf⟩
        have HE := Asd.mk (Turns.then H2.out (fun k h => .inl h) ht hu hf)
        clear ht hu hf
        go_wp2
        go_ret
        exact ⟨rfl, by rw [HJ.out]; simpa using HE.out⟩
      · have hb0 : (r == 0) = false := beq_eq_false_iff_ne.2 h0
        have HJ2 := Asd.mk (HJ.out.trans (if_neg h0))
        clear h0
        go_wp2
        go_ret
        exact ⟨rfl, by rw [HJ2.out]; exact ⟨F, H1.out, H2.out, fun k h => .inl h⟩⟩
    · have hj2 : sets s id r = false := by
        rw [hj]
        by_cases h2 : 0 ≤ r
        · have h3 : ¬ r ≤ 2 := fun h3 => hok ⟨h2, h3⟩
          simp [h3]
        · simp [h2]
      have HE := Asd.mk (HS.out hj2)
      rw [hj2]
      clear HS hj hj2
      rcases (by omega : r < 0 ∨ (0 ≤ r ∧ 2 < r)) with h1 | ⟨h1, h2⟩
      all_goals
        clear hok
        go_enter Tryz.func165, Tryz.ntmps165
        go_wp2
        go_ret
        exact HE.out
def may (s : T) (id : Int) : Int := match rget s.roles id with
  | none => 2
  | some r => if r = 0 then 4 else if s.holder = id then 3 else 0
set_option maxHeartbeats 1000000 in
theorem may_calls (h : TB w t F s) (id : Int) (hid : idOk id) : Calls Tryz.prog 161 #[.pointer (some ⟨t, 0, none⟩), .int .i64 id] w fun e w' => e = .returned (.int .i64 (may s id)) ∧ w = w' := by
  obtain ⟨A, c, G, b, HB, HO, HM, HN, HF, hts⟩ := h.cells
  have c4 := keepsC (o := 4) HB.out rfl
  have c2 := keepsC (o := 2) HB.out rfl
  have hl := h.looks id hid b HM.out
  clear h HB HO HM HN HF
  cases hgs : rget s.roles id with
  | none =>
    have hv : may s id = 2 := by unfold may; rw [hgs]
    rw [hv]
    rw [hgs] at hl
    simp only [Option.getD_none, Option.isSome_none] at hl
    clear hgs hv
    go_enter Tryz.func161, Tryz.ntmps161
    go_wp2
    go_ret
    exact ⟨rfl, rfl⟩
  | some r =>
    have hv : may s id = if r = 0 then 4 else if s.holder = id then 3 else 0 := by unfold may; rw [hgs]
    rw [hv]
    rw [hgs] at hl
    simp only [Option.getD_some, Option.isSome_some] at hl
    clear hgs hv
    by_cases h0 : r = 0
    · subst h0
      rw [if_pos rfl]
      go_enter Tryz.func161, Tryz.ntmps161
      go_wp2
      go_ret
      exact ⟨rfl, rfl⟩
    · rw [if_neg h0]
      have hb0 : (r == 0) = false := beq_eq_false_iff_ne.2 h0
      by_cases h1 : s.holder = id
      · rw [if_pos h1]
        have hb1 : (s.holder == id) = true := beq_iff_eq.2 h1
        clear h0 h1
        go_enter Tryz.func161, Tryz.ntmps161
        go_wp2
        go_ret
        exact ⟨rfl, rfl⟩
      · rw [if_neg h1]
        have hb1 : (s.holder == id) = false := beq_eq_false_iff_ne.2 h1
        clear h0 h1
        go_enter Tryz.func161, Tryz.ntmps161
        go_wp2
        go_ret
        exact ⟨rfl, rfl⟩
def asks (s : T) (id : Int) : Int := if may s id ≠ 0 then may s id else if s.queue.contains id then 3 else 0
def ask (s : T) (id : Int) : T := if asks s id ≠ 0 then s else if s.holder = 0 then grant s id else { s with queue := s.queue ++ [id] }
set_option maxHeartbeats 1000000 in
theorem ask_calls (h : TB w t F s) (id : Int) (hid : idOk id) (hq : s.queue.length ≤ 1000000) : Calls Tryz.prog 130 #[.pointer (some ⟨t, 0, none⟩), .int .i64 id] w (Turns (.int .i64 (asks s id)) (ask s id) t F w) := by
  have HT := Asd.mk h
  obtain ⟨A, c, G, b, HB, HO, HM, HN, HF, hts⟩ := h.cells
  have c2 := keepsC (o := 2) HB.out rfl
  have c3 := keepsC (o := 3) HB.out rfl
  have f3 := fun o => keepsF (o := o) HB.out
  have hbl := HM.out.lt
  clear h
  obtain ⟨e0, he0⟩ : ∃ e0, e0 = may s id := ⟨_, rfl⟩
  have HM0 := Asd.mk he0
  have hA : asks s id = if e0 ≠ 0 then e0 else if s.queue.contains id then 3 else 0 := by unfold asks; rw [← he0]
  clear he0
  by_cases hne : e0 = 0
  · subst hne
    rw [if_neg (by simp)] at hA
    cases hct : s.queue.contains id with
    | true =>
      rw [hct, if_pos rfl] at hA
      have hk : ask s id = s := by unfold ask; rw [hA]; rfl
      have HCT := Asd.mk hct
      rw [hA, hk]
      clear hA hk hct
      go_enter Tryz.func130, Tryz.ntmps130
      go_wp2_with fail
      refine (may_calls HT.out id hid).mono ?_
      rw [← HM0.out]
      rintro e w1 ⟨rfl, rfl⟩
      go_wp2_with fail
      refine (contains_calls HO.out hq id).mono ?_
      rw [HCT.out]
      rintro e w1 ⟨rfl, rfl⟩
      go_wp2
      go_ret
      exact ⟨rfl, F, HT.out, Upd.refl _ _, fun k h => .inl h⟩
    | false =>
      rw [hct, if_neg (by simp)] at hA
      have hk : ask s id = if s.holder = 0 then grant s id else { s with queue := s.queue ++ [id] } := by unfold ask; rw [hA]; rfl
      have HCT := Asd.mk hct
      rw [hA, hk]
      clear hA hk hct
      by_cases hh : s.holder = 0
      · rw [if_pos hh]
        rw [hh] at c2
        have hhb : ((0 : Int) == 0) = true := rfl
        clear hh
        go_enter Tryz.func130, Tryz.ntmps130
        go_wp2_with fail
        refine (may_calls HT.out id hid).mono ?_
        rw [← HM0.out]
        rintro e w1 ⟨rfl, rfl⟩
        go_wp2_with fail
        refine (contains_calls HO.out hq id).mono ?_
        rw [HCT.out]
        rintro e w1 ⟨rfl, rfl⟩
        go_wp2_with fail
        refine (grant_calls HT.out id hq).mono ?_
        rintro e w2 ⟨rfl, hE⟩
        have HE := Asd.mk hE
        clear hE
        go_wp2
        go_ret
        exact ⟨rfl, HE.out⟩
      · rw [if_neg hh]
        have hhb : (s.holder == 0) = false := beq_eq_false_iff_ne.2 hh
        clear hh
        go_enter Tryz.func130, Tryz.ntmps130
        go_wp2_with fail
        refine (may_calls HT.out id hid).mono ?_
        rw [← HM0.out]
        rintro e w1 ⟨rfl, rfl⟩
        go_wp2_with fail
        refine (contains_calls HO.out hq id).mono ?_
        rw [HCT.out]
        rintro e w1 ⟨rfl, rfl⟩
        go_wp2_with fail
        refine (clone_calls HO.out hq).mono ?_
        rintro e w2 ⟨A2, cc2, G2, rfl, h1, h2, h3⟩
        have HO2 := Asd.mk (h1.up ((Upd.refl (fun _ => False) _).alloc (.cells #[.int .i64 id] 3)))
        have HG2 := Asd.mk h2
        have HK2 := Asd.mk (h3.alloc (.cells #[.int .i64 id] 3))
        have hq2 := Asd.mk hq
        clear h1 h2 h3 hq
        go_wp2_with (with_reducible refine stop_append _ _ _ _ rfl ?_)
        refine wp_appendI (S := fun _ => False) (w0 := w) HK2.out rfl _ _ 53 3 rfl Tryz.underlying53 rfl infoI rfl rfl HO2.out HG2.out (l2 := [id]) (m := 1) (c2 := 1) (Rd1 _ _) rfl (by have := hq2.out; omega) ?_
        intro A5 c5 w5 G5 hO5 hc5 hG5 hU5 _
        obtain ⟨q2, hq2e⟩ : ∃ q2, q2 = s.queue ++ [id] := ⟨_, rfl⟩
        rw [← hq2e] at hO5 hc5
        rw [← hq2e]
        have HQE := Asd.mk hq2e
        clear hq2e
        have hb5 := hU5.blk HB.out (fun h => h)
        have HO5 := Asd.mk hO5
        have HG5 := Asd.mk hG5
        have HU5 := Asd.mk hU5
        have HB5 := Asd.mk hb5
        have HM5 := Asd.mk (HM.out.upd hU5 (fun h => h))
        have f5 := fun o => keepsF (o := o) hb5
        have d3 := keepsC (o := 3) hb5 rfl
        clear hO5 hG5 hU5 hb5 HO2 HK2 HG2 c2 c3 f3
        go_wp2
        go_ret
        have hb6 := blk_setCell (o := 3) HB5.out (.slice A5 q2.length c5)
        have hk6 : Upd (fun i => i = t) w5 (w5.setCell ⟨t, 3, none⟩ (.slice A5 q2.length c5)) := (by repeat (first | assumption | with_reducible exact Upd.refl _ _ | with_reducible refine Upd.drewN ?_ _ | with_reducible refine Upd.drew ?_ | with_reducible refine Upd.alloc ?_ _ | with_reducible refine Upd.setAt ?_ ?_ | exact Or.inl rfl | exact Or.inr (by simp) | exact Or.inr (by omega)))
        have hqe := HQE.out
        rw [← hqe]
        obtain ⟨n1, n2, n3⟩ := HN.out
        refine ⟨rfl, fun k => k = t ∨ k = b ∨ some k = G5, ⟨⟨A5, c5, G5, b, hb6, HO5.out.upd hk6 (fun g e e2 => by have := HG5.out g e; omega), HM5.out.upd hk6 (fun e => n1 e.symm), n1, fun e => by have := HG5.out _ e.symm; omega, fun e => by have := HG5.out _ e.symm; omega, fun k => Iff.rfl⟩⟩, (HU5.out.mono (fun _ _ h => h.elim)).trans hk6 (fun i hi e => (HF.out i).2 (.inl e)), fun k hk => ?_⟩
        rcases hk with e | e | e
        · exact .inl ((HF.out k).2 (.inl e))
        · exact .inl ((HF.out k).2 (.inr (.inl e)))
        · exact .inr (HG5.out k e.symm)
  · rw [if_pos hne] at hA
    have hk : ask s id = s := by unfold ask; rw [hA, if_pos hne]
    rw [hA, hk]
    have hnb : (e0 != 0) = true := bne_iff_ne.2 hne
    clear hA hk hne
    go_enter Tryz.func130, Tryz.ntmps130
    go_wp2_with fail
    refine (may_calls HT.out id hid).mono ?_
    rw [← HM0.out]
    rintro e w1 ⟨rfl, rfl⟩
    go_wp2
    go_ret
    exact ⟨rfl, F, HT.out, Upd.refl _ _, fun k h => .inl h⟩
def drops (s : T) (id : Int) : Int := if (rget s.roles id).isSome = false then 2 else if s.holder ≠ id ∧ s.queue.contains id = false then 3 else 0
def drop (s : T) (id : Int) : T := if drops s id = 0 then lose s id else s
set_option maxHeartbeats 1000000 in
theorem drop_calls (h : TB w t F s) (id : Int) (hid : idOk id) (hq : s.queue.length ≤ 1000000) : Calls Tryz.prog 131 #[.pointer (some ⟨t, 0, none⟩), .int .i64 id] w (Turns (.int .i64 (drops s id)) (drop s id) t F w) := by
  have HT := Asd.mk h
  obtain ⟨A, c, G, b, HB, HO, HM, HN, HF, hts⟩ := h.cells
  have c4 := keepsC (o := 4) HB.out rfl
  have c2 := keepsC (o := 2) HB.out rfl
  have c3 := keepsC (o := 3) HB.out rfl
  have hl := h.looks id hid b HM.out
  clear h HB HM HN HF
  cases hgs : rget s.roles id with
  | none =>
    have hv : drops s id = 2 := by unfold drops; rw [hgs]; rfl
    have hl2 : drop s id = s := by unfold drop; rw [hv]; rfl
    rw [hv, hl2]
    rw [hgs] at hl
    simp only [Option.getD_none, Option.isSome_none] at hl
    clear hgs hv hl2
    go_enter Tryz.func131, Tryz.ntmps131
    go_wp2
    go_ret
    exact ⟨rfl, F, HT.out, Upd.refl _ _, fun k h => .inl h⟩
  | some r =>
    have hv : drops s id = if s.holder ≠ id ∧ s.queue.contains id = false then 3 else 0 := by unfold drops; rw [hgs]; rfl
    rw [hgs] at hl
    simp only [Option.getD_some, Option.isSome_some] at hl
    clear hgs
    by_cases hh : s.holder = id
    · rw [if_neg (fun h => h.1 hh)] at hv
      have hl2 : drop s id = lose s id := by unfold drop; rw [hv]; rfl
      rw [hv, hl2]
      have hhb : (s.holder != id) = false := by rw [hh]; simp
      clear hv hl2 hh
      go_enter Tryz.func131, Tryz.ntmps131
      go_wp2_with fail
      refine (lose_calls HT.out id hq).mono ?_
      rintro e w2 ⟨rfl, hE⟩
      have HE := Asd.mk hE
      clear hE
      go_wp2
      go_ret
      exact ⟨rfl, HE.out⟩
    · have hhb : (s.holder != id) = true := bne_iff_ne.2 hh
      cases hct : s.queue.contains id with
      | false =>
        rw [if_pos ⟨hh, hct⟩] at hv
        have hl2 : drop s id = s := by unfold drop; rw [hv]; rfl
        rw [hv, hl2]
        have HCT := Asd.mk hct
        clear hv hl2 hh hct
        go_enter Tryz.func131, Tryz.ntmps131
        go_wp2_with fail
        refine (contains_calls HO.out hq id).mono ?_
        rw [HCT.out]
        rintro e w1 ⟨rfl, rfl⟩
        go_wp2
        go_ret
        exact ⟨rfl, F, HT.out, Upd.refl _ _, fun k h => .inl h⟩
      | true =>
        rw [if_neg (fun h => by rw [hct] at h; cases h.2)] at hv
        have hl2 : drop s id = lose s id := by unfold drop; rw [hv]; rfl
        rw [hv, hl2]
        have HCT := Asd.mk hct
        clear hv hl2 hh hct
        go_enter Tryz.func131, Tryz.ntmps131
        go_wp2_with fail
        refine (contains_calls HO.out hq id).mono ?_
        rw [HCT.out]
        rintro e w1 ⟨rfl, rfl⟩
        go_wp2_with fail
        refine (lose_calls HT.out id hq).mono ?_
        rintro e w2 ⟨rfl, hE⟩
        have HE := Asd.mk hE
        clear hE
        go_wp2
        go_ret
        exact ⟨rfl, HE.out⟩
def give (s : T) (id : Int) : T := if may s id = 0 then grant s id else s
set_option maxHeartbeats 1000000 in
theorem give_calls (h : TB w t F s) (id : Int) (hid : idOk id) (hq : s.queue.length ≤ 1000000) : Calls Tryz.prog 164 #[.pointer (some ⟨t, 0, none⟩), .int .i64 id] w (Turns (.int .i64 (may s id)) (give s id) t F w) := by
  obtain ⟨e0, he0⟩ : ∃ e0, e0 = may s id := ⟨_, rfl⟩
  have HM0 := Asd.mk he0
  have hg : give s id = if e0 = 0 then grant s id else s := by unfold give; rw [← he0]
  rw [← he0]
  clear he0
  have HT := Asd.mk h
  clear h
  by_cases hne : e0 = 0
  · subst hne
    rw [hg, if_pos rfl]
    go_enter Tryz.func164, Tryz.ntmps164
    clear hg
    go_wp2_with fail
    refine (may_calls HT.out id hid).mono ?_
    rw [← HM0.out]
    rintro e w1 ⟨rfl, rfl⟩
    go_wp2_with fail
    refine (grant_calls HT.out id hq).mono ?_
    rintro e w2 ⟨rfl, hE⟩
    have HE := Asd.mk hE
    clear hE
    go_wp2
    go_ret
    exact ⟨rfl, HE.out⟩
  · rw [hg, if_neg hne]
    have hnb : (e0 != 0) = true := bne_iff_ne.2 hne
    clear hg hne
    go_enter Tryz.func164, Tryz.ntmps164
    go_wp2_with fail
    refine (may_calls HT.out id hid).mono ?_
    rw [← HM0.out]
    rintro e w1 ⟨rfl, rfl⟩
    go_wp2
    go_ret
    exact ⟨rfl, F, HT.out, Upd.refl _ _, fun k h => .inl h⟩
def revokes (s : T) : Int := if s.holder = 0 then 3 else 0
def revoke (s : T) : T := if s.holder = 0 then s else pass s
set_option maxHeartbeats 1000000 in
theorem revoke_calls (h : TB w t F s) (hq : s.queue.length ≤ 1000000) : Calls Tryz.prog 133 #[.pointer (some ⟨t, 0, none⟩)] w (Turns (.int .i64 (revokes s)) (revoke s) t F w) := by
  have HT := Asd.mk h
  obtain ⟨A, c, G, b, HB, _⟩ := h.cells
  have c2 := keepsC (o := 2) HB.out rfl
  clear h HB
  unfold revokes revoke
  by_cases hh : s.holder = 0
  · rw [if_pos hh, if_pos hh]
    rw [hh] at c2
    clear hh
    go_enter Tryz.func133, Tryz.ntmps133
    go_wp2
    go_ret
    exact ⟨rfl, F, HT.out, Upd.refl _ _, fun k h => .inl h⟩
  · rw [if_neg hh, if_neg hh]
    have hhb : (s.holder == 0) = false := beq_eq_false_iff_ne.2 hh
    clear hh
    go_enter Tryz.func133, Tryz.ntmps133
    go_wp2_with fail
    refine (pass_calls HT.out hq).mono ?_
    rintro e w2 ⟨rfl, hE⟩
    have HE := Asd.mk hE
    clear hE
    go_wp2
    go_ret
    exact ⟨rfl, HE.out⟩
def lessen (s : T) (n : Int) : T := { s with left := n }
def tick (s : T) : T := if s.holder = 0 then s else if 1 < s.left then lessen s (s.left - 1) else if s.queue = [] then lessen s s.lease else pass (lessen s s.lease)
set_option maxHeartbeats 2000000 in
theorem tick_calls (h : TB w t F s) (hq : s.queue.length ≤ 1000000) (hl : -1000 ≤ s.left ∧ s.left ≤ 1000000) : Calls Tryz.prog 70 #[.pointer (some ⟨t, 0, none⟩)] w (Turns (.tuple #[]) (tick s) t F w) := by
  have HT := Asd.mk h
  obtain ⟨A, c, G, b, HB, _⟩ := h.cells
  have c0 := keepsC (o := 0) HB.out rfl
  have c1 := keepsC (o := 1) HB.out rfl
  have c2 := keepsC (o := 2) HB.out rfl
  have c3 := keepsC (o := 3) HB.out rfl
  have ff := fun o => keepsF (o := o) HB.out
  have HFT := Asd.mk h.own
  clear h
  have hK : ∀ n : Int, TB (w.setCell ⟨t, 1, none⟩ (.int .i64 n)) t F (lessen s n) := fun n => HT.out.with (s' := lessen s n) (by repeat (first | assumption | with_reducible exact Upd.refl _ _ | with_reducible refine Upd.drewN ?_ _ | with_reducible refine Upd.drew ?_ | with_reducible refine Upd.alloc ?_ _ | with_reducible refine Upd.setAt ?_ ?_ | exact Or.inl rfl | exact Or.inr (by simp) | exact Or.inr (by omega))) (fun A c b hb => blk_setCell (o := 1) hb (.int .i64 n)) rfl rfl
  have hK2 : ∀ n m : Int, TB ((w.setCell ⟨t, 1, none⟩ (.int .i64 n)).setCell ⟨t, 1, none⟩ (.int .i64 m)) t F (lessen s m) := fun n m => (hK n).with (s' := lessen s m) (by repeat (first | assumption | with_reducible exact Upd.refl _ _ | with_reducible refine Upd.drewN ?_ _ | with_reducible refine Upd.drew ?_ | with_reducible refine Upd.alloc ?_ _ | with_reducible refine Upd.setAt ?_ ?_ | exact Or.inl rfl | exact Or.inr (by simp) | exact Or.inr (by omega))) (fun A c b hb => blk_setCell (o := 1) hb (.int .i64 m)) rfl rfl
  have hU : ∀ n m : Int, Upd F w ((w.setCell ⟨t, 1, none⟩ (.int .i64 n)).setCell ⟨t, 1, none⟩ (.int .i64 m)) := fun n m => (show Upd (fun i => i = t) _ _ from (by repeat (first | assumption | with_reducible exact Upd.refl _ _ | with_reducible refine Upd.drewN ?_ _ | with_reducible refine Upd.drew ?_ | with_reducible refine Upd.alloc ?_ _ | with_reducible refine Upd.setAt ?_ ?_ | exact Or.inl rfl | exact Or.inr (by simp) | exact Or.inr (by omega)))).mono (fun i hi e => by rw [e]; exact HFT.out)
  have hU1 : ∀ n : Int, Upd F w (w.setCell ⟨t, 1, none⟩ (.int .i64 n)) := fun n => (show Upd (fun i => i = t) _ _ from (by repeat (first | assumption | with_reducible exact Upd.refl _ _ | with_reducible refine Upd.drewN ?_ _ | with_reducible refine Upd.drew ?_ | with_reducible refine Upd.alloc ?_ _ | with_reducible refine Upd.setAt ?_ ?_ | exact Or.inl rfl | exact Or.inr (by simp) | exact Or.inr (by omega)))).mono (fun i hi e => by rw [e]; exact HFT.out)
  have HK := Asd.mk hK
  have HK2 := Asd.mk hK2
  have HU := Asd.mk hU
  have HU1 := Asd.mk hU1
  clear hK hK2 hU hU1 HB
  by_cases hh : s.holder = 0
  · have hp : tick s = s := if_pos hh
    rw [hp]
    rw [hh] at c2
    clear hp hh
    go_enter Tryz.func70, Tryz.ntmps70
    go_wp2
    go_end0
    exact ⟨rfl, F, HT.out, Upd.refl _ _, fun k h => .inl h⟩
  · have hp : tick s = if 1 < s.left then lessen s (s.left - 1) else if s.queue = [] then lessen s s.lease else pass (lessen s s.lease) := if_neg hh
    have hhb : (s.holder == 0) = false := beq_eq_false_iff_ne.2 hh
    rw [hp]
    clear hp hh
    by_cases h1 : 1 < s.left
    · rw [if_pos h1]
      have h1b : (0 : Int) < s.left - 1 := by omega
      go_enter Tryz.func70, Tryz.ntmps70
      go_wp2
      go_end0
      exact ⟨rfl, F, HK.out _, HU1.out _, fun k h => .inl h⟩
    · rw [if_neg h1]
      have h1b : ¬ ((0 : Int) < s.left - 1) := by omega
      by_cases hqe : s.queue = []
      · rw [if_pos hqe]
        rw [hqe] at c3
        simp only [List.length_nil] at c3
        clear hqe hq
        go_enter Tryz.func70, Tryz.ntmps70
        go_wp2
        go_end0
        exact ⟨rfl, F, HK2.out _ _, HU.out _ _, fun k h => .inl h⟩
      · rw [if_neg hqe]
        have hql : 0 < s.queue.length := Nat.pos_of_ne_zero (fun e => hqe (List.eq_nil_of_length_eq_zero e))
        have hqi : (0 : Int) < (s.queue.length : Int) := by omega
        clear hqe
        go_enter Tryz.func70, Tryz.ntmps70
        go_wp2_with fail
        refine (pass_calls (HK2.out (s.left - 1) s.lease) hq).mono ?_
        rintro e w2 ⟨rfl, F2, ht, hu, hf⟩
        have HE := Asd.mk (Turns.then (HU.out (s.left - 1) s.lease) (fun k h => .inl h) ht hu hf)
        clear ht hu hf
        go_wp2
        go_end0
        exact ⟨rfl, HE.out⟩
end
end Go.Proofs.YteepkanbiefpjaaGreatDoor.Fl
set_option linter.unusedVariables false
set_option linter.unusedSimpArgs false
namespace Go.Proofs.YteepkanbiefpjaaGreatDoor.Fl
open Go.RowKit K Go.Sort Go.Lib Go.Shelf
section
variable {w : World} {t : Nat} {F : Nat → Prop} {s : T}
def keys (s : T) : List Int := s.roles.map (·.1)
theorem keys_sorted (R : List (Int × Int)) (h : (RI R).Pairwise (fun p q => p.1 < q.1)) : (R.map (·.1)).Pairwise (· < ·) := by
  unfold RI at h
  rw [List.pairwise_map] at h ⊢
  exact h
theorem sorted_is {l k : List Int} (hp : l.Perm k) (hk : k.Pairwise (· < ·)) : (l.mergeSort fun x y => decide (x ≤ y)) = k := by
  refine List.Perm.eq_of_pairwise (le := fun a b => decide (a ≤ b) = true) (fun a b _ _ h1 h2 => ?_) (List.pairwise_mergeSort (fun a b c h1 h2 => ?_) (fun a b => ?_) l) (hk.imp fun h => ?_) ((List.mergeSort_perm l _).trans hp)
  · simp at h1 h2; omega
  · simp at h1 h2 ⊢; omega
  · simp; omega
  · simp; omega
theorem mdel_perm {rem : List Ent} (hn : (rem.map (·.1)).Nodup) {x : Int} {v : Value} (h : (x, v) ∈ rem) : (rem.map (·.1)).Perm (x :: (mdel rem x).map (·.1)) := by
  induction rem with
  | nil => simp at h
  | cons p r ih =>
    simp only [List.map_cons, List.nodup_cons] at hn
    rcases List.mem_cons.1 h with e | h
    · subst e
      have hd : mdel ((x, v) :: r) x = r := by
        unfold mdel
        rw [List.filter_cons_of_neg (by simp)]
        refine List.filter_eq_self.2 fun q hq => ?_
        have : q.1 ≠ x := fun e => hn.1 (List.mem_map.2 ⟨q, hq, e⟩)
        simpa using this
      rw [hd]
      exact List.Perm.refl _
    · have hpx : p.1 ≠ x := fun e => hn.1 (by rw [e]; exact List.mem_map.2 ⟨(x, v), h, rfl⟩)
      have hd : mdel (p :: r) x = p :: mdel r x := by
        unfold mdel
        rw [List.filter_cons_of_pos (by simpa using hpx)]
      rw [hd, List.map_cons, List.map_cons]
      exact ((ih hn.2 h).cons p.1).trans (List.Perm.swap _ _ _)
set_option maxHeartbeats 2000000 in
theorem users_calls (h : TB w t F s) (hr : s.roles.length ≤ 1000000) : Calls Tryz.prog 66 #[.pointer (some ⟨t, 0, none⟩)] w (NewI (keys s) w) := by
  obtain ⟨A, c, G, b, HB, HO, HM, HN, HF, hts⟩ := h.cells
  have c4 := keepsC (o := 4) HB.out rfl
  have hbl := HM.out.lt
  have hinc := HM.out.inc Tryz.underlying3
  have hks := keys_sorted s.roles hinc
  have HKS := Asd.mk hks
  clear h HB HO HN HF hinc hks
  go_enter Tryz.func66, Tryz.ntmps66
  go_wp2_with (with_reducible refine stop_range 139 _ rfl ?_)
  refine wp_range rfl 139 _ rfl HM.out Tryz.underlying3 Tryz.underlying139 rfl ?_
  intro w1 hrg hu hsz
  have HR1 := Asd.mk hrg
  have HW1 := Asd.mk hu
  have hs1 : w1.heap.size = w.heap.size + 1 := hsz
  have HS1 := Asd.mk hs1
  clear hrg hu c4 hsz hs1
  go_frame
  go_wp2
  go_loopw [3] (fun v3 wr => ∃ (A3 : Option Addr) (c3 : Nat) (G3 : Option Nat) (l : List Int) (rem : List Ent), v3 = .slice A3 l.length c3 ∧ l.length ≤ c3 ∧ Asd (OI wr (.slice A3 l.length c3) l G3) ∧ Asd (∀ g, G3 = some g → w1.heap.size ≤ g) ∧ Asd (rangeV wr Tryz.prog 3 b w.heap.size (RI s.roles) rem) ∧ Asd ((l ++ rem.map (·.1)).Perm (keys s)) ∧ Asd (Upd (fun i => i = w.heap.size) w1 wr)) (fun _ wr => World.rangeLeft wr b w.heap.size)
  case atStart => exact ⟨none, 0, none, [], RI s.roles, rfl, by simp, ⟨OI.nil _⟩, ⟨fun g h => by cases h⟩, HR1, ⟨by rw [List.nil_append]; unfold RI keys; rw [List.map_map]; exact List.Perm.refl _⟩, ⟨Upd.refl _ _⟩⟩
  case round =>
    clear HR1
    obtain ⟨A3, c3, G3, l, rem, rfl, hlc, HO, HG, HR, HP, HU⟩ := hrel
    have hll : l.length ≤ 1000000 := by
      have := HP.out.length_eq
      simp only [keys, List.length_append, List.length_map] at this
      omega
    go_wp2_with (with_reducible refine stop_next _ rfl ?_)
    refine wp_next rfl _ rfl HR.out Tryz.underlying3 rfl ?_ ?_
    · intro hrem
      have HP2 : Asd (l.Perm (keys s)) := ⟨by have := HP.out; rw [hrem] at this; simpa using this⟩
      clear hrem HP HR
      go_wp2_with fail
      refine (sort_calls HO.out hll).mono ?_
      unfold SortPost
      rw [sorted_is HP2.out HKS.out]
      rintro e w2 ⟨rfl, ho, hu⟩
      have HO2 := Asd.mk ho
      have HU2 : Asd (Upd (fun _ => False) w w2) := ⟨(HW1.out.trans HU.out (fun i hi e => by omega)).trans hu (fun i hi e => by have := HG.out _ e.symm; have := HS1.out; omega)⟩
      have HLE : Asd (l.length = (keys s).length) := ⟨HP2.out.length_eq⟩
      clear ho hu HO HU
      go_wp2
      go_ret
      exact ⟨A3, c3, G3, by rw [← HLE.out]; rfl, HO2.out, fun g e => by have := HG.out g e; have := HS1.out; omega, HU2.out⟩
    · intro x v w2 hmem hr2 hu2 hs2 hlt hent
      have hnd : (rem.map (·.1)).Nodup := by
        have h1 : (l ++ rem.map (·.1)).Nodup := HP.out.nodup_iff.2 ((HKS.out).imp (fun h => by omega))
        exact (List.nodup_append.1 h1).2.1
      have HP2 : Asd (((l ++ [x]) ++ (mdel rem x).map (·.1)).Perm (keys s)) := ⟨by
        refine List.Perm.trans ?_ HP.out
        rw [List.append_assoc]
        exact (List.Perm.append_left l (mdel_perm hnd hmem)).symm⟩
      have HR2 := Asd.mk hr2
      have hrlt : w.heap.size < w2.heap.size := HR2.out.lt
      have HU2 : Asd (Upd (fun i => i = w.heap.size) w1 w2) := ⟨HU.out.trans hu2 (fun i hi e => e)⟩
      have HO2 := Asd.mk (HO.out.upd hu2 (fun g e e2 => by have := HG.out g e; have := HS1.out; omega))
      have HLT := Asd.mk hlt
      clear hmem hr2 hu2 hs2 hnd HP HR HU HO hlt
      have hk2 : Upd (fun _ => False) w2 w2 := Upd.refl _ _
      go_wp2_with (with_reducible refine stop_append _ _ _ _ rfl ?_)
      refine wp_appendI (HU2.out.alloc _) rfl _ _ 53 3 rfl Tryz.underlying53 rfl infoI rfl rfl (HO2.out.up ((Upd.refl (fun _ => False) _).alloc _)) HG.out (l2 := [x]) (m := 1) (c2 := 1) (Rd1 _ _) rfl (by omega) ?_
      intro A5 c5 w5 G5 hO5 hc5 hG5 hU5 hV5
      obtain ⟨l2, hl2⟩ : ∃ l2, l2 = l ++ [x] := ⟨_, rfl⟩
      rw [← hl2] at hO5 hc5 HP2
      rw [← hl2]
      have hne : ∀ i, some i = G3 → w1.heap.size ≤ i := fun i e => HG.out i e.symm
      have hs1 := HS1.out
      have HR5 := Asd.mk ((rangeV.upd (HR2.out) ((Upd.refl (fun _ => False) _).alloc _) (fun h => h) (fun h => h)).upd hV5 (fun e => by have := hne _ e; omega) (fun e => by have := hne _ e; omega))
      have HLE : Asd (World.rangeLeft w5 b w.heap.size < World.rangeLeft wr b w.heap.size) := ⟨by
        rw [rangeLeft_upd hV5 (by simp; omega) (by simp; omega) (fun e => by have := hne _ e; omega) (fun e => by have := hne _ e; omega), rangeLeft_upd ((Upd.refl (fun _ => False) w2).alloc _) (by omega) (by omega) (fun h => h) (fun h => h)]
        exact HLT.out⟩
      have HO5 := Asd.mk hO5
      have HG5 := Asd.mk hG5
      have HU5 := Asd.mk hU5
      clear hl2 hne hs1 hO5 hG5 hU5 hV5 HO2 HR2 HU2 HLT HG hk2 hent
      go_wp2
      go_roundw
      case rel => exact ⟨A5, c5, G5, l2, mdel rem x, rfl, hc5, HO5, HG5, HR5, HP2, HU5⟩
      case measure => exact HLE.out
end
end Go.Proofs.YteepkanbiefpjaaGreatDoor.Fl
set_option linter.unusedVariables false
set_option linter.unusedSimpArgs false
namespace Go.Proofs.YteepkanbiefpjaaGreatDoor.Oq
open Go.RowKit K
theorem info8 : (Tryz.prog.info? 5).map (fun i => (i.zero, i.size, i.bytes)) = some (some (.int .u8 0), 1, 1) := by kernel_rfl
structure Que (w : World) (q : Nat) (buf : List UInt8) (size : Int) (F : Nat → Prop) : Prop where
  mk ::
  has : ∃ A c G, w.heap[q]? = some (.cells #[.slice A buf.length c, .int .i64 size] 147 (0, 0)) ∧ Own w 5 1 (.slice A buf.length c) buf.length (B buf) G ∧ some q ≠ G ∧ ∀ k, F k ↔ k = q ∨ some k = G
  lo : 0 ≤ size
  hi : size ≤ 65536
  fit : (buf.length : Int) ≤ size
section
variable {w w1 : World} {q : Nat} {buf : List UInt8} {size : Int} {F S : Nat → Prop}
theorem Que.upd (h : Que w q buf size F) (k : Upd S w w1) (hn : ∀ i, F i → ¬ S i) : Que w1 q buf size F := by
  obtain ⟨⟨A, c, G, hb, ho, hne, hF⟩, h1, h2, h3⟩ := h
  exact ⟨⟨A, c, G, k.blk hb (hn q ((hF q).2 (.inl rfl))), ho.upd k (fun g e => hn g ((hF g).2 (.inr e.symm))), hne, hF⟩, h1, h2, h3⟩
theorem Que.lt (h : Que w q buf size F) : ∀ k, F k → k < w.heap.size := by
  obtain ⟨⟨A, c, G, hb, ho, hne, hF⟩, h1, h2, h3⟩ := h
  intro k hk
  rcases (hF k).1 hk with rfl | e
  · exact blk_lt hb
  · exact ho.lt k e.symm
end
def clampSize (n : Int) : Int := if n < 0 then 0 else if 65536 < n then 65536 else n
def NewPost (n : Int) (w : World) (e : Ending) (w' : World) : Prop := ∃ q F, e = .returned (.pointer (some ⟨q, 0, none⟩)) ∧ Que w' q [] (clampSize n) F ∧ Upd (fun _ => False) w w' ∧ ∀ k, F k → w.heap.size ≤ k
theorem Que.made (w : World) (n : Int) (h0 : 0 ≤ n) (h1 : n ≤ 65536) : Que (w.alloc (.cells #[.slice none 0 0, .int .i64 n] 147)) w.heap.size [] n (fun k => k = w.heap.size) :=
  ⟨⟨none, 0, none, heap_alloc_new w _, Own.nil _ _ _, by simp, by simp⟩, h0, h1, by simpa using h0⟩
set_option maxHeartbeats 400000 in
theorem new_calls (n : Int) (w : World) : Calls Tryz.prog 49 #[.int .i64 n] w (NewPost n w) := by
  have hc : Asd (mx 0 (mn n 65536) = clampSize n ∧ 0 ≤ clampSize n ∧ clampSize n ≤ 65536) := ⟨by unfold mx mn clampSize; split <;> split <;> (try split) <;> (try split) <;> omega⟩
  go_enter Tryz.func49, Tryz.ntmps49
  go_wp2
  go_ret
  obtain ⟨h1, h2, h3⟩ := hc.out
  rw [h1]
  exact ⟨w.heap.size, _, rfl, Que.made w _ h2 h3, (Upd.refl _ _).alloc _, fun k hk => by rw [hk]; exact Nat.le_refl _⟩
section
variable {w : World} {q : Nat} {buf : List UInt8} {size : Int} {F : Nat → Prop}
theorem Que.cells (h : Que w q buf size F) : ∃ A c, w.cell? ⟨q, 0, none⟩ = some (.slice A buf.length c) ∧ w.cell? ⟨q, 1, none⟩ = some (.int .i64 size) := by
  obtain ⟨⟨A, c, G, hb, ho, hne, hF⟩, h1, h2, h3⟩ := h
  exact ⟨A, c, by simp [World.cell?, hb], by simp [World.cell?, hb]⟩
set_option maxHeartbeats 400000 in
theorem len_calls (h : Que w q buf size F) : Calls Tryz.prog 78 #[.pointer (some ⟨q, 0, none⟩)] w fun e w' => e = .returned (.int .i64 (buf.length : Int)) ∧ w = w' := by
  have H := Asd.mk h
  obtain ⟨A, c, h0, h1⟩ := h.cells
  clear h
  go_enter Tryz.func78, Tryz.ntmps78
  go_wp2
  go_ret
  exact ⟨rfl, rfl⟩
set_option maxHeartbeats 400000 in
theorem room_calls (h : Que w q buf size F) : Calls Tryz.prog 108 #[.pointer (some ⟨q, 0, none⟩)] w fun e w' => e = .returned (.int .i64 (size - buf.length)) ∧ Dr w w' := by
  have H := Asd.mk h
  obtain ⟨A, c, h0, h1⟩ := h.cells
  have h2 := h.lo
  have h3 := h.hi
  have h4 := h.fit
  clear h
  go_enter Tryz.func108, Tryz.ntmps108
  go_wp2
  go_quiet (fail)
  go_wp2
  go_ret
  exact ⟨rfl, _, rfl⟩
theorem Que.lim (h : Que w q buf size F) : (buf.length : Int) ≤ 65536 := by have := h.fit; have := h.hi; omega
def PutPost (q : Nat) (buf : List UInt8) (size : Int) (F : Nat → Prop) (w : World) (e : Ending) (w' : World) : Prop :=
  e = .returned (.bool true) ∧ ∃ F', Que w' q buf size F' ∧ Upd F w w' ∧ ∀ k, F' k → F k ∨ w.heap.size ≤ k
set_option maxHeartbeats 400000 in
theorem put_no (h : Que w q buf size F) (A : Option Addr) (n c : Nat) (hn : size - buf.length < (n : Int)) :
    Calls Tryz.prog 106 #[.pointer (some ⟨q, 0, none⟩), .slice A n c] w fun e w' => e = .returned (.bool false) ∧ Dr w w' := by
  have H := Asd.mk h
  have h3 := h.fit
  clear h
  go_enter Tryz.func106, Tryz.ntmps106
  go_wp2_with fail
  refine (room_calls H.out).mono ?_
  rintro e w1 ⟨rfl, hd⟩
  go_wp2
  go_ret
  exact ⟨rfl, hd⟩
set_option maxHeartbeats 1000000 in
theorem put_yes (h : Que w q buf size F) (A : Option Addr) (n c : Nat) (l : List UInt8) (hr : Rd w A n l) (hn : (n : Int) ≤ size - buf.length) :
    Calls Tryz.prog 106 #[.pointer (some ⟨q, 0, none⟩), .slice A n c] w (PutPost q (buf ++ l) size F w) := by
  have H := Asd.mk h
  have HR := Asd.mk hr
  have h2 := h.lo
  have h3 := h.fit
  have h4 := h.hi
  clear h hr
  go_enter Tryz.func106, Tryz.ntmps106
  go_wp2_with fail
  refine (room_calls H.out).mono ?_
  rintro e w1 ⟨rfl, hd⟩
  have hu := hd.upd (fun _ => False)
  have H1 := H.out.upd hu (fun _ _ h => h)
  have HR1 := Asd.mk (HR.out.upd hu (fun _ _ h => h))
  have HU1 := Asd.mk hu
  clear hd hu H HR
  obtain ⟨⟨A0, c0, G, hb, ho, hne, hF⟩, _, _, _⟩ := H1
  have hq0 : w1.cell? ⟨q, 0, none⟩ = some (.slice A0 buf.length c0) := by simp [World.cell?, hb]
  have HB := Asd.mk hb
  have HO := Asd.mk ho
  have HF := Asd.mk hF
  have HN := Asd.mk hne
  have HQ := Asd.mk (blk_lt hb)
  clear hb ho hF hne
  go_wp2_with (first | (with_reducible refine stop_append _ _ _ _ rfl ?_) | (with_reducible refine stop_copy _ _ _ _ rfl ?_) | (with_reducible refine stop_make _ _ _ rfl ?_) | (with_reducible refine stop_conv 31 9 _ rfl ?_))
  refine wp_appendB (buf.length + n) 5 buf l G A0 buf.length c0 A n c rfl _ _ 31 rfl Tryz.underlying31 info8 rfl rfl HO.out HR1.out rfl (by omega) ?_
  intro A2 c2 w2 G2 hc2 hm2 hO hU hg
  have hb2 := hU.blk HB.out HN.out
  have hq0 : w2.cell? ⟨q, 0, none⟩ = some (.slice A0 buf.length c0) := by simp [World.cell?, hb2]
  have hfz : w2.frozen? ⟨q, 0, none⟩ = false := by simp [World.frozen?, hb2]
  have HB2 := Asd.mk hb2
  have HO2 := Asd.mk hO
  have HU2 := Asd.mk hU
  have HG2 := Asd.mk hg
  clear hb2 hO hU hg HB HO
  go_wp2
  go_ret
  have hnG : some q ≠ G2 := by
    rcases HG2.out with e | ⟨g, e, h5, _⟩
    · rw [e]; exact HN.out
    · rw [e]
      intro e2
      obtain rfl := Option.some.inj e2
      have := blk_lt HB2.out
      have := HU2.out.size
      have hq := HU2.out.size
      have hq2 : q < w1.heap.size := HQ.out
      omega
  have hlen : (buf ++ l).length = buf.length + n := by rw [List.length_append, HR1.out.len]
  refine ⟨rfl, fun k => k = q ∨ some k = G2, ⟨⟨A2, c2, G2, ?_, ?_, hnG, fun k => Iff.rfl⟩, h2, h4, by rw [hlen]; omega⟩, ?_, ?_⟩
  · rw [hlen]
    exact blk_setCell HB2.out _
  · rw [hlen]
    exact HO2.out.upd ((Upd.refl (fun k => k = q) _).setCell (fun _ => rfl) _) (fun g e e2 => hnG (by rw [e, e2]))
  · exact ((HU1.out.mono (T := F) (fun _ _ h => h.elim)).trans HU2.out (fun i _ e => (HF.out i).2 (.inr e))).setCell (fun _ => (HF.out q).2 (.inl rfl)) _
  · intro k hk
    rcases hk with rfl | e
    · exact .inl ((HF.out k).2 (.inl rfl))
    · rcases HG2.out with e2 | ⟨g, e2, h5, _⟩
      · exact .inl ((HF.out k).2 (.inr (e.trans e2)))
      · rw [e2] at e
        obtain rfl := Option.some.inj e
        exact .inr (Nat.le_trans HU1.out.size h5)
def takeN (n : Int) (len : Nat) : Nat := (mx 0 (mn n len)).toNat
theorem takeN_le (n : Int) (len : Nat) : takeN n len ≤ len := by unfold takeN mx mn; split <;> split <;> omega
theorem takeN_eq (n : Int) (len : Nat) : mx 0 (mn n len) = (takeN n len : Int) := by unfold takeN mx mn; split <;> split <;> omega
def TakePost (q : Nat) (buf : List UInt8) (size : Int) (F : Nat → Prop) (k : Nat) (w : World) (e : Ending) (w' : World) : Prop :=
  ∃ g F', e = .returned (.slice (some ⟨g, 0, none⟩) k k) ∧ w.heap.size ≤ g ∧ ¬ F' g ∧ Own w' 5 1 (.slice (some ⟨g, 0, none⟩) k k) k (B (buf.take k)) (some g) ∧ Que w' q (buf.drop k) size F' ∧ Upd F w w' ∧ ∀ k, F' k → F k ∨ w.heap.size ≤ k
set_option maxHeartbeats 2000000 in
theorem take_calls (h : Que w q buf size F) (n : Int) :
    Calls Tryz.prog 58 #[.pointer (some ⟨q, 0, none⟩), .int .i64 n] w (TakePost q buf size F (takeN n buf.length) w) := by
  have h2 := h.lo
  have h4 := h.hi
  have hfit := h.fit
  have HFL := Asd.mk h.lt
  obtain ⟨⟨A0, c0, G, hb, ho, hne, hF⟩, _, _, _⟩ := h
  have hq0 : w.cell? ⟨q, 0, none⟩ = some (.slice A0 buf.length c0) := by simp [World.cell?, hb]
  have HB := Asd.mk hb
  have HO := Asd.mk ho
  have HF := Asd.mk hF
  have HN := Asd.mk hne
  obtain ⟨_, _, hv, hc0, hm0, _, _⟩ := ho.slice
  injection hv with e1 e2 e3
  subst e1; subst e3
  clear hb ho hF hne
  obtain ⟨k, hk⟩ : ∃ k, k = takeN n buf.length := ⟨_, rfl⟩
  have hkl : k ≤ buf.length := by rw [hk]; exact takeN_le _ _
  have HK : Asd (mx 0 (mn n (buf.length : Int)) = (k : Int)) := ⟨by rw [hk]; exact takeN_eq _ _⟩
  rw [← hk]
  clear hk
  obtain ⟨A1, hcut, _, hA1, _⟩ := cut_from (P := Tryz.prog) 31 5 .i64 (sz := 1) Tryz.underlying31 (by kernel_rfl) A0 buf.length c0 k hkl hc0
  have HA1 := Asd.mk (hA1 rfl)
  clear hA1
  go_enter Tryz.func58, Tryz.ntmps58
  go_wp2_with (first | (with_reducible refine stop_append _ _ _ _ rfl ?_) | (with_reducible refine stop_copy _ _ _ _ rfl ?_) | (with_reducible refine stop_make _ _ _ rfl ?_) | (with_reducible refine stop_conv 31 9 _ rfl ?_))
  rw [HK.out]
  refine wp_makeB k 5 rfl _ _ 31 rfl Tryz.underlying31 info8 rfl rfl (by omega) ?_
  intro w1 hO1 hU1 hs1
  have hb1 := hU1.blk HB.out (fun h => h)
  have hq1 : w1.cell? ⟨q, 0, none⟩ = some (.slice A0 buf.length c0) := by simp [World.cell?, hb1]
  have HB1 := Asd.mk hb1
  have HO1 := Asd.mk hO1
  have HU1 := Asd.mk hU1
  have HM1 := Asd.mk (HO.out.upd hU1 (fun _ _ h => h))
  clear hb1 hO1 hU1 hq0
  go_wp2_with (first | (with_reducible refine stop_append _ _ _ _ rfl ?_) | (with_reducible refine stop_copy _ _ _ _ rfl ?_) | (with_reducible refine stop_make _ _ _ rfl ?_) | (with_reducible refine stop_conv 31 9 _ rfl ?_))
  refine wp_copyB 5 (List.replicate k 0) buf (some w.heap.size) _ k k A0 buf.length c0 rfl _ _ 31 rfl Tryz.underlying31 info8 rfl rfl HO1.out HM1.out.rd ?_
  intro w2 hO2 hU2
  have hdrop : (List.replicate k (0 : UInt8)).drop buf.length = [] := List.drop_eq_nil_of_le (by simp; exact hkl)
  rw [hdrop, List.append_nil] at hO2
  have hq : q < w.heap.size := blk_lt HB.out
  have hb2 := hU2.blk HB1.out (fun h => by have := Option.some.inj h; omega)
  have hq2 : w2.cell? ⟨q, 0, none⟩ = some (.slice A0 buf.length c0) := by simp [World.cell?, hb2]
  have HM2 := Asd.mk (HM1.out.upd hU2 (fun g e e2 => by have := HO.out.lt g e; obtain rfl := Option.some.inj e2; omega))
  have HB2 := Asd.mk hb2
  have HO2 := Asd.mk hO2
  have HQ := Asd.mk hq
  have HS2 : Asd (w.heap.size < w2.heap.size) := ⟨Nat.lt_of_lt_of_le hs1 hU2.size⟩
  have HU2 := Asd.mk ((HU1.out.mono (T := fun _ => False) (fun _ _ h => h)).trans hU2 (fun i hi e => by obtain rfl := Option.some.inj e; omega))
  clear hb2 hO2 hU2 HO1 HU1 HM1 HB1 hdrop hq1
  go_wp2_with (first | (with_reducible refine stop_append _ _ _ _ rfl ?_) | (with_reducible refine stop_copy _ _ _ _ rfl ?_) | (with_reducible refine stop_make _ _ _ rfl ?_) | (with_reducible refine stop_conv 31 9 _ rfl ?_))
  refine wp_appendB (buf.length - k) 5 [] (buf.drop k) none none 0 0 A1 (buf.length - k) (c0 - k) rfl _ _ 31 rfl Tryz.underlying31 info8 rfl rfl (Own.nil _ _ _) (HA1.out _ _ HM2.out.rd) (by omega) (by omega) ?_
  intro A3 c3 w3 G3 hc3 hm3 hO3 hU3 hg3
  rw [List.nil_append] at hO3
  have hb3 := hU3.blk HB2.out (fun h => by cases h)
  have hq3 : w3.cell? ⟨q, 0, none⟩ = some (.slice A0 buf.length c0) := by simp [World.cell?, hb3]
  have hfz : w3.frozen? ⟨q, 0, none⟩ = false := by simp [World.frozen?, hb3]
  have hG3 : ∀ g, G3 = some g → w2.heap.size ≤ g := by
    intro g e
    rcases hg3 with e2 | ⟨g', e2, h5, _⟩
    · rw [e2] at e; cases e
    · rw [e2] at e; obtain rfl := Option.some.inj e; exact h5
  have HG3 := Asd.mk hG3
  have HB3 := Asd.mk hb3
  have HO3 := Asd.mk hO3
  have HB3' := Asd.mk (HO2.out.upd hU3 (fun g e e2 => by cases e2))
  have HU3 := Asd.mk (HU2.out.trans (hU3.mono (T := fun _ => False) (fun i hi e => by cases e)) (fun _ _ h => h))
  have HS := Asd.mk HU2.out.size
  clear hb3 hO3 hU3 hg3 hG3 HO2 HU2 HM2 HB2 hq2 hcut HA1
  go_wp2
  go_ret
  have hlen : (buf.drop k).length = buf.length - k := by simp
  have hs2 : w.heap.size < w2.heap.size := HS2.out
  have hnG : some q ≠ G3 := fun e => by have := HG3.out q e.symm; have := HQ.out; omega
  refine ⟨w.heap.size, fun i => i = q ∨ some i = G3, rfl, Nat.le_refl _, ?_, ?_, ⟨⟨A3, c3, G3, ?_, ?_, hnG, fun _ => Iff.rfl⟩, h2, h4, by rw [hlen]; omega⟩, ?_, ?_⟩
  · rintro (e | e)
    · have := HQ.out; omega
    · have := HG3.out _ e.symm; omega
  · exact HB3'.out.upd ((Upd.refl (fun i => i = q) _).setCell (fun _ => rfl) _) (fun g e e2 => by obtain rfl := Option.some.inj e; have := HQ.out; omega)
  · rw [hlen]
    exact blk_setCell HB3.out _
  · rw [hlen]
    exact HO3.out.upd ((Upd.refl (fun i => i = q) _).setCell (fun _ => rfl) _) (fun g e e2 => hnG (by rw [e, e2]))
  · exact (HU3.out.mono (T := F) (fun _ _ h => h.elim)).setCell (fun _ => (HF.out q).2 (.inl rfl)) _
  · rintro i (rfl | e)
    · exact .inl ((HF.out _).2 (.inl rfl))
    · have := HG3.out i e.symm
      exact .inr (by omega)
end
end Go.Proofs.YteepkanbiefpjaaGreatDoor.Oq
set_option linter.unusedVariables false
set_option linter.unusedSimpArgs false
namespace Go.Proofs.YteepkanbiefpjaaGreatDoor.Fl
open Go.RowKit K
theorem rdel_none (R : List (Int × Int)) (x : Int) (h : rget R x = none) : rdel R x = R := by
  unfold rget at h
  rw [Option.map_eq_none_iff, List.find?_eq_none] at h
  exact List.filter_eq_self.2 fun p hp => by have := h p hp; simp at this; simp [this]
def At (w0 w : World) (t : Nat) (s : T) : Prop := ∃ F, TB w t F s ∧ Upd (fun _ => False) w0 w ∧ ∀ k, F k → w0.heap.size ≤ k
theorem At.turn {w0 w : World} {t : Nat} {s s' : T} {v : Value} {f : FuncId} {args : Array Value} (h : At w0 w t s) (hc : ∀ F, TB w t F s → Calls Tryz.prog f args w (Turns v s' t F w)) : Calls Tryz.prog f args w fun e w' => e = .returned v ∧ At w0 w' t s' := by
  obtain ⟨F, ht, hu, hf⟩ := h
  refine (hc F ht).mono fun e w' ⟨he, F', ht', hu', hf'⟩ => ⟨he, F', ht', hu.trans hu' (fun i hi h => by have := hf i h; omega), fun k hk => (hf' k hk).elim (fun h => hf k h) (fun h => Nat.le_trans hu.size h)⟩
theorem At.read {w0 w : World} {t : Nat} {s : T} {v : Value} {f : FuncId} {args : Array Value} (h : At w0 w t s) (hc : ∀ F, TB w t F s → Calls Tryz.prog f args w fun e w' => e = .returned v ∧ w = w') : Calls Tryz.prog f args w fun e w' => e = .returned v ∧ w = w' := by
  obtain ⟨F, ht, _, _⟩ := h
  exact hc F ht
theorem At.up {w0 w w1 : World} {t : Nat} {s : T} (h : At w0 w t s) (k : Upd (fun _ => False) w w1) : At w0 w1 t s := by
  obtain ⟨F, ht, hu, hf⟩ := h
  exact ⟨F, ht.up k, hu.trans k (fun _ _ h => h), hf⟩
theorem At.out {w0 w : World} {t : Nat} {s : T} (h : At w0 w t s) : Upd (fun _ => False) w0 w := by obtain ⟨F, _, hu, _⟩ := h; exact hu
def NewAt (w0 : World) (t : Nat) (s : T) (l : List Int) (e : Ending) (w' : World) : Prop := ∃ A c G, e = .returned (.slice A l.length c) ∧ OI w' (.slice A l.length c) l G ∧ (∀ g, G = some g → w0.heap.size ≤ g) ∧ At w0 w' t s ∧ l.length ≤ c
theorem At.news {w0 w : World} {t : Nat} {s : T} {l : List Int} {f : FuncId} {args : Array Value} (h : At w0 w t s) (hc : ∀ F, TB w t F s → Calls Tryz.prog f args w (NewI l w)) : Calls Tryz.prog f args w (NewAt w0 t s l) := by
  have hh := h
  obtain ⟨F, ht, hu, hf⟩ := h
  refine (hc F ht).mono fun e w' ⟨A, c, G, he, ho, hg, hk⟩ => ⟨A, c, G, he, ho, fun g e => Nat.le_trans hu.size (hg g e), hh.up hk, ?_⟩
  obtain ⟨A', c', hv, h1, _⟩ := OI.slice ho
  injection hv with e1 e2 e3
  rw [e3]
  exact h1
end Go.Proofs.YteepkanbiefpjaaGreatDoor.Fl
set_option linter.unusedVariables false
set_option linter.unusedSimpArgs false
namespace Go.Proofs.YteepkanbiefpjaaGreatDoor.Fl
open Go.RowKit K
end Go.Proofs.YteepkanbiefpjaaGreatDoor.Fl
set_option linter.unusedVariables false
set_option linter.unusedSimpArgs false
namespace Go.Proofs.YteepkanbiefpjaaGreatDoor.Fl
open Go.RowKit K
theorem rget_del_other (R : List (Int × Int)) (x y : Int) (h : y ≠ x) : rget (rdel R x) y = rget R y := by
  induction R with
  | nil => rfl
  | cons p R ih =>
    unfold rdel rget at *
    by_cases e : p.1 = x
    · rw [List.filter_cons_of_neg (by simpa using e), List.find?_cons_of_neg (by rw [e]; simpa using Ne.symm h)]
      exact ih
    · rw [List.filter_cons_of_pos (by simpa using e)]
      by_cases e2 : p.1 = y
      · rw [List.find?_cons_of_pos (by simpa using e2), List.find?_cons_of_pos (by simpa using e2)]
      · rw [List.find?_cons_of_neg (by simpa using e2), List.find?_cons_of_neg (by simpa using e2)]
        exact ih
theorem rget_put_other (R : List (Int × Int)) (x y r : Int) (h : y ≠ x) : rget (rput R x r) y = rget R y := by
  have h1 : ∀ R : List (Int × Int), rget (rins (x, r) R) y = rget R y := by
    intro R
    induction R with
    | nil => simp [rins, rget, Ne.symm h]
    | cons p R ih =>
      simp only [rins]
      split
      · unfold rget
        rw [List.find?_cons_of_neg (by simpa using Ne.symm h)]
      · unfold rget at ih ⊢
        by_cases e : p.1 = y
        · rw [List.find?_cons_of_pos (by simpa using e), List.find?_cons_of_pos (by simpa using e)]
        · rw [List.find?_cons_of_neg (by simpa using e), List.find?_cons_of_neg (by simpa using e)]
          exact ih
  unfold rput
  rw [h1]
  exact rget_del_other R x y h
theorem rdel_length (R : List (Int × Int)) (x : Int) : (rdel R x).length ≤ R.length := List.length_filter_le _ _
theorem rins_length (p : Int × Int) : ∀ R, (rins p R).length = R.length + 1
  | [] => rfl
  | y :: r => by
    simp only [rins]
    split
    · rfl
    · simp [rins_length p r]
theorem rput_length (R : List (Int × Int)) (x r : Int) : (rput R x r).length ≤ R.length + 1 := by
  unfold rput
  rw [rins_length]
  have := rdel_length R x
  omega
end Go.Proofs.YteepkanbiefpjaaGreatDoor.Fl
set_option linter.unusedVariables false
set_option linter.unusedSimpArgs false
namespace Go.Proofs.YteepkanbiefpjaaGreatDoor.Fl
open Go.RowKit K
def Wr (R : List (Int × Int)) (q : Int) : Prop := ∃ r, rget R q = some r ∧ r ≠ 0
structure G (s : T) (n : Nat) (x : Int) : Prop where
  lease : 1 ≤ s.lease ∧ s.lease ≤ 1000
  left : 0 ≤ s.left ∧ s.left ≤ s.lease
  ids : ∀ p ∈ s.roles, 1 ≤ p.1 ∧ p.1 ≤ 9223372036854775807
  hold : s.holder ≠ 0 → s.holder ≠ x → Wr s.roles s.holder
  hpos : 0 ≤ s.holder ∧ s.holder ≤ 9223372036854775807
  free : s.holder = 0 → s.queue = [] ∧ s.left = 0
  busy : s.holder ≠ 0 → 1 ≤ s.left
  wait : ∀ q ∈ s.queue, q ≠ x → Wr s.roles q
  qpos : ∀ q ∈ s.queue, 1 ≤ q ∧ q ≤ 9223372036854775807
  nodup : s.queue.Nodup
  apart : s.holder ∉ s.queue
  lens : s.queue.length ≤ n ∧ s.roles.length ≤ n
theorem rget_mem {R : List (Int × Int)} {x r : Int} (h : rget R x = some r) : (x, r) ∈ R := by
  unfold rget at h
  obtain ⟨p, hp, rfl⟩ := Option.map_eq_some_iff.1 h
  have h1 := List.find?_some hp
  have h2 := List.mem_of_find?_eq_some hp
  simp only [decide_eq_true_eq] at h1
  subst h1
  exact h2
theorem Wr.pos {s : T} {n : Nat} {x q : Int} (h : G s n x) (hw : Wr s.roles q) : 1 ≤ q ∧ q ≤ 9223372036854775807 := by
  obtain ⟨r, hr, _⟩ := hw
  exact h.ids _ (rget_mem hr)
theorem rget_put_same (R : List (Int × Int)) (x r : Int) : rget (rput R x r) x = some r := by
  have h0 : rget (rdel R x) x = none := by
    unfold rget
    rw [Option.map_eq_none_iff, List.find?_eq_none]
    intro p hp
    have := (List.mem_filter.1 hp).2
    simpa using this
  have h1 : ∀ R : List (Int × Int), rget R x = none → rget (rins (x, r) R) x = some r := by
    intro R
    induction R with
    | nil => intro _; simp [rins, rget]
    | cons p R ih =>
      intro h
      unfold rget at h
      rw [Option.map_eq_none_iff, List.find?_cons] at h
      simp only [rins]
      split
      · simp [rget]
      · split at h
        · cases h
        · rename_i hp
          unfold rget at ih ⊢
          rw [List.find?_cons, hp]
          exact ih (by rw [h]; rfl)
  exact h1 _ h0
theorem rput_mem {R : List (Int × Int)} {x r : Int} {p : Int × Int} (h : p ∈ rput R x r) : p = (x, r) ∨ p ∈ R := by
  have h1 : ∀ R : List (Int × Int), p ∈ rins (x, r) R → p = (x, r) ∨ p ∈ R := by
    intro R
    induction R with
    | nil => intro h; simp [rins] at h; exact .inl h
    | cons y R ih =>
      intro h
      simp only [rins] at h
      split at h
      · rcases List.mem_cons.1 h with e | h
        · exact .inl e
        · exact .inr h
      · rcases List.mem_cons.1 h with e | h
        · exact .inr (by rw [e]; simp)
        · rcases ih h with e | h
          · exact .inl e
          · exact .inr (List.mem_cons_of_mem _ h)
  rcases h1 _ h with e | h
  · exact .inl e
  · exact .inr (List.mem_filter.1 h).1
theorem G.mono {s : T} {n m : Nat} {x : Int} (h : G s n x) (hm : n ≤ m) : G s m x := { h with lens := ⟨Nat.le_trans h.lens.1 hm, Nat.le_trans h.lens.2 hm⟩ }
theorem G.weak {s : T} {n : Nat} (h : G s n 0) (x : Int) : G s n x := { h with
  hold := fun h1 _ => h.hold h1 h1
  wait := fun q hq _ => h.wait q hq (by have := h.qpos q hq; omega) }
theorem G.grant {s : T} {n : Nat} {x id : Int} (h : G s n x) (hx : x = 0 ∨ x = id ∨ x ∉ s.queue) (hid : Wr s.roles id) (hl : (s.queue.filter fun y => !(y == id)).length ≤ n) : G (grant s id) n 0 := by
  have hp := Wr.pos h hid
  have hlz := h.lease
  refine ⟨h.lease, ⟨by show 0 ≤ s.lease; omega, by show s.lease ≤ s.lease; omega⟩, h.ids, fun _ _ => hid, ⟨by show 0 ≤ id; omega, hp.2⟩, fun e => ?_, fun _ => by show 1 ≤ s.lease; omega, fun q hq _ => ?_, fun q hq => h.qpos q (List.mem_filter.1 hq).1, h.nodup.filter _, fun hq => ?_, ⟨hl, h.lens.2⟩⟩
  · exact absurd (show id = 0 from e) (by omega)
  · have hq1 := (List.mem_filter.1 hq).1
    have hq2 := (List.mem_filter.1 hq).2
    refine h.wait q hq1 (fun e => ?_)
    have hqp := h.qpos q hq1
    rcases hx with hx | hx | hx
    · omega
    · rw [e, hx] at hq2; simp at hq2
    · exact hx (e ▸ hq1)
  · have := (List.mem_filter.1 hq).2
    exact absurd (show (!(id == id)) = true from this) (by simp)
theorem G.pass {s : T} {n : Nat} {x : Int} (h : G s n x) (hx : x = 0 ∨ x ∉ s.queue) : G (pass s) n 0 := by
  unfold Fl.pass
  cases hq : s.queue with
  | nil => exact ⟨h.lease, ⟨by show (0 : Int) ≤ 0; omega, by show (0 : Int) ≤ s.lease; have := h.lease; omega⟩, h.ids, fun e => absurd rfl e, ⟨by show (0 : Int) ≤ 0; omega, by show (0 : Int) ≤ _; omega⟩, fun _ => ⟨hq, rfl⟩, fun e => absurd rfl e, fun q h' => (by rw [show (zero s).queue = [] from hq] at h'; cases h'), h.qpos, h.nodup, (by rw [show (zero s).queue = [] from hq]; simp), h.lens⟩
  | cons q r =>
    have hmem : q ∈ s.queue := by rw [hq]; simp
    have hw : Wr s.roles q := h.wait q hmem (fun e => by
      rcases hx with hx | hx
      · have := h.qpos q hmem; omega
      · exact hx (e ▸ hmem))
    have hp := Wr.pos h hw
    refine ⟨h.lease, ⟨by show 0 ≤ s.lease; have := h.lease; omega, by show s.lease ≤ s.lease; omega⟩, h.ids, fun _ _ => hw, ⟨by show 0 ≤ q; omega, hp.2⟩, fun e => absurd (show q = 0 from e) (by omega), fun _ => by show 1 ≤ s.lease; have := h.lease; omega, fun y hy _ => ?_, fun y hy => h.qpos y (List.mem_filter.1 hy).1, h.nodup.filter _, fun hy => ?_, ⟨Nat.le_trans (List.length_filter_le _ _) h.lens.1, h.lens.2⟩⟩
    · have hy1 := (List.mem_filter.1 hy).1
      refine h.wait y hy1 (fun e => ?_)
      rcases hx with hx | hx
      · have := h.qpos y hy1; omega
      · exact hx (e ▸ hy1)
    · have := (List.mem_filter.1 hy).2
      exact absurd (show (!(q == q)) = true from this) (by simp)
theorem G.forget {s : T} {n : Nat} {x : Int} (h : G s n x) (id : Int) : G (forget s id) n x ∧ id ∉ (Fl.forget s id).queue :=
  ⟨{ lease := h.lease, left := h.left, ids := h.ids, hold := h.hold, hpos := h.hpos
     free := fun e => ⟨by show s.queue.filter _ = []; rw [(h.free e).1]; rfl, (h.free e).2⟩
     busy := h.busy
     wait := fun q hq => h.wait q (List.mem_filter.1 hq).1
     qpos := fun q hq => h.qpos q (List.mem_filter.1 hq).1
     nodup := h.nodup.filter _
     apart := fun hq => h.apart (List.mem_filter.1 hq).1
     lens := ⟨Nat.le_trans (List.length_filter_le _ _) h.lens.1, h.lens.2⟩ }, fun hq => by
    have := (List.mem_filter.1 hq).2
    simp at this⟩
theorem pass_holder {s : T} {x : Int} (h1 : x ≠ 0) (h : x ∉ s.queue) : (pass s).holder ≠ x ∧ x ∉ (pass s).queue := by
  unfold pass
  cases hq : s.queue with
  | nil => exact ⟨fun e => h1 e.symm, by rw [show (zero s).queue = [] from hq]; simp⟩
  | cons q r => exact ⟨fun e => h (by rw [hq]; rw [← show q = x from e]; simp), fun hm => h (List.mem_filter.1 hm).1⟩
theorem G.lose {s : T} {n : Nat} {x : Int} (h : G s n x) (hx : 1 ≤ x) : G (lose s x) n 0 ∧ (Fl.lose s x).holder ≠ x ∧ x ∉ (Fl.lose s x).queue := by
  obtain ⟨h1, h2⟩ := h.forget x
  unfold Fl.lose
  split
  · obtain ⟨h3, h4⟩ := pass_holder (s := Fl.forget s x) (x := x) (by omega) h2
    exact ⟨h1.pass (.inr h2), h3, h4⟩
  · rename_i hne
    refine ⟨{ h1 with hold := fun a _ => h1.hold a hne, wait := fun q hq _ => h1.wait q hq (fun e => h2 (e ▸ hq)) }, hne, h2⟩
theorem G.roled {s : T} {n : Nat} {x : Int} (h : G s n 0) (h1 : s.holder ≠ x) (h2 : x ∉ s.queue) (R : List (Int × Int)) (hR : ∀ y, y ≠ x → rget R y = rget s.roles y) (hids : ∀ p ∈ R, 1 ≤ p.1 ∧ p.1 ≤ 9223372036854775807) (hl : R.length ≤ n) : G { s with roles := R } n 0 :=
  { h with
    ids := hids
    hold := fun a b => by
      obtain ⟨r, hr, h0⟩ := h.hold a b
      exact ⟨r, by rw [← hr]; exact hR _ h1, h0⟩
    wait := fun q hq b => by
      obtain ⟨r, hr, h0⟩ := h.wait q hq b
      exact ⟨r, by rw [← hr]; exact hR _ (fun e => h2 (e ▸ hq)), h0⟩
    lens := ⟨h.lens.1, hl⟩ }
theorem G.join {s : T} {n : Nat} (h : G s n 0) (id r : Int) (hid : id ≤ 9223372036854775807) : G (join s id r) (n + 1) 0 := by
  unfold Fl.join
  split
  · rename_i hj
    simp only [joins, Bool.and_eq_true, decide_eq_true_eq, Bool.not_eq_true', Option.isSome_eq_false_iff, Option.isNone_iff_eq_none] at hj
    obtain ⟨hn, h1, h2, h3⟩ := hj
    have hne : ∀ q, Wr s.roles q → q ≠ id := fun q hw e => by
      obtain ⟨r, hr, _⟩ := hw
      rw [e, hn] at hr
      cases hr
    refine G.roled (x := id) (h.mono (Nat.le_succ n)) ?_ ?_ _ (fun y hy => rget_put_other _ _ _ _ hy) ?_ ?_
    · intro e
      by_cases h0 : s.holder = 0
      · omega
      · exact hne _ (h.hold h0 h0) e
    · intro hq
      exact hne _ (h.wait id hq (by omega)) rfl
    · intro p hp
      rcases rput_mem hp with rfl | hp
      · exact ⟨h1, hid⟩
      · exact h.ids p hp
    · have := rput_length s.roles id r
      have := h.lens.2
      omega
  · exact h.mono (Nat.le_succ n)
theorem G.leave {s : T} {n : Nat} (h : G s n 0) (id : Int) : G (leave s id) n 0 := by
  unfold Fl.leave
  split
  · rename_i hl
    obtain ⟨r, hr⟩ := Option.isSome_iff_exists.1 hl
    have hp := h.ids _ (rget_mem hr)
    obtain ⟨h1, h2, h3⟩ := (h.weak id).lose hp.1
    refine G.roled h1 h2 h3 _ (fun y hy => ?_) (fun p hp => h.ids p (List.mem_filter.1 hp).1) (Nat.le_trans (rdel_length _ _) h.lens.2)
    rw [lose_roles]
    exact rget_del_other _ _ _ hy
  · exact h
theorem G.setRole {s : T} {n : Nat} (h : G s n 0) (id r : Int) : G (setRole s id r) (n + 1) 0 := by
  unfold Fl.setRole
  split
  · rename_i hs
    simp only [sets, Bool.and_eq_true, decide_eq_true_eq] at hs
    obtain ⟨r0, hr0⟩ := Option.isSome_iff_exists.1 hs.1
    have hp := h.ids _ (rget_mem hr0)
    have hids : ∀ p ∈ rput s.roles id r, 1 ≤ p.1 ∧ p.1 ≤ 9223372036854775807 := fun p hp' => by
      rcases rput_mem hp' with rfl | hp'
      · exact hp
      · exact h.ids p hp'
    have hlen : (rput s.roles id r).length ≤ n + 1 := by have := rput_length s.roles id r; have := h.lens.2; omega
    have hw : ∀ q, q ≠ id → Wr s.roles q → Wr (rput s.roles id r) q := fun q hq ⟨x, hx, h0⟩ => ⟨x, by rw [rget_put_other _ _ _ _ hq]; exact hx, h0⟩
    have hG : G { s with roles := rput s.roles id r } (n + 1) id := { h with
      ids := hids
      hold := fun a b => hw _ b (h.hold a a)
      wait := fun q hq b => hw _ b (h.wait q hq (by have := h.qpos q hq; omega))
      lens := ⟨Nat.le_succ_of_le h.lens.1, hlen⟩ }
    split
    · exact (hG.lose hp.1).1
    · rename_i hr
      have hwi : Wr (rput s.roles id r) id := ⟨r, rget_put_same _ _ _, hr⟩
      refine { hG with hold := fun a b => ?_, wait := fun q hq b => ?_ }
      · by_cases e : s.holder = id
        · rw [show ({ s with roles := rput s.roles id r } : T).holder = id from e]; exact hwi
        · exact hG.hold a e
      · by_cases e : q = id
        · rw [e]; exact hwi
        · exact hG.wait q hq e
  · exact h.mono (Nat.le_succ n)
theorem may_zero {s : T} {id : Int} (h : may s id = 0) : Wr s.roles id ∧ s.holder ≠ id := by
  unfold may at h
  split at h
  · cases h
  · rename_i r hr
    split at h
    · cases h
    · split at h
      · cases h
      · rename_i h0 h1
        exact ⟨⟨r, hr, h0⟩, h1⟩
theorem G.ask {s : T} {n : Nat} (h : G s n 0) (id : Int) : G (ask s id) (n + 1) 0 := by
  unfold Fl.ask
  split
  · exact h.mono (Nat.le_succ n)
  · rename_i ha
    have ha : asks s id = 0 := by omega
    unfold asks at ha
    split at ha
    · rename_i hm; exact absurd ha hm
    · rename_i hm
      have hm : may s id = 0 := by omega
      obtain ⟨hw, hh⟩ := may_zero hm
      split at ha
      · cases ha
      · rename_i hc
        have hc : id ∉ s.queue := fun hm => hc (List.contains_iff_mem.2 hm)
        have hp := Wr.pos h hw
        split
        · exact (h.mono (Nat.le_succ n)).grant (.inl rfl) hw (Nat.le_succ_of_le (Nat.le_trans (List.length_filter_le _ _) h.lens.1))
        · rename_i h0
          refine { h with
            free := fun e => absurd e h0
            wait := fun q hq b => ?_
            qpos := fun q hq => ?_
            nodup := ?_
            apart := fun hq => ?_
            lens := ⟨by rw [List.length_append]; simpa using h.lens.1, Nat.le_succ_of_le h.lens.2⟩ }
          · rcases List.mem_append.1 hq with hq | hq
            · exact h.wait q hq b
            · rw [List.mem_singleton.1 hq]; exact hw
          · rcases List.mem_append.1 hq with hq | hq
            · exact h.qpos q hq
            · rw [List.mem_singleton.1 hq]; exact hp
          · rw [List.nodup_append]
            exact ⟨h.nodup, by simp, fun a ha b hb => by rw [List.mem_singleton.1 hb]; exact fun e => hc (e ▸ ha)⟩
          · rcases List.mem_append.1 hq with hq | hq
            · exact h.apart hq
            · exact hh (List.mem_singleton.1 hq)
theorem G.drop {s : T} {n : Nat} (h : G s n 0) (id : Int) : G (drop s id) n 0 := by
  unfold Fl.drop
  split
  · rename_i hd
    unfold drops at hd
    split at hd
    · cases hd
    · rename_i hs
      have hs : (rget s.roles id).isSome = true := by
        cases hh : (rget s.roles id).isSome with
        | true => rfl
        | false => exact absurd hh hs
      obtain ⟨r, hr⟩ := Option.isSome_iff_exists.1 hs
      exact ((h.weak id).lose (h.ids _ (rget_mem hr)).1).1
  · exact h
theorem G.give {s : T} {n : Nat} (h : G s n 0) (id : Int) : G (give s id) n 0 := by
  unfold Fl.give
  split
  · rename_i hm
    exact h.grant (.inl rfl) (may_zero hm).1 (Nat.le_trans (List.length_filter_le _ _) h.lens.1)
  · exact h
theorem G.revoke {s : T} {n : Nat} (h : G s n 0) : G (revoke s) n 0 := by
  unfold Fl.revoke
  split
  · exact h
  · exact h.pass (.inl rfl)
theorem G.tick {s : T} {n : Nat} (h : G s n 0) : G (tick s) n 0 := by
  have hl : ∀ m : Int, 1 ≤ m → m ≤ s.lease → s.holder ≠ 0 → G (lessen s m) n 0 := fun m h1 h2 h0 => { h with left := ⟨by show 0 ≤ m; omega, h2⟩, free := fun e => absurd e h0, busy := fun _ => h1 }
  unfold Fl.tick
  split
  · exact h
  · rename_i h0
    have h1 := h.left
    have h2 := h.lease
    split
    · exact hl _ (by omega) (by omega) h0
    · split
      · exact hl _ (by omega) (by omega) h0
      · exact (hl _ (by omega) (by omega) h0).pass (.inl rfl)
theorem G.new (n : Int) : G (new n) 0 0 := by
  have h1 : 1 ≤ clampLease n ∧ clampLease n ≤ 1000 := by unfold clampLease mx mn; split <;> split <;> omega
  exact ⟨h1, ⟨by show (0 : Int) ≤ 0; omega, by show (0 : Int) ≤ clampLease n; omega⟩, fun p hp => by simp [Fl.new] at hp, fun e => absurd rfl e, ⟨by show (0 : Int) ≤ 0; omega, by show (0 : Int) ≤ _; omega⟩, fun _ => ⟨rfl, rfl⟩, fun e => absurd rfl e, fun q hq => by simp [Fl.new] at hq, fun q hq => by simp [Fl.new] at hq, by simp [Fl.new], by simp [Fl.new], by simp [Fl.new]⟩
end Go.Proofs.YteepkanbiefpjaaGreatDoor.Fl
