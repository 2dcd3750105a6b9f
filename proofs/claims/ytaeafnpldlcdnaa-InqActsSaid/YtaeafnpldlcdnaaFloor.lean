/- Who holds the floor, and who waits (package floor): what each of its functions comes to. -/
import Derived.Test.YtaeafnpldlcdnaaKInts
set_option linter.unusedVariables false
set_option linter.unusedSimpArgs false
namespace Go.Proofs.Ytaeafnpldlcdnaa.Fl
open Go.RowKit K Go.Sort Go.Lib Go.Shelf
/-- A table. -/
structure T where
  lease : Int
  left : Int
  holder : Int
  queue : List Int
  roles : List (Int × Int)
def RI (R : List (Int × Int)) : List Ent := R.map fun p => (p.1, .int .i64 p.2)
def rget (R : List (Int × Int)) (x : Int) : Option Int := (R.find? fun p => decide (p.1 = x)).map (·.2)
def rins (p : Int × Int) : List (Int × Int) → List (Int × Int)
  | [] => [p]
  | y :: r => if p.1 < y.1 then p :: y :: r else y :: rins p r
def rdel (R : List (Int × Int)) (x : Int) : List (Int × Int) := R.filter fun p => !decide (p.1 = x)
def rput (R : List (Int × Int)) (x r : Int) : List (Int × Int) := rins (x, r) (rdel R x)
theorem RI_get (R : List (Int × Int)) (x : Int) : mget (RI R) x = (rget R x).map (Value.int .i64) := by
  unfold mget rget RI
  rw [List.find?_map, Option.map_map, Option.map_map]
  rfl
theorem RI_ins (p : Int × Int) : ∀ R, RI (rins p R) = ins (p.1, .int .i64 p.2) (RI R)
  | [] => rfl
  | y :: r => by
    simp only [RI, List.map_cons, rins, ins]
    split
    · rfl
    · rw [List.map_cons]
      exact congrArg _ (RI_ins p r)
theorem RI_del (R : List (Int × Int)) (x : Int) : RI (rdel R x) = mdel (RI R) x := by
  unfold RI rdel mdel
  rw [List.filter_map]
  rfl
theorem RI_put (R : List (Int × Int)) (x r : Int) : RI (rput R x r) = mput (RI R) x (.int .i64 r) := by
  unfold rput mput
  rw [RI_ins, RI_del]
theorem RI_length (R : List (Int × Int)) : (RI R).length = R.length := by simp [RI]
/-- A table at block t; F: the blocks that are its own. -/
structure TB (w : World) (t : Nat) (F : Nat → Prop) (s : T) : Prop where
  mk ::
  has : ∃ A c G b, w.heap[t]? = some (.cells #[.int .i64 s.lease, .int .i64 s.left, .int .i64 s.holder, .slice A s.queue.length c, .map (some b)] 68 (0, 0)) ∧ OI w (.slice A s.queue.length c) s.queue G ∧ mapV w Try.prog 3 b (RI s.roles) ∧ t ≠ b ∧ some t ≠ G ∧ some b ≠ G ∧ ∀ k, F k ↔ k = t ∨ k = b ∨ some k = G
section
variable {w w1 : World} {t : Nat} {s : T} {F S : Nat → Prop}
theorem TB.upd (h : TB w t F s) (k : Upd S w w1) (hn : ∀ i, F i → ¬ S i) : TB w1 t F s := by
  obtain ⟨A, c, G, b, hb, ho, hm, h1, h2, h3, hF⟩ := h.has
  exact ⟨A, c, G, b, k.blk hb (hn t ((hF t).2 (.inl rfl))), ho.upd k (fun g e => hn g ((hF g).2 (.inr (.inr e.symm)))), hm.upd k (hn b ((hF b).2 (.inr (.inl rfl)))), h1, h2, h3, hF⟩
theorem TB.up (h : TB w t F s) (k : Upd (fun _ => False) w w1) : TB w1 t F s := h.upd k (fun _ _ h => h)
theorem TB.lt (h : TB w t F s) : ∀ k, F k → k < w.heap.size := by
  obtain ⟨A, c, G, b, hb, ho, hm, h1, h2, h3, hF⟩ := h.has
  intro k hk
  rcases (hF k).1 hk with rfl | rfl | e
  · exact blk_lt hb
  · exact hm.lt
  · exact ho.lt k e.symm
end
/-- A call that turns a table. -/
def Turns (v : Value) (s : T) (t : Nat) (F : Nat → Prop) (w : World) (e : Ending) (w' : World) : Prop :=
  e = .returned v ∧ ∃ F', TB w' t F' s ∧ Upd F w w' ∧ ∀ k, F' k → F k ∨ w.heap.size ≤ k
def NewPost (s : T) (w : World) (e : Ending) (w' : World) : Prop := ∃ t F, e = .returned (.pointer (some ⟨t, 0, none⟩)) ∧ TB w' t F s ∧ Upd (fun _ => False) w w' ∧ ∀ k, F k → w.heap.size ≤ k
def clampLease (n : Int) : Int := mx 1 (mn n 1000)
def new (lease : Int) : T := ⟨clampLease lease, 0, 0, [], []⟩
set_option maxHeartbeats 400000 in
theorem new_calls (n : Int) (w : World) : Calls Try.prog 11 #[.int .i64 n] w (NewPost (new n) w) := by
  have hmm := @run_makeMap Try.prog
  obtain ⟨L, hL⟩ : ∃ L, L = clampLease n := ⟨_, rfl⟩
  have hL2 : mx 1 (mn n 1000) = L := by rw [hL]; rfl
  have HL := Asd.mk hL
  clear hL
  go_enter Try.func11, Try.ntmps11
  go_wp2
  go_ret
  have h1 := heap_alloc_new (w.alloc (.map #[] 0)) (.cells #[.int .i64 L, .int .i64 0, .int .i64 0, .slice none 0 0, .map (some w.heap.size)] 68)
  rw [show (w.alloc (.map #[] 0)).heap.size = w.heap.size + 1 by simp] at h1
  refine ⟨w.heap.size + 1, fun k => k = w.heap.size + 1 ∨ k = w.heap.size ∨ some k = none, rfl, ⟨none, 0, none, w.heap.size, ?_, OI.nil _, (mapV.made w _ _).upd ((Upd.refl (fun _ => False) _).alloc _) (fun h => h), by omega, by simp, by simp, fun k => Iff.rfl⟩, ((Upd.refl _ _).alloc _).alloc _, fun k hk => ?_⟩
  · rw [h1]
    simp only [new, ← HL.out, List.length_nil]
  · rcases hk with rfl | rfl | h
    · omega
    · omega
    · cases h
set_option maxHeartbeats 400000 in
theorem is_calls (id x : Int) (B : Nat) (W : World) (hc : W.cell? ⟨B, 0, none⟩ = some (.int .i64 id)) : FnGives Try.prog 59 #[.pointer (some ⟨B, 0, none⟩)] #[.int .i64 x] (.bool (x == id)) W := by
  show Calls Try.prog 59 #[.int .i64 x, .pointer (some ⟨B, 0, none⟩)] W _
  go_enter Try.func59, Try.ntmps59
  go_wp2
  go_ret
  exact ⟨rfl, 0, rfl⟩
def DelPost (l : List Int) (G : Option Nat) (w : World) (e : Ending) (w' : World) : Prop := ∃ A c, e = .returned (.slice A l.length c) ∧ OI w' (.slice A l.length c) l G ∧ Upd (fun i => some i = G) w w'
theorem del_calls {w : World} {A : Option Addr} {c : Nat} {l : List Int} {G : Option Nat} (h : OI w (.slice A l.length c) l G) (hl : l.length ≤ 1000000) (id : Int) (B : Nat) (hB : w.cell? ⟨B, 0, none⟩ = some (.int .i64 id)) (hne : some B ≠ G) :
    Calls Try.prog 58 #[.slice A l.length c, .func (.func 59) #[] #[.pointer (some ⟨B, 0, none⟩)]] w (DelPost (l.filter fun x => !(x == id)) G w) := by
  have eg : ∀ args w, (callFunc 59 args).run Try.prog w = .ok (.enter 59 args) w := enters_of Try.func59 (by kernel_rfl) rfl
  have zi : ∀ w, (zeroValue 3).run Try.prog w = .ok (.int .i64 0) w := fun w => by kernel_rfl
  have hBs : B < w.heap.size := World.block_lt_of_cell? w _ hB
  have hp : PredAt Try.prog 59 #[.pointer (some ⟨B, 0, none⟩)] (Value.int .i64) (fun x => x == id) w := fun W x hb => is_calls id x B W ((hb.cell (p := ⟨B, 0, none⟩) hBs).trans hB)
  rcases h.cells with ⟨rfl, rfl⟩ | ⟨g, o, rfl, rfl, hc⟩
  · clear hp eg zi
    go_enter Try.func58, Try.ntmps58
    go_wp2_with fail
    refine (Try.slices_IndexFunc_empty (α := Int) none c _ w).mono ?_
    rintro e w2 ⟨rfl, rfl⟩
    have H := Asd.mk h
    clear h
    go_wp2
    go_ret
    exact ⟨none, c, rfl, by simpa using H.out, Upd.refl _ _⟩
  · have hlen : l.toArray.size = l.length := by simp
    have hcap : l.length ≤ c := by
      obtain ⟨A', c', hv, h1, _⟩ := OI.slice h
      injection hv with e1 e2 e3
      rw [e3]; exact h1
    have hover : PredOver Try.prog 59 #[.pointer (some ⟨B, 0, none⟩)] (Value.int .i64) (fun x => x == id) g o l.toArray.size w := fun n os dk x _ => is_calls id x B _ (by
      unfold sortWorld
      rw [cell?_grow _ _ _ (by show B < (putRow _ _ _ _ _).heap.size; rw [size_putRow]; exact hBs), cell?_putRow_other _ _ g o _ _ (Or.inl (fun e => hne (by rw [← e])))]
      exact hB)
    have := Try.slices_DeleteFunc (Value.int .i64) (fun _ => rfl) (fun x => x == id) 59 #[.pointer (some ⟨B, 0, none⟩)] eg 0 zi g o c l.toArray w hp hover h.holds (by rw [hlen]; omega) (by rw [hlen]; exact hcap)
    rw [hlen] at this
    refine this.mono fun e w' ⟨he, q, hw⟩ => ?_
    subst hw
    have hfl : (l.filter fun x => !(x == id)).length ≤ l.length := List.length_filter_le _ _
    obtain ⟨h1, h2⟩ := h.put q ((l.filter fun x => !(x == id)) ++ List.replicate (l.length - (l.filter fun x => !(x == id)).length) 0).toArray (by simp; omega)
    refine ⟨some ⟨g, o, none⟩, c, by simpa using he, ?_, h2.mono (fun i hi e => by rw [e])⟩
    have h3 := Own.take h1 (l.filter fun x => !(x == id)).length (by simp)
    unfold OI
    have e4 : (I ((l.filter fun x => !(x == id)) ++ List.replicate (l.length - (l.filter fun x => !(x == id)).length) 0).toArray.toList).take ((l.filter fun x => !(x == id)).length * 1) = I (l.filter fun x => !(x == id)) := by
      rw [← I_take, Nat.mul_one]
      simp
    rw [e4] at h3
    exact h3
section
variable {w : World} {t : Nat} {F : Nat → Prop} {s : T}
/-- What the walk reads of a table. -/
theorem TB.cells (h : TB w t F s) : ∃ A c G b, Asd (w.heap[t]? = some (.cells #[.int .i64 s.lease, .int .i64 s.left, .int .i64 s.holder, .slice A s.queue.length c, .map (some b)] 68 (0, 0))) ∧ Asd (OI w (.slice A s.queue.length c) s.queue G) ∧ Asd (mapV w Try.prog 3 b (RI s.roles)) ∧ Asd (t ≠ b ∧ some t ≠ G ∧ some b ≠ G) ∧ Asd (∀ k, F k ↔ k = t ∨ k = b ∨ some k = G) ∧ t < w.heap.size := by
  obtain ⟨A, c, G, b, hb, ho, hm, h1, h2, h3, hF⟩ := h.has
  exact ⟨A, c, G, b, ⟨hb⟩, ⟨ho⟩, ⟨hm⟩, ⟨h1, h2, h3⟩, ⟨hF⟩, blk_lt hb⟩
set_option maxHeartbeats 400000 in
theorem holder_calls (h : TB w t F s) : Calls Try.prog 15 #[.pointer (some ⟨t, 0, none⟩)] w fun e w' => e = .returned (.int .i64 s.holder) ∧ w = w' := by
  obtain ⟨A, c, G, b, HB, _⟩ := h.cells
  have c2 := keepsC (o := 2) HB.out rfl
  clear h HB
  go_enter Try.func15, Try.ntmps15
  go_wp2
  go_ret
  exact ⟨rfl, rfl⟩
set_option maxHeartbeats 400000 in
theorem left_calls (h : TB w t F s) : Calls Try.prog 21 #[.pointer (some ⟨t, 0, none⟩)] w fun e w' => e = .returned (.int .i64 s.left) ∧ w = w' := by
  obtain ⟨A, c, G, b, HB, _⟩ := h.cells
  have c2 := keepsC (o := 1) HB.out rfl
  clear h HB
  go_enter Try.func21, Try.ntmps21
  go_wp2
  go_ret
  exact ⟨rfl, rfl⟩
set_option maxHeartbeats 400000 in
theorem queue_calls (h : TB w t F s) (hq : s.queue.length ≤ 1000000) : Calls Try.prog 16 #[.pointer (some ⟨t, 0, none⟩)] w (NewI s.queue w) := by
  obtain ⟨A, c, G, b, HB, HO, _⟩ := h.cells
  have c3 := keepsC (o := 3) HB.out rfl
  clear h HB
  go_enter Try.func16, Try.ntmps16
  go_wp2_with fail
  refine (clone_calls HO.out hq).mono ?_
  rintro e w2 ⟨A2, c2, G2, rfl, h1, h2, h3⟩
  have H := Asd.mk (And.intro h1 (And.intro h2 h3))
  clear h1 h2 h3 c3 HO
  go_wp2
  go_ret
  exact ⟨A2, c2, G2, rfl, H.out.1, H.out.2.1, H.out.2.2⟩
def idOk (x : Int) : Prop := -9223372036854775808 ≤ x ∧ x ≤ 9223372036854775807
theorem zrole : ∀ w, (zeroValue 26).run Try.prog w = .ok (.int .i64 0) w := fun w => by kernel_rfl
theorem TB.looks (h : TB w t F s) (x : Int) (hx : idOk x) (b : Nat) (hm : mapV w Try.prog 3 b (RI s.roles)) : ∀ W, Upd (fun _ => False) w W → (Instr.lookup 63 (.map (some b)) (.int .i64 x) true).run Try.prog W = .ok (.tuple #[.int .i64 ((rget s.roles x).getD 0), .bool (rget s.roles x).isSome]) W := fun W k => by
  rw [(hm.upd k (fun h => h)).look Try.underlying3 Try.underlying63 zrole x hx, RI_get]
  cases rget s.roles x <;> rfl
set_option maxHeartbeats 400000 in
theorem role_calls (h : TB w t F s) (x : Int) (hx : idOk x) : Calls Try.prog 23 #[.pointer (some ⟨t, 0, none⟩), .int .i64 x] w fun e w' => e = .returned (.tuple #[.int .i64 ((rget s.roles x).getD 0), .bool (rget s.roles x).isSome]) ∧ w = w' := by
  obtain ⟨A, c, G, b, HB, HO, HM, _⟩ := h.cells
  have c4 := keepsC (o := 4) HB.out rfl
  have hl := h.looks x hx b HM.out
  clear h HB HO HM hx
  go_enter Try.func23, Try.ntmps23
  go_wp2
  go_ret2
  exact ⟨rfl, rfl⟩
def forget (s : T) (id : Int) : T := { s with queue := s.queue.filter fun x => !(x == id) }
set_option maxHeartbeats 1000000 in
theorem forget_calls (h : TB w t F s) (id : Int) (hq : s.queue.length ≤ 1000000) : Calls Try.prog 55 #[.pointer (some ⟨t, 0, none⟩), .int .i64 id] w (Turns (.tuple #[]) (forget s id) t F w) := by
  obtain ⟨A, c, G, b, HB, HO, HM, HN, HF, hts⟩ := h.cells
  have hbl := HM.out.lt
  have c3 := keepsC (o := 3) HB.out rfl
  have hbox := heap_alloc_new w (.cells #[.int .i64 id] 3)
  have HK := (Upd.refl (fun _ => False) w).alloc (.cells #[.int .i64 id] 3)
  obtain ⟨w1, hw1⟩ : ∃ w1, w1 = w.alloc (.cells #[.int .i64 id] 3) := ⟨_, rfl⟩
  rw [← hw1] at hbox HK
  clear h
  go_enter Try.func55, Try.ntmps55
  go_wp2_with fail
  rw [← hw1]
  clear hw1
  refine (clone_calls (HO.out.up HK) hq).mono ?_
  rintro e w2 ⟨A2, c2, G2, rfl, h1, h2, h3⟩
  have HO2 := Asd.mk h1
  have HG2 := Asd.mk h2
  have HK2 := Asd.mk (HK.trans h3 (fun _ _ h => h))
  have hbox2 := h3.blk hbox (fun h => h)
  have hlt : w.heap.size < w1.heap.size := blk_lt hbox
  clear h1 h2 h3 hbox HO c3
  have hw2 := HK
  go_wp2_with fail
  refine (del_calls HO2.out hq id w.heap.size (by simp [World.cell?, hbox2]) (fun e => by have := HG2.out _ e.symm; omega)).mono ?_
  rintro e w3 ⟨A3, c3, rfl, h1, h2⟩
  have HO3 := Asd.mk h1
  have HU3 : Asd (Upd (fun _ => False) w w3) := ⟨HK2.out.trans h2 (fun i hi e => by have := HG2.out _ e.symm; omega)⟩
  have hb3 := HU3.out.blk HB.out (fun h => h)
  have HM3 := Asd.mk (HM.out.upd HU3.out (fun h => h))
  have HB3 := Asd.mk hb3
  have d3 := keepsC (o := 3) hb3 rfl
  have f3 := keepsF (o := 3) hb3
  clear h1 h2 hb3 HB HM hbox2 HK2 hw2 HK HO2
  go_wp2
  go_end0
  have hb4 := blk_setCell (o := 3) HB3.out (.slice A3 (s.queue.filter fun x => !(x == id)).length c3)
  have hk4 : Upd (fun i => i = t) w3 (w3.setCell ⟨t, 3, none⟩ (.slice A3 (s.queue.filter fun x => !(x == id)).length c3)) := Upd.setAt (Upd.refl _ _) (.inl rfl)
  obtain ⟨n1, n2, n3⟩ := HN.out
  have hg : ∀ g, G2 = some g → w.heap.size < g := fun g e => by have := HG2.out g e; omega
  refine ⟨rfl, fun k => k = t ∨ k = b ∨ some k = G2, ⟨⟨A3, c3, G2, b, hb4, HO3.out.upd hk4 (fun g e e2 => by have := hg g e; omega), HM3.out.upd hk4 (fun e => n1 e.symm), n1, fun e => by have := hg _ e.symm; omega, fun e => by have := hg _ e.symm; omega, fun k => Iff.rfl⟩⟩, (HU3.out.mono (fun _ _ h => h.elim)).trans hk4 (fun i hi e => (HF.out i).2 (.inl e)), fun k hk => ?_⟩
  rcases hk with e | e | e
  · exact .inl ((HF.out k).2 (.inl e))
  · exact .inl ((HF.out k).2 (.inr (.inl e)))
  · exact .inr (by have := hg k e.symm; omega)
def tc (s : T) (A : Option Addr) (c b : Nat) : Obj := .cells #[.int .i64 s.lease, .int .i64 s.left, .int .i64 s.holder, .slice A s.queue.length c, .map (some b)] 68 (0, 0)
/-- A table whose numbers are turned. -/
theorem TB.with {w2 : World} {s' : T} (h : TB w t F s) (hu : Upd (fun i => i = t) w w2) (hb : ∀ A c b, w.heap[t]? = some (tc s A c b) → w2.heap[t]? = some (tc s' A c b)) (hq : s'.queue = s.queue) (hr : s'.roles = s.roles) : TB w2 t F s' := by
  obtain ⟨A, c, G, b, h0, ho, hm, h1, h2, h3, hF⟩ := h.has
  have := hb A c b h0
  refine ⟨A, c, G, b, this, ?_, ?_, h1, h2, h3, hF⟩
  · rw [hq]
    exact ho.upd hu (fun g e e2 => h2 (by rw [e, e2]))
  · rw [hr]
    exact hm.upd hu (fun e => h1 e.symm)
theorem Turns.then {w1 w2 : World} {F1 F2 : Nat → Prop} {s' : T} (hu : Upd F w w1) (hf : ∀ k, F1 k → F k ∨ w.heap.size ≤ k) (h2 : TB w2 t F2 s') (hu2 : Upd F1 w1 w2) (hf2 : ∀ k, F2 k → F1 k ∨ w1.heap.size ≤ k) : ∃ F', TB w2 t F' s' ∧ Upd F w w2 ∧ ∀ k, F' k → F k ∨ w.heap.size ≤ k :=
  ⟨F2, h2, hu.trans hu2 (fun i hi h => (hf i h).elim (fun h => h) (fun h => absurd hi (by omega))), fun k hk => (hf2 k hk).elim (fun h => hf k h) (fun h => .inr (Nat.le_trans hu.size h))⟩
theorem Turns.at {w1 w2 : World} {F1 : Nat → Prop} {s' : T} (hu : Upd F w w1) (hf : ∀ k, F1 k → F k ∨ w.heap.size ≤ k) (h2 : TB w2 t F1 s') (hu2 : Upd (fun i => i = t) w1 w2) : ∃ F', TB w2 t F' s' ∧ Upd F w w2 ∧ ∀ k, F' k → F k ∨ w.heap.size ≤ k :=
  Turns.then hu hf h2 (hu2.mono (fun i hi e => by obtain ⟨A, c, G, b, _, _, _, _, _, _, hF⟩ := h2.has; exact (hF i).2 (.inl e))) (fun k h => .inl h)
theorem TB.own (h : TB w t F s) : F t := by obtain ⟨A, c, G, b, _, _, _, _, _, _, hF⟩ := h.has; exact (hF t).2 (.inl rfl)
def grant (s : T) (id : Int) : T := { forget s id with holder := id, left := s.lease }
set_option maxHeartbeats 1000000 in
theorem grant_calls (h : TB w t F s) (id : Int) (hq : s.queue.length ≤ 1000000) : Calls Try.prog 44 #[.pointer (some ⟨t, 0, none⟩), .int .i64 id] w (Turns (.tuple #[]) (grant s id) t F w) := by
  go_enter Try.func44, Try.ntmps44
  go_wp2_with fail
  refine (forget_calls h id hq).mono ?_
  rintro e w1 ⟨rfl, F1, ht, hu, hf⟩
  have HT := Asd.mk ht
  have HU := Asd.mk (And.intro hu hf)
  obtain ⟨A, c, G, b, HB, HO, HM, HN, HF, hts⟩ := ht.cells
  have c0 := keepsC (o := 0) HB.out rfl
  have c1 := keepsC (o := 1) HB.out rfl
  have c2 := keepsC (o := 2) HB.out rfl
  have f0 := fun o => keepsF (o := o) HB.out
  have hle : (forget s id).lease = s.lease := rfl
  rw [hle] at c0
  clear h hu hf ht HB HO HM HN HF hle
  go_wp2
  go_end0
  refine ⟨rfl, Turns.at HU.out.1 HU.out.2 (s' := grant s id) (HT.out.with (s' := grant s id) (by repeat (first | assumption | with_reducible exact Upd.refl _ _ | with_reducible refine Upd.drewN ?_ _ | with_reducible refine Upd.drew ?_ | with_reducible refine Upd.alloc ?_ _ | with_reducible refine Upd.setAt ?_ ?_ | exact Or.inl rfl | exact Or.inr (by simp) | exact Or.inr (by omega))) (fun A c b hb => ?_) rfl rfl) (by repeat (first | assumption | with_reducible exact Upd.refl _ _ | with_reducible refine Upd.drewN ?_ _ | with_reducible refine Upd.drew ?_ | with_reducible refine Upd.alloc ?_ _ | with_reducible refine Upd.setAt ?_ ?_ | exact Or.inl rfl | exact Or.inr (by simp) | exact Or.inr (by omega)))⟩
  have h1 := blk_setCell (o := 1) (blk_setCell (o := 2) hb (.int .i64 id)) (.int .i64 s.lease)
  exact h1
def zero (s : T) : T := { s with holder := 0, left := 0 }
def pass (s : T) : T := match s.queue with
  | [] => zero s
  | q :: _ => grant (zero s) q
set_option maxHeartbeats 1000000 in
theorem pass_calls (h : TB w t F s) (hq : s.queue.length ≤ 1000000) : Calls Try.prog 46 #[.pointer (some ⟨t, 0, none⟩)] w (Turns (.tuple #[]) (pass s) t F w) := by
  obtain ⟨A, c, G, b, HB, HO, HM, HN, HF, hts⟩ := h.cells
  have c0 := keepsC (o := 0) HB.out rfl
  have c1 := keepsC (o := 1) HB.out rfl
  have c2 := keepsC (o := 2) HB.out rfl
  have c3 := keepsC (o := 3) HB.out rfl
  have f0 := fun o => keepsF (o := o) HB.out
  have h1 : TB ((w.setCell ⟨t, 2, none⟩ (.int .i64 0)).setCell ⟨t, 1, none⟩ (.int .i64 0)) t F (zero s) := h.with (s' := zero s) (by repeat (first | assumption | with_reducible exact Upd.refl _ _ | with_reducible refine Upd.drewN ?_ _ | with_reducible refine Upd.drew ?_ | with_reducible refine Upd.alloc ?_ _ | with_reducible refine Upd.setAt ?_ ?_ | exact Or.inl rfl | exact Or.inr (by simp) | exact Or.inr (by omega))) (fun A c b hb => blk_setCell (o := 1) (blk_setCell (o := 2) hb (.int .i64 0)) (.int .i64 0)) rfl rfl
  have H1 := Asd.mk h1
  have HT := Asd.mk h.own
  have hqz : (zero s).queue = s.queue := rfl
  have hz : (zero s).queue.length ≤ 1000000 := hq
  have HZ := Asd.mk hz
  clear h h1 hqz hz
  cases hqs : s.queue with
  | nil =>
    have hp : pass s = zero s := by unfold pass; rw [hqs]
    rw [hp]
    rw [hqs] at c3
    simp only [List.length_nil] at c3
    clear hp hqs hq
    go_enter Try.func46, Try.ntmps46
    go_wp2
    go_end0
    exact ⟨rfl, F, H1.out, (show Upd (fun i => i = t) _ _ from (by repeat (first | assumption | with_reducible exact Upd.refl _ _ | with_reducible refine Upd.drewN ?_ _ | with_reducible refine Upd.drew ?_ | with_reducible refine Upd.alloc ?_ _ | with_reducible refine Upd.setAt ?_ ?_ | exact Or.inl rfl | exact Or.inr (by simp) | exact Or.inr (by omega)))).mono (fun i hi e => by rw [e]; exact HT.out), fun k hk => .inl hk⟩
  | cons q r =>
    have hp : pass s = grant (zero s) q := by unfold pass; rw [hqs]
    rw [hp]
    obtain ⟨ad, rfl, hcell⟩ := HO.out.at 0 (by rw [hqs]; simp)
    have hq0 : s.queue[0]'(by rw [hqs]; simp) = q := by simp [hqs]
    rw [hq0] at hcell
    rw [hqs] at c3
    have hlen : 0 < (q :: r).length := by simp
    have hne : ad.block ≠ t := fun e => HN.out.2.1 (by
      have := Own.slice HO.out
      obtain ⟨A', c', hv, _, _, _, hG⟩ := this
      injection hv with e1
      rw [← e]
      exact (hG ad e1.symm).symm)
    have hcw := fun W (k : Upd (fun i => i = t) w W) => k.cell hcell (by simp only [add_block]; exact hne)
    have hcw2 := hcw ((w.setCell ⟨t, 2, none⟩ (.int .i64 0)).setCell ⟨t, 1, none⟩ (.int .i64 0)) (by repeat (first | assumption | with_reducible exact Upd.refl _ _ | with_reducible refine Upd.drewN ?_ _ | with_reducible refine Upd.drew ?_ | with_reducible refine Upd.alloc ?_ _ | with_reducible refine Upd.setAt ?_ ?_ | exact Or.inl rfl | exact Or.inr (by simp) | exact Or.inr (by omega)))
    obtain ⟨n, hn⟩ : ∃ n, n = (q :: r).length := ⟨_, rfl⟩
    rw [← hn] at c3 hlen
    rw [hqs, ← hn] at hq
    clear hp hqs hq0 hn hcw hne hcell
    rw [show ad.add 0 = ad from rfl] at hcw2
    have hni : (0 : Int) < (n : Int) := by omega
    have HU := Asd.mk ((show Upd (fun i => i = t) w ((w.setCell ⟨t, 2, none⟩ (.int .i64 0)).setCell ⟨t, 1, none⟩ (.int .i64 0)) from (by repeat (first | assumption | with_reducible exact Upd.refl _ _ | with_reducible refine Upd.drewN ?_ _ | with_reducible refine Upd.drew ?_ | with_reducible refine Upd.alloc ?_ _ | with_reducible refine Upd.setAt ?_ ?_ | exact Or.inl rfl | exact Or.inr (by simp) | exact Or.inr (by omega)))).mono (T := F) (fun i hi e => by rw [e]; exact HT.out))
    go_enter Try.func46, Try.ntmps46
    go_wp2_with fail
    refine (grant_calls H1.out q HZ.out).mono ?_
    rintro e w2 ⟨rfl, F2, ht, hu, hf⟩
    have HE := Asd.mk (Turns.then HU.out (fun k h => .inl h) ht hu hf)
    clear ht hu hf
    go_wp2
    go_end0
    exact ⟨rfl, HE.out⟩
theorem forget_len (s : T) (id : Int) (hq : s.queue.length ≤ 1000000) : (forget s id).queue.length ≤ 1000000 := Nat.le_trans (List.length_filter_le _ _) hq
def lose (s : T) (id : Int) : T := if s.holder = id then pass (forget s id) else forget s id
set_option maxHeartbeats 1000000 in
theorem lose_calls (h : TB w t F s) (id : Int) (hq : s.queue.length ≤ 1000000) : Calls Try.prog 47 #[.pointer (some ⟨t, 0, none⟩), .int .i64 id] w (Turns (.tuple #[]) (lose s id) t F w) := by
  go_enter Try.func47, Try.ntmps47
  go_wp2_with fail
  refine (forget_calls h id hq).mono ?_
  rintro e w1 ⟨rfl, F1, ht, hu, hf⟩
  have HT := Asd.mk ht
  have HU := Asd.mk (And.intro hu hf)
  obtain ⟨A, c, G, b, HB, _⟩ := ht.cells
  have c2 := keepsC (o := 2) HB.out rfl
  have hle : (forget s id).holder = s.holder := rfl
  have HL := Asd.mk (forget_len s id hq)
  rw [hle] at c2
  clear h hu hf ht HB hle hq
  by_cases hid : s.holder = id
  · have hp : lose s id = pass (forget s id) := if_pos hid
    have HP := Asd.mk hp
    rw [hid] at c2
    have hb : (id == id) = true := by simp
    clear hp hid
    go_wp2_with fail
    refine (pass_calls HT.out HL.out).mono ?_
    rintro e w2 ⟨rfl, F2, ht, hu, hf⟩
    have HE := Asd.mk (Turns.then HU.out.1 HU.out.2 ht hu hf)
    clear ht hu hf
    go_wp2
    go_end0
    exact ⟨rfl, by rw [HP.out]; exact HE.out⟩
  · have hp : lose s id = forget s id := if_neg hid
    have HP := Asd.mk hp
    have hb : (s.holder == id) = false := beq_eq_false_iff_ne.2 hid
    clear hp hid
    go_wp2
    go_end0
    exact ⟨rfl, by rw [HP.out]; exact ⟨F1, HT.out, HU.out.1, HU.out.2⟩⟩
def joins (s : T) (id r : Int) : Bool := !(rget s.roles id).isSome && (decide (1 ≤ id) && (decide (0 ≤ r) && decide (r ≤ 2)))
def join (s : T) (id r : Int) : T := if joins s id r then { s with roles := rput s.roles id r } else s
/-- A table whose roles are turned. -/
theorem TB.roled {w2 : World} {A : Option Addr} {c b : Nat} {G : Option Nat} {R : List (Int × Int)} (HB : Asd (w.heap[t]? = some (.cells #[.int .i64 s.lease, .int .i64 s.left, .int .i64 s.holder, .slice A s.queue.length c, .map (some b)] 68 (0, 0)))) (HO : Asd (OI w (.slice A s.queue.length c) s.queue G)) (HN : Asd (t ≠ b ∧ some t ≠ G ∧ some b ≠ G)) (HF : Asd (∀ k, F k ↔ k = t ∨ k = b ∨ some k = G)) (hu : Upd (fun i => i = b) w w2) (hm : mapV w2 Try.prog 3 b (RI R)) : TB w2 t F { s with roles := R } :=
  ⟨A, c, G, b, hu.blk HB.out HN.out.1, HO.out.upd hu (fun g e e2 => HN.out.2.2 (by rw [e, e2])), hm, HN.out.1, HN.out.2.1, HN.out.2.2, HF.out⟩
set_option maxHeartbeats 1000000 in
theorem join_calls (h : TB w t F s) (id r : Int) (hid : idOk id) (hr : s.roles.length ≤ 1000000) : Calls Try.prog 12 #[.pointer (some ⟨t, 0, none⟩), .int .i64 id, .int .i64 r] w (Turns (.bool (joins s id r)) (join s id r) t F w) := by
  have HT := Asd.mk h
  obtain ⟨A, c, G, b, HB, HO, HM, HN, HF, hts⟩ := h.cells
  have c4 := keepsC (o := 4) HB.out rfl
  have hl := h.looks id hid b HM.out
  clear h
  have stay : joins s id r = false → Turns (.bool false) (join s id r) t F w (.returned (.bool false)) w := fun e => ⟨rfl, F, by unfold join; rw [e]; exact HT.out, Upd.refl _ _, fun k h => .inl h⟩
  have HS := Asd.mk stay
  clear stay
  obtain ⟨g, hg⟩ : ∃ g, g = rget s.roles id := ⟨_, rfl⟩
  rw [← hg] at hl
  cases hgs : g with
  | some x =>
    have hj : joins s id r = false := by unfold joins; rw [← hg, hgs]; rfl
    have HE := Asd.mk (HS.out hj)
    rw [hj]
    rw [hgs] at hl
    simp only [Option.getD_some, Option.isSome_some] at hl
    clear HS hg hgs hj
    go_enter Try.func12, Try.ntmps12
    go_wp2
    go_ret
    exact HE.out
  | none =>
    have hj : joins s id r = (decide (1 ≤ id) && (decide (0 ≤ r) && decide (r ≤ 2))) := by unfold joins; rw [← hg, hgs]; rfl
    rw [hgs] at hl
    simp only [Option.getD_none, Option.isSome_none] at hl
    clear hg hgs
    by_cases hok : 1 ≤ id ∧ 0 ≤ r ∧ r ≤ 2
    · obtain ⟨h1, h2, h3⟩ := hok
      have hj2 : joins s id r = true := by rw [hj]; simp [h1, h2, h3]
      have hjn : join s id r = { s with roles := rput s.roles id r } := if_pos hj2
      rw [hj2, hjn]
      have n1 : ¬ id < 1 := by omega
      have n2 : ¬ r < 0 := by omega
      have n3 : ¬ 2 < r := by omega
      clear HS hj hj2 hjn h1 h2 h3
      go_enter Try.func12, Try.ntmps12
      go_wp2_with (with_reducible refine stop_mapUpdate 63 _ _ _ rfl ?_)
      refine wp_mapUpdate rfl 63 _ _ _ rfl HM.out Try.underlying3 Try.underlying63 (by rw [RI_length]; simp only [maxLen]; omega) id (.int .i64 r) rfl rfl rfl hid ?_
      intro w1 hm hu
      rw [← RI_put] at hm
      have HE := Asd.mk (And.intro (TB.roled HB HO HN HF hu hm) (hu.mono (T := F) (fun i hi e => by rw [e]; exact (HF.out b).2 (.inr (.inl rfl)))))
      clear hm hu
      go_wp2
      go_ret
      exact ⟨rfl, F, HE.out.1, HE.out.2, fun k h => .inl h⟩
    · have hj2 : joins s id r = false := by
        rw [hj]
        by_cases h1 : 1 ≤ id
        · by_cases h2 : 0 ≤ r
          · have h3 : ¬ r ≤ 2 := fun h3 => hok ⟨h1, h2, h3⟩
            simp [h3]
          · simp [h2]
        · simp [h1]
      have HE := Asd.mk (HS.out hj2)
      rw [hj2]
      clear HS hj hj2
      rcases (by omega : id < 1 ∨ (1 ≤ id ∧ r < 0) ∨ (1 ≤ id ∧ 0 ≤ r ∧ 2 < r)) with h1 | ⟨h1, h2⟩ | ⟨h1, h2, h3⟩
      all_goals
        clear hok
        go_enter Try.func12, Try.ntmps12
        go_wp2
        go_ret
        exact HE.out
theorem forget_roles (s : T) (id : Int) : (forget s id).roles = s.roles := rfl
theorem pass_roles (s : T) : (pass s).roles = s.roles := by unfold pass; split <;> rfl
theorem lose_roles (s : T) (id : Int) : (lose s id).roles = s.roles := by unfold lose; split; rw [pass_roles]; rfl; rfl
theorem pass_len (s : T) (hq : s.queue.length ≤ 1000000) : (pass s).queue.length ≤ 1000000 := by
  unfold pass
  split
  · exact hq
  · exact forget_len (zero s) _ hq
theorem lose_len (s : T) (id : Int) (hq : s.queue.length ≤ 1000000) : (lose s id).queue.length ≤ 1000000 := by
  unfold lose
  split
  · exact pass_len _ (forget_len s id hq)
  · exact forget_len s id hq
def leaves (s : T) (id : Int) : Bool := (rget s.roles id).isSome
def leave (s : T) (id : Int) : T := if leaves s id then { lose s id with roles := rdel s.roles id } else s
set_option maxHeartbeats 1000000 in
theorem leave_calls (h : TB w t F s) (id : Int) (hid : idOk id) (hq : s.queue.length ≤ 1000000) : Calls Try.prog 18 #[.pointer (some ⟨t, 0, none⟩), .int .i64 id] w (Turns (.bool (leaves s id)) (leave s id) t F w) := by
  have HT := Asd.mk h
  obtain ⟨A, c, G, b, HB, HO, HM, HN, HF, hts⟩ := h.cells
  have c4 := keepsC (o := 4) HB.out rfl
  have hl := h.looks id hid b HM.out
  clear h
  cases hgs : rget s.roles id with
  | none =>
    have hv : leaves s id = false := by unfold leaves; rw [hgs]; rfl
    have hl2 : leave s id = s := by unfold leave; rw [hv]; rfl
    rw [hv, hl2]
    rw [hgs] at hl
    simp only [Option.getD_none, Option.isSome_none] at hl
    clear hgs hv hl2 HB HO HM HN HF
    go_enter Try.func18, Try.ntmps18
    go_wp2
    go_ret
    exact ⟨rfl, F, HT.out, Upd.refl _ _, fun k h => .inl h⟩
  | some r =>
    have hv : leaves s id = true := by unfold leaves; rw [hgs]; rfl
    have hl2 : leave s id = { lose s id with roles := rdel s.roles id } := by unfold leave; rw [hv]; rfl
    rw [hv, hl2]
    rw [hgs] at hl
    simp only [Option.getD_some, Option.isSome_some] at hl
    clear hgs hv hl2 HB HO HM HN HF
    go_enter Try.func18, Try.ntmps18
    go_wp2_with fail
    refine (lose_calls HT.out id hq).mono ?_
    rintro e w1 ⟨rfl, F1, ht, hu, hf⟩
    have HU := Asd.mk (And.intro hu hf)
    obtain ⟨A, c, G, b, HB, HO, HM, HN, HF, hts⟩ := ht.cells
    have c4 := keepsC (o := 4) HB.out rfl
    clear hu hf ht hl HT
    go_wp2_with (with_reducible refine stop_delete _ _ 63 3 rfl ?_)
    refine wp_delete rfl 63 _ _ rfl HM.out Try.underlying3 Try.underlying63 id rfl rfl hid ?_
    intro w2 hm hu
    rw [← RI_del, lose_roles] at hm
    have HE := Asd.mk (Turns.then HU.out.1 HU.out.2 (TB.roled HB HO HN HF hu hm) (hu.mono (T := F1) (fun i hi e => by rw [e]; exact (HF.out b).2 (.inr (.inl rfl)))) (fun k h => .inl h))
    clear hm hu
    go_wp2
    go_ret
    exact ⟨rfl, HE.out⟩
def sets (s : T) (id r : Int) : Bool := (rget s.roles id).isSome && (decide (0 ≤ r) && decide (r ≤ 2))
def setRole (s : T) (id r : Int) : T := if sets s id r then (if r = 0 then lose { s with roles := rput s.roles id r } id else { s with roles := rput s.roles id r }) else s
set_option maxHeartbeats 1000000 in
theorem set_calls (h : TB w t F s) (id r : Int) (hid : idOk id) (hq : s.queue.length ≤ 1000000) (hr : s.roles.length ≤ 1000000) : Calls Try.prog 19 #[.pointer (some ⟨t, 0, none⟩), .int .i64 id, .int .i64 r] w (Turns (.bool (sets s id r)) (setRole s id r) t F w) := by
  have HT := Asd.mk h
  obtain ⟨A, c, G, b, HB, HO, HM, HN, HF, hts⟩ := h.cells
  have c4 := keepsC (o := 4) HB.out rfl
  have hl := h.looks id hid b HM.out
  clear h
  have stay : sets s id r = false → Turns (.bool false) (setRole s id r) t F w (.returned (.bool false)) w := fun e => ⟨rfl, F, by unfold setRole; rw [e]; exact HT.out, Upd.refl _ _, fun k h => .inl h⟩
  have HS := Asd.mk stay
  clear stay
  cases hgs : rget s.roles id with
  | none =>
    have hv : sets s id r = false := by unfold sets; rw [hgs]; rfl
    have HE := Asd.mk (HS.out hv)
    rw [hv]
    rw [hgs] at hl
    simp only [Option.getD_none, Option.isSome_none] at hl
    clear hgs hv HB HO HM HN HF HS
    go_enter Try.func19, Try.ntmps19
    go_wp2
    go_ret
    exact HE.out
  | some x =>
    have hj : sets s id r = (decide (0 ≤ r) && decide (r ≤ 2)) := by unfold sets; rw [hgs]; rfl
    rw [hgs] at hl
    simp only [Option.getD_some, Option.isSome_some] at hl
    clear hgs
    by_cases hok : 0 ≤ r ∧ r ≤ 2
    · obtain ⟨h2, h3⟩ := hok
      have hj2 : sets s id r = true := by rw [hj]; simp [h2, h3]
      rw [hj2]
      have n2 : ¬ r < 0 := by omega
      have n3 : ¬ 2 < r := by omega
      have HJ := Asd.mk (show setRole s id r = if r = 0 then lose { s with roles := rput s.roles id r } id else { s with roles := rput s.roles id r } from if_pos hj2)
      clear HS hj hj2 h2 h3
      go_enter Try.func19, Try.ntmps19
      go_wp2_with (with_reducible refine stop_mapUpdate 63 _ _ _ rfl ?_)
      refine wp_mapUpdate rfl 63 _ _ _ rfl HM.out Try.underlying3 Try.underlying63 (by rw [RI_length]; simp only [maxLen]; omega) id (.int .i64 r) rfl rfl rfl hid ?_
      intro w1 hm hu
      rw [← RI_put] at hm
      have H1 := Asd.mk (TB.roled HB HO HN HF hu hm)
      have H2 := Asd.mk (hu.mono (T := F) (fun i hi e => by rw [e]; exact (HF.out b).2 (.inr (.inl rfl))))
      clear hm hu
      by_cases h0 : r = 0
      · subst h0
        go_wp2_with fail
        refine (lose_calls H1.out id hq).mono ?_
        rintro e w2 ⟨rfl, F2, ht, hu, hf⟩
        have HE := Asd.mk (Turns.then H2.out (fun k h => .inl h) ht hu hf)
        clear ht hu hf
        go_wp2
        go_ret
        exact ⟨rfl, by rw [HJ.out]; simpa using HE.out⟩
      · have hb0 : (r == 0) = false := beq_eq_false_iff_ne.2 h0
        have HJ2 := Asd.mk (HJ.out.trans (if_neg h0))
        clear h0
        go_wp2
        go_ret
        exact ⟨rfl, by rw [HJ2.out]; exact ⟨F, H1.out, H2.out, fun k h => .inl h⟩⟩
    · have hj2 : sets s id r = false := by
        rw [hj]
        by_cases h2 : 0 ≤ r
        · have h3 : ¬ r ≤ 2 := fun h3 => hok ⟨h2, h3⟩
          simp [h3]
        · simp [h2]
      have HE := Asd.mk (HS.out hj2)
      rw [hj2]
      clear HS hj hj2
      rcases (by omega : r < 0 ∨ (0 ≤ r ∧ 2 < r)) with h1 | ⟨h1, h2⟩
      all_goals
        clear hok
        go_enter Try.func19, Try.ntmps19
        go_wp2
        go_ret
        exact HE.out
def may (s : T) (id : Int) : Int := match rget s.roles id with
  | none => 2
  | some r => if r = 0 then 4 else if s.holder = id then 3 else 0
set_option maxHeartbeats 1000000 in
theorem may_calls (h : TB w t F s) (id : Int) (hid : idOk id) : Calls Try.prog 42 #[.pointer (some ⟨t, 0, none⟩), .int .i64 id] w fun e w' => e = .returned (.int .i64 (may s id)) ∧ w = w' := by
  obtain ⟨A, c, G, b, HB, HO, HM, HN, HF, hts⟩ := h.cells
  have c4 := keepsC (o := 4) HB.out rfl
  have c2 := keepsC (o := 2) HB.out rfl
  have hl := h.looks id hid b HM.out
  clear h HB HO HM HN HF
  cases hgs : rget s.roles id with
  | none =>
    have hv : may s id = 2 := by unfold may; rw [hgs]
    rw [hv]
    rw [hgs] at hl
    simp only [Option.getD_none, Option.isSome_none] at hl
    clear hgs hv
    go_enter Try.func42, Try.ntmps42
    go_wp2
    go_ret
    exact ⟨rfl, rfl⟩
  | some r =>
    have hv : may s id = if r = 0 then 4 else if s.holder = id then 3 else 0 := by unfold may; rw [hgs]
    rw [hv]
    rw [hgs] at hl
    simp only [Option.getD_some, Option.isSome_some] at hl
    clear hgs hv
    by_cases h0 : r = 0
    · subst h0
      rw [if_pos rfl]
      go_enter Try.func42, Try.ntmps42
      go_wp2
      go_ret
      exact ⟨rfl, rfl⟩
    · rw [if_neg h0]
      have hb0 : (r == 0) = false := beq_eq_false_iff_ne.2 h0
      by_cases h1 : s.holder = id
      · rw [if_pos h1]
        have hb1 : (s.holder == id) = true := beq_iff_eq.2 h1
        clear h0 h1
        go_enter Try.func42, Try.ntmps42
        go_wp2
        go_ret
        exact ⟨rfl, rfl⟩
      · rw [if_neg h1]
        have hb1 : (s.holder == id) = false := beq_eq_false_iff_ne.2 h1
        clear h0 h1
        go_enter Try.func42, Try.ntmps42
        go_wp2
        go_ret
        exact ⟨rfl, rfl⟩
def asks (s : T) (id : Int) : Int := if may s id ≠ 0 then may s id else if s.queue.contains id then 3 else 0
def ask (s : T) (id : Int) : T := if asks s id ≠ 0 then s else if s.holder = 0 then grant s id else { s with queue := s.queue ++ [id] }
set_option maxHeartbeats 1000000 in
theorem ask_calls (h : TB w t F s) (id : Int) (hid : idOk id) (hq : s.queue.length ≤ 1000000) : Calls Try.prog 13 #[.pointer (some ⟨t, 0, none⟩), .int .i64 id] w (Turns (.int .i64 (asks s id)) (ask s id) t F w) := by
  have HT := Asd.mk h
  obtain ⟨A, c, G, b, HB, HO, HM, HN, HF, hts⟩ := h.cells
  have c2 := keepsC (o := 2) HB.out rfl
  have c3 := keepsC (o := 3) HB.out rfl
  have f3 := fun o => keepsF (o := o) HB.out
  have hbl := HM.out.lt
  clear h
  obtain ⟨e0, he0⟩ : ∃ e0, e0 = may s id := ⟨_, rfl⟩
  have HM0 := Asd.mk he0
  have hA : asks s id = if e0 ≠ 0 then e0 else if s.queue.contains id then 3 else 0 := by unfold asks; rw [← he0]
  clear he0
  by_cases hne : e0 = 0
  · subst hne
    rw [if_neg (by simp)] at hA
    cases hct : s.queue.contains id with
    | true =>
      rw [hct, if_pos rfl] at hA
      have hk : ask s id = s := by unfold ask; rw [hA]; rfl
      have HCT := Asd.mk hct
      rw [hA, hk]
      clear hA hk hct
      go_enter Try.func13, Try.ntmps13
      go_wp2_with fail
      refine (may_calls HT.out id hid).mono ?_
      rw [← HM0.out]
      rintro e w1 ⟨rfl, rfl⟩
      go_wp2_with fail
      refine (contains_calls HO.out hq id).mono ?_
      rw [HCT.out]
      rintro e w1 ⟨rfl, rfl⟩
      go_wp2
      go_ret
      exact ⟨rfl, F, HT.out, Upd.refl _ _, fun k h => .inl h⟩
    | false =>
      rw [hct, if_neg (by simp)] at hA
      have hk : ask s id = if s.holder = 0 then grant s id else { s with queue := s.queue ++ [id] } := by unfold ask; rw [hA]; rfl
      have HCT := Asd.mk hct
      rw [hA, hk]
      clear hA hk hct
      by_cases hh : s.holder = 0
      · rw [if_pos hh]
        rw [hh] at c2
        have hhb : ((0 : Int) == 0) = true := rfl
        clear hh
        go_enter Try.func13, Try.ntmps13
        go_wp2_with fail
        refine (may_calls HT.out id hid).mono ?_
        rw [← HM0.out]
        rintro e w1 ⟨rfl, rfl⟩
        go_wp2_with fail
        refine (contains_calls HO.out hq id).mono ?_
        rw [HCT.out]
        rintro e w1 ⟨rfl, rfl⟩
        go_wp2_with fail
        refine (grant_calls HT.out id hq).mono ?_
        rintro e w2 ⟨rfl, hE⟩
        have HE := Asd.mk hE
        clear hE
        go_wp2
        go_ret
        exact ⟨rfl, HE.out⟩
      · rw [if_neg hh]
        have hhb : (s.holder == 0) = false := beq_eq_false_iff_ne.2 hh
        clear hh
        go_enter Try.func13, Try.ntmps13
        go_wp2_with fail
        refine (may_calls HT.out id hid).mono ?_
        rw [← HM0.out]
        rintro e w1 ⟨rfl, rfl⟩
        go_wp2_with fail
        refine (contains_calls HO.out hq id).mono ?_
        rw [HCT.out]
        rintro e w1 ⟨rfl, rfl⟩
        go_wp2_with fail
        refine (clone_calls HO.out hq).mono ?_
        rintro e w2 ⟨A2, cc2, G2, rfl, h1, h2, h3⟩
        have HO2 := Asd.mk (h1.up ((Upd.refl (fun _ => False) _).alloc (.cells #[.int .i64 id] 3)))
        have HG2 := Asd.mk h2
        have HK2 := Asd.mk (h3.alloc (.cells #[.int .i64 id] 3))
        have hq2 := Asd.mk hq
        clear h1 h2 h3 hq
        go_wp2_with (with_reducible refine stop_append _ _ _ _ rfl ?_)
        refine wp_appendI (S := fun _ => False) (w0 := w) HK2.out rfl _ _ 31 3 rfl Try.underlying31 rfl infoI rfl rfl HO2.out HG2.out (l2 := [id]) (m := 1) (c2 := 1) (Rd1 _ _) rfl (by have := hq2.out; omega) ?_
        intro A5 c5 w5 G5 hO5 hc5 hG5 hU5 _
        obtain ⟨q2, hq2e⟩ : ∃ q2, q2 = s.queue ++ [id] := ⟨_, rfl⟩
        rw [← hq2e] at hO5 hc5
        rw [← hq2e]
        have HQE := Asd.mk hq2e
        clear hq2e
        have hb5 := hU5.blk HB.out (fun h => h)
        have HO5 := Asd.mk hO5
        have HG5 := Asd.mk hG5
        have HU5 := Asd.mk hU5
        have HB5 := Asd.mk hb5
        have HM5 := Asd.mk (HM.out.upd hU5 (fun h => h))
        have f5 := fun o => keepsF (o := o) hb5
        have d3 := keepsC (o := 3) hb5 rfl
        clear hO5 hG5 hU5 hb5 HO2 HK2 HG2 c2 c3 f3
        go_wp2
        go_ret
        have hb6 := blk_setCell (o := 3) HB5.out (.slice A5 q2.length c5)
        have hk6 : Upd (fun i => i = t) w5 (w5.setCell ⟨t, 3, none⟩ (.slice A5 q2.length c5)) := (by repeat (first | assumption | with_reducible exact Upd.refl _ _ | with_reducible refine Upd.drewN ?_ _ | with_reducible refine Upd.drew ?_ | with_reducible refine Upd.alloc ?_ _ | with_reducible refine Upd.setAt ?_ ?_ | exact Or.inl rfl | exact Or.inr (by simp) | exact Or.inr (by omega)))
        have hqe := HQE.out
        rw [← hqe]
        obtain ⟨n1, n2, n3⟩ := HN.out
        refine ⟨rfl, fun k => k = t ∨ k = b ∨ some k = G5, ⟨⟨A5, c5, G5, b, hb6, HO5.out.upd hk6 (fun g e e2 => by have := HG5.out g e; omega), HM5.out.upd hk6 (fun e => n1 e.symm), n1, fun e => by have := HG5.out _ e.symm; omega, fun e => by have := HG5.out _ e.symm; omega, fun k => Iff.rfl⟩⟩, (HU5.out.mono (fun _ _ h => h.elim)).trans hk6 (fun i hi e => (HF.out i).2 (.inl e)), fun k hk => ?_⟩
        rcases hk with e | e | e
        · exact .inl ((HF.out k).2 (.inl e))
        · exact .inl ((HF.out k).2 (.inr (.inl e)))
        · exact .inr (HG5.out k e.symm)
  · rw [if_pos hne] at hA
    have hk : ask s id = s := by unfold ask; rw [hA, if_pos hne]
    rw [hA, hk]
    have hnb : (e0 != 0) = true := bne_iff_ne.2 hne
    clear hA hk hne
    go_enter Try.func13, Try.ntmps13
    go_wp2_with fail
    refine (may_calls HT.out id hid).mono ?_
    rw [← HM0.out]
    rintro e w1 ⟨rfl, rfl⟩
    go_wp2
    go_ret
    exact ⟨rfl, F, HT.out, Upd.refl _ _, fun k h => .inl h⟩
def drops (s : T) (id : Int) : Int := if (rget s.roles id).isSome = false then 2 else if s.holder ≠ id ∧ s.queue.contains id = false then 3 else 0
def drop (s : T) (id : Int) : T := if drops s id = 0 then lose s id else s
set_option maxHeartbeats 1000000 in
theorem drop_calls (h : TB w t F s) (id : Int) (hid : idOk id) (hq : s.queue.length ≤ 1000000) : Calls Try.prog 17 #[.pointer (some ⟨t, 0, none⟩), .int .i64 id] w (Turns (.int .i64 (drops s id)) (drop s id) t F w) := by
  have HT := Asd.mk h
  obtain ⟨A, c, G, b, HB, HO, HM, HN, HF, hts⟩ := h.cells
  have c4 := keepsC (o := 4) HB.out rfl
  have c2 := keepsC (o := 2) HB.out rfl
  have c3 := keepsC (o := 3) HB.out rfl
  have hl := h.looks id hid b HM.out
  clear h HB HM HN HF
  cases hgs : rget s.roles id with
  | none =>
    have hv : drops s id = 2 := by unfold drops; rw [hgs]; rfl
    have hl2 : drop s id = s := by unfold drop; rw [hv]; rfl
    rw [hv, hl2]
    rw [hgs] at hl
    simp only [Option.getD_none, Option.isSome_none] at hl
    clear hgs hv hl2
    go_enter Try.func17, Try.ntmps17
    go_wp2
    go_ret
    exact ⟨rfl, F, HT.out, Upd.refl _ _, fun k h => .inl h⟩
  | some r =>
    have hv : drops s id = if s.holder ≠ id ∧ s.queue.contains id = false then 3 else 0 := by unfold drops; rw [hgs]; rfl
    rw [hgs] at hl
    simp only [Option.getD_some, Option.isSome_some] at hl
    clear hgs
    by_cases hh : s.holder = id
    · rw [if_neg (fun h => h.1 hh)] at hv
      have hl2 : drop s id = lose s id := by unfold drop; rw [hv]; rfl
      rw [hv, hl2]
      have hhb : (s.holder != id) = false := by rw [hh]; simp
      clear hv hl2 hh
      go_enter Try.func17, Try.ntmps17
      go_wp2_with fail
      refine (lose_calls HT.out id hq).mono ?_
      rintro e w2 ⟨rfl, hE⟩
      have HE := Asd.mk hE
      clear hE
      go_wp2
      go_ret
      exact ⟨rfl, HE.out⟩
    · have hhb : (s.holder != id) = true := bne_iff_ne.2 hh
      cases hct : s.queue.contains id with
      | false =>
        rw [if_pos ⟨hh, hct⟩] at hv
        have hl2 : drop s id = s := by unfold drop; rw [hv]; rfl
        rw [hv, hl2]
        have HCT := Asd.mk hct
        clear hv hl2 hh hct
        go_enter Try.func17, Try.ntmps17
        go_wp2_with fail
        refine (contains_calls HO.out hq id).mono ?_
        rw [HCT.out]
        rintro e w1 ⟨rfl, rfl⟩
        go_wp2
        go_ret
        exact ⟨rfl, F, HT.out, Upd.refl _ _, fun k h => .inl h⟩
      | true =>
        rw [if_neg (fun h => by rw [hct] at h; cases h.2)] at hv
        have hl2 : drop s id = lose s id := by unfold drop; rw [hv]; rfl
        rw [hv, hl2]
        have HCT := Asd.mk hct
        clear hv hl2 hh hct
        go_enter Try.func17, Try.ntmps17
        go_wp2_with fail
        refine (contains_calls HO.out hq id).mono ?_
        rw [HCT.out]
        rintro e w1 ⟨rfl, rfl⟩
        go_wp2_with fail
        refine (lose_calls HT.out id hq).mono ?_
        rintro e w2 ⟨rfl, hE⟩
        have HE := Asd.mk hE
        clear hE
        go_wp2
        go_ret
        exact ⟨rfl, HE.out⟩
def give (s : T) (id : Int) : T := if may s id = 0 then grant s id else s
set_option maxHeartbeats 1000000 in
theorem give_calls (h : TB w t F s) (id : Int) (hid : idOk id) (hq : s.queue.length ≤ 1000000) : Calls Try.prog 22 #[.pointer (some ⟨t, 0, none⟩), .int .i64 id] w (Turns (.int .i64 (may s id)) (give s id) t F w) := by
  obtain ⟨e0, he0⟩ : ∃ e0, e0 = may s id := ⟨_, rfl⟩
  have HM0 := Asd.mk he0
  have hg : give s id = if e0 = 0 then grant s id else s := by unfold give; rw [← he0]
  rw [← he0]
  clear he0
  have HT := Asd.mk h
  clear h
  by_cases hne : e0 = 0
  · subst hne
    rw [hg, if_pos rfl]
    go_enter Try.func22, Try.ntmps22
    clear hg
    go_wp2_with fail
    refine (may_calls HT.out id hid).mono ?_
    rw [← HM0.out]
    rintro e w1 ⟨rfl, rfl⟩
    go_wp2_with fail
    refine (grant_calls HT.out id hq).mono ?_
    rintro e w2 ⟨rfl, hE⟩
    have HE := Asd.mk hE
    clear hE
    go_wp2
    go_ret
    exact ⟨rfl, HE.out⟩
  · rw [hg, if_neg hne]
    have hnb : (e0 != 0) = true := bne_iff_ne.2 hne
    clear hg hne
    go_enter Try.func22, Try.ntmps22
    go_wp2_with fail
    refine (may_calls HT.out id hid).mono ?_
    rw [← HM0.out]
    rintro e w1 ⟨rfl, rfl⟩
    go_wp2
    go_ret
    exact ⟨rfl, F, HT.out, Upd.refl _ _, fun k h => .inl h⟩
def revokes (s : T) : Int := if s.holder = 0 then 3 else 0
def revoke (s : T) : T := if s.holder = 0 then s else pass s
set_option maxHeartbeats 1000000 in
theorem revoke_calls (h : TB w t F s) (hq : s.queue.length ≤ 1000000) : Calls Try.prog 20 #[.pointer (some ⟨t, 0, none⟩)] w (Turns (.int .i64 (revokes s)) (revoke s) t F w) := by
  have HT := Asd.mk h
  obtain ⟨A, c, G, b, HB, _⟩ := h.cells
  have c2 := keepsC (o := 2) HB.out rfl
  clear h HB
  unfold revokes revoke
  by_cases hh : s.holder = 0
  · rw [if_pos hh, if_pos hh]
    rw [hh] at c2
    clear hh
    go_enter Try.func20, Try.ntmps20
    go_wp2
    go_ret
    exact ⟨rfl, F, HT.out, Upd.refl _ _, fun k h => .inl h⟩
  · rw [if_neg hh, if_neg hh]
    have hhb : (s.holder == 0) = false := beq_eq_false_iff_ne.2 hh
    clear hh
    go_enter Try.func20, Try.ntmps20
    go_wp2_with fail
    refine (pass_calls HT.out hq).mono ?_
    rintro e w2 ⟨rfl, hE⟩
    have HE := Asd.mk hE
    clear hE
    go_wp2
    go_ret
    exact ⟨rfl, HE.out⟩
def lessen (s : T) (n : Int) : T := { s with left := n }
def tick (s : T) : T := if s.holder = 0 then s else if 1 < s.left then lessen s (s.left - 1) else if s.queue = [] then lessen s s.lease else pass (lessen s s.lease)
set_option maxHeartbeats 2000000 in
theorem tick_calls (h : TB w t F s) (hq : s.queue.length ≤ 1000000) (hl : -1000 ≤ s.left ∧ s.left ≤ 1000000) : Calls Try.prog 14 #[.pointer (some ⟨t, 0, none⟩)] w (Turns (.tuple #[]) (tick s) t F w) := by
  have HT := Asd.mk h
  obtain ⟨A, c, G, b, HB, _⟩ := h.cells
  have c0 := keepsC (o := 0) HB.out rfl
  have c1 := keepsC (o := 1) HB.out rfl
  have c2 := keepsC (o := 2) HB.out rfl
  have c3 := keepsC (o := 3) HB.out rfl
  have ff := fun o => keepsF (o := o) HB.out
  have HFT := Asd.mk h.own
  clear h
  have hK : ∀ n : Int, TB (w.setCell ⟨t, 1, none⟩ (.int .i64 n)) t F (lessen s n) := fun n => HT.out.with (s' := lessen s n) (by repeat (first | assumption | with_reducible exact Upd.refl _ _ | with_reducible refine Upd.drewN ?_ _ | with_reducible refine Upd.drew ?_ | with_reducible refine Upd.alloc ?_ _ | with_reducible refine Upd.setAt ?_ ?_ | exact Or.inl rfl | exact Or.inr (by simp) | exact Or.inr (by omega))) (fun A c b hb => blk_setCell (o := 1) hb (.int .i64 n)) rfl rfl
  have hK2 : ∀ n m : Int, TB ((w.setCell ⟨t, 1, none⟩ (.int .i64 n)).setCell ⟨t, 1, none⟩ (.int .i64 m)) t F (lessen s m) := fun n m => (hK n).with (s' := lessen s m) (by repeat (first | assumption | with_reducible exact Upd.refl _ _ | with_reducible refine Upd.drewN ?_ _ | with_reducible refine Upd.drew ?_ | with_reducible refine Upd.alloc ?_ _ | with_reducible refine Upd.setAt ?_ ?_ | exact Or.inl rfl | exact Or.inr (by simp) | exact Or.inr (by omega))) (fun A c b hb => blk_setCell (o := 1) hb (.int .i64 m)) rfl rfl
  have hU : ∀ n m : Int, Upd F w ((w.setCell ⟨t, 1, none⟩ (.int .i64 n)).setCell ⟨t, 1, none⟩ (.int .i64 m)) := fun n m => (show Upd (fun i => i = t) _ _ from (by repeat (first | assumption | with_reducible exact Upd.refl _ _ | with_reducible refine Upd.drewN ?_ _ | with_reducible refine Upd.drew ?_ | with_reducible refine Upd.alloc ?_ _ | with_reducible refine Upd.setAt ?_ ?_ | exact Or.inl rfl | exact Or.inr (by simp) | exact Or.inr (by omega)))).mono (fun i hi e => by rw [e]; exact HFT.out)
  have hU1 : ∀ n : Int, Upd F w (w.setCell ⟨t, 1, none⟩ (.int .i64 n)) := fun n => (show Upd (fun i => i = t) _ _ from (by repeat (first | assumption | with_reducible exact Upd.refl _ _ | with_reducible refine Upd.drewN ?_ _ | with_reducible refine Upd.drew ?_ | with_reducible refine Upd.alloc ?_ _ | with_reducible refine Upd.setAt ?_ ?_ | exact Or.inl rfl | exact Or.inr (by simp) | exact Or.inr (by omega)))).mono (fun i hi e => by rw [e]; exact HFT.out)
  have HK := Asd.mk hK
  have HK2 := Asd.mk hK2
  have HU := Asd.mk hU
  have HU1 := Asd.mk hU1
  clear hK hK2 hU hU1 HB
  by_cases hh : s.holder = 0
  · have hp : tick s = s := if_pos hh
    rw [hp]
    rw [hh] at c2
    clear hp hh
    go_enter Try.func14, Try.ntmps14
    go_wp2
    go_end0
    exact ⟨rfl, F, HT.out, Upd.refl _ _, fun k h => .inl h⟩
  · have hp : tick s = if 1 < s.left then lessen s (s.left - 1) else if s.queue = [] then lessen s s.lease else pass (lessen s s.lease) := if_neg hh
    have hhb : (s.holder == 0) = false := beq_eq_false_iff_ne.2 hh
    rw [hp]
    clear hp hh
    by_cases h1 : 1 < s.left
    · rw [if_pos h1]
      have h1b : (0 : Int) < s.left - 1 := by omega
      go_enter Try.func14, Try.ntmps14
      go_wp2
      go_end0
      exact ⟨rfl, F, HK.out _, HU1.out _, fun k h => .inl h⟩
    · rw [if_neg h1]
      have h1b : ¬ ((0 : Int) < s.left - 1) := by omega
      by_cases hqe : s.queue = []
      · rw [if_pos hqe]
        rw [hqe] at c3
        simp only [List.length_nil] at c3
        clear hqe hq
        go_enter Try.func14, Try.ntmps14
        go_wp2
        go_end0
        exact ⟨rfl, F, HK2.out _ _, HU.out _ _, fun k h => .inl h⟩
      · rw [if_neg hqe]
        have hql : 0 < s.queue.length := Nat.pos_of_ne_zero (fun e => hqe (List.eq_nil_of_length_eq_zero e))
        have hqi : (0 : Int) < (s.queue.length : Int) := by omega
        clear hqe
        go_enter Try.func14, Try.ntmps14
        go_wp2_with fail
        refine (pass_calls (HK2.out (s.left - 1) s.lease) hq).mono ?_
        rintro e w2 ⟨rfl, F2, ht, hu, hf⟩
        have HE := Asd.mk (Turns.then (HU.out (s.left - 1) s.lease) (fun k h => .inl h) ht hu hf)
        clear ht hu hf
        go_wp2
        go_end0
        exact ⟨rfl, HE.out⟩
end
end Go.Proofs.Ytaeafnpldlcdnaa.Fl
