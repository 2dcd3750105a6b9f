/- What these laws lean on, part YCatches: contracts of the given program's functions and plain lists. No condition. -/
import Derived.Test.YteepkanbiefpjaaGreatDoorVp
import Derived.Test.YteepkanbiefpjaaGreatDoorVa
set_option linter.unusedVariables false
set_option linter.unusedSimpArgs false
namespace Go.Proofs.YteepkanbiefpjaaGreatDoor.Bk
open Go.RowKit K
open MgRow (M mC Ms)
def oneC (s : Br) (id : Int) (c : Cn) : Br := { s with cs := [(id, c)] }
theorem get_one {s : Br} {id : Int} {c : Cn} (h : s.cs = [(id, c)]) : get s id = some c := by
  unfold get cget
  rw [h]
  simp
theorem set_one {s : Br} {id : Int} {c : Cn} (h : s.cs = [(id, c)]) (c' : Cn) : set s id c' = oneC s id c' := by
  unfold set cset oneC
  rw [h]
  simp
def dataM (D : List M) : Prop := ∀ m ∈ D, rightM m = true ∧ m.k = 6
def texts (D : List M) : List UInt8 := D.flatMap (·.t)
def stopped (s : Br) (c : Cn) (a : Nat) : Prop := (s.log.drop a).take (Vw.roomOf (s.cf.queue - c.out.length - 200) s.cf.data).toNat = []
theorem pump_one (id : Int) : ∀ (f : Nat) {s : Br} {c : Cn} {a g : Nat}, s.cs = [(id, c)] → c.st = 1 → c.vw = some (a, g) → a ≤ s.log.length → s.log.length ≤ 1000000 → s.log.length - Rg.roomN s.cf.log ≤ a → s.log.length - a + 1 ≤ f →
    ∃ c' a' D, pumpN id f s = oneC s id c' ∧ c'.st = 1 ∧ c'.vw = some (a', g) ∧ c'.idle = c.idle ∧ a ≤ a' ∧ a' ≤ s.log.length ∧ dataM D ∧ c'.out = c.out ++ D.flatMap mb ∧ texts D = (s.log.drop a).take (a' - a) ∧ 12 * (s.log.length - a') + c'.out.length ≤ 12 * (s.log.length - a) + c.out.length ∧ stopped s c' a'
  | 0, s, c, a, g, _, _, _, _, _, _, hf => by omega
  | f + 1, s, c, a, g, hcs, h1, hv, ha, hl, hb, hf => by
    have hg := get_one hcs
    obtain ⟨d, hd⟩ : ∃ d, d = (s.log.drop a).take (Vw.roomOf (s.cf.queue - c.out.length - 200) s.cf.data).toNat := ⟨_, rfl⟩
    by_cases h0 : d = []
    · have hno : nextOf s c a g = ⟨⟨0, 0, 0, []⟩, false, a, g⟩ := by
        unfold nextOf Vw.next
        rw [if_neg (by omega), ← hd, if_pos h0]
      rw [pump_stop f hg h1 hv (by rw [hno]), hno, set_one hcs]
      refine ⟨cVw c (a, g), a, [], rfl, h1, rfl, rfl, Nat.le_refl _, ha, fun m hm => (by cases hm), by simp [cVw], by simp [texts], Nat.le_refl _, ?_⟩
      unfold stopped
      show (s.log.drop a).take (Vw.roomOf (s.cf.queue - c.out.length - 200) s.cf.data).toNat = []
      rw [← hd]; exact h0
    · have hno : nextOf s c a g = ⟨⟨6, (a : Int), 0, d⟩, true, a + d.length, g⟩ := by
        unfold nextOf Vw.next
        rw [if_neg (by omega), ← hd, if_neg h0]
      have hd0 : 0 < d.length := List.length_pos_iff.2 h0
      have hdl : d.length ≤ (Vw.roomOf (s.cf.queue - c.out.length - 200) s.cf.data).toNat ∧ d.length ≤ s.log.length - a := by
        rw [hd, List.length_take, List.length_drop]; omega
      have hro : Vw.roomOf (s.cf.queue - c.out.length - 200) s.cf.data ≤ 2042 ∧ Vw.roomOf (s.cf.queue - c.out.length - 200) s.cf.data ≤ mx (s.cf.queue - c.out.length - 200) 0 - 11 := by
        unfold Vw.roomOf mn
        constructor
        · split <;> omega
        · (repeat' split) <;> omega
      have hmx : mx (s.cf.queue - c.out.length - 200) 0 = s.cf.queue - c.out.length - 200 := by
        unfold mx at hro ⊢
        split
        · rename_i hx0
          rw [if_pos hx0] at hro
          omega
        · rfl
      obtain ⟨hr, hml⟩ := mbdata_len a d (by omega) (by omega)
      obtain ⟨c2, hc2⟩ : ∃ c2, c2 = cOut (cVw c (a + d.length, g)) (c.out ++ mb ⟨6, (a : Int), 0, d⟩) := ⟨_, rfl⟩
      have hpm : pumped s id c (nextOf s c a g) = oneC s id c2 := by
        unfold pumped
        rw [hno]
        simp only
        rw [if_neg (show ¬ (6 : Int) = 12 by decide), if_pos (by rw [hml]; omega), set_one hcs, hc2]
      rw [pump_go f hg h1 hv (by rw [hno]), hpm]
      obtain ⟨c', a', D, e1, e2, e3, e4, e5, e6, e7, e8, e9, e10, e11⟩ := pump_one id f (s := oneC s id c2) (c := c2) (a := a + d.length) (g := g) rfl (by rw [hc2]; exact h1) (by rw [hc2]; rfl) (by show a + d.length ≤ s.log.length; omega) hl (by show s.log.length - Rg.roomN s.cf.log ≤ a + d.length; omega) (by show s.log.length - (a + d.length) + 1 ≤ f; omega)
      refine ⟨c', a', ⟨6, (a : Int), 0, d⟩ :: D, by rw [e1]; rfl, e2, e3, by rw [e4, hc2]; rfl, by omega, e6, ?_, ?_, ?_, ?_, e11⟩
      · intro m hm
        rcases List.mem_cons.1 hm with rfl | h
        · exact ⟨hr, rfl⟩
        · exact e7 m h
      · rw [e8, hc2, List.flatMap_cons]
        show (c.out ++ mb ⟨6, (a : Int), 0, d⟩) ++ _ = _
        rw [List.append_assoc]
      · have e9' : texts D = (s.log.drop (a + d.length)).take (a' - (a + d.length)) := e9
        show d ++ texts D = _
        have hdd : d = (s.log.drop a).take d.length := by
          rw [hd, List.length_take, ← List.take_take, List.take_length]
        have h5 : a + d.length ≤ a' := e5
        rw [e9', ← List.drop_drop]
        conv => lhs; lhs; rw [hdd]
        rw [show a' - a = d.length + (a' - (a + d.length)) by omega, List.take_add]
      · have hl2 : c2.out.length = c.out.length + (11 + d.length) := by
          rw [hc2]
          show (c.out ++ mb ⟨6, (a : Int), 0, d⟩).length = _
          rw [List.length_append, hml]
        have e10' : 12 * (s.log.length - a') + c'.out.length ≤ 12 * (s.log.length - (a + d.length)) + c2.out.length := e10
        omega
structure Ca (s : Br) (id : Int) (all got : List UInt8) (hd : List M) : Prop where
  mk ::
  log : s.log = all
  h : s.tab.holder = s.holder
  en : s.ended = false
  cfl : Rg.roomN s.cf.log = 20000
  q : 220 ≤ s.cf.queue ∧ 1 ≤ s.cf.data
  c : ∃ c a D, s.cs = [(id, c)] ∧ c.st = 1 ∧ c.vw = some (a, 0) ∧ a ≤ all.length ∧ dataM D ∧ got ++ c.out = (hd ++ D).flatMap mb ∧ texts D = all.take a ∧ stopped s c a
def caM (s : Br) (id : Int) : Nat := match get s id with
  | some c => match c.vw with
    | some (a, _) => 12 * (s.log.length - a) + c.out.length
    | none => 0
  | none => 0
theorem settle_one {s : Br} {id : Int} {c : Cn} {a : Nat} (hcs : s.cs = [(id, c)]) (h1 : c.st = 1) (hv : c.vw = some (a, 0)) (ha : a ≤ s.log.length) (hl : s.log.length ≤ 1000000) (hb : s.log.length - Rg.roomN s.cf.log ≤ a) (hh : s.tab.holder = s.holder) :
    ∃ c' a' D, settle s = oneC s id c' ∧ c'.st = 1 ∧ c'.vw = some (a', 0) ∧ a ≤ a' ∧ a' ≤ s.log.length ∧ dataM D ∧ c'.out = c.out ++ D.flatMap mb ∧ texts D = (s.log.drop a).take (a' - a) ∧ 12 * (s.log.length - a') + c'.out.length ≤ 12 * (s.log.length - a) + c.out.length ∧ stopped s c' a' := by
  obtain ⟨c', a', D, e1, e2, e3, _, e5, e6, e7, e8, e9, e10, e11⟩ := pump_one id (s.log.length + 2) hcs h1 hv ha hl hb (by omega)
  refine ⟨c', a', D, ?_, e2, e3, e5, e6, e7, e8, e9, e10, e11⟩
  have hp : pump s = pumpN id (s.log.length + 2) s := by
    unfold pump
    have hi : ids s = [id] := by unfold ids; rw [hcs]; rfl
    rw [hi]
    unfold runAll
    rw [List.foldl_cons, List.foldl_nil, if_pos (by unfold openS; rw [get_one hcs]; simp [h1])]
  unfold settle
  rw [turned_same hh, hp, e1]
  have hh2 : (oneC s id c').tab.holder = (oneC s id c').holder := hh
  rw [turned_same hh2, sweep_none]
  intro p hp
  have : p = (id, c') := by simpa [oneC] using hp
  rw [this]
  show c'.st ≠ 2
  omega
theorem dataM_app {D E : List M} (h : dataM D) (k : dataM E) : dataM (D ++ E) := fun m hm => by
  rcases List.mem_append.1 hm with h1 | h1
  · exact h m h1
  · exact k m h1
theorem caM_one {s : Br} {id : Int} {c : Cn} {a : Nat} (hcs : s.cs = [(id, c)]) (hv : c.vw = some (a, 0)) : caM s id = 12 * (s.log.length - a) + c.out.length := by
  unfold caM
  rw [get_one hcs]
  simp only
  rw [hv]
theorem Ca.output {s : Br} {id : Int} {all got : List UInt8} {hd : List M} (h : Ca s id all got hd) (b : List UInt8) (hl : all.length + b.length ≤ 20000) : Ca (output s b).1 id (all ++ b) got hd ∧ caM (output s b).1 id ≤ caM s id + 12 * b.length := by
  obtain ⟨c, a, D, hcs, h1, hv, ha, hD, hg, ht, _⟩ := h.c
  unfold Bk.output
  rw [if_neg (by rw [h.en]; decide)]
  obtain ⟨S1, hS1⟩ : ∃ S1 : Br, S1 = { s with log := s.log ++ b, sp := Sp.put s.cf.width.toNat s.sp b } := ⟨_, rfl⟩
  show Ca (settle { s with log := s.log ++ b, sp := Sp.put s.cf.width.toNat s.sp b }) id (all ++ b) got hd ∧ caM (settle { s with log := s.log ++ b, sp := Sp.put s.cf.width.toNat s.sp b }) id ≤ caM s id + 12 * b.length
  rw [← hS1]
  have hlog : S1.log = all ++ b := by rw [hS1, ← h.log]
  have hlen : S1.log.length = all.length + b.length := by rw [hlog, List.length_append]
  obtain ⟨c', a', D', e1, e2, e3, e5, e6, e7, e8, e9, e10, e11⟩ := settle_one (s := S1) (id := id) (c := c) (a := a) (by rw [hS1]; exact hcs) h1 hv (by omega) (by omega) (by rw [show S1.cf = s.cf by rw [hS1], h.cfl]; omega) (by rw [hS1]; exact h.h)
  have hcm : caM (oneC S1 id c') id ≤ caM s id + 12 * b.length := by
    rw [caM_one hcs hv, caM_one (s := oneC S1 id c') (c := c') (a := a') rfl e3]
    have hll : s.log.length = all.length := by rw [h.log]
    show 12 * (S1.log.length - a') + c'.out.length ≤ _
    omega
  rw [e1]
  refine ⟨?_, hcm⟩
  refine ⟨hlog, by show S1.tab.holder = S1.holder; rw [hS1]; exact h.h, by show S1.ended = false; rw [hS1]; exact h.en, by show Rg.roomN S1.cf.log = 20000; rw [hS1]; exact h.cfl, by show 220 ≤ S1.cf.queue ∧ 1 ≤ S1.cf.data; rw [hS1]; exact h.q, c', a', D ++ D', rfl, e2, e3, by rw [hlen] at e6; rw [List.length_append]; exact e6, dataM_app hD e7, ?_, ?_, e11⟩
  · rw [e8, ← List.append_assoc, hg, ← List.append_assoc, List.flatMap_append (xs := hd ++ D)]
  · show (D ++ D').flatMap (·.t) = _
    rw [List.flatMap_append]
    have e9' : D'.flatMap (·.t) = (S1.log.drop a).take (a' - a) := e9
    have ht' : D.flatMap (·.t) = all.take a := ht
    rw [e9', ht', hlog, show all.take a = (all ++ b).take a by rw [List.take_append_of_le_length ha]]
    rw [show a' = a + (a' - a) by omega, List.take_add]
    simp
theorem Ca.write {s : Br} {id : Int} {all got : List UInt8} {hd : List M} (h : Ca s id all got hd) (hl : all.length ≤ 20000) (x : Int) (hx : 1 ≤ x) :
    Ca (write s id x).1 id all (got ++ (write s id x).2.1) hd ∧ caM (write s id x).1 id + (write s id x).2.1.length ≤ caM s id ∧ ((write s id x).2.1 = [] → ∃ D, dataM D ∧ got = (hd ++ D).flatMap mb ∧ texts D = all) := by
  obtain ⟨c, a, D, hcs, h1, hv, ha, hD, hg, ht, hst⟩ := h.c
  have hgc := get_one hcs
  obtain ⟨k, hk⟩ : ∃ k, k = Oq.takeN x c.out.length := ⟨_, rfl⟩
  have hkl : k ≤ c.out.length ∧ (c.out ≠ [] → 0 < k) := by
    rw [hk]
    unfold Oq.takeN mn mx
    refine ⟨by (repeat' split) <;> omega, fun hne => ?_⟩
    have := List.length_pos_iff.2 hne
    (repeat' split) <;> omega
  have hw : Bk.write s id x = (settle (set s id (cOut c (c.out.drop k))), c.out.take k, 0) := by
    unfold Bk.write
    rw [hgc]
    simp only
    rw [← hk]
  rw [hw]
  simp only
  rw [set_one hcs]
  have hll : s.log.length = all.length := by rw [h.log]
  obtain ⟨c', a', D', e1, e2, e3, e5, e6, e7, e8, e9, e10, e11⟩ := settle_one (s := oneC s id (cOut c (c.out.drop k))) (id := id) (c := cOut c (c.out.drop k)) (a := a) rfl h1 hv (by show a ≤ s.log.length; omega) (by show s.log.length ≤ 1000000; omega) (by show s.log.length - Rg.roomN s.cf.log ≤ a; rw [h.cfl]; omega) h.h
  have e6' : a' ≤ s.log.length := e6
  have e10' : 12 * (s.log.length - a') + c'.out.length ≤ 12 * (s.log.length - a) + (c.out.drop k).length := e10
  rw [e1]
  refine ⟨⟨h.log, h.h, h.en, h.cfl, h.q, c', a', D ++ D', rfl, e2, e3, by omega, dataM_app hD e7, ?_, ?_, e11⟩, ?_, fun h0 => ?_⟩
  · rw [e8]
    show got ++ c.out.take k ++ (c.out.drop k ++ D'.flatMap mb) = _
    rw [← List.append_assoc, List.append_assoc got, List.take_append_drop, hg, ← List.append_assoc, List.flatMap_append (xs := hd ++ D)]
  · show (D ++ D').flatMap (·.t) = _
    rw [List.flatMap_append]
    have e9' : D'.flatMap (·.t) = (s.log.drop a).take (a' - a) := e9
    have ht' : D.flatMap (·.t) = all.take a := ht
    rw [e9', ht', h.log]
    rw [show a' = a + (a' - a) by omega, List.take_add]
    simp
  · rw [caM_one hcs hv]
    rw [caM_one (s := oneC (oneC s id (cOut c (c.out.drop k))) id c') (c := c') (a := a') rfl e3]
    show 12 * (s.log.length - a') + c'.out.length + (c.out.take k).length ≤ _
    rw [List.length_take]
    rw [List.length_drop] at e10'
    omega
  · have hnil : c.out = [] := by
      refine Decidable.byContradiction fun hne => ?_
      have h2 := hkl.2 hne
      have h3 := List.length_pos_iff.2 hne
      have h4 : min k c.out.length = 0 := by have := congrArg List.length h0; rwa [List.length_take] at this
      omega
    have hro : 1 ≤ Vw.roomOf (s.cf.queue - c.out.length - 200) s.cf.data := by
      have h1 := h.q.1
      have h2 := h.q.2
      rw [hnil]
      unfold Vw.roomOf mn mx
      simp only [List.length_nil]
      (repeat' split) <;> omega
    have hal : a = all.length := by
      unfold stopped at hst
      have hz : min (Vw.roomOf (s.cf.queue - c.out.length - 200) s.cf.data).toNat (s.log.length - a) = 0 := by have := congrArg List.length hst; rwa [List.length_take, List.length_drop] at this
      omega
    exact ⟨D, hD, by rw [hnil, List.append_nil] at hg; exact hg, by rw [ht, hal, List.take_length]⟩
theorem msgs_all : ∀ (L : List M), (∀ m ∈ L, rightM m = true) → msgs (L.flatMap mb) = (L, true)
  | [], _ => rfl
  | m :: L, h => by
    rw [List.flatMap_cons, msgs_mb (h m (by simp)), msgs_all L (fun x hx => h x (List.mem_cons_of_mem _ hx))]
def cWel : M := ⟨5, 3, 0, wordOf 2⟩
def cFlo : M := ⟨9, 0, 0, []⟩
def vT : List UInt8 := [118]
theorem c_small : (mb cWel).length = 22 ∧ (mb cFlo).length = 11 ∧ rightM cWel = true ∧ rightM cFlo = true ∧ rightM ⟨1, 5, 0, vT⟩ = true := by decide +kernel
theorem roomN_20 : Rg.roomN 20000 = 20000 := by decide +kernel
theorem Ca.new {cf : Cf} (hr : rightC cf = true) (hl : cf.log = 20000) : Ca (bytes (connect (Bk.new cf) 3).1 3 (helloB vT)).1 3 [] [] [cWel, cFlo] ∧ caM (bytes (connect (Bk.new cf) 3).1 3 (helloB vT)).1 3 ≤ 33 := by
  have hq : 220 ≤ cf.queue ∧ 1 ≤ cf.data := by unfold rightC at hr; simp only [decide_eq_true_eq] at hr; omega
  obtain ⟨n1, n2, n3, n4, n5⟩ := c_small
  obtain ⟨S1, hS1⟩ : ∃ S1, S1 = (connect (Bk.new cf) 3).1 := ⟨_, rfl⟩
  have hcs : S1.cs = [(3, fresh)] := by rw [hS1]; rfl
  have hf : S1.log = [] ∧ S1.cf = cf ∧ S1.ended = false ∧ S1.tab = Fl.new cf.lease ∧ S1.holder = 0 := by rw [hS1]; exact ⟨rfl, rfl, rfl, rfl, rfl⟩
  rw [← hS1]
  have hgf := get_one hcs
  have hset : set S1 3 { fresh with idle := 0 } = oneC S1 3 fresh := set_one hcs _
  have hone : oneC S1 3 fresh = S1 := by unfold oneC; rw [← hcs]
  have htell : ∀ m, tell S1 m = S1 := fun m => by
    unfold tell tellW
    have hi : ids S1 = [3] := by unfold ids; rw [hcs]; rfl
    rw [hi]
    unfold runAll
    rw [List.foldl_cons, List.foldl_nil, if_neg (by unfold openS; rw [hgf]; decide)]
  unfold helloB
  rw [bytes_mb hgf (by decide) rfl rfl n5]
  dsimp only
  rw [hset, hone, recv_hello hgf rfl, hello_is (by decide) (by decide) (c := fresh) (by rw [htell]; exact hgf), htell]
  have hst : ∀ line, Vw.startN S1.log (Rg.roomN S1.cf.log) 0 line = 0 := fun line => by
    have := startN_le S1.log (Rg.roomN S1.cf.log) 0 line
    rw [hf.1] at this ⊢
    simpa using this
  rw [hst, show decide ((5 : Int) % 2 = 1) = true from by decide]
  obtain ⟨C0, hC0⟩ : ∃ C0 : Cn, C0 = { fresh with st := 1, name := vT, vw := some (0, 0) } := ⟨_, rfl⟩
  obtain ⟨S2, hS2⟩ : ∃ S2, S2 = wTab (oneC S1 3 C0) (Fl.join S1.tab 3 2) := ⟨_, rfl⟩
  have hS2c : S2.cs = [(3, C0)] := by rw [hS2]; rfl
  have hS2q : S2.cf = cf := by rw [hS2]; exact hf.2.1
  have hh2 : hello2 S1 3 fresh 0 vT true = oneC S2 3 (cOut C0 (mb cWel ++ mb cFlo)) := by
    unfold hello2
    simp only
    rw [set_one hcs]
    have hro : roleOf (oneC S1 3 { fresh with st := 1, name := vT, vw := some (0, 0) }) true = 2 := by
      unfold roleOf
      have : (oneC S1 3 { fresh with st := 1, name := vT, vw := some (0, 0) }).tab = Fl.new cf.lease := hf.2.2.2.1
      rw [this]
      rfl
    rw [hro]
    have e1 : wTab (oneC S1 3 { fresh with st := 1, name := vT, vw := some (0, 0) }) (Fl.join (oneC S1 3 { fresh with st := 1, name := vT, vw := some (0, 0) }).tab 3 2) = S2 := by rw [hS2, hC0]; rfl
    rw [e1]
    have e2 : send S2 3 ⟨5, 3, ((0 : Nat) : Int), wordOf 2⟩ = oneC S2 3 (cOut C0 (mb cWel)) := by
      have h1 := send_fits (get_one hS2c) (by rw [hC0]; decide) (m := cWel) (by rw [hS2q, n1, hC0]; show ((0 : Nat) : Int) + _ ≤ _; omega)
      rw [set_one hS2c] at h1
      rw [show (⟨5, 3, ((0 : Nat) : Int), wordOf 2⟩ : M) = cWel from rfl, h1, hC0]
      rfl
    rw [e2]
    have e3 : (oneC S2 3 (cOut C0 (mb cWel))).holder = 0 := by rw [hS2]; exact hf.2.2.2.2
    rw [e3]
    have e4 : send (oneC S2 3 (cOut C0 (mb cWel))) 3 ⟨9, 0, 0, []⟩ = oneC S2 3 (cOut C0 (mb cWel ++ mb cFlo)) := by
      have h1 := send_fits (s := oneC S2 3 (cOut C0 (mb cWel))) (id := 3) (c := cOut C0 (mb cWel)) (get_one rfl) (by rw [hC0]; decide) (m := cFlo) (by show ((mb cWel).length : Int) + (mb cFlo).length ≤ S2.cf.queue; rw [hS2q, n1, n2]; omega)
      rw [set_one (s := oneC S2 3 (cOut C0 (mb cWel))) rfl] at h1
      rw [show (⟨9, 0, 0, []⟩ : M) = cFlo from rfl, h1]
      rfl
    rw [e4]
    have e5 : (oneC S2 3 (cOut C0 (mb cWel ++ mb cFlo))).ended = false := by rw [hS2]; exact hf.2.2.1
    rw [if_neg (by rw [e5]; decide)]
  rw [hh2]
  have hjh : (Fl.join (Fl.new cf.lease) 3 2).holder = 0 := by
    unfold Fl.join
    split <;> rfl
  have hhold : (oneC S2 3 (cOut C0 (mb cWel ++ mb cFlo))).tab.holder = (oneC S2 3 (cOut C0 (mb cWel ++ mb cFlo))).holder := by
    rw [hS2]
    show (Fl.join S1.tab 3 2).holder = S1.holder
    rw [hf.2.2.2.1, hf.2.2.2.2, hjh]
  rw [turned_same hhold]
  have hlog2 : (oneC S2 3 (cOut C0 (mb cWel ++ mb cFlo))).log = [] := by rw [hS2]; exact hf.1
  obtain ⟨c', a', D, e1, e2, e3, e5, e6, e7, e8, e9, e10, e11⟩ := settle_one (s := oneC S2 3 (cOut C0 (mb cWel ++ mb cFlo))) (id := 3) (c := cOut C0 (mb cWel ++ mb cFlo)) (a := 0) rfl (by rw [hC0]; rfl) (by rw [hC0]; rfl) (Nat.zero_le _) (by rw [hlog2]; simp) (by rw [hlog2]; simp) hhold
  rw [e1]
  rw [hlog2] at e6 e9
  have hcm : caM (oneC (oneC S2 3 (cOut C0 (mb cWel ++ mb cFlo))) 3 c') 3 ≤ 33 := by
    rw [caM_one (s := oneC (oneC S2 3 (cOut C0 (mb cWel ++ mb cFlo))) 3 c') (c := c') (a := a') rfl e3]
    have e10' : 12 * (S2.log.length - a') + c'.out.length ≤ 12 * (S2.log.length - 0) + (mb cWel ++ mb cFlo).length := e10
    have hl0 : S2.log.length = 0 := by have h : S2.log = [] := hlog2; rw [h]; rfl
    rw [List.length_append] at e10'
    show 12 * (S2.log.length - a') + c'.out.length ≤ 33
    omega
  refine ⟨?_, hcm⟩
  refine ⟨hlog2, hhold, by rw [hS2]; exact hf.2.2.1, ?_, ?_, c', a', D, rfl, e2, e3, e6, e7, ?_, ?_, e11⟩
  · show Rg.roomN S2.cf.log = 20000
    rw [hS2q, hl]; exact roomN_20
  · show 220 ≤ S2.cf.queue ∧ 1 ≤ S2.cf.data
    rw [hS2q]; exact hq
  · rw [e8]
    show [] ++ (mb cWel ++ mb cFlo ++ D.flatMap mb) = _
    simp [List.flatMap_cons]
  · rw [e9]; simp
end Go.Proofs.YteepkanbiefpjaaGreatDoor.Bk
set_option linter.unusedVariables false
set_option linter.unusedSimpArgs false
namespace Go.Proofs.YteepkanbiefpjaaGreatDoor.Bk
open Go.RowKit K
open MgRow (M mC Ms)
def cfC (c : Cf) : Cf := { c with log := 20000, idle := 0 }
theorem cfC_right {c : Cf} (h : rightC c = true) : rightC (cfC c) = true := by
  unfold rightC cfC at *
  simp only [decide_eq_true_eq] at *
  omega
theorem conv_cap (t : List UInt8) : ∃ (kc : World → Nat) (bw : World → World), (∀ W, (convert 9 31 (.string (S t))).run Tryz.prog W = .ok (.slice (some ⟨W.heap.size, 0, none⟩) t.length (kc W)) (bw W)) ∧ (∀ W, Upd (fun _ => False) W (bw W)) ∧ (t.length ≤ 9223372036854775807 → ∀ W, Rd (bw W) (some ⟨W.heap.size, 0, none⟩) t.length t) ∧ (∀ W, t.length ≤ kc W) := by
  refine ⟨fun W => grownCap W (S t).size 0 5, fun W => Lib.bytesWorld W 5 (S t), fun W => ?_, fun W => Or.bytes_upd _ _ _, fun hl W => ⟨rfl, hl, fun j u hj => ⟨_, rfl, ?_⟩⟩, fun W => ?_⟩
  · rw [Lib.run_convert_string_bytes W 9 31 5 (S t) Tryz.underlying9 Tryz.underlying31 Tryz.underlying5, S_size]
  · have hjl : j < t.length := by
      rcases Nat.lt_or_ge j t.length with h | h
      · exact h
      · rw [List.getElem?_eq_none (by rw [B_length]; exact h)] at hj; cases hj
    rw [B_get t j hjl] at hj
    cases hj
    rw [add_lit, Nat.zero_add, Lib.bytesWorld_cell W 5 (S t) j (by rw [S_size]; exact hjl)]
    have : (S t).data.toList = t := by simp [S]
    rw [this]
    simp [List.getD, hjl]
  · have := grownCap_ge W (S t).size 0 5
    rw [S_size] at this ⊢
    exact this
def kindOk (m : M) : Prop := m.k = 5 ∨ m.k = 9 ∨ m.k = 6
theorem texts_take {L : List M} {i : Nat} {m : M} (h : L[i]? = some m) : (L.take (i + 1)).flatMap (fun m => if m.k = 6 then m.t else []) = (L.take i).flatMap (fun m => if m.k = 6 then m.t else []) ++ (if m.k = 6 then m.t else []) := by
  rw [List.take_add_one, h, List.flatMap_append]
  simp
theorem dtexts (D : List M) (h : dataM D) : ([cWel, cFlo] ++ D).flatMap (fun m => if m.k = 6 then m.t else []) = texts D := by
  rw [List.flatMap_append]
  have h1 : [cWel, cFlo].flatMap (fun m => if m.k = 6 then m.t else []) = [] := by decide +kernel
  rw [h1, List.nil_append]
  unfold texts
  induction D with
  | nil => rfl
  | cons x D ih =>
    rw [List.flatMap_cons, List.flatMap_cons, if_pos (h x (by simp)).2, ih (fun m hm => h m (List.mem_cons_of_mem _ hm))]
def dT (m : M) : List UInt8 := if m.k = 6 then m.t else []
theorem pre_len (L : List M) (k : Nat) : ((L.take k).flatMap dT).length ≤ (L.flatMap dT).length := by
  conv => rhs; rw [← List.take_append_drop k L, List.flatMap_append, List.length_append]
  omega
theorem dT_take {L : List M} {i : Nat} {m : M} (h : L[i]? = some m) : (L.take (i + 1)).flatMap dT = (L.take i).flatMap dT ++ dT m := texts_take h
set_option maxHeartbeats 16000000 in
set_option maxRecDepth 100000 in
theorem catches_walk (w : World) (henv : Or.Env w) (c : Cf) {A : Option Addr} {n cp : Nat} {L : List (List UInt8)} (hL : K.Els K.RBytes 1 w A n L) (writes : Int) : Calls Tryz.prog 8 #[.agg (cfV c), .slice A n cp, .int .i64 writes] w fun e w' => e = .returned (.bool true) ∧ Upd (fun _ => False) w w' := by
  have hm := heap_alloc_new w (.cells (cfV c) 26)
  have hk := (Upd.refl (fun _ => False) w).alloc (.cells (cfV c) 26)
  have m0 := keepsC (o := 0) (v := .int .i64 c.log) hm rfl
  have m1 := keepsC (o := 1) (v := .int .i64 c.data) hm rfl
  have m2 := keepsC (o := 2) (v := .int .i64 c.queue) hm rfl
  have m3 := keepsC (o := 3) (v := .int .i64 c.input) hm rfl
  have m4 := keepsC (o := 4) (v := .int .i64 c.strikes) hm rfl
  have m5 := keepsC (o := 5) (v := .int .i64 c.lease) hm rfl
  have m6 := keepsC (o := 6) (v := .int .i64 c.idle) hm rfl
  have m7 := keepsC (o := 7) (v := .int .i64 c.width) hm rfl
  have HMM := Asd.mk hm
  have HB := Asd.mk hk
  have HENV := Asd.mk (env_upd henv hk (fun _ h => h.elim))
  have HEN0 := Asd.mk henv
  have HE := Asd.mk hL
  have HLN := Asd.mk hL.len
  have HHE := Asd.mk (fun w h => head_calls w h)
  have HRI := Asd.mk (fun w => rightL_calls c w)
  unfold cfV at hk HB HENV HRI HMM m0 m1 m2 m3 m4 m5 m6 m7 ⊢
  clear hm hL henv
  by_cases hgo : ¬ 40 < n ∧ rightC c = true
  case neg =>
    obtain ⟨r, hr⟩ : ∃ r, r = rightC c := ⟨_, rfl⟩
    rw [← hr] at hgo HRI
    have h2 : 40 < n ∨ (¬ 40 < n ∧ r = false) := by
      by_cases h : 40 < n
      · exact .inl h
      · refine .inr ⟨h, ?_⟩
        cases r with
        | false => rfl
        | true => exact absurd ⟨h, rfl⟩ hgo
    clear hgo hr
    rcases h2 with h40 | ⟨h40, rfl⟩
    · go_enter Tryz.func8, Tryz.ntmps8
      go_wp2_with fail
      refine (HHE.out _ HENV.out).mono ?_
      rintro e w1 ⟨rfl, hu1⟩
      have HU1 := Asd.mk hu1
      have hs1 := hu1
      clear hu1
      go_wp2
      go_ret
      exact ⟨rfl, HB.out.trans HU1.out (fun _ _ h => h)⟩
    · go_enter Tryz.func8, Tryz.ntmps8
      go_wp2_with fail
      refine (HHE.out _ HENV.out).mono ?_
      rintro e w1 ⟨rfl, hu1⟩
      have HU1 := Asd.mk hu1
      have hs1 := hu1
      clear hu1
      go_wp2_with fail
      refine (HRI.out w1).mono ?_
      rintro e w2 ⟨rfl, hu2⟩
      have hs2 := HU1.out.trans hu2 (fun _ _ h => h)
      have HU2 := Asd.mk hs2
      clear hu2 hs1
      go_wp2
      go_ret
      exact ⟨rfl, HB.out.trans HU2.out (fun _ _ h => h)⟩
  obtain ⟨h40, hright⟩ := hgo
  have HRT := Asd.mk (cfC_right hright)
  rw [hright] at HRI
  have hca := Ca.new (cf := cfC c) HRT.out rfl
  obtain ⟨s0, hs0⟩ : ∃ s, s = new (cfC c) := ⟨_, rfl⟩
  obtain ⟨s1, hs1'⟩ : ∃ s, s = (connect s0 3).1 := ⟨_, rfl⟩
  obtain ⟨s2, hs2'⟩ : ∃ s, s = (bytes s1 3 (helloB vT)).1 := ⟨_, rfl⟩
  rw [← hs0, ← hs1', ← hs2'] at hca
  have HCA := Asd.mk hca
  have a1 := helloB_len vT
  have HG0 : Asd (Gd 0 s0) := ⟨by rw [hs0]; exact Gd.new _ HRT.out⟩
  have HG1 : Asd (Gd 0 s1) := ⟨by rw [hs1']; exact HG0.out.connect _⟩
  have HG2 : Asd (Gd 10000 s2) := ⟨by rw [hs2']; exact (HG1.out.bytes _ _).mono (by omega)⟩
  have HTH := Asd.mk (fun w => helloN_calls vT w)
  have HA1 := Asd.mk a1
  obtain ⟨bH, hbH⟩ : ∃ b, b = helloB vT := ⟨_, rfl⟩
  rw [← hbH] at HTH HA1 hs2'
  have HS0 := Asd.mk hs0
  have HS1 := Asd.mk hs1'
  have HS2 := Asd.mk hs2'
  obtain ⟨wr0, hwr0, hb0⟩ := and_le writes 255 (by omega)
  have hand : Go.bits .and .i64 writes 255 = (wr0 : Int) := hb0
  clear hright hca hs0 hs1' hs2' a1 hbH hb0
  go_enter Tryz.func8, Tryz.ntmps8
  go_wp2_with fail
  refine (HHE.out _ HENV.out).mono ?_
  rintro e w1 ⟨rfl, hu1⟩
  have HU1 := Asd.mk hu1
  have hs1 := hu1
  clear hu1
  go_wp2_with fail
  refine (HRI.out w1).mono ?_
  rintro e w2 ⟨rfl, hu2⟩
  have hs2 := HU1.out.trans hu2 (fun _ _ h => h)
  have HU2 := Asd.mk hs2
  clear hu2 hs1
  have f0 := keepsF (o := 0) HMM.out
  go_upto_region 6 with fail
  have hb2 := hs2.blk HMM.out (fun h => h)
  have hA := (show (w2.setCell ⟨w.heap.size, 0, none⟩ (.int .i64 20000)).heap[w.heap.size]? = some (.cells #[.int .i64 20000, .int .i64 c.data, .int .i64 c.queue, .int .i64 c.input, .int .i64 c.strikes, .int .i64 c.lease, .int .i64 c.idle, .int .i64 c.width] 26 (0, 0)) by rw [blk_setCell hb2]; rfl)
  have kA := (HB.out.trans HU2.out (fun _ _ h => h)).setCell (p := ⟨w.heap.size, 0, none⟩) (fun e => by simp only at e; omega) (.int .i64 20000)
  have HENVA := Asd.mk (env_upd (w1 := w2.setCell ⟨w.heap.size, 0, none⟩ (.int .i64 20000)) HEN0.out kA (fun _ h => h.elim))
  generalize w2.setCell ⟨w.heap.size, 0, none⟩ (.int .i64 20000) = wA at hA kA HENVA ⊢
  have f6 := keepsF (o := 6) hA
  have a6 := keepsC (o := 6) (v := .int .i64 c.idle) hA rfl
  have hsA := Upd.refl (fun _ => False) wA
  clear m0 m1 m2 m3 m4 m5 m6 m7 f0 hs2 hb2
  go_upto_region 7 with fail
  have hBB := (show (wA.setCell ⟨w.heap.size, 6, none⟩ (.int .i64 0)).heap[w.heap.size]? = some (.cells #[.int .i64 20000, .int .i64 c.data, .int .i64 c.queue, .int .i64 c.input, .int .i64 c.strikes, .int .i64 c.lease, .int .i64 0, .int .i64 c.width] 26 (0, 0)) by rw [blk_setCell hA]; rfl)
  have kB := kA.setCell (p := ⟨w.heap.size, 6, none⟩) (fun e => by simp only at e; omega) (.int .i64 0)
  have HENVB := Asd.mk (env_upd (w1 := wA.setCell ⟨w.heap.size, 6, none⟩ (.int .i64 0)) HEN0.out kB (fun _ h => h.elim))
  generalize wA.setCell ⟨w.heap.size, 6, none⟩ (.int .i64 0) = wB at hBB kB HENVB ⊢
  have HKB := Asd.mk kB
  have b0 := keepsC (o := 0) (v := .int .i64 20000) hBB rfl
  have b1 := keepsC (o := 1) (v := .int .i64 c.data) hBB rfl
  have b2 := keepsC (o := 2) (v := .int .i64 c.queue) hBB rfl
  have b3 := keepsC (o := 3) (v := .int .i64 c.input) hBB rfl
  have b4 := keepsC (o := 4) (v := .int .i64 c.strikes) hBB rfl
  have b5 := keepsC (o := 5) (v := .int .i64 c.lease) hBB rfl
  have b6 := keepsC (o := 6) (v := .int .i64 0) hBB rfl
  have b7 := keepsC (o := 7) (v := .int .i64 c.width) hBB rfl
  have hsB := Upd.refl (fun _ => False) wB
  have HNW := Asd.mk (scnew_calls hsB HENVB.out (cfC c) HRT.out)
  rw [← HS0.out] at HNW
  unfold cfV cfC at HNW
  clear f6 a6 hsA hA kA hBB kB HENVA HU2 HMM HB
  go_wp2_with fail
  refine HNW.out.mono ?_
  rintro e v0 ⟨q, F0, rfl, h0, hl0, hu0⟩
  have H0 := Asd.mk h0
  clear h0 hl0 hu0 b0 b1 b2 b3 b4 b5 b6 b7 hsB HNW
  go_wp2_with fail
  refine (H0.out.connect HG0.out 3 (by omega)).mono ?_
  rw [← HS1.out]
  rintro e v1 ⟨rfl, F1, h1, t1⟩
  have H1 := Asd.mk h1
  clear h1 t1
  go_wp2_with fail
  refine (HTH.out v1).mono ?_
  rintro e v2 ⟨A2, c2, G2, rfl, ho, hg, hl, hm, hu⟩
  have H2 := Asd.mk (H1.out.upd hu)
  have P2 := Asd.mk (H1.out.fresh ho hg)
  clear ho hg hl hm hu
  go_wp2_with fail
  refine (H2.out.bytes HG1.out (by omega) 3 (by omega) A2 c2 bH P2.out.rd P2.out.ad (by have := HA1.out; omega)).mono ?_
  rw [← HS2.out]
  rintro e v3 ⟨rfl, F3, h3, t3⟩
  have H3 := Asd.mk h3
  clear h3 t3 P2
  have hwri : (1 : Int) + (wr0 : Int) = ((wr0 + 1 : Nat) : Int) := by omega
  obtain ⟨N, hN⟩ : ∃ N, N = wr0 + 1 := ⟨_, rfl⟩
  have hwN : (1 : Int) + (wr0 : Int) = (N : Int) := by omega
  have hN1 : 1 ≤ N := by omega
  have hN2 : N ≤ 256 := by omega
  clear hwri hN hwr0 HA1 HTH HG0 HG1 HS0 HS1
  go_wp2
  go_loopw [8, 9, 47] (fun v8 v9 v47 wr => ∃ (i : Nat) (s : Br) (F : Nat → Prop) (all got : List UInt8), v8 = .string (S all) ∧ v9 = .string (S got) ∧ v47 = .int .i64 (i : Int) ∧ i ≤ n ∧ all.length ≤ 300 * i ∧ Asd (Sc wB q s wr F) ∧ Asd (Gd (10000 + i * 300) s) ∧ Asd (Ca s 3 all got [cWel, cFlo]) ∧ Asd (got.length + caM s 3 ≤ 33 + 12 * all.length)) (fun _ _ v47 _ => n - (intOf v47).toNat)
  case atStart => exact ⟨0, s2, F3, [], [], rfl, rfl, rfl, Nat.zero_le _, Nat.zero_le _, H3, HG2, ⟨HCA.out.1⟩, ⟨by have := HCA.out.2; simpa using this⟩⟩
  case round =>
    obtain ⟨i, s, F, all, got, rfl, rfl, rfl, hi, hal, HS, HG, HC, HM⟩ := hrel
    have hgl : got.length ≤ 33 + 12 * all.length := by have := HM.out; omega
    have hn40 : n ≤ 40 := by omega
    by_cases hlt : i < n
    case pos =>
      obtain ⟨ad, cs, hae, hcl, hrb, hcc⟩ := HE.out.at_ i hlt
      obtain ⟨Ap, cp2, rfl, hrd, hpc, _, _⟩ := hrb
      obtain rfl := hae
      obtain ⟨pc, hpcx⟩ : ∃ pc, pc = L[i]'(by rw [HLN.out]; exact hlt) := ⟨_, rfl⟩
      rw [← hpcx] at hrd hpc hcc
      have hc0 := hcc 0 _ rfl
      rw [Nat.mul_one, Nat.add_zero] at hc0
      have HWW := Asd.mk (HKB.out.trans HS.out.up (fun _ _ h => h))
      have d0 : ∀ W, Upd (fun _ => False) wr W → W.cell? (ad.add i) = some (.slice Ap pc.length cp2) := fun W k => (HWW.out.trans k (fun _ _ h => h)).cell hc0 (fun h => h)
      have hsr := Upd.refl (fun _ => False) wr
      have HRD := Asd.mk hrd
      clear hcl hcc hc0 hrd hpcx
      by_cases h300 : 300 < pc.length
      case pos =>
        go_wp2
        go_ret
        exact ⟨rfl, HWW.out⟩
      obtain ⟨s5, hs5⟩ : ∃ x, x = (output s pc).1 := ⟨_, rfl⟩
      obtain ⟨s6, hs6⟩ : ∃ x, x = (write s5 3 (N : Int)).1 := ⟨_, rfl⟩
      obtain ⟨tx, htx⟩ : ∃ x, x = (write s5 3 (N : Int)).2.1 := ⟨_, rfl⟩
      obtain ⟨hc5, hm5⟩ := HC.out.output pc (by omega)
      rw [← hs5] at hc5 hm5
      obtain ⟨hc6, hm6, _⟩ := hc5.write (by rw [List.length_append]; omega) (N : Int) (by omega)
      rw [← hs6, ← htx] at hc6 hm6
      have HG5 : Asd (Gd (10000 + (i + 1) * 300) s5) := ⟨by rw [hs5]; exact (HG.out.output pc).mono (by omega)⟩
      have HG6 : Asd (Gd (10000 + (i + 1) * 300) s6) := ⟨by rw [hs6]; exact HG5.out.write _ _⟩
      have HC6 := Asd.mk hc6
      have HM6 : Asd ((got ++ tx).length + caM s6 3 ≤ 33 + 12 * (all ++ pc).length) := ⟨by have := HM.out; rw [List.length_append, List.length_append]; omega⟩
      have HTL : Asd (tx.length ≤ 200000) := ⟨by have := HM.out; omega⟩
      have HOU := Asd.mk (HS.out.output0 HG.out (by omega) Ap cp2 pc (HRD.out.up HWW.out) (fun ad e hp hf => by
        obtain ⟨ad', e', hcx⟩ := HRD.out.at 0 hp
        rw [e] at e'
        cases e'
        have h1 := World.block_lt_of_cell? w _ hcx
        rw [add_block] at h1
        have h2 := HS.out.lo _ hf
        have h3 := HKB.out.size
        omega) (by omega))
      rw [← hs5] at HOU
      generalize (output s pc).2 = zo at HOU
      have HS5 := Asd.mk hs5
      have HS6 := Asd.mk hs6
      have HTX := Asd.mk htx
      have n1 : ¬ 9223372036854775807 < all.length + pc.length := by omega
      have n2 : ¬ 9223372036854775807 < got.length + tx.length := by have := HTL.out; omega
      clear hs5 hs6 htx hc5 hm5 hc6 hm6 HM HC hgl
      go_wp2_with fail
      refine HOU.out.mono ?_
      rintro e v4 ⟨rfl, F4, h4, t4⟩
      have H4 := Asd.mk h4
      have c1 : ∀ W, Upd (fun _ => False) v4 W → (convert 31 9 (.slice Ap pc.length cp2)).run Tryz.prog W = .ok (.string (S pc)) W := fun W k => run_str (P := Tryz.prog) (c := cp2) Tryz.underlying31 Tryz.underlying5 Tryz.underlying9 (HRD.out.up (HKB.out.trans (h4.up.trans k (fun _ _ h => h)) (fun _ _ h => h)))
      have hs4 := Upd.refl (fun _ => False) v4
      clear h4 t4 HOU d0 hsr
      go_wp2_with fail
      refine (H4.out.write HG5.out (by omega) 3 (N : Int) (by omega)).mono ?_
      unfold ScG
      rw [← HS6.out, ← HTX.out]
      rintro e v5 ⟨A5, c5, rfl, F5, h5, t5, p5⟩
      have H5 := Asd.mk h5
      have c2 : ∀ W, Upd (fun _ => False) v5 W → (convert 31 9 (.slice A5 tx.length c5)).run Tryz.prog W = .ok (.string (S tx)) W := fun W k => run_str (P := Tryz.prog) (c := c5) Tryz.underlying31 Tryz.underlying5 Tryz.underlying9 (p5.rd.up k)
      have hs5 := Upd.refl (fun _ => False) v5
      clear h5 t5 p5 c1 hs4
      go_wp2
      go_roundw
      case rel => exact ⟨i + 1, s6, F5, all ++ pc, got ++ tx, rfl, rfl, by go_num, by omega, by rw [List.length_append]; omega, H5, HG6, HC6, HM6⟩
      case measure => simp only [intOf]; omega
    have HAL : Asd (all.length ≤ 12000) := ⟨by omega⟩
    have HKD : Asd (Gd 30000 s) := ⟨HG.out.mono (by omega)⟩
    clear HG hgl
    go_wp2
    go_loopw [9] (fun v9 wr => ∃ (s : Br) (F : Nat → Prop) (got : List UInt8), v9 = .string (S got) ∧ Asd (Sc wB q s wr F) ∧ Asd (Gd 30000 s) ∧ Asd (Ca s 3 all got [cWel, cFlo]) ∧ Asd (got.length + caM s 3 ≤ 33 + 12 * all.length)) (fun v9 _ => 33 + 12 * all.length - (match v9 with | .string b => b.size | _ => 0))
    case atStart => exact ⟨s, F, got, rfl, HS, HKD, HC, HM⟩
    case round =>
      clear HS HKD HC HM
      obtain ⟨s, F, got, rfl, HS, HG, HC, HM⟩ := hrel
      have hgl : got.length ≤ 33 + 12 * all.length := by have := HM.out; omega
      have hal2 := HAL.out
      obtain ⟨s6, hs6⟩ : ∃ x, x = (write s 3 500).1 := ⟨_, rfl⟩
      obtain ⟨tx, htx⟩ : ∃ x, x = (write s 3 500).2.1 := ⟨_, rfl⟩
      obtain ⟨hc6, hm6, hend⟩ := HC.out.write (by omega) 500 (by omega)
      rw [← hs6, ← htx] at hc6 hm6
      rw [← htx] at hend
      have HG6 : Asd (Gd 30000 s6) := ⟨by rw [hs6]; exact HG.out.write _ _⟩
      have HC6 := Asd.mk hc6
      have HM6 : Asd ((got ++ tx).length + caM s6 3 ≤ 33 + 12 * all.length) := ⟨by have := HM.out; rw [List.length_append]; omega⟩
      have htl : got.length + tx.length ≤ 33 + 12 * all.length := by have := HM.out; omega
      have HEND := Asd.mk hend
      have HS6 := Asd.mk hs6
      have HTX := Asd.mk htx
      clear hs6 htx hc6 hm6 hend HM HC
      go_wp2_with fail
      refine (HS.out.write HG.out (by omega) 3 500 (by omega)).mono ?_
      unfold ScG
      rw [← HS6.out, ← HTX.out]
      rintro e v5 ⟨A5, c5, rfl, F5, h5, t5, p5⟩
      have H5 := Asd.mk h5
      have c2 : ∀ W, Upd (fun _ => False) v5 W → (convert 31 9 (.slice A5 tx.length c5)).run Tryz.prog W = .ok (.string (S tx)) W := fun W k => run_str (P := Tryz.prog) (c := c5) Tryz.underlying31 Tryz.underlying5 Tryz.underlying9 (p5.rd.up k)
      have hs5 := Upd.refl (fun _ => False) v5
      clear h5 t5 p5
      by_cases h0 : tx = []
      case neg =>
        have hl0 : 0 < tx.length := List.length_pos_iff.2 h0
        have hb0 : ((tx.length : Int) == 0) = false := beq_eq_false_iff_ne.2 (by omega)
        have n2 : ¬ 9223372036854775807 < got.length + tx.length := by omega
        go_wp2
        go_roundw
        case rel => exact ⟨s6, F5, got ++ tx, rfl, H5, HG6, HC6, HM6⟩
        case measure => simp only [S_size, List.length_append]; omega
      obtain ⟨D, hD, hgD, htD⟩ := HEND.out h0
      subst h0
      simp only [List.length_nil]
      have hrl : ∀ m ∈ [cWel, cFlo] ++ D, rightM m = true := fun m hm => by
        rcases List.mem_append.1 hm with h | h
        · rcases List.mem_cons.1 h with rfl | h
          · exact c_small.2.2.1
          · rw [List.mem_singleton.1 h]; exact c_small.2.2.2.1
        · exact (hD m h).1
      have hko : ∀ m ∈ [cWel, cFlo] ++ D, kindOk m := fun m hm => by
        rcases List.mem_append.1 hm with h | h
        · rcases List.mem_cons.1 h with rfl | h
          · exact .inl rfl
          · rw [List.mem_singleton.1 h]; exact .inr (.inl rfl)
        · exact .inr (.inr (hD m h).2)
      have hms : msgs got = ([cWel, cFlo] ++ D, true) := by rw [hgD]; exact msgs_all _ hrl
      have hdt := dtexts D hD
      rw [htD] at hdt
      obtain ⟨ms, hmsx⟩ : ∃ ms, ms = [cWel, cFlo] ++ D := ⟨_, rfl⟩
      rw [← hmsx] at hko hms hdt
      have hml : ms.length ≤ 200000 := by have h := msgs_le got; rw [hms] at h; simp only at h; omega
      have HMS := Asd.mk hms
      have HKO := Asd.mk hko
      have HDT := Asd.mk hdt
      obtain ⟨kc, bw, hcv, hbu, hbr, hbc⟩ := conv_cap got
      have HGL := Asd.mk hgl
      clear hrl hko hms hdt hD hgD htD hmsx HEND
      have HBR := Asd.mk (hbr (by omega) v5)
      have HBC := Asd.mk (hbc v5)
      have HBU := Asd.mk (hbu v5)
      clear hbr hbc hbu
      go_wp2_with fail
      refine (messages_calls (some ⟨v5.heap.size, 0, none⟩) got.length (kc v5) got (bw v5) HBR.out HBC.out (by have := HGL.out; have := HAL.out; omega)).mono ?_
      rw [HMS.out]
      rintro e v7 ⟨A7, c7, G7, rfl, ho, hg, hu, hl⟩
      have H7 := Asd.mk ((H5.out.upd HBU.out).upd hu)
      obtain ⟨nm, hnm⟩ : ∃ nm, nm = ms.length := ⟨_, rfl⟩
      have HNM := Asd.mk hnm
      have hnml : nm ≤ 200000 := by omega
      have HO : Asd (OwnM v7 A7 c7 ms G7) := ⟨ho⟩
      have hs7 := Upd.refl (fun _ => False) v7
      have HDL : Asd ((ms.flatMap dT) = all) := ⟨HDT.out⟩
      rw [← hnm]
      clear ho hg hu hl hnm hcv c2 hs5 hml HDT
      go_wp2
      go_loopw [18, 92] (fun v18 v92 wr => ∃ k : Nat, v18 = .string (S ((ms.take k).flatMap dT)) ∧ v92 = .int .i64 (k : Int) ∧ k ≤ nm ∧ Asd (Upd (fun _ => False) v7 wr)) (fun _ v92 _ => nm - (intOf v92).toNat)
      case atStart => exact ⟨0, rfl, rfl, Nat.zero_le _, ⟨Upd.refl _ _⟩⟩
      case round =>
        obtain ⟨k, rfl, rfl, hk, HW⟩ := hrel
        by_cases hlt : k < nm
        case pos =>
          obtain ⟨mk, hmk⟩ : ∃ mk, ms[k]? = some mk := ⟨_, List.getElem?_eq_getElem (by rw [← HNM.out]; exact hlt)⟩
          obtain ⟨ad2, rfl, _, z0, z1, z2, z3⟩ := HO.out.cells (by rw [← HNM.out]; omega) hmk
          have hkk := HKO.out mk (List.mem_of_getElem? hmk)
          have y0 : ∀ W, Upd (fun _ => False) wr W → W.cell? (ad2.add (k * 4)) = some (.int .i64 mk.k) := fun W h => (HW.out.trans h (fun _ _ h => h)).cell z0 (fun h => h)
          have y1 : ∀ W, Upd (fun _ => False) wr W → W.cell? ⟨(ad2.add (k * 4)).block, (ad2.add (k * 4)).off + 1, none⟩ = some (.int .i64 mk.a) := fun W h => (HW.out.trans h (fun _ _ h => h)).cell z1 (fun h => h)
          have y2 : ∀ W, Upd (fun _ => False) wr W → W.cell? ⟨(ad2.add (k * 4)).block, (ad2.add (k * 4)).off + 2, none⟩ = some (.int .i64 mk.b) := fun W h => (HW.out.trans h (fun _ _ h => h)).cell z2 (fun h => h)
          have y3 : ∀ W, Upd (fun _ => False) wr W → W.cell? ⟨(ad2.add (k * 4)).block, (ad2.add (k * 4)).off + 3, none⟩ = some (.string (S mk.t)) := fun W h => (HW.out.trans h (fun _ _ h => h)).cell z3 (fun h => h)
          have hsw := Upd.refl (fun _ => False) wr
          have HX := Asd.mk (HW.out.alloc (.cells #[.int .i64 mk.k, .int .i64 mk.a, .int .i64 mk.b, .string (S mk.t)] 36))
          have HTK := Asd.mk (dT_take hmk)
          have hpre := pre_len ms (k + 1)
          rw [HTK.out, HDL.out, List.length_append] at hpre
          obtain ⟨pt, hpt⟩ : ∃ pt, pt = (ms.take k).flatMap dT := ⟨_, rfl⟩
          rw [← hpt] at HTK hpre ⊢
          have e7 : (mk.k == 7) = false := beq_eq_false_iff_ne.2 (by rcases hkk with h | h | h <;> omega)
          have e12 : (mk.k == 12) = false := beq_eq_false_iff_ne.2 (by rcases hkk with h | h | h <;> omega)
          have e13 : (mk.k == 13) = false := beq_eq_false_iff_ne.2 (by rcases hkk with h | h | h <;> omega)
          have hal3 := HAL.out
          clear z0 z1 z2 z3 hmk hpt hkk
          by_cases h6 : mk.k = 6
          case pos =>
            have e6 : (mk.k == 6) = true := beq_iff_eq.2 h6
            have hdt6 : dT mk = mk.t := if_pos h6
            rw [hdt6] at HTK hpre
            have n3 : ¬ 9223372036854775807 < pt.length + mk.t.length := by omega
            clear h6 hdt6
            go_wp2
            go_roundw
            case rel => exact ⟨k + 1, by rw [HTK.out], by go_num, by omega, HX⟩
            case measure => simp only [intOf]; omega
          case neg =>
            have e6 : (mk.k == 6) = false := beq_eq_false_iff_ne.2 h6
            have hdt6 : dT mk = [] := if_neg h6
            rw [hdt6, List.append_nil] at HTK
            clear h6 hdt6
            go_wp2
            go_roundw
            case rel => exact ⟨k + 1, by rw [HTK.out], by go_num, by omega, HX⟩
            case measure => simp only [intOf]; omega
        have htk : (ms.take k).flatMap dT = all := by rw [show k = ms.length by have := HNM.out; omega, List.take_length]; exact HDL.out
        rw [htk]
        clear htk
        go_wp2
        go_ret
        exact ⟨rfl, HKB.out.trans (H7.out.up.trans HW.out (fun _ _ h => h)) (fun _ _ h => h)⟩
theorem catches_row (w : World) (henv : Or.Env w) (cs : Array Value) (x : Int × Int × Int × Int × Int × Int × Int × Int) (h : RCf w cs.toList x) (A : Option Addr) (n cp : Nat) (l : List (List UInt8)) (hl : K.RSlice K.RBytes 1 w [.slice A n cp] l) (writes : Int) (ww : (Lit.int .i64 writes).wf = true) : Calls Tryz.prog 8 #[.agg cs, .slice A n cp, .int .i64 writes] w fun e w' => e = .returned (.bool true) ∧ Upd (fun _ => False) w w' := by
  obtain ⟨c, rfl⟩ := cf_cells h
  obtain ⟨A1, c1, e1, hL, _⟩ := hl
  simp only [List.cons.injEq, Value.slice.injEq, and_true] at e1
  obtain ⟨rfl, rfl, rfl⟩ := e1
  exact catches_walk w henv c hL writes
end Go.Proofs.YteepkanbiefpjaaGreatDoor.Bk
