/- What these laws lean on, part YRoles: contracts of the given program's functions and plain lists. No condition. -/
import Derived.Test.YteepkanbiefpjaaGreatDoorVp
import Derived.Test.YteepkanbiefpjaaGreatDoorVa
set_option linter.unusedVariables false
set_option linter.unusedSimpArgs false
namespace Go.Proofs.YteepkanbiefpjaaGreatDoor.Bk
open Go.RowKit K
open MgRow (M mC Ms)
theorem set_same {s : Br} (hs : (ids s).Pairwise (· < ·)) {id : Int} {c : Cn} (hg : get s id = some c) : set s id c = s := by
  have h := set_upd hs hg (fun c => c)
  rw [h]
  exact upd1_none hs hg rfl
theorem srt_upd {s : Br} (hs : (ids s).Pairwise (· < ·)) (g : Cn → Cn) (P : Int → Bool) : (ids (upd1 g P s)).Pairwise (· < ·) := by rw [upd1_ids]; exact hs
theorem srt_set {s : Br} (hs : (ids s).Pairwise (· < ·)) (id : Int) (c : Cn) : (ids (set s id c)).Pairwise (· < ·) := by rw [ids_set]; exact hs
structure Quiet (s : Br) (k : Nat) : Prop where
  mk ::
  log : s.log = []
  cf : s.cf = dflt
  ended : s.ended = false
  h0 : s.tab.holder = 0
  h1 : s.holder = 0
  all : ∀ id c, get s id = some c → c.st = 1 ∧ c.vw = some (0, 0) ∧ c.out.length ≤ k
def hasOwn (s : Br) : Prop := ∃ j, Fl.rget s.tab.roles j = some 2
theorem roomNd : Rg.roomN dflt.log = 4096 := by decide +kernel
theorem roomD {n : Nat} (hn : n ≤ 1000) : Vw.roomOf (dflt.queue - n - 200) dflt.data = 512 := by
  have h1 : dflt.queue = 2048 := rfl
  have h2 : dflt.data = 512 := rfl
  rw [h1, h2]
  unfold Vw.roomOf mn mx
  repeat' split
  all_goals omega
theorem fits_nil {s : Br} {c : Cn} (hl : s.log = []) (hcf : s.cf = dflt) (hv : c.vw = some (0, 0)) (ho : c.out.length ≤ 1000) : Fits s c := by
  have hr := roomD ho
  refine ⟨0, 0, hv, by rw [hl]; simp, by rw [hl]; simp, ?_, ?_⟩
  · rw [hl]; simp
  · rw [hcf, hr, show dflt.queue = 2048 from rfl]; omega
theorem pumpC_nil {c : Cn} (hv : c.st = 1 → c.vw = some (0, 0)) : pumpC [] c = c := by
  unfold pumpC
  split
  · rename_i h
    rw [hv h]
    simp only [pieceA, List.drop_nil, if_true, List.append_nil, List.length_nil]
    unfold cVw cOut
    rw [← hv h]
  · rfl
theorem upd1_id {s : Br} {g : Cn → Cn} {P : Int → Bool} (h : ∀ p ∈ s.cs, g p.2 = p.2) : upd1 g P s = s := by
  unfold upd1
  have : (s.cs.map fun p => if P p.1 = true then (p.1, g p.2) else p) = s.cs := by
    conv => rhs; rw [← List.map_id s.cs]
    refine List.map_congr_left fun p hp => ?_
    split
    · rw [h p hp]; rfl
    · rfl
  rw [this]
theorem settle_nil {s : Br} (hs : (ids s).Pairwise (· < ·)) (hl : s.log = []) (hcf : s.cf = dflt) (hh : s.tab.holder = s.holder) (h : ∀ id c, get s id = some c → c.st = 1 ∧ c.vw = some (0, 0) ∧ c.out.length ≤ 1000) : settle s = s := by
  have hm : ∀ p ∈ s.cs, p.2.st = 1 ∧ p.2.vw = some (0, 0) ∧ p.2.out.length ≤ 1000 := fun p hp => h p.1 p.2 (cget_mem hs hp)
  rw [settle_fits hs (by rw [hl]; simp) hh (fun id c hg _ => fits_nil hl hcf (h id c hg).2.1 (h id c hg).2.2) (fun p hp => by rw [(hm p hp).1]; decide), hl]
  exact upd1_id fun p hp => pumpC_nil fun _ => (hm p hp).2.1
def uT : List UInt8 := [117]
theorem mb_len' (m : M) : (mb m).length ≤ 5 + 6 * Mg.nums m.k + m.t.length := by
  unfold mb
  split
  · rename_i h
    obtain ⟨k, a, b, hk, _, _, hr, hm⟩ := rightM_is (m := m) h
    have hm2 := hm
    unfold mb at hm2
    rw [if_pos h] at hm2
    rw [hm2, Fr.fbytes_length, MgNum.mbody_length, ← hk]
    omega
  · simp
theorem itoa_len {i : Int} (h : 1 ≤ i ∧ i ≤ 16) : (Lib.itoa i).length ≤ 2 := by
  have hh : ∀ n : Nat, n < 17 → (Lib.itoa (n : Int)).length ≤ 2 := by decide +kernel
  obtain ⟨n, rfl⟩ : ∃ n : Nat, i = (n : Int) := ⟨i.toNat, by omega⟩
  exact hh n (by omega)
theorem note_len {i : Int} (h : 1 ≤ i ∧ i ≤ 16) : (mb (note (joinT i uT))).length ≤ 30 ∧ (mb (note (leftT i))).length ≤ 30 := by
  have h1 := itoa_len h
  have h2 := mb_len' (note (joinT i uT))
  have h3 := mb_len' (note (leftT i))
  have hn : Mg.nums 10 = 0 := by decide
  unfold note joinT leftT uT at *
  simp only [hn, List.length_append, List.length_cons, List.length_nil] at h2 h3
  omega
theorem Quiet.join {n : Nat} {s : Br} {k : Nat} (hd : Gd n s) (h : Quiet s k) (hk : k ≤ 950) {id : Int} (hg : get s id = none) (hid : 1 ≤ id ∧ id ≤ 16) {a : Int} (ha : a = 4 ∨ a = 5) {s2 : Br} (h2 : s2 = (bytes (connect s id).1 id (mb ⟨1, a, 0, uT⟩)).1) :
    Quiet s2 (k + 40) ∧ (∀ j, j ≠ id → Fl.rget s2.tab.roles j = Fl.rget s.tab.roles j) ∧ (∃ r, Fl.rget s2.tab.roles id = some r ∧ (a = 4 → r = 0) ∧ (a = 5 → hasOwn s → r = 1) ∧ (a = 5 → ¬ hasOwn s → r = 2)) ∧ (∀ j, (get s2 j).isSome = ((get s j).isSome || decide (j = id))) := by
  have hok := hd.ok
  have hc1 : (connect s id).1 = joinC s id := by
    unfold connect joinC
    rw [if_neg (by omega), hg]
    rfl
  rw [hc1] at h2
  have hd1 := hd.joinC hg hid
  have hok1 := hd1.ok
  have hgj : ∀ j, get (joinC s id) j = if j = id then some fresh else get s j := get_joinC hok hg
  have hgi : get (joinC s id) id = some fresh := by rw [hgj, if_pos rfl]
  have hr : rightM ⟨1, a, 0, uT⟩ = true := by rcases ha with rfl | rfl <;> decide +kernel
  have hnl := note_len hid
  obtain ⟨b, hb⟩ : ∃ b, b = mb (note (joinT id uT)) := ⟨_, rfl⟩
  rw [← hb] at hnl
  have ht : tell (joinC s id) (note (joinT id uT)) = upd1 (sendC b) (fun _ => true) (joinC s id) := by
    rw [hb]
    refine tell_fits hok1.srt fun j c hj h1 => ?_
    rw [hgj] at hj
    rw [← hb]
    have hq : (joinC s id).cf.queue = 2048 := by show s.cf.queue = 2048; rw [h.cf]; rfl
    rw [hq]
    split at hj
    · obtain rfl := Option.some.inj hj; exact absurd h1 (by decide)
    · have := (h.all j c hj).2.2
      omega
  have hgt : ∀ j, get (upd1 (sendC b) (fun _ => true) (joinC s id)) j = if j = id then some fresh else (get s j).map (sendC b) := fun j => by
    rw [get_upd1, hgj]
    by_cases e : j = id
    · rw [if_pos e, if_pos e]; rfl
    · rw [if_neg e, if_neg e]; rfl
  have hgti : get (upd1 (sendC b) (fun _ => true) (joinC s id)) id = some fresh := by rw [hgt, if_pos rfl]
  have hrn : Fl.rget s.tab.roles id = none := by
    cases hx : Fl.rget s.tab.roles id with
    | none => rfl
    | some r =>
      obtain ⟨c, hc, _⟩ := hok.use id (by rw [hx]; rfl)
      rw [hg] at hc; cases hc
  obtain ⟨T, hT⟩ : ∃ T, T = upd1 (sendC b) (fun _ => true) (joinC s id) := ⟨_, rfl⟩
  have hTs : (ids T).Pairwise (· < ·) := by rw [hT]; exact srt_upd hok1.srt _ _
  have hTf : T.log = [] ∧ T.cf = dflt ∧ T.ended = false ∧ T.tab = s.tab ∧ T.holder = 0 := by rw [hT]; exact ⟨h.log, h.cf, h.ended, rfl, h.h1⟩
  obtain ⟨r, hrr⟩ : ∃ r, r = roleOf (set T id { fresh with st := 1, name := uT, vw := some (0, 0) }) (decide (a % 2 = 1)) := ⟨_, rfl⟩
  have hro : roleOf (set T id { fresh with st := 1, name := uT, vw := some (0, 0) }) (decide (a % 2 = 1)) = roleOf s (decide (a % 2 = 1)) := by
    unfold roleOf
    have : (set T id { fresh with st := 1, name := uT, vw := some (0, 0) }).tab = s.tab := hTf.2.2.2.1
    rw [this]
  have hany : ((Fl.keys s.tab).any fun j => Fl.rget s.tab.roles j == some 2) = true ↔ hasOwn s := by
    rw [List.any_eq_true]
    constructor
    · rintro ⟨j, _, hj⟩; exact ⟨j, by simpa using hj⟩
    · rintro ⟨j, hj⟩; exact ⟨j, List.mem_map.2 ⟨_, Fl.rget_mem hj, rfl⟩, by simpa using hj⟩
  have hrc : (a = 4 → r = 0) ∧ (a = 5 → hasOwn s → r = 1) ∧ (a = 5 → ¬ hasOwn s → r = 2) := by
    rw [hrr, hro]
    unfold roleOf
    rcases ha with rfl | rfl
    · exact ⟨fun _ => by simp, fun h => absurd h (by decide), fun h => absurd h (by decide)⟩
    · refine ⟨fun h => absurd h (by decide), fun _ ho => ?_, fun _ ho => ?_⟩
      · rw [if_pos (by decide), if_pos (hany.2 ho)]
      · rw [if_pos (by decide), if_neg (fun e => ho (hany.1 e))]
  have hr02 : 0 ≤ r ∧ r ≤ 2 := by
    rw [hrr, hro]; unfold roleOf; split
    · split <;> omega
    · omega
  obtain ⟨R, hR⟩ : ∃ R, R = Fl.rput s.tab.roles id r := ⟨_, rfl⟩
  have hjn : Fl.join s.tab id r = { s.tab with roles := R } := by
    unfold Fl.join Fl.joins
    rw [hrn, if_pos (by simp; omega), hR]
  obtain ⟨S0, hS0⟩ : ∃ S0, S0 = wTab (set T id { fresh with st := 1, name := uT, vw := some (0, 0) }) { s.tab with roles := R } := ⟨_, rfl⟩
  have hS0s : (ids S0).Pairwise (· < ·) := by rw [hS0]; exact srt_set hTs _ _
  have hS0g : get S0 id = some { fresh with st := 1, name := uT, vw := some (0, 0) } := by rw [hS0]; exact get_set_same (c := fresh) (by rw [hT]; exact hgti)
  have hS0o : ∀ j, j ≠ id → get S0 j = (get s j).map (sendC b) := fun j hj => by
    rw [hS0]
    show get (set T id _) j = _
    rw [get_set_other hj, hT, hgt, if_neg hj]
  have hS0q : S0.cf.queue = 2048 := by rw [hS0]; show T.cf.queue = 2048; rw [hTf.2.1]; rfl
  have hw : (mb ⟨5, id, 0, wordOf r⟩).length ≤ 25 := by
    have := mb_len' ⟨5, id, 0, wordOf r⟩
    have hn : Mg.nums 5 = 2 := by decide
    have hwl : (wordOf r).length ≤ 8 := by unfold wordOf; split <;> (try split) <;> simp
    simp only [hn] at this
    omega
  have hf : (mb ⟨9, 0, 0, []⟩).length ≤ 11 := by
    have := mb_len' ⟨9, 0, 0, []⟩
    have hn : Mg.nums 9 = 1 := by decide
    simpa [hn] using this
  obtain ⟨o, ho⟩ : ∃ o, o = mb ⟨5, id, 0, wordOf r⟩ ++ mb ⟨9, 0, 0, []⟩ := ⟨_, rfl⟩
  have hol : o.length ≤ 40 := by rw [ho, List.length_append]; omega
  obtain ⟨C, hC⟩ : ∃ C : Cn, C = { fresh with st := 1, name := uT, vw := some (0, 0), out := o } := ⟨_, rfl⟩
  have hhello : hello2 T id fresh 0 uT (decide (a % 2 = 1)) = set S0 id C := by
    unfold hello2
    simp only
    rw [← hrr]
    have e1 : wTab (set T id { fresh with st := 1, name := uT, vw := some (0, 0) }) (Fl.join (set T id { fresh with st := 1, name := uT, vw := some (0, 0) }).tab id r) = S0 := by
      have : (set T id { fresh with st := 1, name := uT, vw := some (0, 0) }).tab = s.tab := hTf.2.2.2.1
      rw [this, hjn, hS0]
    rw [e1]
    have e2 : send S0 id ⟨5, id, ((0 : Nat) : Int), wordOf r⟩ = set S0 id { fresh with st := 1, name := uT, vw := some (0, 0), out := mb ⟨5, id, 0, wordOf r⟩ } := by
      rw [send_fits hS0g (show (1 : Int) ≠ 2 by decide) (by rw [hS0q]; show (([] : List UInt8).length : Int) + (mb ⟨5, id, 0, wordOf r⟩).length ≤ 2048; simp; omega)]
      rfl
    rw [e2]
    have hh : (set S0 id { fresh with st := 1, name := uT, vw := some (0, 0), out := mb ⟨5, id, 0, wordOf r⟩ }).holder = 0 := by rw [hS0]; exact hTf.2.2.2.2
    rw [hh]
    have e3 : send (set S0 id { fresh with st := 1, name := uT, vw := some (0, 0), out := mb ⟨5, id, 0, wordOf r⟩ }) id ⟨9, 0, 0, []⟩ = set S0 id C := by
      rw [send_fits (get_set_same hS0g) (show (1 : Int) ≠ 2 by decide) (by show ((mb ⟨5, id, 0, wordOf r⟩).length : Int) + (mb ⟨9, 0, 0, []⟩).length ≤ S0.cf.queue; rw [hS0q]; omega)]
      have : cOut { fresh with st := 1, name := uT, vw := some (0, 0), out := mb ⟨5, id, 0, wordOf r⟩ } (mb ⟨5, id, 0, wordOf r⟩ ++ mb ⟨9, 0, 0, []⟩) = C := by rw [hC, ho]; rfl
      show set (set S0 id _) id (cOut { fresh with st := 1, name := uT, vw := some (0, 0), out := mb ⟨5, id, 0, wordOf r⟩ } (mb ⟨5, id, 0, wordOf r⟩ ++ mb ⟨9, 0, 0, []⟩)) = _
      rw [this]
      unfold set cset
      simp only [List.map_map]
      congr 1
      refine List.map_congr_left fun p _ => ?_
      by_cases e : p.1 = id <;> simp [e]
    rw [e3]
    have he : (set S0 id C).ended = false := by rw [hS0]; exact hTf.2.2.1
    rw [if_neg (by rw [he]; decide)]
  have hfin : s2 = set S0 id C := by
    rw [h2, bytes_mb hgi (by decide) rfl rfl hr]
    dsimp only
    have e0 : set (joinC s id) id { fresh with idle := 0 } = joinC s id := set_same hok1.srt hgi
    have hst : ∀ line, Vw.startN T.log (Rg.roomN T.cf.log) 0 line = 0 := fun line => by
      have := startN_le T.log (Rg.roomN T.cf.log) 0 line
      rw [hTf.1] at this ⊢
      simpa using this
    rw [e0, recv_hello hgi rfl, hello_is (by rcases ha with rfl | rfl <;> decide) (by decide) (c := fresh) (by rw [ht]; exact hgti), ht, ← hT, hst, hhello]
    have hsh : (set S0 id C).tab.holder = (set S0 id C).holder := by
      rw [hS0]
      show s.tab.holder = T.holder
      rw [h.h0, hTf.2.2.2.2]
    rw [turned_same hsh]
    refine settle_nil (srt_set hS0s _ _) (by rw [hS0]; exact hTf.1) (by rw [hS0]; exact hTf.2.1) hsh fun j c hj => ?_
    by_cases e : j = id
    · subst e
      rw [get_set_same hS0g] at hj
      obtain rfl := Option.some.inj hj
      rw [hC]
      exact ⟨rfl, rfl, by show o.length ≤ 1000; omega⟩
    · rw [get_set_other e, hS0o j e] at hj
      obtain ⟨c0, hc0, rfl⟩ := Option.map_eq_some_iff.1 hj
      obtain ⟨g1, g2, g3⟩ := h.all j c0 hc0
      unfold sendC
      rw [if_pos g1]
      refine ⟨g1, g2, ?_⟩
      show (c0.out ++ b).length ≤ 1000
      rw [List.length_append]; omega
  have hgf : ∀ j, get s2 j = if j = id then some C else (get s j).map (sendC b) := fun j => by
    rw [hfin]
    by_cases e : j = id
    · rw [if_pos e, e]; exact get_set_same hS0g
    · rw [if_neg e, get_set_other e, hS0o j e]
  have htab : s2.tab = { s.tab with roles := R } := by rw [hfin, hS0]; rfl
  refine ⟨⟨by rw [hfin, hS0]; exact hTf.1, by rw [hfin, hS0]; exact hTf.2.1, by rw [hfin, hS0]; exact hTf.2.2.1, by rw [htab]; exact h.h0, by rw [hfin, hS0]; exact hTf.2.2.2.2, fun j c hj => ?_⟩, fun j hj => ?_, ⟨r, ?_, hrc⟩, fun j => ?_⟩
  · rw [hgf] at hj
    split at hj
    · obtain rfl := Option.some.inj hj
      rw [hC]
      exact ⟨rfl, rfl, by show o.length ≤ k + 40; omega⟩
    · obtain ⟨c0, hc0, rfl⟩ := Option.map_eq_some_iff.1 hj
      obtain ⟨g1, g2, g3⟩ := h.all j c0 hc0
      unfold sendC
      rw [if_pos g1]
      refine ⟨g1, g2, ?_⟩
      show (c0.out ++ b).length ≤ k + 40
      rw [List.length_append]; omega
  · rw [htab, hR]; exact rput_other _ _ _ _ hj
  · rw [htab, hR]; exact Fl.rget_put_same _ _ _
  · rw [hgf]
    by_cases e : j = id
    · simp [e]
    · simp [e]
theorem tellW_fits (lv : Br → Int → Br) {s : Br} (hs : (ids s).Pairwise (· < ·)) {m : M} (h : ∀ id c, get s id = some c → c.st = 1 → (c.out.length : Int) + (mb m).length ≤ s.cf.queue) : tellW lv s m = upd1 (sendC (mb m)) (fun _ => true) s := by
  unfold tellW
  refine runAll_upd _ (sendC (mb m)) s hs (fun c hc => by unfold sendC; rw [if_neg hc]) ?_
  intro t id c hi hl hcf hgt hgs h1
  unfold sendW
  rw [hgt]
  simp only
  rw [if_neg (by omega), if_pos (by rw [hcf]; exact h id c hgs h1)]
  unfold sendC
  rw [if_pos h1]
theorem Quiet.cut {n : Nat} {s : Br} {k : Nat} (hd : Gd n s) (h : Quiet s k) (hk : k ≤ 950) {id : Int} {c : Cn} (hg : get s id = some c) {s2 : Br} (h2 : s2 = (cut s id).1) :
    Quiet s2 (k + 30) ∧ (∀ j, Fl.rget s2.tab.roles j = if j = id then none else Fl.rget s.tab.roles j) ∧ (∀ j, (get s2 j).isSome = ((get s j).isSome && !decide (j = id))) := by
  have hok := hd.ok
  have hid := hok.rng id (get_ids hg)
  obtain ⟨c1, c2, c3⟩ := h.all id c hg
  have hrole := (hok.opn id c hg c1).2
  have hne : ¬ s.tab.holder = id := by rw [h.h0]; omega
  have hlv : Fl.leave s.tab id = { Fl.forget s.tab id with roles := Fl.rdel s.tab.roles id } := by
    unfold Fl.leave Fl.leaves Fl.lose
    rw [if_pos hrole, if_neg hne]
  have hfh : (Fl.forget s.tab id).holder = 0 := h.h0
  have hnl := (note_len hid).2
  obtain ⟨b, hb⟩ : ∃ b, b = mb (note (leftT id)) := ⟨_, rfl⟩
  rw [← hb] at hnl
  obtain ⟨V, hV⟩ : ∃ V, V = wTab (set s id (cSt c 2)) (Fl.leave s.tab id) := ⟨_, rfl⟩
  have hVs : (ids V).Pairwise (· < ·) := by rw [hV]; exact srt_set hok.srt _ _
  have hVg : ∀ j, get V j = if j = id then some (cSt c 2) else get s j := fun j => by
    rw [hV]
    show get (set s id (cSt c 2)) j = _
    by_cases e : j = id
    · rw [if_pos e, e]; exact get_set_same hg
    · rw [if_neg e]; exact get_set_other e
  have hVq : V.cf.queue = 2048 := by rw [hV]; show s.cf.queue = 2048; rw [h.cf]; rfl
  have hle : leave s id = upd1 (sendC b) (fun _ => true) V := by
    have h1 : leave s id = tellW (leaveN 16) V (note (leftT id)) := by
      unfold leave leaveN
      rw [hg]
      simp only
      rw [if_pos c1, hV]
    rw [h1, hb]
    refine tellW_fits _ hVs fun j x hj h1 => ?_
    rw [← hb, hVq]
    rw [hVg] at hj
    split at hj
    · obtain rfl := Option.some.inj hj; exact absurd h1 (show ¬ (2 : Int) = 1 by decide)
    · have := (h.all j x hj).2.2
      omega
  obtain ⟨U, hU⟩ : ∃ U, U = leave s id := ⟨_, rfl⟩
  have hUok : Ok U := by rw [hU]; exact (hd.leave id).ok
  have hUg : ∀ j, get U j = if j = id then some (sendC b (cSt c 2)) else (get s j).map (sendC b) := fun j => by
    rw [hU, hle, get_upd1, hVg]
    by_cases e : j = id
    · rw [if_pos e, if_pos e]; rfl
    · rw [if_neg e, if_neg e]; rfl
  obtain ⟨X, hX⟩ : ∃ X, X = strike U (fun p => !decide (p.1 = id)) := ⟨_, rfl⟩
  have hXs : (ids X).Pairwise (· < ·) := by rw [hX]; exact hUok.srt.sublist (ids_strike _ _)
  have hXg : ∀ j, get X j = if j = id then none else (get s j).map (sendC b) := fun j => by
    rw [hX, get_strike hUok, hUg]
    by_cases e : j = id
    · rw [if_pos e, if_pos e]; simp [e]
    · rw [if_neg e, if_neg e]
      cases get s j with
      | none => rfl
      | some x => simp [e]
  have hXf : X.log = [] ∧ X.cf = dflt ∧ X.ended = false ∧ X.tab = { Fl.forget s.tab id with roles := Fl.rdel s.tab.roles id } ∧ X.holder = 0 := by
    rw [hX, hU, hle, hV]
    exact ⟨h.log, h.cf, h.ended, hlv, h.h1⟩
  have hall : ∀ j x, get X j = some x → x.st = 1 ∧ x.vw = some (0, 0) ∧ x.out.length ≤ k + 30 := fun j x hj => by
    rw [hXg] at hj
    split at hj
    · cases hj
    · obtain ⟨c0, hc0, rfl⟩ := Option.map_eq_some_iff.1 hj
      obtain ⟨g1, g2, g3⟩ := h.all j c0 hc0
      unfold sendC
      rw [if_pos g1]
      refine ⟨g1, g2, ?_⟩
      show (c0.out ++ b).length ≤ k + 30
      rw [List.length_append]; omega
  have hXh : X.tab.holder = X.holder := by rw [hXf.2.2.2.1, hXf.2.2.2.2]; exact hfh
  have hfin : s2 = X := by
    rw [h2]
    unfold Bk.cut
    rw [hg]
    simp only
    have : ({ leave s id with cs := cdel (leave s id).cs id } : Br) = X := by rw [hX, hU]; rfl
    rw [this]
    exact settle_nil hXs hXf.1 hXf.2.1 hXh fun j x hj => by
      obtain ⟨g1, g2, g3⟩ := hall j x hj
      exact ⟨g1, g2, by omega⟩
  rw [hfin]
  refine ⟨⟨hXf.1, hXf.2.1, hXf.2.2.1, by rw [hXf.2.2.2.1]; exact hfh, hXf.2.2.2.2, hall⟩, fun j => ?_, fun j => ?_⟩
  · rw [hXf.2.2.2.1]; exact rget_del _ _ _
  · rw [hXg]
    by_cases e : j = id
    · simp [e]
    · simp [e]
end Go.Proofs.YteepkanbiefpjaaGreatDoor.Bk
set_option linter.unusedVariables false
set_option linter.unusedSimpArgs false
namespace Go.Proofs.YteepkanbiefpjaaGreatDoor.Bk
open Go.RowKit K
open MgRow (M mC Ms)
theorem bool_at {w : World} {A : Option Addr} {n : Nat} {L : List Bool} (h : K.Els K.RBool 1 w A n L) {i : Nat} (hi : i < n) : ∃ ad b, A = some ad ∧ L[i]? = some b ∧ w.cell? (ad.add i) = some (.bool b) := by
  obtain ⟨ad, cs, ea, hl, hr, hc⟩ := h.at_ i hi
  have hr2 : cs = [.bool (L[i]'(by rw [h.len]; exact hi))] := hr
  have h0 := hc 0 _ (by rw [hr2]; rfl)
  rw [Nat.mul_one, Nat.add_zero] at h0
  exact ⟨ad, _, ea, List.getElem?_eq_getElem (by rw [h.len]; exact hi), h0⟩
structure RJ (s : Br) (i : Nat) (ow : Int) : Prop where
  mk ::
  q : Quiet s (70 * i)
  g : Gd (6000 * i) s
  lt : ∀ id, (get s id).isSome = true → id ≤ (i : Int)
  own : (ow = 0 ∧ ¬ hasOwn s) ∨ (1 ≤ ow ∧ ow ≤ (i : Int) ∧ hasOwn s)
theorem RJ.new : RJ (new dflt) 0 0 := ⟨⟨rfl, rfl, rfl, rfl, rfl, fun id c h => (by cases h)⟩, by have := Gd.new dflt dflt_ok; exact this, fun id h => (by cases h), .inl ⟨rfl, fun ⟨j, hj⟩ => (by cases hj)⟩⟩
theorem RJ.free {s : Br} {i : Nat} {ow : Int} (h : RJ s i ow) : get s ((i : Int) + 1) = none := by
  cases hg : get s ((i : Int) + 1) with
  | none => rfl
  | some c => have := h.lt _ (by rw [hg]; rfl); omega
def roleW (wr : Bool) (ow : Int) : Int := if wr then (if ow = 0 then 2 else 1) else 0
theorem RJ.join {s : Br} {i : Nat} {ow : Int} (h : RJ s i ow) (hi : i < 14) (wr : Bool) {s2 : Br} (h2 : s2 = (bytes (connect s ((i : Int) + 1)).1 ((i : Int) + 1) (mb ⟨1, if wr then 5 else 4, 0, uT⟩)).1) :
    RJ s2 (i + 1) (if wr = true ∧ ow = 0 then (i : Int) + 1 else ow) ∧ Fl.rget s2.tab.roles ((i : Int) + 1) = some (roleW wr ow) ∧ (get s2 ((i : Int) + 1)).isSome = true ∧ (∀ j, j ≠ (i : Int) + 1 → Fl.rget s2.tab.roles j = Fl.rget s.tab.roles j) := by
  have ha : (if wr then (5 : Int) else 4) = 4 ∨ (if wr then (5 : Int) else 4) = 5 := by cases wr; exact .inl rfl; exact .inr rfl
  obtain ⟨q, ho, ⟨r, hr, r4, r51, r52⟩, hg⟩ := Quiet.join h.g h.q (by omega) h.free (by omega) ha h2
  have hrw : r = roleW wr ow := by
    unfold roleW
    cases wr with
    | false => exact r4 rfl
    | true =>
      rcases h.own with ⟨rfl, hn⟩ | ⟨h1, _, hy⟩
      · rw [if_pos rfl, if_pos rfl]; exact r52 rfl hn
      · rw [if_pos rfl, if_neg (by omega)]; exact r51 rfl hy
  rw [hrw] at hr
  refine ⟨⟨⟨q.log, q.cf, q.ended, q.h0, q.h1, fun id c hc => ?_⟩, ?_, fun id hs => ?_, ?_⟩, hr, by rw [hg]; simp, ho⟩
  · obtain ⟨a, b, c⟩ := q.all id c hc
    exact ⟨a, b, by omega⟩
  · rw [h2]
    exact ((h.g.connect _).bytes _ _).mono (by have := mb_len ⟨1, if wr then 5 else 4, 0, uT⟩; omega)
  · rw [hg] at hs
    rcases Bool.or_eq_true_iff.1 hs with h1 | h1
    · have := h.lt id h1; omega
    · have := of_decide_eq_true h1; omega
  · rcases h.own with ⟨rfl, hn⟩ | ⟨h1, h3, j, hy⟩
    · cases wr with
      | true => exact .inr ⟨by simp; omega, by simp, _, hr⟩
      | false =>
        refine .inl ⟨by simp, fun ⟨j, hj⟩ => ?_⟩
        by_cases e : j = (i : Int) + 1
        · rw [e, hr] at hj; cases hj
        · rw [ho j e] at hj; exact hn ⟨j, hj⟩
    · refine .inr ⟨?_, ?_, j, ?_⟩
      · rw [if_neg (by omega)]; exact h1
      · rw [if_neg (by omega)]; omega
      · have hjl : j ≠ (i : Int) + 1 := fun e => by
          obtain ⟨c, hc, _⟩ := h.g.ok.use j (by rw [hy]; rfl)
          rw [e, h.free] at hc; cases hc
        rw [ho j hjl]; exact hy
theorem RJ.cut {s : Br} {i : Nat} (h : RJ s i 0) (hi : i < 14) {s2 s3 : Br} (h2 : s2 = (bytes (connect s ((i : Int) + 1)).1 ((i : Int) + 1) (mb ⟨1, 5, 0, uT⟩)).1) (h3 : s3 = (Bk.cut s2 ((i : Int) + 1)).1) : RJ s3 (i + 1) 0 := by
  obtain ⟨J, hr, hg, ho⟩ := h.join hi true h2
  obtain ⟨c, hc⟩ := Option.isSome_iff_exists.1 hg
  have hn : ¬ hasOwn s := by
    rcases h.own with ⟨_, hn⟩ | ⟨h1, _⟩
    · exact hn
    · omega
  have q0 : Quiet s2 (70 * i + 40) := (Quiet.join h.g h.q (by omega) h.free (by omega) (.inr rfl) h2).1
  obtain ⟨q, hrr, hgg⟩ := Quiet.cut J.g q0 (by omega) hc h3
  refine ⟨⟨q.log, q.cf, q.ended, q.h0, q.h1, fun id c hc => ?_⟩, ?_, fun id hs => ?_, .inl ⟨rfl, fun ⟨j, hj⟩ => ?_⟩⟩
  · obtain ⟨a, b, c⟩ := q.all id c hc
    exact ⟨a, b, by omega⟩
  · rw [h3]; exact J.g.cut _
  · rw [hgg] at hs
    exact J.lt id (by rw [Bool.and_eq_true] at hs; exact hs.1)
  · rw [hrr] at hj
    split at hj
    · cases hj
    · rename_i e
      rw [ho j e] at hj
      exact hn ⟨j, hj⟩
set_option maxHeartbeats 16000000 in
set_option maxRecDepth 100000 in
theorem roles_walk (w : World) (henv : Or.Env w) {A : Option Addr} {n cp : Nat} {L : List Bool} (hL : K.Els K.RBool 1 w A n L) (leave : Int) : Calls Tryz.prog 5 #[.slice A n cp, .int .i64 leave] w fun e w' => e = .returned (.bool true) ∧ Upd (fun _ => False) w w' := by
  have HENV := Asd.mk henv
  have HHE := Asd.mk (fun w h => head_calls w h)
  by_cases h14 : 14 < n
  · clear hL
    go_enter Tryz.func5, Tryz.ntmps5
    go_wp2_with fail
    refine (HHE.out w HENV.out).mono ?_
    rintro e w1 ⟨rfl, hu1⟩
    have HU1 := Asd.mk hu1
    clear hu1
    go_wp2
    go_ret
    exact ⟨rfl, HU1.out⟩
  obtain ⟨s0, hs0⟩ : ∃ s0, s0 = new dflt := ⟨_, rfl⟩
  have HS0 := Asd.mk hs0
  have HJ0 : Asd (RJ s0 0 0) := ⟨by rw [hs0]; exact RJ.new⟩
  have HE := Asd.mk hL
  have HDF := Asd.mk (fun w => default_calls w)
  unfold cfV dflt at HDF
  clear hL hs0 henv
  go_enter Tryz.func5, Tryz.ntmps5
  go_wp2_with fail
  refine (HHE.out w HENV.out).mono ?_
  rintro e w1 ⟨rfl, hu1⟩
  have HU1 := Asd.mk hu1
  clear hu1
  go_wp2_with fail
  refine (HDF.out w1).mono ?_
  rintro e w2 ⟨rfl, hu2⟩
  have HU2 := Asd.mk (HU1.out.trans hu2 (fun _ _ h => h))
  clear hu2 HU1
  go_wp2_with fail
  refine (scnew_calls HU2.out (env_upd HENV.out HU2.out (fun _ h => h.elim)) dflt dflt_ok).mono ?_
  rw [← HS0.out]
  rintro e v0 ⟨q, F0, rfl, h0, hl0, hu0⟩
  have H0 := Asd.mk h0
  clear h0 hl0 hu0 HU2
  go_wp2
  go_loopw [1, 6, 25] (fun v1 v6 v25 wr => ∃ (i : Nat) (s : Br) (F : Nat → Prop) (ow lv : Int), v25 = .int .i64 (i : Int) ∧ v6 = .int .i64 ow ∧ v1 = .int .i64 lv ∧ i ≤ n ∧ Asd (Sc w q s wr F) ∧ Asd (RJ s i ow)) (fun _ _ v25 _ => n - (intOf v25).toNat)
  case atStart => exact ⟨0, s0, F0, 0, leave, rfl, rfl, rfl, Nat.zero_le _, H0, HJ0⟩
  case round =>
    obtain ⟨i, s, F, ow, lv, rfl, rfl, rfl, hi, HS, HJ⟩ := hrel
    by_cases hlt : i < n
    case neg =>
      go_wp2
      go_ret
      exact ⟨rfl, HS.out.up⟩
    have hi14 : i < 14 := by omega
    obtain ⟨ad, b, rfl, hb, hcell⟩ := bool_at (HE.out.up K.RBool.stays HS.out.up) hlt
    have d0 : ∀ W, Upd (fun _ => False) wr W → W.cell? (ad.add i) = some (.bool b) := fun W k => k.cell hcell (fun h => h)
    have hsw := Upd.refl (fun _ => False) wr
    have hidw : wrap64 ((i : Int) + 1) = (i : Int) + 1 := by unfold wrap64; omega
    clear hb hcell
    cases b with
    | false =>
      have hne : ¬ ((i : Int) + 1 = ow) := by rcases HJ.out.own with ⟨h, _⟩ | ⟨h, h2, _⟩ <;> omega
      have hneb : (((i : Int) + 1) == ow) = false := beq_eq_false_iff_ne.2 hne
      obtain ⟨s1, hs1⟩ : ∃ s1, s1 = (connect s ((i : Int) + 1)).1 := ⟨_, rfl⟩
      obtain ⟨s2, hs2⟩ : ∃ s2, s2 = (bytes s1 ((i : Int) + 1) (mb ⟨1, 4, 0, uT⟩)).1 := ⟨_, rfl⟩
      have hj := HJ.out.join hi14 false (s2 := s2) (by rw [hs2, hs1]; rfl)
      have HJ2 : Asd (RJ s2 (i + 1) (ow)) := ⟨by have h := hj.1; rw [if_neg (by simp)] at h; exact h⟩
      have HR2 : Asd (Fl.rget s2.tab.roles ((i : Int) + 1) = some 0) := ⟨by rw [hj.2.1]; rfl⟩
      have HG1 : Asd (Gd (6000 * i) s1) := ⟨by rw [hs1]; exact HJ.out.g.connect _⟩
      have HBL : Asd ((mb ⟨1, 4, 0, uT⟩).length ≤ 2053) := ⟨mb_len _⟩
      have HPT : Asd (∀ w, Calls Tryz.prog 21 #[.slice none 0 0, .agg #[.int .i64 1, .int .i64 4, .int .i64 0, .string (S [117])]] w (Fr.PutPost (mb ⟨1, 4, 0, uT⟩) w)) := ⟨fun w => by
        have h := mput_new ⟨1, 4, 0, uT⟩ w
        unfold Vw.msgV uT at h
        exact h⟩
      obtain ⟨bm, hbm⟩ : ∃ bm, bm = mb ⟨1, 4, 0, uT⟩ := ⟨_, rfl⟩
      rw [← hbm] at HPT HBL hs2
      have HS1 := Asd.mk hs1
      have HS2 := Asd.mk hs2
      clear hs1 hs2 hbm hj
      go_upto_region 21 with fail
      have hm0 := heap_alloc_new wr (.cells #[.int .i64 1, .int .i64 4, .int .i64 0, .string { data := #[117] }] 36)
      have hk0 := (Upd.refl (fun _ => False) wr).alloc (.cells #[.int .i64 1, .int .i64 4, .int .i64 0, .string { data := #[117] }] 36)
      generalize wr.alloc (.cells #[.int .i64 1, .int .i64 4, .int .i64 0, .string { data := #[117] }] 36) = W1 at hm0 hk0 ⊢
      have HX := Asd.mk (HS.out.upd hk0)
      have hnF : ¬ F wr.heap.size := fun hf => by have := HS.out.lt _ hf; omega
      have HM := Asd.mk hm0
      clear hm0 hk0 d0 hsw
      go_wp2_with fail
      refine (HX.out.connect HJ.out.g ((i : Int) + 1) (by omega)).mono ?_
      rw [← HS1.out]
      rintro e v1 ⟨rfl, F1, h1, t1⟩
      have H1 := Asd.mk h1
      obtain ⟨b1, n1⟩ := tn_blk t1 HM.out hnF
      have m0 := keepsC (o := 0) (v := .int .i64 1) b1 rfl
      have m1 := keepsC (o := 1) (v := .int .i64 4) b1 rfl
      have m2 := keepsC (o := 2) (v := .int .i64 0) b1 rfl
      have m3 := keepsC (o := 3) (v := .string { data := #[117] }) b1 rfl
      have hs1 := Upd.refl (fun _ => False) v1
      clear h1 t1 b1 n1 hnF HM HX
      go_wp2_with fail
      refine (HPT.out v1).mono ?_
      rintro e v2 ⟨A2, c2, G2, rfl, ho, hg, hl, hm, hu⟩
      have H2 := Asd.mk (H1.out.upd hu)
      have P2 := Asd.mk (H1.out.fresh ho hg)
      clear ho hg hl hm hu m0 m1 m2 m3 hs1
      go_wp2_with fail
      refine (H2.out.bytes HG1.out (by omega) ((i : Int) + 1) (by omega) A2 c2 bm P2.out.rd P2.out.ad (by have := HBL.out; omega)).mono ?_
      rw [← HS2.out]
      rintro e v3 ⟨rfl, F3, h3, t3⟩
      have H3 := Asd.mk h3
      clear h3 t3 P2
      go_wp2_with fail
      refine (H3.out.role ((i : Int) + 1) (by omega)).mono ?_
      rw [HR2.out]
      rintro e w'' ⟨rfl, rfl⟩
      go_wp2
      go_roundw
      case rel => exact ⟨i + 1, s2, F3, ow, lv, by go_num, rfl, rfl, by omega, H3, HJ2⟩
      case measure => simp only [intOf]; omega
    | true =>
      by_cases how : ow = 0
      case neg =>
        have hne : ¬ ((i : Int) + 1 = ow) := by rcases HJ.out.own with ⟨h, _⟩ | ⟨h, h2, _⟩ <;> omega
        have hneb : (((i : Int) + 1) == ow) = false := beq_eq_false_iff_ne.2 hne
        have howb : (ow == 0) = false := beq_eq_false_iff_ne.2 how
        obtain ⟨s1, hs1⟩ : ∃ s1, s1 = (connect s ((i : Int) + 1)).1 := ⟨_, rfl⟩
        obtain ⟨s2, hs2⟩ : ∃ s2, s2 = (bytes s1 ((i : Int) + 1) (mb ⟨1, 5, 0, uT⟩)).1 := ⟨_, rfl⟩
        have hj := HJ.out.join hi14 true (s2 := s2) (by rw [hs2, hs1]; rfl)
        have HJ2 : Asd (RJ s2 (i + 1) (ow)) := ⟨by have h := hj.1; rw [if_neg (by omega)] at h; exact h⟩
        have HR2 : Asd (Fl.rget s2.tab.roles ((i : Int) + 1) = some 1) := ⟨by rw [hj.2.1]; unfold roleW; rw [if_pos rfl, if_neg (by omega)]⟩
        have HG1 : Asd (Gd (6000 * i) s1) := ⟨by rw [hs1]; exact HJ.out.g.connect _⟩
        have HBL : Asd ((mb ⟨1, 5, 0, uT⟩).length ≤ 2053) := ⟨mb_len _⟩
        have HPT : Asd (∀ w, Calls Tryz.prog 21 #[.slice none 0 0, .agg #[.int .i64 1, .int .i64 5, .int .i64 0, .string (S [117])]] w (Fr.PutPost (mb ⟨1, 5, 0, uT⟩) w)) := ⟨fun w => by
          have h := mput_new ⟨1, 5, 0, uT⟩ w
          unfold Vw.msgV uT at h
          exact h⟩
        obtain ⟨bm, hbm⟩ : ∃ bm, bm = mb ⟨1, 5, 0, uT⟩ := ⟨_, rfl⟩
        rw [← hbm] at HPT HBL hs2
        have HS1 := Asd.mk hs1
        have HS2 := Asd.mk hs2
        clear hs1 hs2 hbm hj
        go_upto_region 21 with fail
        have hm0 := heap_alloc_new wr (.cells #[.int .i64 1, .int .i64 5, .int .i64 0, .string { data := #[117] }] 36)
        have hk0 := (Upd.refl (fun _ => False) wr).alloc (.cells #[.int .i64 1, .int .i64 5, .int .i64 0, .string { data := #[117] }] 36)
        generalize wr.alloc (.cells #[.int .i64 1, .int .i64 5, .int .i64 0, .string { data := #[117] }] 36) = W1 at hm0 hk0 ⊢
        have HX := Asd.mk (HS.out.upd hk0)
        have hnF : ¬ F wr.heap.size := fun hf => by have := HS.out.lt _ hf; omega
        have HM := Asd.mk hm0
        clear hm0 hk0 d0 hsw
        go_wp2_with fail
        refine (HX.out.connect HJ.out.g ((i : Int) + 1) (by omega)).mono ?_
        rw [← HS1.out]
        rintro e v1 ⟨rfl, F1, h1, t1⟩
        have H1 := Asd.mk h1
        obtain ⟨b1, n1⟩ := tn_blk t1 HM.out hnF
        have m0 := keepsC (o := 0) (v := .int .i64 1) b1 rfl
        have m1 := keepsC (o := 1) (v := .int .i64 5) b1 rfl
        have m2 := keepsC (o := 2) (v := .int .i64 0) b1 rfl
        have m3 := keepsC (o := 3) (v := .string { data := #[117] }) b1 rfl
        have hs1 := Upd.refl (fun _ => False) v1
        clear h1 t1 b1 n1 hnF HM HX
        go_wp2_with fail
        refine (HPT.out v1).mono ?_
        rintro e v2 ⟨A2, c2, G2, rfl, ho, hg, hl, hm, hu⟩
        have H2 := Asd.mk (H1.out.upd hu)
        have P2 := Asd.mk (H1.out.fresh ho hg)
        clear ho hg hl hm hu m0 m1 m2 m3 hs1
        go_wp2_with fail
        refine (H2.out.bytes HG1.out (by omega) ((i : Int) + 1) (by omega) A2 c2 bm P2.out.rd P2.out.ad (by have := HBL.out; omega)).mono ?_
        rw [← HS2.out]
        rintro e v3 ⟨rfl, F3, h3, t3⟩
        have H3 := Asd.mk h3
        clear h3 t3 P2
        go_wp2_with fail
        refine (H3.out.role ((i : Int) + 1) (by omega)).mono ?_
        rw [HR2.out]
        rintro e w'' ⟨rfl, rfl⟩
        go_wp2
        go_roundw
        case rel => exact ⟨i + 1, s2, F3, ow, lv, by go_num, rfl, rfl, by omega, H3, HJ2⟩
        case measure => simp only [intOf]; omega
      subst how
      obtain ⟨k, hk, hand⟩ := and_le lv 1 (by omega)
      have hand2 : Go.bits .and .i64 lv 1 = (k : Int) := hand
      clear hand
      by_cases hk1 : k = 1
      case neg =>
        have hk0 : k = 0 := by omega
        subst hk0
        obtain ⟨s1, hs1⟩ : ∃ s1, s1 = (connect s ((i : Int) + 1)).1 := ⟨_, rfl⟩
        obtain ⟨s2, hs2⟩ : ∃ s2, s2 = (bytes s1 ((i : Int) + 1) (mb ⟨1, 5, 0, uT⟩)).1 := ⟨_, rfl⟩
        have hj := HJ.out.join hi14 true (s2 := s2) (by rw [hs2, hs1]; rfl)
        have HJ2 : Asd (RJ s2 (i + 1) ((i : Int) + 1)) := ⟨by have h := hj.1; simpa using h⟩
        have HR2 : Asd (Fl.rget s2.tab.roles ((i : Int) + 1) = some 2) := ⟨by rw [hj.2.1]; rfl⟩
        have HG1 : Asd (Gd (6000 * i) s1) := ⟨by rw [hs1]; exact HJ.out.g.connect _⟩
        have HBL : Asd ((mb ⟨1, 5, 0, uT⟩).length ≤ 2053) := ⟨mb_len _⟩
        have HPT : Asd (∀ w, Calls Tryz.prog 21 #[.slice none 0 0, .agg #[.int .i64 1, .int .i64 5, .int .i64 0, .string (S [117])]] w (Fr.PutPost (mb ⟨1, 5, 0, uT⟩) w)) := ⟨fun w => by
          have h := mput_new ⟨1, 5, 0, uT⟩ w
          unfold Vw.msgV uT at h
          exact h⟩
        obtain ⟨bm, hbm⟩ : ∃ bm, bm = mb ⟨1, 5, 0, uT⟩ := ⟨_, rfl⟩
        rw [← hbm] at HPT HBL hs2
        have HS1 := Asd.mk hs1
        have HS2 := Asd.mk hs2
        clear hs1 hs2 hbm hj
        go_upto_region 21 with fail
        have hm0 := heap_alloc_new wr (.cells #[.int .i64 1, .int .i64 5, .int .i64 0, .string { data := #[117] }] 36)
        have hk0 := (Upd.refl (fun _ => False) wr).alloc (.cells #[.int .i64 1, .int .i64 5, .int .i64 0, .string { data := #[117] }] 36)
        generalize wr.alloc (.cells #[.int .i64 1, .int .i64 5, .int .i64 0, .string { data := #[117] }] 36) = W1 at hm0 hk0 ⊢
        have HX := Asd.mk (HS.out.upd hk0)
        have hnF : ¬ F wr.heap.size := fun hf => by have := HS.out.lt _ hf; omega
        have HM := Asd.mk hm0
        clear hm0 hk0 d0 hsw
        go_wp2_with fail
        refine (HX.out.connect HJ.out.g ((i : Int) + 1) (by omega)).mono ?_
        rw [← HS1.out]
        rintro e v1 ⟨rfl, F1, h1, t1⟩
        have H1 := Asd.mk h1
        obtain ⟨b1, n1⟩ := tn_blk t1 HM.out hnF
        have m0 := keepsC (o := 0) (v := .int .i64 1) b1 rfl
        have m1 := keepsC (o := 1) (v := .int .i64 5) b1 rfl
        have m2 := keepsC (o := 2) (v := .int .i64 0) b1 rfl
        have m3 := keepsC (o := 3) (v := .string { data := #[117] }) b1 rfl
        have hs1 := Upd.refl (fun _ => False) v1
        clear h1 t1 b1 n1 hnF HM HX
        go_wp2_with fail
        refine (HPT.out v1).mono ?_
        rintro e v2 ⟨A2, c2, G2, rfl, ho, hg, hl, hm, hu⟩
        have H2 := Asd.mk (H1.out.upd hu)
        have P2 := Asd.mk (H1.out.fresh ho hg)
        clear ho hg hl hm hu m0 m1 m2 m3 hs1
        go_wp2_with fail
        refine (H2.out.bytes HG1.out (by omega) ((i : Int) + 1) (by omega) A2 c2 bm P2.out.rd P2.out.ad (by have := HBL.out; omega)).mono ?_
        rw [← HS2.out]
        rintro e v3 ⟨rfl, F3, h3, t3⟩
        have H3 := Asd.mk h3
        clear h3 t3 P2
        go_wp2_with fail
        refine (H3.out.role ((i : Int) + 1) (by omega)).mono ?_
        rw [HR2.out]
        rintro e w'' ⟨rfl, rfl⟩
        go_wp2
        go_roundw
        case rel => exact ⟨i + 1, s2, F3, (i : Int) + 1, lv, by go_num, rfl, rfl, by omega, H3, HJ2⟩
        case measure => simp only [intOf]; omega
      case pos =>
        subst hk1
        obtain ⟨s1, hs1⟩ : ∃ s1, s1 = (connect s ((i : Int) + 1)).1 := ⟨_, rfl⟩
        obtain ⟨s2, hs2⟩ : ∃ s2, s2 = (bytes s1 ((i : Int) + 1) (mb ⟨1, 5, 0, uT⟩)).1 := ⟨_, rfl⟩
        have hj := HJ.out.join hi14 true (s2 := s2) (by rw [hs2, hs1]; rfl)
        have HJ2 : Asd (RJ s2 (i + 1) ((i : Int) + 1)) := ⟨by have h := hj.1; simpa using h⟩
        have HR2 : Asd (Fl.rget s2.tab.roles ((i : Int) + 1) = some 2) := ⟨by rw [hj.2.1]; rfl⟩
        have HG1 : Asd (Gd (6000 * i) s1) := ⟨by rw [hs1]; exact HJ.out.g.connect _⟩
        have HBL : Asd ((mb ⟨1, 5, 0, uT⟩).length ≤ 2053) := ⟨mb_len _⟩
        have HPT : Asd (∀ w, Calls Tryz.prog 21 #[.slice none 0 0, .agg #[.int .i64 1, .int .i64 5, .int .i64 0, .string (S [117])]] w (Fr.PutPost (mb ⟨1, 5, 0, uT⟩) w)) := ⟨fun w => by
          have h := mput_new ⟨1, 5, 0, uT⟩ w
          unfold Vw.msgV uT at h
          exact h⟩
        obtain ⟨bm, hbm⟩ : ∃ bm, bm = mb ⟨1, 5, 0, uT⟩ := ⟨_, rfl⟩
        rw [← hbm] at HPT HBL hs2
        have HS1 := Asd.mk hs1
        have HS2 := Asd.mk hs2
        obtain ⟨s3, hs3⟩ : ∃ s3, s3 = (cut s2 ((i : Int) + 1)).1 := ⟨_, rfl⟩
        have HJ3 : Asd (RJ s3 (i + 1) 0) := ⟨HJ.out.cut hi14 (s2 := s2) (by rw [hs2, hbm, hs1]) hs3⟩
        have HS3 := Asd.mk hs3
        clear hs3
        clear hs1 hs2 hbm hj
        go_upto_region 21 with fail
        have hm0 := heap_alloc_new wr (.cells #[.int .i64 1, .int .i64 5, .int .i64 0, .string { data := #[117] }] 36)
        have hk0 := (Upd.refl (fun _ => False) wr).alloc (.cells #[.int .i64 1, .int .i64 5, .int .i64 0, .string { data := #[117] }] 36)
        generalize wr.alloc (.cells #[.int .i64 1, .int .i64 5, .int .i64 0, .string { data := #[117] }] 36) = W1 at hm0 hk0 ⊢
        have HX := Asd.mk (HS.out.upd hk0)
        have hnF : ¬ F wr.heap.size := fun hf => by have := HS.out.lt _ hf; omega
        have HM := Asd.mk hm0
        clear hm0 hk0 d0 hsw
        go_wp2_with fail
        refine (HX.out.connect HJ.out.g ((i : Int) + 1) (by omega)).mono ?_
        rw [← HS1.out]
        rintro e v1 ⟨rfl, F1, h1, t1⟩
        have H1 := Asd.mk h1
        obtain ⟨b1, n1⟩ := tn_blk t1 HM.out hnF
        have m0 := keepsC (o := 0) (v := .int .i64 1) b1 rfl
        have m1 := keepsC (o := 1) (v := .int .i64 5) b1 rfl
        have m2 := keepsC (o := 2) (v := .int .i64 0) b1 rfl
        have m3 := keepsC (o := 3) (v := .string { data := #[117] }) b1 rfl
        have hs1 := Upd.refl (fun _ => False) v1
        clear h1 t1 b1 n1 hnF HM HX
        go_wp2_with fail
        refine (HPT.out v1).mono ?_
        rintro e v2 ⟨A2, c2, G2, rfl, ho, hg, hl, hm, hu⟩
        have H2 := Asd.mk (H1.out.upd hu)
        have P2 := Asd.mk (H1.out.fresh ho hg)
        clear ho hg hl hm hu m0 m1 m2 m3 hs1
        go_wp2_with fail
        refine (H2.out.bytes HG1.out (by omega) ((i : Int) + 1) (by omega) A2 c2 bm P2.out.rd P2.out.ad (by have := HBL.out; omega)).mono ?_
        rw [← HS2.out]
        rintro e v3 ⟨rfl, F3, h3, t3⟩
        have H3 := Asd.mk h3
        clear h3 t3 P2
        go_wp2_with fail
        refine (H3.out.role ((i : Int) + 1) (by omega)).mono ?_
        rw [HR2.out]
        rintro e w'' ⟨rfl, rfl⟩
        go_wp2_with fail
        refine (H3.out.cut HJ2.out.g (by omega) ((i : Int) + 1) (by omega)).mono ?_
        rw [← HS3.out]
        rintro e v4 ⟨rfl, F4, h4, t4⟩
        have H4 := Asd.mk h4
        clear h4 t4
        go_wp2
        go_roundw
        case rel => exact ⟨i + 1, s3, F4, 0, _, by go_num, rfl, rfl, by omega, H4, HJ3⟩
        case measure => simp only [intOf]; omega
theorem roles_row (w : World) (henv : Or.Env w) (A : Option Addr) (n cp : Nat) (l : List Bool) (h : K.RSlice K.RBool 1 w [.slice A n cp] l) (leave : Int) (wl : (Lit.int .i64 leave).wf = true) : Calls Tryz.prog 5 #[.slice A n cp, .int .i64 leave] w fun e w' => e = .returned (.bool true) ∧ Upd (fun _ => False) w w' := by
  obtain ⟨A1, c1, e1, hL, _⟩ := h
  simp only [List.cons.injEq, Value.slice.injEq, and_true] at e1
  obtain ⟨rfl, rfl, rfl⟩ := e1
  exact roles_walk w henv hL leave
end Go.Proofs.YteepkanbiefpjaaGreatDoor.Bk
