/- The table and the model take the same way. Plain lists, no program. -/
import Derived.Test.YtaeafnpldlcdnaaFlShows
set_option linter.unusedVariables false
set_option linter.unusedSimpArgs false
namespace Go.Proofs.Ytaeafnpldlcdnaa.Fl
open Go.RowKit K
theorem place_out (id : Int) : ∀ (l : List Int) (k : Nat), l.Nodup →
    (place l id k = -1 ∧ (l.filter fun x => !(x == id)) = l ∧ id ∉ l) ∨ (∃ i : Nat, place l id k = ((k + i : Nat) : Int) ∧ i < l.length ∧ l.take i ++ l.drop (i + 1) = (l.filter fun x => !(x == id)) ∧ id ∈ l ∧ (i = 0 ↔ l.head? = some id))
  | [], _, _ => .inl ⟨rfl, rfl, by simp⟩
  | x :: r, k, hn => by
    rw [place]
    obtain ⟨hx, hr⟩ := List.nodup_cons.1 hn
    by_cases he : x = id
    · right
      subst he
      refine ⟨0, by rw [if_pos rfl]; rfl, by simp, ?_, by simp, by simp⟩
      have : (r.filter fun y => !(y == x)) = r := List.filter_eq_self.2 (fun y hy => by
        have : y ≠ x := fun e => hx (e ▸ hy)
        simpa using this)
      simp [this]
    · rw [if_neg he]
      rcases place_out id r (k + 1) hr with ⟨h1, h2, h3⟩ | ⟨i, h1, h2, h3, h4, _⟩
      · left
        refine ⟨h1, ?_, ?_⟩
        · rw [List.filter_cons_of_pos (by simpa using he), h2]
        · intro h
          rcases List.mem_cons.1 h with h | h
          · exact he h.symm
          · exact h3 h
      · right
        refine ⟨i + 1, by rw [h1]; congr 1; omega, by simp; omega, ?_, List.mem_cons_of_mem _ h4, ?_⟩
        · rw [List.filter_cons_of_pos (by simpa using he), ← h3]
          simp
        · simp; exact he
theorem gfold_pos (id : Int) : ∀ (q : List Int) (i : Nat) (l : List Int), 0 < i → gfold id q i l = l ++ q.filter fun x => !(x == id)
  | [], _, l, _ => by simp [gfold]
  | x :: r, i, l, h => by
    rw [gfold, gfold_pos id r (i + 1) _ (by omega)]
    by_cases he : x = id
    · subst he; simp
    · rw [if_pos ⟨h, he⟩, List.filter_cons_of_pos (by simpa using he)]
      simp
/-- What the steps need of a table. -/
structure Nice (s : T) : Prop where
  nodup : s.queue.Nodup
  apart : s.holder ∉ s.queue
  free : s.holder = 0 → s.queue = [] ∧ s.left = 0
  nz : ∀ q ∈ s.queue, q ≠ 0
theorem G.nice {s : T} {n : Nat} {x : Int} (h : G s n x) : Nice s := ⟨h.nodup, h.apart, h.free, fun q hq => by have := h.qpos q hq; omega⟩
theorem Nice.line {s : T} (h : Nice s) : (if s.holder = 0 then [] else s.holder :: s.queue).Nodup := by
  split
  · simp
  · exact List.nodup_cons.2 ⟨h.apart, h.nodup⟩
theorem forget_id {s : T} {id : Int} (h : id ∉ s.queue) : forget s id = s := by
  unfold forget
  rw [List.filter_eq_self.2 (fun y hy => by
    have : y ≠ id := fun e => h (e ▸ hy)
    simpa using this)]
theorem Same.pass {s : T} {sm : MT} (hn : Nice s) (h : Same s sm) (h0 : s.holder ≠ 0) : Same (pass s) (moutI sm 0) := by
  have hl := h.line
  rw [if_neg h0] at hl
  have e : moutI sm 0 = mout sm 0 := by unfold moutI; rw [if_neg (by omega)]; rfl
  rw [e]
  unfold mout
  rw [hl]
  simp only [List.take_zero, List.nil_append, List.drop_succ_cons, List.drop_zero, Nat.zero_add, if_true]
  unfold Fl.pass
  cases hq : s.queue with
  | nil => exact ⟨h.lease, rfl, h.roles, (if_pos rfl).symm⟩
  | cons y r =>
    have hnd := hn.nodup
    rw [hq] at hnd
    obtain ⟨h1, h2⟩ := List.nodup_cons.1 hnd
    have hy : y ≠ 0 := hn.nz y (by rw [hq]; simp)
    have hf : (y :: r).filter (fun x => !(x == y)) = r := by
      rw [List.filter_cons_of_neg (by simp)]
      exact List.filter_eq_self.2 (fun z hz => by
        have : z ≠ y := fun e => h1 (e ▸ hz)
        simpa using this)
    refine ⟨h.lease, by show (if y :: r = [] then (0 : Int) else sm.lease) = s.lease; rw [if_neg (by simp)]; exact h.lease, h.roles, ?_⟩
    show y :: r = if y = 0 then [] else y :: (s.queue.filter fun x => !(x == y))
    rw [if_neg hy, hq, hf]
theorem Same.lose {s : T} {sm : MT} (hn : Nice s) (h : Same s sm) (id : Int) (hid : id ≠ 0) : Same (lose s id) (mlose sm id) := by
  have hl := h.line
  unfold Fl.lose mlose
  have hp := place_out id sm.line 0 (by rw [hl]; exact hn.line)
  by_cases he : s.holder = id
  · rw [if_pos he, forget_id (by rw [← he]; exact hn.apart)]
    have h0 : s.holder ≠ 0 := by rw [he]; exact hid
    have : place sm.line id 0 = 0 := by rw [hl, if_neg h0, place, if_pos he]; rfl
    rw [this]
    exact h.pass hn h0
  · rw [if_neg he]
    have hfl : (sm.line.filter fun x => !(x == id)) = if s.holder = 0 then [] else s.holder :: s.queue.filter fun x => !(x == id) := by
      rw [hl]
      split
      · rfl
      · rw [List.filter_cons_of_pos (by simpa using he)]
    rcases hp with ⟨h1, h2, h3⟩ | ⟨i, h1, h2, h3, h4, h5⟩
    · have e : moutI sm (place sm.line id 0) = sm := by unfold moutI; rw [if_pos (by omega)]
      rw [e]
      exact ⟨h.lease, h.left, h.roles, by rw [← h2, hfl]; rfl⟩
    · have hi : i ≠ 0 := fun e => by
        have := h5.1 e
        rw [hl] at this
        split at this
        · cases this
        · exact he (Option.some.inj this)
      have e : moutI sm (place sm.line id 0) = mout sm i := by
        unfold moutI
        rw [h1, if_neg (by omega)]
        congr 1
        omega
      rw [e]
      refine ⟨h.lease, by show (if i = 0 then _ else sm.left) = s.left; rw [if_neg hi]; exact h.left, h.roles, ?_⟩
      show sm.line.take i ++ sm.line.drop (i + 1) = _
      rw [h3, hfl]
      rfl
theorem Same.new (n : Int) : Same (new n) ⟨clampLease n, 0, [], []⟩ := ⟨rfl, rfl, rfl, rfl⟩
theorem Same.joins {s : T} {sm : MT} (h : Same s sm) (id r : Int) : joins s id r = mjoins sm id r := by unfold Fl.joins mjoins; rw [h.roles]
theorem Same.join {s : T} {sm : MT} (h : Same s sm) (id r : Int) : Same (join s id r) (mjoin sm id r) := by
  unfold Fl.join mjoin
  rw [h.joins]
  split
  · exact ⟨h.lease, h.left, by show rput sm.roles id r = _; rw [h.roles], h.line⟩
  · exact h
theorem Same.leaves {s : T} {sm : MT} (h : Same s sm) (id : Int) : leaves s id = mleaves sm id := by unfold Fl.leaves mleaves; rw [h.roles]
theorem rdel_gone {R : List (Int × Int)} {x : Int} (h : rget R x = none) : rdel R x = R := by
  unfold rget at h
  rw [Option.map_eq_none_iff, List.find?_eq_none] at h
  exact List.filter_eq_self.2 (fun p hp => by simpa using h p hp)
theorem Same.out {s : T} {sm : MT} {n : Nat} (hG : G s n 0) (h : Same s sm) {id : Int} (hn : ¬ Wr s.roles id) : place sm.line id 0 = -1 := by
  have hl := h.line
  rcases place_out id sm.line 0 (by rw [hl]; exact hG.nice.line) with ⟨h1, _⟩ | ⟨i, _, _, _, h4, _⟩
  · exact h1
  · refine absurd ?_ hn
    rw [hl] at h4
    split at h4
    · cases h4
    · rename_i h0
      rcases List.mem_cons.1 h4 with e | hm
      · rw [e]; exact hG.hold h0 h0
      · exact hG.wait id hm (by have := hG.qpos id hm; omega)
theorem Same.leave {s : T} {sm : MT} {n : Nat} (hG : G s n 0) (h : Same s sm) (id : Int) : Same (leave s id) (mleave sm id) := by
  unfold Fl.leave mleave
  split
  · rename_i hl
    obtain ⟨r, hr⟩ := Option.isSome_iff_exists.1 hl
    have hp := hG.ids _ (rget_mem hr)
    have h1 := h.lose hG.nice id (by simp only at hp; omega)
    exact ⟨h1.lease, h1.left, by show rdel sm.roles id = rdel s.roles id; rw [h.roles], h1.line⟩
  · rename_i hl
    have hnone : rget s.roles id = none := by
      unfold Fl.leaves at hl
      cases hh : rget s.roles id with
      | none => rfl
      | some r => rw [hh] at hl; simp at hl
    have h1 := h.out hG (id := id) (fun ⟨r, hr, _⟩ => by rw [hnone] at hr; cases hr)
    have e : mlose sm id = sm := by unfold mlose moutI; rw [h1]; rfl
    rw [e]
    exact ⟨h.lease, h.left, by show rdel sm.roles id = s.roles; rw [h.roles]; exact rdel_gone hnone, h.line⟩
theorem Same.sets {s : T} {sm : MT} (h : Same s sm) (id r : Int) : sets s id r = msets sm id r := by unfold Fl.sets msets; rw [h.roles]
theorem Same.setRole {s : T} {sm : MT} {n : Nat} (hG : G s n 0) (h : Same s sm) (id r : Int) : Same (setRole s id r) (msetRole sm id r) := by
  unfold Fl.setRole msetRole
  rw [← h.sets]
  split
  · rename_i hs
    simp only [Fl.sets, Bool.and_eq_true] at hs
    obtain ⟨x, hx⟩ := Option.isSome_iff_exists.1 hs.1
    have hp := hG.ids _ (rget_mem hx)
    have h1 : Same { s with roles := rput s.roles id r } { sm with roles := rput sm.roles id r } := ⟨h.lease, h.left, by show rput sm.roles id r = _; rw [h.roles], h.line⟩
    split
    · refine h1.lose ?_ id (by simp only at hp; omega)
      have := hG.nice
      exact ⟨this.nodup, this.apart, this.free, this.nz⟩
    · exact h1
  · exact h
theorem Same.place_neg {s : T} {sm : MT} (hn : Nice s) (h : Same s sm) {id : Int} (hid : id ≠ 0) : (0 ≤ place sm.line id 0) ↔ (s.holder = id ∨ s.queue.contains id = true) := by
  have hl := h.line
  have key : id ∈ sm.line ↔ (s.holder = id ∨ s.queue.contains id = true) := by
    rw [hl]
    split
    · rename_i h0
      rw [(hn.free h0).1]
      simp
      omega
    · simp [eq_comm]
  rw [← key]
  rcases place_out id sm.line 0 (by rw [hl]; exact hn.line) with ⟨h1, _, h3⟩ | ⟨i, h1, _, _, h4, _⟩
  · rw [h1]; exact ⟨fun h => absurd h (by omega), fun h => absurd h h3⟩
  · rw [h1]; exact ⟨fun _ => h4, fun _ => by omega⟩
theorem Same.place_zero {s : T} {sm : MT} (hn : Nice s) (h : Same s sm) {id : Int} (hid : id ≠ 0) : (place sm.line id 0 = 0) ↔ s.holder = id := by
  have hl := h.line
  rw [hl]
  split
  · rename_i h0
    rw [place]
    omega
  · rw [place]
    split
    · rename_i he; simp [he]
    · rename_i he
      rcases place_out id s.queue (0 + 1) hn.nodup with ⟨h1, _⟩ | ⟨i, h1, _⟩
      · rw [h1]; simp [he]
      · rw [h1]; constructor
        · intro h; omega
        · intro h; exact absurd h he
theorem Same.asks {s : T} {sm : MT} {n : Nat} (hG : G s n 0) (h : Same s sm) (id : Int) : asks s id = masks sm id := by
  unfold Fl.asks masks Fl.may mmay
  rw [h.roles]
  cases hr : rget s.roles id with
  | none => rfl
  | some r =>
    have hp := hG.ids _ (rget_mem hr)
    simp only at hp
    have hk := h.place_neg hG.nice (id := id) (by omega)
    by_cases h0 : r = 0
    · simp [h0]
    · by_cases hh : s.holder = id
      · have h2 := hk.2 (.inl hh)
        simp [h0, hh, h2]
      · by_cases hc : s.queue.contains id = true
        · have h2 := hk.2 (.inr hc)
          simp only [h0, hh, if_false, ne_eq, not_true_eq_false, hc, if_true, h2]
        · have h2 : ¬ 0 ≤ place sm.line id 0 := fun h => (hk.1 h).elim hh hc
          have hc' : s.queue.contains id = false := by cases hb : s.queue.contains id with
            | false => rfl
            | true => exact absurd hb hc
          simp only [h0, hh, if_false, ne_eq, not_true_eq_false, hc', h2, Bool.false_eq_true]
theorem Same.ask {s : T} {sm : MT} {n : Nat} (hG : G s n 0) (h : Same s sm) (id : Int) : Same (ask s id) (mask sm id) := by
  unfold Fl.ask mask
  rw [← h.asks hG]
  split
  · exact h
  · rename_i ha
    have ha : Fl.asks s id = 0 := by omega
    have hm : may s id = 0 := by
      unfold Fl.asks at ha
      split at ha
      · rename_i h1; exact ha
      · rename_i h1; omega
    obtain ⟨⟨r, hr, _⟩, hh⟩ := may_zero hm
    have hp := hG.ids _ (rget_mem hr)
    simp only at hp
    have hl := h.line
    split
    · rename_i h0
      rw [if_pos h0] at hl
      refine ⟨h.lease, by show (if sm.line = [] then sm.lease else sm.left) = s.lease; rw [if_pos hl]; exact h.lease, h.roles, ?_⟩
      show sm.line ++ [id] = if id = 0 then [] else id :: s.queue.filter _
      rw [hl, if_neg (by omega), (hG.free h0).1]
      rfl
    · rename_i h0
      rw [if_neg h0] at hl
      refine ⟨h.lease, by show (if sm.line = [] then sm.lease else sm.left) = s.left; rw [if_neg (by rw [hl]; simp)]; exact h.left, h.roles, ?_⟩
      show sm.line ++ [id] = if s.holder = 0 then [] else s.holder :: (s.queue ++ [id])
      rw [hl, if_neg h0]
      rfl
theorem Same.drops {s : T} {sm : MT} {n : Nat} (hG : G s n 0) (h : Same s sm) (id : Int) : drops s id = mdrops sm id := by
  unfold Fl.drops mdrops
  rw [h.roles]
  cases hr : rget s.roles id with
  | none => rfl
  | some r =>
    have hp := hG.ids _ (rget_mem hr)
    simp only at hp
    have hk := h.place_neg hG.nice (id := id) (by omega)
    simp only [Option.isSome_some, Bool.true_eq_false, if_false]
    by_cases hc : s.holder = id ∨ s.queue.contains id = true
    · have h2 := hk.2 hc
      rw [if_neg (show ¬ (s.holder ≠ id ∧ s.queue.contains id = false) from fun ⟨a, b⟩ => hc.elim a (fun hc => by rw [hc] at b; cases b)), if_neg (show ¬ place sm.line id 0 < 0 by omega)]
    · have h2 : ¬ 0 ≤ place sm.line id 0 := fun h => hc (hk.1 h)
      rw [if_pos (show s.holder ≠ id ∧ s.queue.contains id = false from ⟨fun e => hc (.inl e), by cases hb : s.queue.contains id with | false => rfl | true => exact absurd (.inr hb) hc⟩), if_pos (show place sm.line id 0 < 0 by omega)]
theorem Same.drop {s : T} {sm : MT} {n : Nat} (hG : G s n 0) (h : Same s sm) (id : Int) : Same (drop s id) (mdrop sm id) := by
  unfold Fl.drop mdrop
  rw [← h.drops hG]
  split
  · rename_i hd
    unfold Fl.drops at hd
    split at hd
    · cases hd
    · rename_i hs
      cases hr : rget s.roles id with
      | none => rw [hr] at hs; simp at hs
      | some r =>
        have hp := hG.ids _ (rget_mem hr)
        simp only at hp
        exact h.lose hG.nice id (by omega)
  · exact h
theorem Same.gives {s : T} {sm : MT} {n : Nat} (hG : G s n 0) (h : Same s sm) (id : Int) : may s id = mgives sm id := by
  unfold mgives Fl.may mmay
  rw [h.roles]
  cases hr : rget s.roles id with
  | none => rfl
  | some r =>
    have hp := hG.ids _ (rget_mem hr)
    simp only at hp
    have hk := h.place_zero hG.nice (id := id) (by omega)
    by_cases h0 : r = 0
    · simp [h0]
    · by_cases hh : s.holder = id
      · have h2 := hk.2 hh
        simp [h0, hh, h2]
      · have h2 : ¬ place sm.line id 0 = 0 := fun h => hh (hk.1 h)
        simp [h0, hh, h2]
theorem Same.give {s : T} {sm : MT} {n : Nat} (hG : G s n 0) (h : Same s sm) (id : Int) : Same (give s id) (mgive sm id) := by
  unfold Fl.give mgive
  rw [← h.gives hG]
  by_cases hm : may s id = 0
  · rw [if_pos hm, if_neg (by omega)]
    obtain ⟨⟨r, hr, _⟩, hh⟩ := may_zero hm
    have hp := hG.ids _ (rget_mem hr)
    simp only at hp
    have hl := h.line
    refine ⟨h.lease, h.lease, h.roles, ?_⟩
    show gfold id sm.line 0 [id] = if id = 0 then [] else id :: s.queue.filter fun x => !(x == id)
    rw [if_neg (by omega), hl]
    split
    · rename_i h0
      rw [(hG.free h0).1]
      rfl
    · rw [gfold, if_neg (by omega), gfold_pos _ _ _ _ (by omega)]
      rfl
  · rw [if_neg hm, if_pos hm]
    exact h
theorem Same.revokes {s : T} {sm : MT} (h : Same s sm) : revokes s = mrevokes sm := by
  unfold Fl.revokes mrevokes
  rw [h.line]
  by_cases h0 : s.holder = 0 <;> simp [h0]
theorem Same.revoke {s : T} {sm : MT} {n : Nat} (hG : G s n 0) (h : Same s sm) : Same (revoke s) (mrevoke sm) := by
  unfold Fl.revoke mrevoke
  by_cases h0 : s.holder = 0
  · rw [if_pos h0, if_pos (by rw [h.line, if_pos h0])]
    exact h
  · rw [if_neg h0, if_neg (by rw [h.line, if_neg h0]; simp)]
    exact h.pass hG.nice h0
theorem Same.tick {s : T} {sm : MT} {n : Nat} (hG : G s n 0) (h : Same s sm) : Same (tick s) (mtick sm) := by
  unfold Fl.tick mtick
  have hl := h.line
  by_cases h0 : s.holder = 0
  · rw [if_pos h0, if_pos (by rw [hl, if_pos h0])]
    exact h
  · rw [if_neg h0] at hl
    rw [if_neg h0, if_neg (show ¬ sm.line = [] from by rw [hl]; simp), h.left]
    split
    · exact ⟨h.lease, rfl, h.roles, h.line⟩
    · have h1 : Same (lessen s s.lease) { sm with left := sm.lease } := ⟨h.lease, h.lease, h.roles, h.line⟩
      by_cases hq : s.queue = []
      · rw [if_pos hq, if_neg (by rw [hl, hq]; simp)]
        exact h1
      · have : 1 < sm.line.length := by rw [hl]; have := List.length_pos_iff.2 hq; simp; omega
        rw [if_neg hq, if_pos this]
        have hn := hG.nice
        exact h1.pass ⟨hn.nodup, hn.apart, fun e => absurd e h0, hn.nz⟩ h0
end Go.Proofs.Ytaeafnpldlcdnaa.Fl
