/- What always holds of who has the floor, and who waits. Plain lists, no program. -/
import Derived.Test.YtaeafnpldlcdnaaFlOrder
set_option linter.unusedVariables false
set_option linter.unusedSimpArgs false
namespace Go.Proofs.Ytaeafnpldlcdnaa.Fl
open Go.RowKit K
/-- A user who is there, and no observer. -/
def Wr (R : List (Int × Int)) (q : Int) : Prop := ∃ r, rget R q = some r ∧ r ≠ 0
/-- Of a table after n acts; x is exempt (0: nobody is). -/
structure G (s : T) (n : Nat) (x : Int) : Prop where
  lease : 1 ≤ s.lease ∧ s.lease ≤ 1000
  left : 0 ≤ s.left ∧ s.left ≤ s.lease
  ids : ∀ p ∈ s.roles, 1 ≤ p.1 ∧ p.1 ≤ 9223372036854775807
  hold : s.holder ≠ 0 → s.holder ≠ x → Wr s.roles s.holder
  hpos : 0 ≤ s.holder ∧ s.holder ≤ 9223372036854775807
  free : s.holder = 0 → s.queue = [] ∧ s.left = 0
  busy : s.holder ≠ 0 → 1 ≤ s.left
  wait : ∀ q ∈ s.queue, q ≠ x → Wr s.roles q
  qpos : ∀ q ∈ s.queue, 1 ≤ q ∧ q ≤ 9223372036854775807
  nodup : s.queue.Nodup
  apart : s.holder ∉ s.queue
  lens : s.queue.length ≤ n ∧ s.roles.length ≤ n
theorem rget_mem {R : List (Int × Int)} {x r : Int} (h : rget R x = some r) : (x, r) ∈ R := by
  unfold rget at h
  obtain ⟨p, hp, rfl⟩ := Option.map_eq_some_iff.1 h
  have h1 := List.find?_some hp
  have h2 := List.mem_of_find?_eq_some hp
  simp only [decide_eq_true_eq] at h1
  subst h1
  exact h2
theorem Wr.pos {s : T} {n : Nat} {x q : Int} (h : G s n x) (hw : Wr s.roles q) : 1 ≤ q ∧ q ≤ 9223372036854775807 := by
  obtain ⟨r, hr, _⟩ := hw
  exact h.ids _ (rget_mem hr)
theorem rget_put_same (R : List (Int × Int)) (x r : Int) : rget (rput R x r) x = some r := by
  have h0 : rget (rdel R x) x = none := by
    unfold rget
    rw [Option.map_eq_none_iff, List.find?_eq_none]
    intro p hp
    have := (List.mem_filter.1 hp).2
    simpa using this
  have h1 : ∀ R : List (Int × Int), rget R x = none → rget (rins (x, r) R) x = some r := by
    intro R
    induction R with
    | nil => intro _; simp [rins, rget]
    | cons p R ih =>
      intro h
      unfold rget at h
      rw [Option.map_eq_none_iff, List.find?_cons] at h
      simp only [rins]
      split
      · simp [rget]
      · split at h
        · cases h
        · rename_i hp
          unfold rget at ih ⊢
          rw [List.find?_cons, hp]
          exact ih (by rw [h]; rfl)
  exact h1 _ h0
theorem rput_mem {R : List (Int × Int)} {x r : Int} {p : Int × Int} (h : p ∈ rput R x r) : p = (x, r) ∨ p ∈ R := by
  have h1 : ∀ R : List (Int × Int), p ∈ rins (x, r) R → p = (x, r) ∨ p ∈ R := by
    intro R
    induction R with
    | nil => intro h; simp [rins] at h; exact .inl h
    | cons y R ih =>
      intro h
      simp only [rins] at h
      split at h
      · rcases List.mem_cons.1 h with e | h
        · exact .inl e
        · exact .inr h
      · rcases List.mem_cons.1 h with e | h
        · exact .inr (by rw [e]; simp)
        · rcases ih h with e | h
          · exact .inl e
          · exact .inr (List.mem_cons_of_mem _ h)
  rcases h1 _ h with e | h
  · exact .inl e
  · exact .inr (List.mem_filter.1 h).1
theorem G.mono {s : T} {n m : Nat} {x : Int} (h : G s n x) (hm : n ≤ m) : G s m x := { h with lens := ⟨Nat.le_trans h.lens.1 hm, Nat.le_trans h.lens.2 hm⟩ }
theorem G.weak {s : T} {n : Nat} (h : G s n 0) (x : Int) : G s n x := { h with
  hold := fun h1 _ => h.hold h1 h1
  wait := fun q hq _ => h.wait q hq (by have := h.qpos q hq; omega) }
theorem G.grant {s : T} {n : Nat} {x id : Int} (h : G s n x) (hx : x = 0 ∨ x = id ∨ x ∉ s.queue) (hid : Wr s.roles id) (hl : (s.queue.filter fun y => !(y == id)).length ≤ n) : G (grant s id) n 0 := by
  have hp := Wr.pos h hid
  have hlz := h.lease
  refine ⟨h.lease, ⟨by show 0 ≤ s.lease; omega, by show s.lease ≤ s.lease; omega⟩, h.ids, fun _ _ => hid, ⟨by show 0 ≤ id; omega, hp.2⟩, fun e => ?_, fun _ => by show 1 ≤ s.lease; omega, fun q hq _ => ?_, fun q hq => h.qpos q (List.mem_filter.1 hq).1, h.nodup.filter _, fun hq => ?_, ⟨hl, h.lens.2⟩⟩
  · exact absurd (show id = 0 from e) (by omega)
  · have hq1 := (List.mem_filter.1 hq).1
    have hq2 := (List.mem_filter.1 hq).2
    refine h.wait q hq1 (fun e => ?_)
    have hqp := h.qpos q hq1
    rcases hx with hx | hx | hx
    · omega
    · rw [e, hx] at hq2; simp at hq2
    · exact hx (e ▸ hq1)
  · have := (List.mem_filter.1 hq).2
    exact absurd (show (!(id == id)) = true from this) (by simp)
theorem G.pass {s : T} {n : Nat} {x : Int} (h : G s n x) (hx : x = 0 ∨ x ∉ s.queue) : G (pass s) n 0 := by
  unfold Fl.pass
  cases hq : s.queue with
  | nil => exact ⟨h.lease, ⟨by show (0 : Int) ≤ 0; omega, by show (0 : Int) ≤ s.lease; have := h.lease; omega⟩, h.ids, fun e => absurd rfl e, ⟨by show (0 : Int) ≤ 0; omega, by show (0 : Int) ≤ _; omega⟩, fun _ => ⟨hq, rfl⟩, fun e => absurd rfl e, fun q h' => (by rw [show (zero s).queue = [] from hq] at h'; cases h'), h.qpos, h.nodup, (by rw [show (zero s).queue = [] from hq]; simp), h.lens⟩
  | cons q r =>
    have hmem : q ∈ s.queue := by rw [hq]; simp
    have hw : Wr s.roles q := h.wait q hmem (fun e => by
      rcases hx with hx | hx
      · have := h.qpos q hmem; omega
      · exact hx (e ▸ hmem))
    have hp := Wr.pos h hw
    refine ⟨h.lease, ⟨by show 0 ≤ s.lease; have := h.lease; omega, by show s.lease ≤ s.lease; omega⟩, h.ids, fun _ _ => hw, ⟨by show 0 ≤ q; omega, hp.2⟩, fun e => absurd (show q = 0 from e) (by omega), fun _ => by show 1 ≤ s.lease; have := h.lease; omega, fun y hy _ => ?_, fun y hy => h.qpos y (List.mem_filter.1 hy).1, h.nodup.filter _, fun hy => ?_, ⟨Nat.le_trans (List.length_filter_le _ _) h.lens.1, h.lens.2⟩⟩
    · have hy1 := (List.mem_filter.1 hy).1
      refine h.wait y hy1 (fun e => ?_)
      rcases hx with hx | hx
      · have := h.qpos y hy1; omega
      · exact hx (e ▸ hy1)
    · have := (List.mem_filter.1 hy).2
      exact absurd (show (!(q == q)) = true from this) (by simp)
theorem G.forget {s : T} {n : Nat} {x : Int} (h : G s n x) (id : Int) : G (forget s id) n x ∧ id ∉ (Fl.forget s id).queue :=
  ⟨{ lease := h.lease, left := h.left, ids := h.ids, hold := h.hold, hpos := h.hpos
     free := fun e => ⟨by show s.queue.filter _ = []; rw [(h.free e).1]; rfl, (h.free e).2⟩
     busy := h.busy
     wait := fun q hq => h.wait q (List.mem_filter.1 hq).1
     qpos := fun q hq => h.qpos q (List.mem_filter.1 hq).1
     nodup := h.nodup.filter _
     apart := fun hq => h.apart (List.mem_filter.1 hq).1
     lens := ⟨Nat.le_trans (List.length_filter_le _ _) h.lens.1, h.lens.2⟩ }, fun hq => by
    have := (List.mem_filter.1 hq).2
    simp at this⟩
theorem pass_holder {s : T} {x : Int} (h1 : x ≠ 0) (h : x ∉ s.queue) : (pass s).holder ≠ x ∧ x ∉ (pass s).queue := by
  unfold pass
  cases hq : s.queue with
  | nil => exact ⟨fun e => h1 e.symm, by rw [show (zero s).queue = [] from hq]; simp⟩
  | cons q r => exact ⟨fun e => h (by rw [hq]; rw [← show q = x from e]; simp), fun hm => h (List.mem_filter.1 hm).1⟩
theorem G.lose {s : T} {n : Nat} {x : Int} (h : G s n x) (hx : 1 ≤ x) : G (lose s x) n 0 ∧ (Fl.lose s x).holder ≠ x ∧ x ∉ (Fl.lose s x).queue := by
  obtain ⟨h1, h2⟩ := h.forget x
  unfold Fl.lose
  split
  · obtain ⟨h3, h4⟩ := pass_holder (s := Fl.forget s x) (x := x) (by omega) h2
    exact ⟨h1.pass (.inr h2), h3, h4⟩
  · rename_i hne
    refine ⟨{ h1 with hold := fun a _ => h1.hold a hne, wait := fun q hq _ => h1.wait q hq (fun e => h2 (e ▸ hq)) }, hne, h2⟩
/-- Others' roles alone count. -/
theorem G.roled {s : T} {n : Nat} {x : Int} (h : G s n 0) (h1 : s.holder ≠ x) (h2 : x ∉ s.queue) (R : List (Int × Int)) (hR : ∀ y, y ≠ x → rget R y = rget s.roles y) (hids : ∀ p ∈ R, 1 ≤ p.1 ∧ p.1 ≤ 9223372036854775807) (hl : R.length ≤ n) : G { s with roles := R } n 0 :=
  { h with
    ids := hids
    hold := fun a b => by
      obtain ⟨r, hr, h0⟩ := h.hold a b
      exact ⟨r, by rw [← hr]; exact hR _ h1, h0⟩
    wait := fun q hq b => by
      obtain ⟨r, hr, h0⟩ := h.wait q hq b
      exact ⟨r, by rw [← hr]; exact hR _ (fun e => h2 (e ▸ hq)), h0⟩
    lens := ⟨h.lens.1, hl⟩ }
theorem G.join {s : T} {n : Nat} (h : G s n 0) (id r : Int) (hid : id ≤ 9223372036854775807) : G (join s id r) (n + 1) 0 := by
  unfold Fl.join
  split
  · rename_i hj
    simp only [joins, Bool.and_eq_true, decide_eq_true_eq, Bool.not_eq_true', Option.isSome_eq_false_iff, Option.isNone_iff_eq_none] at hj
    obtain ⟨hn, h1, h2, h3⟩ := hj
    have hne : ∀ q, Wr s.roles q → q ≠ id := fun q hw e => by
      obtain ⟨r, hr, _⟩ := hw
      rw [e, hn] at hr
      cases hr
    refine G.roled (x := id) (h.mono (Nat.le_succ n)) ?_ ?_ _ (fun y hy => rget_put_other _ _ _ _ hy) ?_ ?_
    · intro e
      by_cases h0 : s.holder = 0
      · omega
      · exact hne _ (h.hold h0 h0) e
    · intro hq
      exact hne _ (h.wait id hq (by omega)) rfl
    · intro p hp
      rcases rput_mem hp with rfl | hp
      · exact ⟨h1, hid⟩
      · exact h.ids p hp
    · have := rput_length s.roles id r
      have := h.lens.2
      omega
  · exact h.mono (Nat.le_succ n)
theorem G.leave {s : T} {n : Nat} (h : G s n 0) (id : Int) : G (leave s id) n 0 := by
  unfold Fl.leave
  split
  · rename_i hl
    obtain ⟨r, hr⟩ := Option.isSome_iff_exists.1 hl
    have hp := h.ids _ (rget_mem hr)
    obtain ⟨h1, h2, h3⟩ := (h.weak id).lose hp.1
    refine G.roled h1 h2 h3 _ (fun y hy => ?_) (fun p hp => h.ids p (List.mem_filter.1 hp).1) (Nat.le_trans (rdel_length _ _) h.lens.2)
    rw [lose_roles]
    exact rget_del_other _ _ _ hy
  · exact h
theorem G.setRole {s : T} {n : Nat} (h : G s n 0) (id r : Int) : G (setRole s id r) (n + 1) 0 := by
  unfold Fl.setRole
  split
  · rename_i hs
    simp only [sets, Bool.and_eq_true, decide_eq_true_eq] at hs
    obtain ⟨r0, hr0⟩ := Option.isSome_iff_exists.1 hs.1
    have hp := h.ids _ (rget_mem hr0)
    have hids : ∀ p ∈ rput s.roles id r, 1 ≤ p.1 ∧ p.1 ≤ 9223372036854775807 := fun p hp' => by
      rcases rput_mem hp' with rfl | hp'
      · exact hp
      · exact h.ids p hp'
    have hlen : (rput s.roles id r).length ≤ n + 1 := by have := rput_length s.roles id r; have := h.lens.2; omega
    have hw : ∀ q, q ≠ id → Wr s.roles q → Wr (rput s.roles id r) q := fun q hq ⟨x, hx, h0⟩ => ⟨x, by rw [rget_put_other _ _ _ _ hq]; exact hx, h0⟩
    have hG : G { s with roles := rput s.roles id r } (n + 1) id := { h with
      ids := hids
      hold := fun a b => hw _ b (h.hold a a)
      wait := fun q hq b => hw _ b (h.wait q hq (by have := h.qpos q hq; omega))
      lens := ⟨Nat.le_succ_of_le h.lens.1, hlen⟩ }
    split
    · exact (hG.lose hp.1).1
    · rename_i hr
      have hwi : Wr (rput s.roles id r) id := ⟨r, rget_put_same _ _ _, hr⟩
      refine { hG with hold := fun a b => ?_, wait := fun q hq b => ?_ }
      · by_cases e : s.holder = id
        · rw [show ({ s with roles := rput s.roles id r } : T).holder = id from e]; exact hwi
        · exact hG.hold a e
      · by_cases e : q = id
        · rw [e]; exact hwi
        · exact hG.wait q hq e
  · exact h.mono (Nat.le_succ n)
theorem may_zero {s : T} {id : Int} (h : may s id = 0) : Wr s.roles id ∧ s.holder ≠ id := by
  unfold may at h
  split at h
  · cases h
  · rename_i r hr
    split at h
    · cases h
    · split at h
      · cases h
      · rename_i h0 h1
        exact ⟨⟨r, hr, h0⟩, h1⟩
theorem G.ask {s : T} {n : Nat} (h : G s n 0) (id : Int) : G (ask s id) (n + 1) 0 := by
  unfold Fl.ask
  split
  · exact h.mono (Nat.le_succ n)
  · rename_i ha
    have ha : asks s id = 0 := by omega
    unfold asks at ha
    split at ha
    · rename_i hm; exact absurd ha hm
    · rename_i hm
      have hm : may s id = 0 := by omega
      obtain ⟨hw, hh⟩ := may_zero hm
      split at ha
      · cases ha
      · rename_i hc
        have hc : id ∉ s.queue := fun hm => hc (List.contains_iff_mem.2 hm)
        have hp := Wr.pos h hw
        split
        · exact (h.mono (Nat.le_succ n)).grant (.inl rfl) hw (Nat.le_succ_of_le (Nat.le_trans (List.length_filter_le _ _) h.lens.1))
        · rename_i h0
          refine { h with
            free := fun e => absurd e h0
            wait := fun q hq b => ?_
            qpos := fun q hq => ?_
            nodup := ?_
            apart := fun hq => ?_
            lens := ⟨by rw [List.length_append]; simpa using h.lens.1, Nat.le_succ_of_le h.lens.2⟩ }
          · rcases List.mem_append.1 hq with hq | hq
            · exact h.wait q hq b
            · rw [List.mem_singleton.1 hq]; exact hw
          · rcases List.mem_append.1 hq with hq | hq
            · exact h.qpos q hq
            · rw [List.mem_singleton.1 hq]; exact hp
          · rw [List.nodup_append]
            exact ⟨h.nodup, by simp, fun a ha b hb => by rw [List.mem_singleton.1 hb]; exact fun e => hc (e ▸ ha)⟩
          · rcases List.mem_append.1 hq with hq | hq
            · exact h.apart hq
            · exact hh (List.mem_singleton.1 hq)
theorem G.drop {s : T} {n : Nat} (h : G s n 0) (id : Int) : G (drop s id) n 0 := by
  unfold Fl.drop
  split
  · rename_i hd
    unfold drops at hd
    split at hd
    · cases hd
    · rename_i hs
      have hs : (rget s.roles id).isSome = true := by
        cases hh : (rget s.roles id).isSome with
        | true => rfl
        | false => exact absurd hh hs
      obtain ⟨r, hr⟩ := Option.isSome_iff_exists.1 hs
      exact ((h.weak id).lose (h.ids _ (rget_mem hr)).1).1
  · exact h
theorem G.give {s : T} {n : Nat} (h : G s n 0) (id : Int) : G (give s id) n 0 := by
  unfold Fl.give
  split
  · rename_i hm
    exact h.grant (.inl rfl) (may_zero hm).1 (Nat.le_trans (List.length_filter_le _ _) h.lens.1)
  · exact h
theorem G.revoke {s : T} {n : Nat} (h : G s n 0) : G (revoke s) n 0 := by
  unfold Fl.revoke
  split
  · exact h
  · exact h.pass (.inl rfl)
theorem G.tick {s : T} {n : Nat} (h : G s n 0) : G (tick s) n 0 := by
  have hl : ∀ m : Int, 1 ≤ m → m ≤ s.lease → s.holder ≠ 0 → G (lessen s m) n 0 := fun m h1 h2 h0 => { h with left := ⟨by show 0 ≤ m; omega, h2⟩, free := fun e => absurd e h0, busy := fun _ => h1 }
  unfold Fl.tick
  split
  · exact h
  · rename_i h0
    have h1 := h.left
    have h2 := h.lease
    split
    · exact hl _ (by omega) (by omega) h0
    · split
      · exact hl _ (by omega) (by omega) h0
      · exact (hl _ (by omega) (by omega) h0).pass (.inl rfl)
theorem G.new (n : Int) : G (new n) 0 0 := by
  have h1 : 1 ≤ clampLease n ∧ clampLease n ≤ 1000 := by unfold clampLease mx mn; split <;> split <;> omega
  exact ⟨h1, ⟨by show (0 : Int) ≤ 0; omega, by show (0 : Int) ≤ clampLease n; omega⟩, fun p hp => by simp [Fl.new] at hp, fun e => absurd rfl e, ⟨by show (0 : Int) ≤ 0; omega, by show (0 : Int) ≤ _; omega⟩, fun _ => ⟨rfl, rfl⟩, fun e => absurd rfl e, fun q hq => by simp [Fl.new] at hq, fun q hq => by simp [Fl.new] at hq, by simp [Fl.new], by simp [Fl.new], by simp [Fl.new]⟩
end Go.Proofs.Ytaeafnpldlcdnaa.Fl
