/- What these laws lean on, part YApart: contracts of the given program's functions and plain lists. No condition. -/
import Derived.Test.YteepkanbiefpjaaGreatDoorVp
import Derived.Test.YteepkanbiefpjaaGreatDoorVa
set_option linter.unusedVariables false
set_option linter.unusedSimpArgs false
namespace Go.Proofs.YteepkanbiefpjaaGreatDoor.Bk
open Go.RowKit K
open MgRow (M mC Ms)
def oth (m : M) : Prop := m.k = 8 ∨ m.k = 9 ∨ m.k = 10 ∨ m.k = 11 ∨ m.k = 14 ∨ m.k = 15
structure Kp (P : Int → Cn → Prop) : Prop where
  mk ::
  cl : ∀ id c, P id c → P id (cSt c 2)
  ad : ∀ id c m, P id c → c.st = 1 → oth m → P id (cOut c (c.out ++ mb m))
def Al (P : Int → Cn → Prop) (s : Br) : Prop := ∀ id c, get s id = some c → P id c
section
variable {P : Int → Cn → Prop}
theorem Al.set {s : Br} (h : Al P s) {id : Int} {c : Cn} (hg : get s id = some c) {c' : Cn} (hc : P id c') : Al P (set s id c') := fun j x hj => by
  by_cases e : j = id
  · subst e
    rw [get_set_same hg] at hj
    exact Option.some.inj hj ▸ hc
  · rw [get_set_other e] at hj; exact h j x hj
theorem Al.tab {s : Br} (h : Al P s) (t : Fl.T) : Al P (wTab s t) := h
theorem Al.holder {s : Br} (h : Al P s) (x : Int) : Al P (wHolder s x) := h
theorem Al.inp {s : Br} (h : Al P s) (x : Iq.QS) : Al P (wInp s x) := h
theorem Al.strikes {s : Br} (h : Al P s) (x : Int) : Al P (wStrikes s x) := h
theorem al_runAll (f : Br → Int → Br) (hf : ∀ s id c, Al P s → get s id = some c → c.st = 1 → Al P (f s id)) : ∀ (l : List Int) (s : Br), Al P s → Al P (runAll f l s)
  | [], s, hs => hs
  | a :: l, s, hs => by
    unfold runAll
    rw [List.foldl_cons]
    have h2 := al_runAll f hf l (if openS s a then f s a else s)
    unfold runAll at h2
    refine h2 ?_
    by_cases ho : openS s a = true
    · rw [if_pos ho]
      unfold openS at ho
      cases hg : get s a with
      | none => rw [hg] at ho; cases ho
      | some c =>
        rw [hg] at ho
        exact hf s a c hs hg (by simpa using ho)
    · rw [if_neg ho]; exact hs
theorem al_sendW (K : Kp P) (lv : Br → Int → Br) (hlv : ∀ s id, Al P s → Al P (lv s id)) {s : Br} (h : Al P s) {id : Int} {c : Cn} (hg : get s id = some c) (h1 : c.st ≠ 0) (h2 : c.st = 1 ∨ c.st = 2) {m : M} (hm : oth m) : Al P (sendW lv s id m) := by
  unfold sendW
  rw [hg]
  simp only
  split
  · exact h
  · rename_i h3
    split
    · exact h.set hg (K.ad id c m (h id c hg) (by omega) hm)
    · exact hlv s id h
theorem al_tellW (K : Kp P) (lv : Br → Int → Br) (hlv : ∀ s id, Al P s → Al P (lv s id)) {s : Br} (h : Al P s) {m : M} (hm : oth m) : Al P (tellW lv s m) :=
  al_runAll _ (fun s id c hs hg h1 => al_sendW K lv hlv hs hg (by omega) (.inl h1) hm) _ s h
theorem oth_note (t : List UInt8) : oth (note t) := .inr (.inr (.inl rfl))
theorem al_leaveN (K : Kp P) : ∀ (f : Nat) (s : Br) (id : Int), Al P s → Al P (leaveN f s id)
  | 0, s, id, h => by
    unfold leaveN
    cases hg : get s id with
    | none => exact h
    | some c => exact (h.set hg (K.cl id c (h id c hg))).tab _
  | f + 1, s, id, h => by
    unfold leaveN
    cases hg : get s id with
    | none => exact h
    | some c =>
      simp only
      split
      · exact al_tellW K _ (al_leaveN K f) ((h.set hg (K.cl id c (h id c hg))).tab _) (oth_note _)
      · exact h.set hg (K.cl id c (h id c hg))
theorem Al.leave (K : Kp P) {s : Br} (h : Al P s) (id : Int) : Al P (leave s id) := al_leaveN K 17 s id h
theorem Al.send (K : Kp P) {s : Br} (h : Al P s) {id : Int} (h1 : ∀ c, get s id = some c → c.st = 1 ∨ c.st = 2) {m : M} (hm : oth m) : Al P (send s id m) := by
  cases hg : get s id with
  | none => unfold Bk.send sendW; rw [hg]; exact h
  | some c => exact al_sendW K Bk.leave (fun s id h => h.leave K id) h hg (by have := h1 c hg; omega) (h1 c hg) hm
theorem Al.tell (K : Kp P) {s : Br} (h : Al P s) {m : M} (hm : oth m) : Al P (tell s m) := al_tellW K _ (fun s id h => h.leave K id) h hm
theorem al_turnedN (K : Kp P) : ∀ (f : Nat) {s : Br}, Al P s → Al P (turnedN f s)
  | 0, _, h => h
  | f + 1, s, h => by
    unfold turnedN
    split
    · exact h
    · exact al_turnedN K f ((h.holder _).tell K (.inr (.inl rfl)))
theorem Al.turned (K : Kp P) {s : Br} (h : Al P s) : Al P (turned s) := al_turnedN K 40 h
theorem al_filter {s : Br} (ho : Ok s) (h : Al P s) (p : Int × Cn → Bool) : Al P (strike s p) := fun id c hg => h id c (get_strike_some ho hg).1
theorem al_leave_but (K : Kp P) {s : Br} {id : Int} {c : Cn} (hg : get s id = some c) (h : ∀ j x, j ≠ id → get s j = some x → P j x) (hc : P id (cSt c 2)) : Al P (leave s id) := by
  have hs : Al P (Bk.set s id (cSt c 2)) := fun j x hj => by
    by_cases e : j = id
    · subst e
      rw [get_set_same hg] at hj
      exact Option.some.inj hj ▸ hc
    · rw [get_set_other e] at hj; exact h j x e hj
  unfold Bk.leave leaveN
  rw [hg]
  simp only
  split
  · exact al_tellW K _ (al_leaveN K 16) (hs.tab _) (oth_note _)
  · exact hs
theorem Al.shut (K : Kp P) {s : Br} (h : Al P s) {id why : Int} (hw : ∀ c, get s id = some c → c.st ≠ 2 → P id (cSt (cOut c (c.out ++ mb ⟨13, why, 0, []⟩)) 2)) : Al P (shut s id why) := by
  unfold Bk.shut
  cases hg : get s id with
  | none =>
    have e : Bk.send s id ⟨13, why, 0, []⟩ = s := by unfold Bk.send sendW; rw [hg]
    rw [e]
    have : closed s id = true := by unfold closed; rw [hg]
    rw [if_pos this]; exact h
  | some c =>
    by_cases h2 : c.st = 2
    · have e : Bk.send s id ⟨13, why, 0, []⟩ = s := by unfold Bk.send sendW; rw [hg]; simp only; rw [if_pos h2]
      rw [e]
      have : closed s id = true := by unfold closed; rw [hg]; simp [h2]
      rw [if_pos this]; exact h
    · by_cases hf : (c.out.length : Int) + (mb ⟨13, why, 0, []⟩).length ≤ s.cf.queue
      · have e := send_fits hg h2 hf
        rw [e]
        have hg2 := get_set_same (c' := cOut c (c.out ++ mb ⟨13, why, 0, []⟩)) hg
        have : closed (Bk.set s id (cOut c (c.out ++ mb ⟨13, why, 0, []⟩))) id = false := by unfold closed; rw [hg2]; simpa [cOut] using h2
        rw [if_neg (by rw [this]; decide)]
        exact al_leave_but K hg2 (fun j x e hj => by rw [get_set_other e] at hj; exact h j x hj) (hw c hg h2)
      · have e : Bk.send s id ⟨13, why, 0, []⟩ = Bk.leave s id := by unfold Bk.send sendW; rw [hg]; simp only; rw [if_neg h2, if_neg hf]
        rw [e]
        obtain ⟨c', hc', h2'⟩ := leave_closed hg
        have : closed (Bk.leave s id) id = true := by unfold closed; rw [hc']; simp [h2']
        rw [if_pos this]
        exact h.leave K id
end
end Go.Proofs.YteepkanbiefpjaaGreatDoor.Bk
set_option linter.unusedVariables false
set_option linter.unusedSimpArgs false
namespace Go.Proofs.YteepkanbiefpjaaGreatDoor.Bk
open Go.RowKit K
open MgRow (M mC Ms)
structure Kq (P : Int → Cn → Prop) : Prop extends Kp P where
  sh : ∀ id c why, P id c → c.st ≠ 2 → P id (cSt (cOut c (c.out ++ mb ⟨13, why, 0, []⟩)) 2)
def openC (s : Br) (id : Int) : Prop := ∀ c, get s id = some c → c.st = 1 ∨ c.st = 2
theorem openC_sm {s s' : Br} {id : Int} (h : openC s id) (k : Sm s s') : openC s' id := fun c hc => by
  obtain ⟨c0, h0, h1, _⟩ := k.back hc
  have := h c0 h0
  omega
section
variable {P : Int → Cn → Prop} {s : Br} {id : Int}
theorem Al.shutq (K : Kq P) (h : Al P s) (j why : Int) : Al P (Bk.shut s j why) := Al.shut K.toKp h fun c hg h2 => K.sh j c why (h j c hg) h2
theorem Al.list (K : Kp P) (h : Al P s) (ho : openC s id) : Al P (listN s id) := by
  unfold listN
  have key : ∀ (l : List Int) (t : Br), Al P t → openC t id → Al P (l.foldl (fun s j => Bk.send s id (note (listT s j ((Fl.rget s.tab.roles j).getD 0)))) t) := by
    intro l
    induction l with
    | nil => intro t h _; exact h
    | cons a l ih => intro t h ho; exact ih _ (h.send K ho (oth_note _)) (openC_sm ho (sm_send' _ _ _))
  exact key _ s h ho
theorem Al.toOther (K : Kq P) (h : Al P s) (k n : Int) : Al P (toOther s k n).1 := by
  unfold Bk.toOther
  split
  · exact h
  · split
    · exact h.tab _
    · split
      · exact h.shutq K n 5
      · split
        · exact h.tab _
        · exact h.tab _
theorem Al.does (K : Kq P) (h : Al P s) (ho : openC s id) (k n : Int) (hrp : k = 10 → ∀ c v, get s id = some c → P id c → P id (cVw c v)) : Al P (does s id k n).1 := by
  unfold Bk.does
  split
  · exact h
  · split
    · exact h.tab _
    · split
      · exact h.tab _
      · split
        · exact h.list K.toKp ho
        · split
          · exact h.shutq K id 0
          · split
            · exact h.tab _
            · split
              · rename_i h10
                simp only
                cases hg : get s id with
                | none => exact h
                | some c => exact h.set hg (hrp h10 c _ hg (h id c hg))
              · split
                · split
                  · exact h
                  · exact h.strikes _
                · exact h.toOther K k n
theorem openS_iff (s : Br) (id : Int) : openS s id = true ↔ ∃ c, get s id = some c ∧ c.st = 1 := by
  unfold openS
  cases get s id with
  | none => simp
  | some c => simp
theorem openC_of (ho : openS s id = true) : openC s id := fun c hc => by
  obtain ⟨c', h', h1⟩ := (openS_iff s id).1 ho
  rw [hc] at h'
  exact .inl (Option.some.inj h' ▸ h1)
theorem does_open (h : openC s id) (k n : Int) : openC (does s id k n).1 id := by
  have key : ∀ (f : Br), (∀ c', get f id = some c' → ∃ c, get s id = some c ∧ (c'.st = c.st ∨ c'.st = 2)) → openC f id := fun f hf c hc => by
    obtain ⟨c0, h0, h1⟩ := hf c hc
    have := h c0 h0
    omega
  have hal : Al (fun j c => j = id → c.st = 1 ∨ c.st = 2) s := fun j c hj e => by subst e; exact h c hj
  have hq : Kq (fun j (c : Cn) => j = id → c.st = 1 ∨ c.st = 2) := { cl := fun _ _ _ _ => .inr rfl, ad := fun _ _ _ h _ _ => h, sh := fun _ _ _ _ _ _ => .inr rfl }
  have := hal.does hq h k n (fun _ c v hg hc => hc)
  exact fun c hc => this id c hc rfl
theorem Al.line (K : Kq P) (h : Al P s) (l : List UInt8) (hrp : (Or.parse l).2.2 = 0 → (Or.parse l).1 = 10 → ∀ (t : Br) c v, get t id = some c → P id c → P id (cVw c v)) : Al P (line id s l) := by
  unfold Bk.line
  split
  · rename_i ho
    have hop := openC_of ho
    simp only
    have hr : Al P (if (Or.parse l).2.2 ≠ 0 then (s, false) else Bk.does s id (Or.parse l).1 (Or.parse l).2.1).1 ∧ openC (if (Or.parse l).2.2 ≠ 0 then (s, false) else Bk.does s id (Or.parse l).1 (Or.parse l).2.1).1 id := by
      split
      · exact ⟨h, hop⟩
      · rename_i h0
        have h0' : (Or.parse l).2.2 = 0 := Decidable.not_not.1 h0
        exact ⟨h.does K hop _ _ (fun h10 c v hg hc => hrp h0' h10 s c v hg hc), does_open hop _ _⟩
    refine Al.turned K.toKp ?_
    generalize (if (Or.parse l).2.2 ≠ 0 then (s, false) else Bk.does s id (Or.parse l).1 (Or.parse l).2.1) = r at hr ⊢
    split
    · exact hr.1
    · exact Al.send K.toKp hr.1 hr.2 (m := ⟨11, 0, 0, l⟩) (.inr (.inr (.inr (.inl rfl))))
  · exact h
theorem Al.lines (K : Kq P) : ∀ (L : List (List UInt8)) {s : Br}, Al P s → (∀ l ∈ L, (Or.parse l).2.2 = 0 → (Or.parse l).1 = 10 → ∀ (t : Br) c v, get t id = some c → P id c → P id (cVw c v)) → Al P (L.foldl (Bk.line id) s)
  | [], _, h, _ => h
  | l :: L, s, h, hr => by
    rw [List.foldl_cons]
    exact Al.lines K L (h.line K l (hr l (by simp))) (fun l' hl => hr l' (List.mem_cons_of_mem _ hl))
theorem Al.typed (K : Kq P) (h : Al P s) {m : M} (ho : openC s id) (hlx : ∀ c, get s id = some c → P id c → P id { c with lx := (lxAll c.lx m.t).1 }) (hrp : ∀ c, get s id = some c → ∀ l ∈ (lxAll c.lx m.t).2.2, (Or.parse l).2.2 = 0 → (Or.parse l).1 = 10 → ∀ (t : Br) c v, get t id = some c → P id c → P id (cVw c v)) : Al P (typed s id m) := by
  unfold Bk.typed
  cases hg : get s id with
  | none => exact h
  | some c =>
    simp only
    have h1 : Al P (Bk.set s id { c with lx := (lxAll c.lx m.t).1 }) := h.set hg (hlx c hg (h id c hg))
    have ho1 : openC (Bk.set s id { c with lx := (lxAll c.lx m.t).1 }) id := fun x hx => by
      rw [get_set_same hg] at hx
      have := ho c hg
      exact Option.some.inj hx ▸ this
    refine Al.lines K _ ?_ (hrp c hg)
    split
    · exact h1
    · split
      · exact h1.inp _
      · refine Al.send (s := wInp _ _) K.toKp ?_ ?_ ?_
        · exact h1
        · exact ho1
        · exact .inl rfl
theorem tellW_keeps (lv : Br → Int → Br) {j : Int} {c : Cn} (hlv : ∀ s i, i ≠ j → get s j = some c → get (lv s i) j = some c) (h1 : c.st ≠ 1) {s : Br} (hg : get s j = some c) (m : M) : get (tellW lv s m) j = some c := by
  unfold tellW
  generalize ids s = l
  revert s
  induction l with
  | nil => intro s hg; exact hg
  | cons a l ih =>
    intro s hg
    unfold runAll
    rw [List.foldl_cons]
    unfold runAll at ih
    refine ih ?_
    by_cases ho : openS s a = true
    · rw [if_pos ho]
      have hne : a ≠ j := fun e => by
        obtain ⟨c', hc', h1'⟩ := (openS_iff s a).1 ho
        rw [e, hg] at hc'
        exact h1 (Option.some.inj hc' ▸ h1')
      show get (sendW lv s a m) j = some c
      unfold sendW
      split
      · exact hg
      · split
        · exact hg
        · split
          · rw [get_set_other (fun e => hne e.symm)]; exact hg
          · exact hlv s a hne hg
    · rw [if_neg ho]; exact hg
theorem leaveN_keeps {j : Int} {c : Cn} (h1 : c.st ≠ 1) : ∀ (f : Nat) (s : Br) (i : Int), i ≠ j → get s j = some c → get (leaveN f s i) j = some c
  | 0, s, i, hne, hg => by
    unfold leaveN
    split
    · exact hg
    · show get (Bk.set s i _) j = some c
      rw [get_set_other (fun e => hne e.symm)]; exact hg
  | f + 1, s, i, hne, hg => by
    unfold leaveN
    split
    · exact hg
    · split
      · refine tellW_keeps _ (leaveN_keeps h1 f) h1 ?_ _
        show get (Bk.set s i _) j = some c
        rw [get_set_other (fun e => hne e.symm)]; exact hg
      · rw [get_set_other (fun e => hne e.symm)]; exact hg
theorem tell_keeps {j : Int} {c : Cn} (h1 : c.st ≠ 1) {s : Br} (hg : get s j = some c) (m : M) : get (Bk.tell s m) j = some c := tellW_keeps _ (fun s i hne hg => leaveN_keeps h1 17 s i hne hg) h1 hg m
theorem Al.hello (K : Kq P) (h : Al P s) (m : M) (h0 : ∀ c, get s id = some c → c.st = 0)
    (hw : ∀ (t : Br) c a r, get t id = some c → t.log = s.log → t.cf = s.cf → P id c → c.st = 0 → a = Vw.startN s.log (Rg.roomN s.cf.log) m.b (decide (m.a / 2 % 2 = 1)) → ((c.out.length : Int) + (mb ⟨5, id, (a : Int), wordOf r⟩).length ≤ s.cf.queue → P id { c with st := 1, name := m.t, vw := some (a, 0), out := c.out ++ mb ⟨5, id, (a : Int), wordOf r⟩ }) ∧ (¬ ((c.out.length : Int) + (mb ⟨5, id, (a : Int), wordOf r⟩).length ≤ s.cf.queue) → P id { c with st := 2, name := m.t, vw := some (a, 0) })) : Al P (hello s id m) := by
  unfold Bk.hello
  split
  · exact h.shutq K id 4
  · split
    · exact h.shutq K id 2
    · split
      · exact h.shutq K id 3
      · simp only
        have h1 : Al P (Bk.tell s (note (joinT id m.t))) := h.tell K.toKp (oth_note _)
        have hsm : Sm s (Bk.tell s (note (joinT id m.t))) := sm_tell' s _
        have hcst : ∀ c, get (Bk.tell s (note (joinT id m.t))) id = some c → c.st = 0 := fun c hc => by
          obtain ⟨c0, hc0, _⟩ := hsm.back hc
          have h00 := h0 c0 hc0
          have hk := tell_keeps (by omega) hc0 (note (joinT id m.t))
          rw [hc] at hk
          exact Option.some.inj hk ▸ h00
        generalize Bk.tell s (note (joinT id m.t)) = t at h1 hsm hcst ⊢
        cases hg : get t id with
        | none => exact h1
        | some c =>
          simp only
          obtain ⟨a, ha⟩ : ∃ a, a = Vw.startN t.log (Rg.roomN t.cf.log) m.b (decide (m.a / 2 % 2 = 1)) := ⟨_, rfl⟩
          rw [← ha]
          have ha2 : a = Vw.startN s.log (Rg.roomN s.cf.log) m.b (decide (m.a / 2 % 2 = 1)) := by rw [ha, hsm.log, hsm.cf]
          obtain ⟨r, hr⟩ : ∃ r, r = roleOf (Bk.set t id { c with st := 1, name := m.t, vw := some (a, 0) }) (decide (m.a % 2 = 1)) := ⟨_, rfl⟩
          rw [← hr]
          obtain ⟨T, hT⟩ : ∃ T, T = wTab (Bk.set t id { c with st := 1, name := m.t, vw := some (a, 0) }) (Fl.join (Bk.set t id { c with st := 1, name := m.t, vw := some (a, 0) }).tab id r) := ⟨_, rfl⟩
          rw [← hT]
          have hgT : get T id = some { c with st := 1, name := m.t, vw := some (a, 0) } := by rw [hT]; exact get_set_same hg
          have hoT : ∀ j x, j ≠ id → get T j = some x → P j x := fun j x e hj => by
            rw [hT] at hj
            have hj2 : get (Bk.set t id { c with st := 1, name := m.t, vw := some (a, 0) }) j = some x := hj
            rw [get_set_other e] at hj2
            exact h1 j x hj2
          have hqT : T.cf.queue = s.cf.queue := by rw [hT]; show t.cf.queue = _; rw [hsm.cf]
          have hc0' : c.st = 0 := hcst c hg
          have h4 : Al P (Bk.send T id ⟨5, id, (a : Int), wordOf r⟩) ∧ openC (Bk.send T id ⟨5, id, (a : Int), wordOf r⟩) id := by
            have hop : openC T id := fun x hx => by rw [hgT] at hx; exact Option.some.inj hx ▸ .inl rfl
            refine ⟨?_, openC_sm hop (sm_send' _ _ _)⟩
            · have hww := hw t c a r hg hsm.log hsm.cf (h1 id c hg) hc0' ha2
              by_cases hf : (c.out.length : Int) + (mb ⟨5, id, (a : Int), wordOf r⟩).length ≤ s.cf.queue
              · rw [send_fits hgT (show (1 : Int) ≠ 2 by decide) (by rw [hqT]; exact hf)]
                intro j x hj
                by_cases e : j = id
                · subst e
                  rw [get_set_same hgT] at hj
                  exact Option.some.inj hj ▸ hww.1 hf
                · rw [get_set_other e] at hj; exact hoT j x e hj
              · have e : Bk.send T id ⟨5, id, (a : Int), wordOf r⟩ = Bk.leave T id := by
                  unfold Bk.send sendW
                  rw [hgT]
                  simp only
                  rw [if_neg (show ¬ (1 : Int) = 2 by decide), if_neg (by rw [hqT]; exact hf)]
                rw [e]
                exact al_leave_but K.toKp hgT hoT (hww.2 hf)
          generalize Bk.send T id ⟨5, id, (a : Int), wordOf r⟩ = U at h4 ⊢
          have h5 : Al P (Bk.send U id ⟨9, U.holder, 0, []⟩) := h4.1.send K.toKp h4.2 (.inr (.inl rfl))
          have h6 : openC (Bk.send U id ⟨9, U.holder, 0, []⟩) id := openC_sm h4.2 (sm_send' _ _ _)
          generalize Bk.send U id ⟨9, U.holder, 0, []⟩ = V at h5 h6 ⊢
          split
          · exact Al.send K.toKp h5 h6 (m := ⟨15, V.code, 0, []⟩) (.inr (.inr (.inr (.inr (.inr rfl)))))
          · exact h5
end
end Go.Proofs.YteepkanbiefpjaaGreatDoor.Bk
set_option linter.unusedVariables false
set_option linter.unusedSimpArgs false
namespace Go.Proofs.YteepkanbiefpjaaGreatDoor.Bk
open Go.RowKit K
open MgRow (M mC Ms)
structure Eqv (c c' : Cn) : Prop where
  mk ::
  st : c'.st = c.st
  name : c'.name = c.name
  idle : c'.idle = c.idle
  lx : c'.lx = c.lx
  vw : c'.vw = c.vw
  len : c'.out.length = c.out.length
theorem Eqv.refl (c : Cn) : Eqv c c := ⟨rfl, rfl, rfl, rfl, rfl, rfl⟩
def Rl (j0 id : Int) (x x' : Option Cn) : Prop := (id ≠ j0 → x' = x) ∧ (x.isSome = x'.isSome) ∧ ∀ c c', x = some c → x' = some c' → Eqv c c'
structure Sx (j0 : Int) (s s' : Br) : Prop where
  mk ::
  cf : s'.cf = s.cf
  log : s'.log = s.log
  tab : s'.tab = s.tab
  inp : s'.inp = s.inp
  str : s'.strikes = s.strikes
  ended : s'.ended = s.ended
  code : s'.code = s.code
  holder : s'.holder = s.holder
  sp : s'.sp = s.sp
  ids : ids s' = ids s
  rel : ∀ id, Rl j0 id (get s id) (get s' id)
section
variable {j0 : Int} {s s' : Br}
theorem Rl.refl (j0 id : Int) (x : Option Cn) : Rl j0 id x x := ⟨fun _ => rfl, rfl, fun c c' h h' => by rw [h] at h'; rw [Option.some.inj h']; exact Eqv.refl _⟩
theorem Sx.refl (j0 : Int) (s : Br) : Sx j0 s s := ⟨rfl, rfl, rfl, rfl, rfl, rfl, rfl, rfl, rfl, rfl, fun _ => Rl.refl _ _ _⟩
theorem Sx.is (h : Sx j0 s s') {id : Int} {c : Cn} (hg : get s id = some c) : ∃ c', get s' id = some c' ∧ Eqv c c' ∧ (id ≠ j0 → c' = c) := by
  obtain ⟨h1, h2, h3⟩ := h.rel id
  rw [hg] at h2
  obtain ⟨c', hc'⟩ := Option.isSome_iff_exists.1 h2.symm
  exact ⟨c', hc', h3 c c' hg hc', fun hne => by have := h1 hne; rw [hg, hc'] at this; exact Option.some.inj this⟩
theorem Sx.no (h : Sx j0 s s') {id : Int} (hg : get s id = none) : get s' id = none := by
  obtain ⟨_, h2, _⟩ := h.rel id
  rw [hg] at h2
  cases hx : get s' id with
  | none => rfl
  | some c => rw [hx] at h2; cases h2
theorem Sx.set (h : Sx j0 s s') {id : Int} {c c' : Cn} (hg : get s id = some c) (hg' : get s' id = some c') {d d' : Cn} (hd : Eqv d d') (hne : id ≠ j0 → d' = d) : Sx j0 (Bk.set s id d) (Bk.set s' id d') := ⟨h.cf, h.log, h.tab, h.inp, h.str, h.ended, h.code, h.holder, h.sp, by rw [ids_set, ids_set]; exact h.ids, fun j => by
  by_cases e : j = id
  · subst e
    rw [get_set_same hg, get_set_same hg']
    exact ⟨fun hn => by rw [hne hn], rfl, fun x x' hx hx' => by rw [← Option.some.inj hx, ← Option.some.inj hx']; exact hd⟩
  · rw [get_set_other e, get_set_other e]; exact h.rel j⟩
theorem Sx.wtab (h : Sx j0 s s') (t : Fl.T) : Sx j0 (wTab s t) (wTab s' t) := ⟨h.cf, h.log, rfl, h.inp, h.str, h.ended, h.code, h.holder, h.sp, h.ids, h.rel⟩
theorem Sx.wholder (h : Sx j0 s s') (t : Int) : Sx j0 (wHolder s t) (wHolder s' t) := ⟨h.cf, h.log, h.tab, h.inp, h.str, h.ended, h.code, rfl, h.sp, h.ids, h.rel⟩
theorem Sx.openS (h : Sx j0 s s') (id : Int) : Bk.openS s' id = Bk.openS s id := by
  unfold Bk.openS
  cases hg : get s id with
  | none => rw [h.no hg]
  | some c =>
    obtain ⟨c', hc', he, _⟩ := h.is hg
    rw [hc']
    simp only
    rw [he.st]
theorem Sx.closed (h : Sx j0 s s') (id : Int) : Bk.closed s' id = Bk.closed s id := by
  unfold Bk.closed
  cases hg : get s id with
  | none => rw [h.no hg]
  | some c =>
    obtain ⟨c', hc', he, _⟩ := h.is hg
    rw [hc']
    simp only
    rw [he.st]
theorem Sx.run (f f' : Br → Int → Br) (hf : ∀ s s' id, Sx j0 s s' → Sx j0 (f s id) (f' s' id)) : ∀ (l : List Int) {s s' : Br}, Sx j0 s s' → Sx j0 (runAll f l s) (runAll f' l s')
  | [], _, _, h => h
  | a :: l, s, s', h => by
    unfold runAll
    rw [List.foldl_cons, List.foldl_cons]
    have h2 : Sx j0 (if Bk.openS s a then f s a else s) (if Bk.openS s' a then f' s' a else s') := by
      rw [h.openS a]
      split
      · exact hf s s' a h
      · exact h
    exact Sx.run f f' hf l h2
theorem Sx.sendW (lv : Br → Int → Br) (hlv : ∀ s s' id, Sx j0 s s' → Sx j0 (lv s id) (lv s' id)) (h : Sx j0 s s') (id : Int) {m m' : M} (hm : (mb m').length = (mb m).length) (hne : id ≠ j0 → m' = m) : Sx j0 (Bk.sendW lv s id m) (Bk.sendW lv s' id m') := by
  unfold Bk.sendW
  cases hg : get s id with
  | none => rw [h.no hg]; exact h
  | some c =>
    obtain ⟨c', hc', he, hn⟩ := h.is hg
    rw [hc']
    simp only
    rw [he.st, he.len, hm, h.cf]
    split
    · exact h
    · split
      · refine h.set hg hc' ⟨he.st, he.name, he.idle, he.lx, he.vw, ?_⟩ (fun hne' => by rw [hn hne', hne hne'])
        show (c'.out ++ mb m').length = (c.out ++ mb m).length
        rw [List.length_append, List.length_append, he.len, hm]
      · exact hlv s s' id h
theorem Sx.tellW (lv : Br → Int → Br) (hlv : ∀ s s' id, Sx j0 s s' → Sx j0 (lv s id) (lv s' id)) (h : Sx j0 s s') (m : M) : Sx j0 (Bk.tellW lv s m) (Bk.tellW lv s' m) := by
  unfold Bk.tellW
  rw [h.ids]
  exact Sx.run _ _ (fun s s' id h => Sx.sendW lv hlv h id rfl (fun _ => rfl)) _ h
theorem Sx.leaveN : ∀ (f : Nat) (s s' : Br) (id : Int), Sx j0 s s' → Sx j0 (Bk.leaveN f s id) (Bk.leaveN f s' id)
  | 0, s, s', id, h => by
    unfold Bk.leaveN
    cases hg : get s id with
    | none => rw [h.no hg]; exact h
    | some c =>
      obtain ⟨c', hc', he, hn⟩ := h.is hg
      rw [hc']
      simp only
      rw [he.st, h.tab]
      exact (h.set hg hc' (d := cSt c 2) (d' := cSt c' 2) ⟨rfl, he.name, he.idle, he.lx, he.vw, he.len⟩ (fun hne => by rw [hn hne])).wtab _
  | f + 1, s, s', id, h => by
    unfold Bk.leaveN
    cases hg : get s id with
    | none => rw [h.no hg]; exact h
    | some c =>
      obtain ⟨c', hc', he, hn⟩ := h.is hg
      rw [hc']
      simp only
      rw [he.st, h.tab]
      have h1 := h.set hg hc' (d := cSt c 2) (d' := cSt c' 2) ⟨rfl, he.name, he.idle, he.lx, he.vw, he.len⟩ (fun hne => by rw [hn hne])
      split
      · exact Sx.tellW _ (Sx.leaveN f) (h1.wtab _) _
      · exact h1
theorem Sx.leave (h : Sx j0 s s') (id : Int) : Sx j0 (Bk.leave s id) (Bk.leave s' id) := Sx.leaveN 17 s s' id h
theorem Sx.send (h : Sx j0 s s') (id : Int) {m m' : M} (hm : (mb m').length = (mb m).length) (hne : id ≠ j0 → m' = m) : Sx j0 (Bk.send s id m) (Bk.send s' id m') := Sx.sendW _ (fun s s' id h => h.leave id) h id hm hne
theorem Sx.tell (h : Sx j0 s s') (m : M) : Sx j0 (Bk.tell s m) (Bk.tell s' m) := Sx.tellW _ (fun s s' id h => h.leave id) h m
theorem Sx.shut (h : Sx j0 s s') (id : Int) {why why' : Int} (hm : (mb ⟨13, why', 0, []⟩).length = (mb ⟨13, why, 0, []⟩).length) (hne : id ≠ j0 → why' = why) : Sx j0 (Bk.shut s id why) (Bk.shut s' id why') := by
  unfold Bk.shut
  have h1 : Sx j0 (Bk.send s id ⟨13, why, 0, []⟩) (Bk.send s' id ⟨13, why', 0, []⟩) := h.send id hm (fun e => by rw [hne e])
  rw [h1.closed id]
  split
  · exact h1
  · exact h1.leave id
theorem Sx.turnedN : ∀ (f : Nat) {s s' : Br}, Sx j0 s s' → Sx j0 (Bk.turnedN f s) (Bk.turnedN f s')
  | 0, _, _, h => h
  | f + 1, s, s', h => by
    unfold Bk.turnedN
    rw [h.tab, h.holder]
    split
    · exact h
    · exact Sx.turnedN f ((h.wholder _).tell _)
theorem Sx.turned (h : Sx j0 s s') : Sx j0 (Bk.turned s) (Bk.turned s') := Sx.turnedN 40 h
theorem Sx.pumpN (id : Int) : ∀ (f : Nat) {s s' : Br}, Sx j0 s s' → Sx j0 (Bk.pumpN id f s) (Bk.pumpN id f s')
  | 0, _, _, h => h
  | f + 1, s, s', h => by
    unfold Bk.pumpN
    cases hg : get s id with
    | none => rw [h.no hg]; exact h
    | some c =>
      obtain ⟨c', hc', he, hn⟩ := h.is hg
      rw [hc']
      simp only
      rw [he.st, he.vw, he.len, h.log, h.cf, h.str]
      split
      · split
        · exact h
        · rename_i a b _
          split
          · exact h.set hg hc' ⟨he.st, he.name, he.idle, he.lx, rfl, he.len⟩ (fun hne => by rw [hn hne])
          · refine Sx.pumpN id f ?_
            have h1 := h.set hg hc' (d := cOut (cVw c ((Vw.next s.log (Rg.roomN s.cf.log) a b (s.cf.queue - c.out.length - 200) s.cf.data s.strikes).at_, (Vw.next s.log (Rg.roomN s.cf.log) a b (s.cf.queue - c.out.length - 200) s.cf.data s.strikes).st)) (if (c.out.length : Int) + (mb (Vw.next s.log (Rg.roomN s.cf.log) a b (s.cf.queue - c.out.length - 200) s.cf.data s.strikes).m).length ≤ s.cf.queue then c.out ++ mb (Vw.next s.log (Rg.roomN s.cf.log) a b (s.cf.queue - c.out.length - 200) s.cf.data s.strikes).m else c.out))
              (d' := cOut (cVw c' ((Vw.next s.log (Rg.roomN s.cf.log) a b (s.cf.queue - c.out.length - 200) s.cf.data s.strikes).at_, (Vw.next s.log (Rg.roomN s.cf.log) a b (s.cf.queue - c.out.length - 200) s.cf.data s.strikes).st)) (if (c.out.length : Int) + (mb (Vw.next s.log (Rg.roomN s.cf.log) a b (s.cf.queue - c.out.length - 200) s.cf.data s.strikes).m).length ≤ s.cf.queue then c'.out ++ mb (Vw.next s.log (Rg.roomN s.cf.log) a b (s.cf.queue - c.out.length - 200) s.cf.data s.strikes).m else c'.out))
              ⟨he.st, he.name, he.idle, he.lx, rfl, by
                show (if _ then c'.out ++ _ else c'.out).length = (if _ then c.out ++ _ else c.out).length
                split
                · rw [List.length_append, List.length_append, he.len]
                · exact he.len⟩ (fun hne => by rw [hn hne])
            split
            · exact h1.leave id
            · exact h1
      · exact h
theorem Sx.pump (h : Sx j0 s s') : Sx j0 (Bk.pump s) (Bk.pump s') := by
  unfold Bk.pump
  rw [h.ids]
  refine Sx.run _ _ (fun s s' id h => ?_) _ h
  rw [h.log]
  exact Sx.pumpN id _ h
theorem filter_ids {α : Type} (l : List (Int × α)) (p : Int × α → Bool) (hs : (l.map (·.1)).Pairwise (· < ·)) : (l.filter p).map (·.1) = (l.map (·.1)).filter (fun i => (l.filter p).any fun q => decide (q.1 = i)) := by
  induction l with
  | nil => rfl
  | cons x l ih =>
    simp only [List.map_cons, List.pairwise_cons] at hs
    have hx : ∀ q ∈ l, q.1 ≠ x.1 := fun q hq e => by have := hs.1 q.1 (List.mem_map.2 ⟨q, hq, rfl⟩); omega
    rw [List.map_cons, List.filter_cons, List.filter_cons]
    by_cases hp : p x = true
    · rw [if_pos hp, if_pos (by simp)]
      rw [List.map_cons, ih hs.2]
      congr 1
      refine List.filter_congr fun i hi => ?_
      obtain ⟨q, hq, rfl⟩ := List.mem_map.1 hi
      rw [List.any_cons, decide_eq_false (fun e => hx q hq e.symm), Bool.false_or]
    · rw [if_neg hp]
      have : ((l.filter p).any fun q => decide (q.1 = x.1)) = false := by
        rw [List.any_eq_false]
        intro q hq
        have := hx q (List.mem_filter.1 hq).1
        simpa using this
      rw [if_neg (by rw [this]; decide), ih hs.2]
theorem any_get {s : Br} (ho : Ok s) (p : Int × Cn → Bool) (i : Int) : (((strike s p).cs).any fun q => decide (q.1 = i)) = (get (strike s p) i).isSome := by
  unfold get cget
  generalize (strike s p).cs = l
  induction l with
  | nil => rfl
  | cons x l ih =>
    rw [List.any_cons, List.find?_cons]
    by_cases e : x.1 = i
    · simp [e]
    · simp [e]; simpa using ih
theorem Sx.strike (h : Sx j0 s s') (ho : Ok s) (ho' : Ok s') (p p' : Int × Cn → Bool) (hp : ∀ id c c', get s id = some c → get s' id = some c' → p' (id, c') = p (id, c)) : Sx j0 (Bk.strike s p) (Bk.strike s' p') := by
  have hrel : ∀ id, Rl j0 id (get (Bk.strike s p) id) (get (Bk.strike s' p') id) := fun id => by
    rw [get_strike ho, get_strike ho']
    cases hg : get s id with
    | none => rw [h.no hg]; exact Rl.refl _ _ _
    | some c =>
      obtain ⟨c', hc', he, hn⟩ := h.is hg
      rw [hc']
      have hpp := hp id c c' hg hc'
      unfold Rl
      simp only [Option.filter_some, hpp]
      split
      · exact ⟨fun hne => by rw [hn hne], rfl, fun x x' hx hx' => by rw [← Option.some.inj hx, ← Option.some.inj hx']; exact he⟩
      · exact ⟨fun _ => rfl, rfl, fun x x' hx => by cases hx⟩
  refine ⟨h.cf, h.log, h.tab, h.inp, h.str, h.ended, h.code, h.holder, h.sp, ?_, hrel⟩
  have e1 : Bk.ids (Bk.strike s p) = (Bk.ids s).filter (fun i => (get (Bk.strike s p) i).isSome) := by
    have := filter_ids s.cs p ho.srt
    unfold Bk.ids
    rw [show (Bk.strike s p).cs = s.cs.filter p from rfl, this]
    refine List.filter_congr fun i _ => ?_
    exact any_get ho p i
  have e2 : Bk.ids (Bk.strike s' p') = (Bk.ids s').filter (fun i => (get (Bk.strike s' p') i).isSome) := by
    have := filter_ids s'.cs p' ho'.srt
    unfold Bk.ids
    rw [show (Bk.strike s' p').cs = s'.cs.filter p' from rfl, this]
    refine List.filter_congr fun i _ => ?_
    exact any_get ho' p' i
  rw [e1, e2, h.ids]
  exact List.filter_congr fun i _ => (hrel i).2.1.symm
theorem Sx.sweep (h : Sx j0 s s') (ho : Ok s) (ho' : Ok s') : Sx j0 (Bk.sweep s) (Bk.sweep s') := h.strike ho ho' _ _ (fun id c c' hg hg' => by
  obtain ⟨x, hx, he, _⟩ := h.is hg
  rw [hg'] at hx
  obtain rfl := Option.some.inj hx
  have hl := he.len
  show (!(c'.st == 2 && c'.out.isEmpty)) = (!(c.st == 2 && c.out.isEmpty))
  rw [he.st]
  have : c'.out.isEmpty = c.out.isEmpty := by
    cases h1 : c'.out with
    | nil => rw [h1] at hl; cases h2 : c.out with | nil => rfl | cons a b => rw [h2] at hl; cases hl
    | cons a b => rw [h1] at hl; cases h2 : c.out with | nil => rw [h2] at hl; cases hl | cons x y => rfl
  rw [this])
theorem Sx.settle {n n' : Nat} (hd : Gd n s) (hd' : Gd n' s') (h : Sx j0 s s') : Sx j0 (Bk.settle s) (Bk.settle s') := Sx.sweep h.turned.pump.turned hd.turned.pump.turned.ok hd'.turned.pump.turned.ok
theorem Sx.write {n n' : Nat} (hd : Gd n s) (hd' : Gd n' s') (h : Sx j0 s s') {id : Int} (hne : id ≠ j0) (x : Int) : Sx j0 (Bk.write s id x).1 (Bk.write s' id x).1 ∧ (Bk.write s' id x).2 = (Bk.write s id x).2 := by
  unfold Bk.write
  cases hg : get s id with
  | none => rw [h.no hg]; exact ⟨h, rfl⟩
  | some c =>
    obtain ⟨c', hc', he, hn⟩ := h.is hg
    obtain rfl := hn hne
    rw [hc']
    simp only
    exact ⟨Sx.settle (hd.cnOut hg _) (hd'.cnOut hc' _) (h.set hg hc' (Eqv.refl _) (fun _ => rfl)), by trivial⟩
end
end Go.Proofs.YteepkanbiefpjaaGreatDoor.Bk
set_option linter.unusedVariables false
set_option linter.unusedSimpArgs false
namespace Go.Proofs.YteepkanbiefpjaaGreatDoor.Bk
open Go.RowKit K
open MgRow (M mC Ms)
theorem message_recv (s : Br) (id : Int) (k : UInt8) (body : List UInt8) (h : MgOf.isMsg (k.toNat : Int) body = true) : message s id k body = recv s id (msgOf k body) := by
  unfold message recv
  simp only
  rw [if_neg (by rw [h]; decide)]
  rfl
theorem message_no (s : Br) (id : Int) (k : UInt8) (body : List UInt8) (h : MgOf.isMsg (k.toNat : Int) body = false) : message s id k body = shut s id 4 := by
  unfold message
  simp only
  rw [if_pos h]
section
variable {P : Int → Cn → Prop} {s : Br} {id : Int}
theorem shut_closed (s : Br) (id why : Int) : ∀ c, get (shut s id why) id = some c → c.st = 2 := by
  intro c hc
  unfold shut at hc
  split at hc
  · rename_i hcl
    unfold closed at hcl
    rw [hc] at hcl
    simpa using hcl
  · cases hg : get (send s id ⟨13, why, 0, []⟩) id with
    | none =>
      obtain ⟨c0, h0, _⟩ := (sm_leave' (send s id ⟨13, why, 0, []⟩) id).back hc
      rw [hg] at h0; cases h0
    | some x =>
      obtain ⟨c', h1, h2⟩ := leave_closed hg
      rw [hc] at h1
      rw [Option.some.inj h1]; exact h2
end
structure Kz (P : Int → Cn → Prop) : Prop extends Kq P where
  any : ∀ id c c', P id c → c'.st = c.st → c'.fb = c.fb → c'.fe = c.fe → c'.lx = c.lx → P id c'
section
variable {P : Int → Cn → Prop} {s : Br} {n : Nat}
theorem Al.pumpN (K : Kz P) (id : Int) : ∀ (f : Nat) {s : Br}, Gd n s → Al P s → Al P (pumpN id f s)
  | 0, s, _, h => h
  | f + 1, s, hd, h => by
    cases hg : get s id with
    | none => unfold Bk.pumpN; rw [hg]; exact h
    | some c =>
      by_cases h1 : c.st = 1
      · obtain ⟨hvs, _⟩ := hd.ok.opn id c hg h1
        obtain ⟨⟨a, b⟩, hv⟩ := Option.isSome_iff_exists.1 hvs
        obtain ⟨x, hx⟩ : ∃ x, x = nextOf s c a b := ⟨_, rfl⟩
        cases hok : x.ok with
        | false =>
          rw [pump_stop f hg h1 hv (by rw [← hx]; exact hok)]
          exact h.set hg (K.any id c _ (h id c hg) rfl rfl rfl rfl)
        | true =>
          rw [pump_go f hg h1 hv (by rw [← hx]; exact hok)]
          refine Al.pumpN K id f (hd.pumped hg hv) ?_
          have hs : ∀ o, Al P (Bk.set s id (cOut (cVw c ((nextOf s c a b).at_, (nextOf s c a b).st)) o)) := fun o => h.set hg (K.any id c _ (h id c hg) rfl rfl rfl rfl)
          unfold pumped
          simp only
          split
          · exact (hs _).leave K.toKp id
          · exact hs _
      · rw [pump_closed (f + 1) hg h1]; exact h
theorem Al.pump (K : Kz P) (hd : Gd n s) (h : Al P s) : Al P (pump s) := by
  have key : ∀ (l : List Int) (s : Br), Gd n s → Al P s → Al P (runAll (fun s id => Bk.pumpN id (s.log.length + 2) s) l s) := by
    intro l
    induction l with
    | nil => intro s _ h; exact h
    | cons a l ih =>
      intro s hd h
      unfold runAll
      rw [List.foldl_cons]
      unfold runAll at ih
      split
      · exact ih _ (hd.pumpN a _) (Al.pumpN K a _ hd h)
      · exact ih _ hd h
  exact key _ s hd h
theorem Al.settle (K : Kz P) (hd : Gd n s) (h : Al P s) : Al P (settle s) := al_filter hd.turned.pump.turned.ok ((Al.pump K hd.turned (h.turned K.toKp)).turned K.toKp) _
theorem Al.write (K : Kz P) (hd : Gd n s) (h : Al P s) (id x : Int) : Al P (write s id x).1 := by
  unfold Bk.write
  cases hg : get s id with
  | none => exact h
  | some c => exact Al.settle K (hd.cnOut hg _) (h.set hg (K.any id c _ (h id c hg) rfl rfl rfl rfl))
theorem Al.output (K : Kz P) (hd : Gd n s) (h : Al P s) (b : List UInt8) : Al P (output s b).1 := by
  unfold Bk.output
  split
  · exact h
  · exact Al.settle K (hd.wLog b) h
theorem Al.tick (K : Kz P) (hd : Gd n s) (h : Al P s) : Al P (tick s) := by
  unfold Bk.tick
  have key : ∀ (l : List Int) (t : Br), Al P t → Al P (l.foldl tick1 t) := by
    intro l
    induction l with
    | nil => intro t h; exact h
    | cons a l ih =>
      intro t h
      rw [List.foldl_cons]
      refine ih _ ?_
      unfold tick1
      cases hg : get t a with
      | none => exact h
      | some c =>
        simp only
        have h1 : Al P (Bk.set t a { c with idle := c.idle + 1 }) := h.set hg (K.any a c _ (h a c hg) rfl rfl rfl rfl)
        split
        · exact h1.shutq K.toKq a 6
        · exact h1
  exact Al.settle K (hd.tickT.ticks (ids s)) (key _ _ (h.tab _))
theorem Al.cut (K : Kz P) (hd : Gd n s) (h : Al P s) (id : Int) : Al P (cut s id).1 := by
  unfold Bk.cut
  cases hg : get s id with
  | none => exact h
  | some c =>
    have h1 := h.leave K.toKp id
    have hcl : ∀ c', get (Bk.leave s id) id = some c' → c'.st ≠ 1 := fun c' hc' => by
      obtain ⟨x, hx, h2⟩ := leave_closed hg
      rw [hc'] at hx
      rw [Option.some.inj hx]; omega
    exact Al.settle K ((hd.leave id).cutC id hcl) (al_filter (hd.leave id).ok h1 _)
theorem Al.end_ (K : Kz P) (hd : Gd n s) (h : Al P s) (code : Int) : Al P (end_ s code).1 := by
  unfold Bk.end_
  split
  · exact h
  · split
    · exact h
    · refine Al.settle K ((hd.ends code).tell ⟨15, code, 0, []⟩) (Al.tell K.toKp (s := ends s code) h (.inr (.inr (.inr (.inr (.inr rfl))))))
theorem Al.joinC (ho : Ok s) {id : Int} (hg : get s id = none) (h : Al P s) (hf : P id fresh) : Al P (joinC s id) := fun j c hj => by
  rw [get_joinC ho hg] at hj
  by_cases e : j = id
  · rw [if_pos e] at hj
    subst e
    exact Option.some.inj hj ▸ hf
  · rw [if_neg e] at hj; exact h j c hj
theorem Al.connect (hd : Gd n s) (h : Al P s) (id : Int) (hf : P id fresh) : Al P (connect s id).1 := by
  unfold Bk.connect
  split
  · exact h
  · split
    · exact h
    · rename_i hg
      have hg2 : get s id = none := by cases hx : get s id with | none => rfl | some c => rw [hx] at hg; exact absurd rfl hg
      exact h.joinC hd.ok hg2 hf
end
section
variable {s : Br} {n : Nat} {id : Int}
theorem Al.message_other {P : Int → Cn → Prop} (K : Kq P) (hs : ∀ c, get s id = some c → c.st = 0 ∨ c.st = 1 ∨ c.st = 2) (h : Al P s) (k : UInt8) (body : List UInt8) (hP : ∀ c, P id c) : Al P (Bk.message s id k body) := by
  cases hm1 : MgOf.isMsg (k.toNat : Int) body with
  | false => rw [message_no s id k body hm1]; exact h.shutq K id 4
  | true =>
    rw [message_recv s id k body hm1]
    generalize msgOf k body = m
    have rest : openC s id → Al P (if m.k = 2 then Bk.typed s id m else if m.k = 3 then Bk.send s id ⟨14, 0, 0, []⟩ else if m.k = 4 then Bk.shut s id 0 else Bk.shut s id 4) := fun ho => by
      split
      · exact Al.typed K h ho (fun _ _ _ => hP _) (fun _ _ _ _ _ _ _ _ _ _ _ => hP _)
      · split
        · exact Al.send K.toKp h ho (m := ⟨14, 0, 0, []⟩) (.inr (.inr (.inr (.inr (.inl rfl)))))
        · split
          · exact h.shutq K id 0
          · exact h.shutq K id 4
    unfold recv
    cases hg : get s id with
    | none =>
      simp only
      exact rest (fun c hc => by rw [hg] at hc; cases hc)
    | some c =>
      simp only
      split
      · rename_i hz
        have h0 : c.st = 0 := by simpa using hz
        exact Al.hello K h m (fun c' hc' => by rw [hg] at hc'; exact Option.some.inj hc' ▸ h0) (fun _ _ _ _ _ _ _ _ _ _ => ⟨fun _ => hP _, fun _ => hP _⟩)
      · rename_i hz
        refine rest fun c' hc' => ?_
        have := hs c' hc'
        rw [hg] at hc'
        rw [← Option.some.inj hc'] at this ⊢
        have h0 : c.st ≠ 0 := by simpa using hz
        omega
theorem Al.bytes_other {P : Int → Cn → Prop} (K : Kz P) (hd : Gd n s) (h : Al P s) (b : List UInt8) (hP : ∀ c, P id c) : Al P (Bk.bytes s id b).1 := by
  have key : ∀ (L : List (UInt8 × List UInt8)) {n : Nat} {s : Br}, Gd n s → (∀ f ∈ L, f.2.length ≤ 2048) → Al P s → Al P (L.foldl (frame1 id) s) := by
    intro L
    induction L with
    | nil => intro n s _ _ h; exact h
    | cons f L ih =>
      intro n s hd hl h
      rw [List.foldl_cons]
      refine ih (hd.frame1 id f (hl f (by simp))) (fun g hg => hl g (List.mem_cons_of_mem _ hg)) ?_
      unfold frame1
      split
      · exact h
      · exact (Al.message_other K.toKq (hd.ok.sts id) h f.1 f.2 hP).turned K.toKp
  unfold Bk.bytes
  cases hg : get s id with
  | none => exact h
  | some c =>
    simp only
    split
    · exact h
    · have hc := hd.cns id c hg
      have hps := push_sizes hc b
      have hd1 := hd.took hg b
      have h1 : Al P (Bk.set s id (took c b)) := h.set hg (hP _)
      have h3 := key (push c b).1 hd1 hps.2.1 h1
      have hd3 := hd1.frames id (push c b).1 hps.2.1
      obtain ⟨S3, hS3⟩ : ∃ S3, S3 = (push c b).1.foldl (frame1 id) (Bk.set s id (took c b)) := ⟨_, rfl⟩
      have e3 : (push c b).1.foldl (frame1 id) (Bk.set s id { c with idle := if b = [] then c.idle else 0, fb := (push c b).2.1, fe := (push c b).2.2 }) = S3 := hS3.symm
      rw [e3]
      rw [← hS3] at h3 hd3
      split
      · exact Al.settle K (hd3.shut id 1) (h3.shutq K.toKq id 1)
      · exact Al.settle K hd3 h3
end
end Go.Proofs.YteepkanbiefpjaaGreatDoor.Bk
set_option linter.unusedVariables false
set_option linter.unusedSimpArgs false
namespace Go.Proofs.YteepkanbiefpjaaGreatDoor.Bk
open Go.RowKit K
open MgRow (M mC Ms)
theorem turnedN_done : ∀ (k : Nat) {s : Br}, meas s < k → (turnedN k s).tab.holder = (turnedN k s).holder
  | 0, _, h => absurd h (Nat.not_lt_zero _)
  | k + 1, s, h => by
    unfold turnedN
    split
    · rename_i e; exact e
    · rename_i e
      have := meas_less e ⟨9, s.tab.holder, 0, []⟩
      exact turnedN_done k (by omega)
theorem turned_done {s : Br} (ho : Ok s) : (turned s).tab.holder = (turned s).holder := by
  refine turnedN_done 40 ?_
  have := ho.cnt
  unfold meas
  split <;> omega
theorem turned_twice {s : Br} (ho : Ok s) : turned (turned s) = turned s := turned_same (turned_done ho)
def byeM : M := ⟨4, 0, 0, []⟩
theorem bye_right : rightM byeM = true := by decide +kernel
theorem closed_len : (mb ⟨13, 0, 0, []⟩).length = (mb ⟨13, 1, 0, []⟩).length := by decide +kernel
theorem all_zz : FdMath.all [0, 0] = ([], [], 6) := by decide +kernel
theorem all_junk (junk : List UInt8) : FdMath.all (0 :: 0 :: junk) = ([], [], 6) := by
  have h := FdMath.all_dead [0, 0] junk (by rw [all_zz]; decide)
  rw [all_zz] at h
  exact h
def GoneP (id : Int) (j : Int) (c : Cn) : Prop := j = id → c.st = 2
theorem GoneP.kz (id : Int) : Kz (GoneP id) := { cl := fun _ _ _ _ => rfl, ad := fun _ _ _ h _ _ => h, sh := fun _ _ _ _ _ _ => rfl, any := fun _ c c' h e1 _ _ _ e => by rw [e1]; exact h e }
theorem gone_shut (s : Br) (id why : Int) : Al (GoneP id) (shut s id why) := fun j c hj e => by subst e; exact shut_closed s j why c hj
theorem gone_role {s : Br} (ho : Ok s) {id : Int} (h : Al (GoneP id) s) : Fl.rget s.tab.roles id = none := by
  cases hx : Fl.rget s.tab.roles id with
  | none => rfl
  | some r =>
    obtain ⟨c, hc, h1⟩ := ho.use id (by rw [hx]; rfl)
    have := h id c hc rfl
    omega
theorem apart_plain {n : Nat} {s : Br} (hd : Gd n s) {id : Int} {c : Cn} (hg : get s id = some c) (h1 : c.st = 1) (hfb : c.fb = []) (hfe : c.fe = 0) (junk : List UInt8) :
    Sx id (bytes s id (0 :: 0 :: junk)).1 (bytes s id (mb byeM)).1 ∧ Al (GoneP id) (bytes s id (0 :: 0 :: junk)).1 := by
  obtain ⟨ca, hca⟩ : ∃ ca : Cn, ca = { c with idle := 0, fb := [], fe := 6 } := ⟨_, rfl⟩
  obtain ⟨cb, hcb⟩ : ∃ cb : Cn, cb = { c with idle := 0 } := ⟨_, rfl⟩
  have hp : push c (0 :: 0 :: junk) = ([], [], 6) := by
    unfold push
    rw [if_neg (by rw [hfe]; decide), hfb, List.nil_append, all_junk]
  have hga : get (set s id ca) id = some ca := get_set_same hg
  have hgb : get (set s id cb) id = some cb := get_set_same hg
  have ea : (bytes s id (0 :: 0 :: junk)).1 = settle (shut (set s id ca) id 1) := by
    unfold bytes
    rw [hg]
    simp only
    rw [if_neg (by omega), hp]
    have hcl : closed (set s id ca) id = false := by unfold closed; rw [hga, hca]; simp [h1]
    have e0 : ({ c with idle := if (0 :: 0 :: junk) = [] then c.idle else 0, fb := [], fe := 6 } : Cn) = ca := by rw [hca]; rfl
    show settle (if closed (set s id { c with idle := if (0 :: 0 :: junk) = [] then c.idle else 0, fb := [], fe := 6 }) id = false ∧ (6 : Int) ≠ 0 then shut (set s id { c with idle := if (0 :: 0 :: junk) = [] then c.idle else 0, fb := [], fe := 6 }) id 1 else set s id { c with idle := if (0 :: 0 :: junk) = [] then c.idle else 0, fb := [], fe := 6 }) = _
    rw [e0, if_pos ⟨hcl, by decide⟩]
  have hst : cb.st = 1 := by rw [hcb]; exact h1
  have eb : (bytes s id (mb byeM)).1 = settle (turned (shut (set s id cb) id 0)) := by
    rw [bytes_mb hg (by omega) hfb hfe bye_right]
    dsimp only
    rw [← hcb]
    have : recv (set s id cb) id byeM = shut (set s id cb) id 0 := by
      unfold recv
      rw [hgb]
      simp only
      rw [if_neg (by rw [hst]; decide), if_neg (show ¬ byeM.k = 2 by decide), if_neg (show ¬ byeM.k = 3 by decide), if_pos (show byeM.k = 4 from rfl)]
    rw [this]
  have hda : Gd n (set s id ca) := by
    have := hd.took hg (0 :: 0 :: junk)
    have e : took c (0 :: 0 :: junk) = ca := by unfold took; rw [hp, hca]; rfl
    rw [e] at this; exact this
  have hdb : Gd n (set s id cb) := by
    have := hd.took hg (mb byeM)
    have e : took c (mb byeM) = cb := by
      unfold took
      obtain ⟨k, a, b, hk, _, _, hr2, hm⟩ := rightM_is bye_right
      have hpb : push c (mb byeM) = ([(k, MgNum.mbody (k.toNat : Int) a b [])], [], 0) := by
        unfold push
        rw [if_neg (by rw [hfe]; decide), hfb, List.nil_append, hm]
        exact all_one k _ (body_len hr2)
      have hne : mb byeM ≠ [] := by decide +kernel
      rw [hpb, if_neg hne, hcb]
      show ({ c with idle := 0, fb := [], fe := 0 } : Cn) = { c with idle := 0 }
      rw [← hfb, ← hfe]
    rw [e] at this; exact this
  have hx : Sx id (set s id ca) (set s id cb) := (Sx.refl id s).set hg hg ⟨by rw [hca, hcb], by rw [hca, hcb], by rw [hca, hcb], by rw [hca, hcb], by rw [hca, hcb], by rw [hca, hcb]⟩ (fun hn => absurd rfl hn)
  have hsh : Sx id (shut (set s id ca) id 1) (shut (set s id cb) id 0) := hx.shut id closed_len (fun hn => absurd rfl hn)
  have hda2 := hda.shut id 1
  have hdb2 := hdb.shut id 0
  refine ⟨?_, ?_⟩
  · rw [ea, eb]
    have e2 : settle (turned (shut (set s id cb) id 0)) = settle (shut (set s id cb) id 0) := by
      unfold settle
      rw [turned_twice hdb2.ok]
    rw [e2]
    exact Sx.settle hda2 hdb2 hsh
  · rw [ea]
    exact Al.settle (GoneP.kz id) hda2 (gone_shut _ _ _)
end Go.Proofs.YteepkanbiefpjaaGreatDoor.Bk
set_option linter.unusedVariables false
set_option linter.unusedSimpArgs false
namespace Go.Proofs.YteepkanbiefpjaaGreatDoor.Bk
open Go.RowKit K
open MgRow (M mC Ms)
structure Sd (w0 : World) (qa qb : Nat) (s t : Br) (w : World) (Fa Fb : Nat → Prop) : Prop where
  mk ::
  a : Sc w0 qa s w Fa
  b : Sc w0 qb t w Fb
  dis : ∀ k, Fa k → ¬ Fb k
section
variable {w0 w w' : World} {qa qb : Nat} {s s' t t' : Br} {Fa Fa' Fb Fb' : Nat → Prop}
theorem Sc.hi (h : Sc w0 qa s w Fa) : ∀ k, Fa k → hiB ≤ k := by
  obtain ⟨L, _, hb⟩ := h.has
  exact hb.hi
theorem Sc.beside (h : Sc w0 qb t w Fb) (hd : ∀ k, Fa k → ¬ Fb k) (hi : ∀ k, Fa k → hiB ≤ k) (hlo : ∀ k, Fa k → w0.heap.size ≤ k) (k : Tn w Fa w' Fa') : Sc w0 qb t w' Fb := by
  obtain ⟨L, hq, hb⟩ := h.has
  exact ⟨⟨L, hq, hb.upd k.upd (fun i hi ha => hd i ha hi) hi⟩, h.lo, h.up.trans k.upd (fun i hi hf => by have := hlo i hf; omega)⟩
theorem Sd.left (h : Sd w0 qa qb s t w Fa Fb) (ha : Sc w0 qa s' w' Fa') (k : Tn w Fa w' Fa') : Sd w0 qa qb s' t w' Fa' Fb := ⟨ha, h.b.beside h.dis h.a.hi h.a.lo k, fun i hi hb => by
  rcases k.new i hi with h1 | h1
  · exact h.dis i h1 hb
  · have := h.b.lt i hb; omega⟩
theorem Sd.right (h : Sd w0 qa qb s t w Fa Fb) (hb : Sc w0 qb t' w' Fb') (k : Tn w Fb w' Fb') : Sd w0 qa qb s t' w' Fa Fb' := ⟨h.a.beside (fun i hb ha => h.dis i ha hb) h.b.hi h.b.lo k, hb, fun i hi hb => by
  rcases k.new i hb with h1 | h1
  · exact h.dis i hi h1
  · have := h.a.lt i hi; omega⟩
theorem Sd.upd (h : Sd w0 qa qb s t w Fa Fb) (k : Upd (fun _ => False) w w') : Sd w0 qa qb s t w' Fa Fb := ⟨h.a.upd k, h.b.upd k, h.dis⟩
theorem Sd.new (ha : Sc w0 qa s w Fa) (hb : Sc w0 qb t w' Fb) (hu : Upd (fun _ => False) w w') (hn : ∀ k, Fb k → w.heap.size ≤ k) : Sd w0 qa qb s t w' Fa Fb := ⟨ha.upd hu, hb, fun k hk hb => by have := ha.lt k hk; have := hn k hb; omega⟩
end
end Go.Proofs.YteepkanbiefpjaaGreatDoor.Bk
set_option linter.unusedVariables false
set_option linter.unusedSimpArgs false
namespace Go.Proofs.YteepkanbiefpjaaGreatDoor.Bk
open Go.RowKit K
open MgRow (M mC Ms)
def oddT : List UInt8 := [111, 100, 100]
def oddS : Br := (bytes (connect (new dflt) 16).1 16 (helloB oddT)).1
theorem odd_feed : (get oddS 16).map (fun c => (c.fb, c.fe)) = some ([], 0) := by decide +kernel
def FedP (j : Int) (c : Cn) : Prop := j = 16 → c.st ≠ 2 → c.fb = [] ∧ c.fe = 0
theorem FedP.kz : Kz FedP := { cl := fun _ _ _ _ h => absurd rfl h, ad := fun _ _ _ h _ _ => h, sh := fun _ _ _ _ _ _ h => absurd rfl h, any := fun _ c c' h e1 e2 e3 _ ej en => by rw [e2, e3]; exact h ej (by rw [← e1]; exact en) }
theorem odd_fed : Al FedP oddS := fun j c hj e _ => by
  subst e
  have h := odd_feed
  rw [hj] at h
  simp only [Option.map_some, Option.some.injEq, Prod.mk.injEq] at h
  exact h
theorem Al.doE {P : Int → Cn → Prop} {s : Br} {n : Nat} (K : Kz P) (hd : Gd n s) (h : Al P s) (e : Ev) (hP : ∀ c, P e.2.1 c) : Al P (doE s e).1 := by
  unfold Bk.doE
  split
  · exact Al.connect hd h _ (hP _)
  · split
    · exact Al.bytes_other K hd h _ hP
    · split
      · exact Al.write K hd h _ _
      · split
        · exact Al.output K hd h _
        · split
          · exact h
          · split
            · exact Al.tick K hd h
            · split
              · exact Al.cut K hd h _
              · exact Al.end_ K hd h _
theorem rd_ap {w : World} {A : Option Addr} {n : Nat} {l : List UInt8} (h : Rd w A n l) (hn : 0 < n) : ∀ ad, A = some ad → ad.block < w.heap.size := by
  intro ad e
  obtain ⟨ad', e', hc⟩ := h.at 0 hn
  rw [e] at e'
  cases e'
  have := World.block_lt_of_cell? w _ hc
  rwa [add_block] at this
theorem sx_role {s t : Br} (h : Sx 16 s t) : t.tab = s.tab := h.tab
set_option maxHeartbeats 16000000 in
set_option maxRecDepth 100000 in
theorem apart_walk (w : World) (henv : Or.Env w) {A : Option Addr} {n cp : Nat} {L : List Ev} (hL : Evs w A n L) (B0 : Option Addr) (m cm : Nat) (junk : List UInt8) (hjk : K.Rd w B0 m junk) (hmc : m ≤ cm) : Calls Tryz.prog 12 #[.slice A n cp, .slice B0 m cm] w fun e w' => e = .returned (.bool true) ∧ Upd (fun _ => False) w w' := by
  have HENV := Asd.mk henv
  have HE := Asd.mk hL
  have HLN := Asd.mk hL.len
  have HJK := Asd.mk hjk
  have hjl := hjk.len
  have HHE := Asd.mk (fun w h => head_calls w h)
  have HFW := Asd.mk (fun w' (k : Upd (fun _ => False) w w') => few_calls (c := cp) (K.Els.up hL REv.stays k))
  clear hL henv hjk
  by_cases hgo : few L = true ∧ ¬ 60 < m
  case neg =>
    have h2 : few L = false ∨ (few L = true ∧ 60 < m) := by
      cases hf : few L with
      | false => exact .inl rfl
      | true => exact .inr ⟨rfl, Decidable.not_not.1 (fun h => hgo ⟨hf, h⟩)⟩
    clear hgo hjl
    obtain ⟨fl, hfl⟩ : ∃ b, b = few L := ⟨_, rfl⟩
    rw [← hfl] at h2 HFW
    clear hfl
    rcases h2 with rfl | ⟨rfl, h60⟩
    · go_enter Tryz.func12, Tryz.ntmps12
      go_wp2_with fail
      refine (HHE.out _ HENV.out).mono ?_
      rintro e w1 ⟨rfl, hu1⟩
      have HU1 := Asd.mk hu1
      clear hu1
      go_wp2_with fail
      refine (HFW.out w1 HU1.out).mono ?_
      rintro e w2 ⟨rfl, hu2⟩
      have HU2 := Asd.mk (HU1.out.trans hu2 (fun _ _ h => h))
      clear hu2 HU1
      go_wp2
      go_ret
      exact ⟨rfl, HU2.out⟩
    · go_enter Tryz.func12, Tryz.ntmps12
      go_wp2_with fail
      refine (HHE.out _ HENV.out).mono ?_
      rintro e w1 ⟨rfl, hu1⟩
      have HU1 := Asd.mk hu1
      clear hu1
      go_wp2_with fail
      refine (HFW.out w1 HU1.out).mono ?_
      rintro e w2 ⟨rfl, hu2⟩
      have HU2 := Asd.mk (HU1.out.trans hu2 (fun _ _ h => h))
      clear hu2 HU1
      go_wp2
      go_ret
      exact ⟨rfl, HU2.out⟩
  obtain ⟨hfew, h60⟩ := hgo
  rw [hfew] at HFW
  have HFEW : Asd (L.length ≤ 120 ∧ total L ≤ 6000) := ⟨by unfold few at hfew; simpa using hfew⟩
  clear hfew
  obtain ⟨s0, hs0⟩ : ∃ s, s = new dflt := ⟨_, rfl⟩
  obtain ⟨s1, hs1⟩ : ∃ s, s = (connect s0 16).1 := ⟨_, rfl⟩
  obtain ⟨s2, hs2⟩ : ∃ s, s = (bytes s1 16 (helloB oddT)).1 := ⟨_, rfl⟩
  have hod : s2 = oddS := by unfold oddS; rw [hs2, hs1, hs0]
  have HAL : Asd (Al FedP s2) := ⟨by rw [hod]; exact odd_fed⟩
  have a1 := helloB_len oddT
  have HG0 : Asd (Gd 0 s0) := ⟨by rw [hs0]; exact Gd.new _ dflt_ok⟩
  have HG1 : Asd (Gd 0 s1) := ⟨by rw [hs1]; exact HG0.out.connect _⟩
  have HG2 : Asd (Gd 10000 s2) := ⟨by rw [hs2]; exact (HG1.out.bytes _ _).mono (by omega)⟩
  have HTH := Asd.mk (fun w => helloN_calls oddT w)
  have HA1 := Asd.mk a1
  obtain ⟨bH, hbH⟩ : ∃ b, b = helloB oddT := ⟨_, rfl⟩
  rw [← hbH] at HTH HA1 hs2
  have HBY : Asd (∀ w, Calls Tryz.prog 21 #[.slice none 0 0, .agg #[.int .i64 4, .int .i64 0, .int .i64 0, .string (S [])]] w (Fr.PutPost (mb byeM) w)) := ⟨fun w => by
    have h := mput_new byeM w
    unfold Vw.msgV byeM at h
    exact h⟩
  have HBL : Asd ((mb byeM).length ≤ 2053) := ⟨mb_len _⟩
  have HAP := Asd.mk (fun (n : Nat) (s : Br) (c : Cn) (hd : Gd n s) (hg : get s 16 = some c) (h1 : c.st = 1) (hfb : c.fb = []) (hfe : c.fe = 0) => apart_plain hd hg h1 hfb hfe junk)
  obtain ⟨bB, hbB⟩ : ∃ b, b = mb byeM := ⟨_, rfl⟩
  rw [← hbB] at HBY HBL HAP
  have HS0 := Asd.mk hs0
  have HS1 := Asd.mk hs1
  have HS2 := Asd.mk hs2
  have HDF := Asd.mk (fun w => default_calls w)
  unfold cfV dflt at HDF
  have HJL := Asd.mk hjl
  clear hs0 hs1 hs2 hod a1 hbH hbB hjl
  go_enter Tryz.func12, Tryz.ntmps12
  go_wp2_with fail
  refine (HHE.out _ HENV.out).mono ?_
  rintro e w1 ⟨rfl, hu1⟩
  have HU1 := Asd.mk hu1
  clear hu1
  go_wp2_with fail
  refine (HFW.out w1 HU1.out).mono ?_
  rintro e w2 ⟨rfl, hu2⟩
  have HU2 := Asd.mk (HU1.out.trans hu2 (fun _ _ h => h))
  clear hu2 HU1
  go_wp2_with fail
  refine (HDF.out w2).mono ?_
  rintro e w3 ⟨rfl, hu3⟩
  have HU3 := Asd.mk (HU2.out.trans hu3 (fun _ _ h => h))
  clear hu3 HU2
  go_wp2_with fail
  refine (scnew_calls HU3.out (env_upd HENV.out HU3.out (fun _ h => h.elim)) dflt dflt_ok).mono ?_
  rw [← HS0.out]
  rintro e w4 ⟨qa, Fa, rfl, ha, hla, hua⟩
  have HA := Asd.mk ha
  clear ha hla hua HU3
  go_wp2_with fail
  refine (HDF.out w4).mono ?_
  rintro e w5 ⟨rfl, hu5⟩
  have HA5 := Asd.mk (HA.out.upd hu5)
  clear hu5 HA
  go_wp2_with fail
  refine (scnew_calls HA5.out.up HA5.out.env dflt dflt_ok).mono ?_
  rw [← HS0.out]
  rintro e w6 ⟨qb, Fb, rfl, hb, hlb, hub⟩
  have HD6 := Asd.mk (Sd.new HA5.out hb hub hlb)
  clear hb hlb hub HA5
  go_upto_region 10 with fail
  have hm7 := heap_alloc_new w6 (.cells #[.pointer (some ⟨qa, 0, none⟩), .pointer (some ⟨qb, 0, none⟩)] 23)
  have hk7 := (Upd.refl (fun _ => False) w6).alloc (.cells #[.pointer (some ⟨qa, 0, none⟩), .pointer (some ⟨qb, 0, none⟩)] 23)
  generalize w6.alloc (.cells #[.pointer (some ⟨qa, 0, none⟩), .pointer (some ⟨qb, 0, none⟩)] 23) = w7 at hm7 hk7 ⊢
  have hna : ¬ Fa w6.heap.size := fun hf => by have := HD6.out.a.lt _ hf; omega
  have hnb : ¬ Fb w6.heap.size := fun hf => by have := HD6.out.b.lt _ hf; omega
  have HD7 := Asd.mk (HD6.out.upd hk7)
  have HM7 := Asd.mk hm7
  have HN7 := Asd.mk (And.intro hna hnb)
  clear hm7 hk7 hna hnb HD6
  obtain ⟨g0, hg0⟩ : ∃ g0, g0 = w6.heap.size := ⟨_, rfl⟩
  rw [← hg0] at HM7 HN7 ⊢
  clear hg0
  go_loopw [48] (fun v48 wr => ∃ (i : Nat) (s t : Br) (Ga Gb : Nat → Prop), v48 = .int .i64 (i : Int) ∧ Asd ((i = 0 ∧ s = s0 ∧ t = s0) ∨ (i = 1 ∧ s = s2 ∧ t = s0) ∨ (i = 2 ∧ s = s2 ∧ t = s2)) ∧ Asd (Sd w qa qb s t wr Ga Gb) ∧ Asd (wr.heap[g0]? = some (.cells #[.pointer (some ⟨qa, 0, none⟩), .pointer (some ⟨qb, 0, none⟩)] 23 (0, 0))) ∧ Asd (¬ Ga g0 ∧ ¬ Gb g0)) (fun v48 _ => 2 - (intOf v48).toNat)
  case atStart => exact ⟨0, s0, s0, Fa, Fb, rfl, ⟨.inl ⟨rfl, rfl, rfl⟩⟩, HD7, HM7, HN7⟩
  case round =>
    clear HD7 HM7 HN7
    obtain ⟨i, s, t, Ga, Gb, rfl, HC, HD, HM, HN⟩ := hrel
    have d0 := keepsC (o := 0) (v := .pointer (some ⟨qa, 0, none⟩)) HM.out rfl
    have d1 := keepsC (o := 1) (v := .pointer (some ⟨qb, 0, none⟩)) HM.out rfl
    have hsr := Upd.refl (fun _ => False) wr
    rcases HC.out with ⟨rfl, e1, e2⟩ | ⟨rfl, e1, e2⟩ | ⟨rfl, e1, e2⟩
    · rw [e1, e2] at HD
      clear HC e1 e2
      go_wp2_with fail
      refine (HD.out.a.connect HG0.out 16 (by omega)).mono ?_
      rw [← HS1.out]
      rintro e v1 ⟨rfl, F1, h1, t1⟩
      have HD1 := Asd.mk (HD.out.left h1 t1)
      have hb1 := tn_blk t1 HM.out HN.out.1
      have HM1 := Asd.mk hb1.1
      have HN1 := Asd.mk hb1.2
      clear h1 t1 hb1 d0 d1 hsr HM
      go_wp2_with fail
      refine (HTH.out v1).mono ?_
      rintro e v2 ⟨A2, c2, G2, rfl, ho, hg, hl, hm, hu⟩
      have HD2 := Asd.mk (HD1.out.upd hu)
      have P2 := Asd.mk (HD1.out.a.fresh ho hg)
      have HM2 := Asd.mk (hu.blk HM1.out (fun h => h))
      clear ho hg hl hm hu
      go_wp2_with fail
      refine (HD2.out.a.bytes HG1.out (by omega) 16 (by omega) A2 c2 bH P2.out.rd P2.out.ad (by have := HA1.out; omega)).mono ?_
      rw [← HS2.out]
      rintro e v3 ⟨rfl, F3, h3, t3⟩
      have HD3 := Asd.mk (HD2.out.left h3 t3)
      have hb3 := tn_blk t3 HM2.out HN1.out
      have HM3 := Asd.mk hb3.1
      have HN3 := Asd.mk hb3.2
      clear h3 t3 hb3 P2
      go_wp2
      go_roundw
      case rel => exact ⟨1, s2, s0, F3, Gb, rfl, ⟨.inr (.inl ⟨rfl, rfl, rfl⟩)⟩, HD3, HM3, ⟨⟨HN3.out, HN.out.2⟩⟩⟩
      case measure => simp only [intOf]; omega
    · rw [e1, e2] at HD
      clear HC e1 e2
      go_wp2_with fail
      refine (HD.out.b.connect HG0.out 16 (by omega)).mono ?_
      rw [← HS1.out]
      rintro e v1 ⟨rfl, F1, h1, t1⟩
      have HD1 := Asd.mk (HD.out.right h1 t1)
      have hb1 := tn_blk t1 HM.out HN.out.2
      have HM1 := Asd.mk hb1.1
      have HN1 := Asd.mk hb1.2
      clear h1 t1 hb1 d0 d1 hsr HM
      go_wp2_with fail
      refine (HTH.out v1).mono ?_
      rintro e v2 ⟨A2, c2, G2, rfl, ho, hg, hl, hm, hu⟩
      have HD2 := Asd.mk (HD1.out.upd hu)
      have P2 := Asd.mk (HD1.out.b.fresh ho hg)
      have HM2 := Asd.mk (hu.blk HM1.out (fun h => h))
      clear ho hg hl hm hu
      go_wp2_with fail
      refine (HD2.out.b.bytes HG1.out (by omega) 16 (by omega) A2 c2 bH P2.out.rd P2.out.ad (by have := HA1.out; omega)).mono ?_
      rw [← HS2.out]
      rintro e v3 ⟨rfl, F3, h3, t3⟩
      have HD3 := Asd.mk (HD2.out.right h3 t3)
      have hb3 := tn_blk t3 HM2.out HN1.out
      have HM3 := Asd.mk hb3.1
      have HN3 := Asd.mk hb3.2
      clear h3 t3 hb3 P2
      go_wp2
      go_roundw
      case rel => exact ⟨2, s2, s2, Ga, F3, rfl, ⟨.inr (.inr ⟨rfl, rfl, rfl⟩)⟩, HD3, HM3, ⟨⟨HN.out.1, HN3.out⟩⟩⟩
      case measure => simp only [intOf]; omega
    · rw [e1, e2] at HD
      clear HC d0 d1 HM HN hsr e1 e2
      go_wp2
      go_loopw [60] (fun v60 wr => ∃ (i : Nat) (s : Br) (Ga Gb : Nat → Prop), v60 = .int .i64 (i : Int) ∧ i ≤ n ∧ Asd (Sd w qa qb s s wr Ga Gb) ∧ Asd (Gd (10000 + i * 3000 + total (L.take i)) s) ∧ Asd (Al FedP s)) (fun v60 _ => n - (intOf v60).toNat)
      case atStart => exact ⟨0, s2, Ga, Gb, rfl, Nat.zero_le _, HD, ⟨by simpa [total] using HG2.out⟩, HAL⟩
      case round =>
        clear HD
        obtain ⟨i, s, Ga, Gb, rfl, hi, HD, HG, HF⟩ := hrel
        have hn120 : n ≤ 120 := by have := HFEW.out.1; have := HLN.out; omega
        by_cases hlt : i < n
        case pos =>
          obtain ⟨e, he⟩ : ∃ e, L[i]? = some e := ⟨_, List.getElem?_eq_getElem (by rw [HLN.out]; exact hlt)⟩
          obtain ⟨ad, Ad, cd, rfl, a0, a1, a2, a3, hrd, hre, hi64⟩ := ev_at HE.out hlt he
          have HWW := Asd.mk HD.out.a.up
          have b0 : ∀ W, Upd (fun _ => False) wr W → W.cell? (ad.add (i * 4)) = some (.int .i64 e.1) := fun W k => (HWW.out.trans k (fun _ _ h => h)).cell a0 (fun h => h)
          have b1 : ∀ W, Upd (fun _ => False) wr W → W.cell? ⟨(ad.add (i * 4)).block, (ad.add (i * 4)).off + 1, none⟩ = some (.int .i64 e.2.1) := fun W k => (HWW.out.trans k (fun _ _ h => h)).cell a1 (fun h => h)
          have b2 : ∀ W, Upd (fun _ => False) wr W → W.cell? ⟨(ad.add (i * 4)).block, (ad.add (i * 4)).off + 2, none⟩ = some (.int .i64 e.2.2.1) := fun W k => (HWW.out.trans k (fun _ _ h => h)).cell a2 (fun h => h)
          have b3 : ∀ W, Upd (fun _ => False) wr W → W.cell? ⟨(ad.add (i * 4)).block, (ad.add (i * 4)).off + 3, none⟩ = some (.slice Ad e.2.2.2.length cd) := fun W k => (HWW.out.trans k (fun _ _ h => h)).cell a3 (fun h => h)
          have hs := Upd.refl (fun _ => False) wr
          have HT := Asd.mk (total_take L i e he)
          have HT2 := Asd.mk (total_le L i e he)
          have HRD := Asd.mk hrd
          have hm8 := heap_alloc_new wr (.cells #[.int .i64 e.1, .int .i64 e.2.1, .int .i64 e.2.2.1, .slice Ad e.2.2.2.length cd] 73)
          have hk8 := (Upd.refl (fun _ => False) wr).alloc (.cells #[.int .i64 e.1, .int .i64 e.2.1, .int .i64 e.2.2.1, .slice Ad e.2.2.2.length cd] 73)
          have HD8 := Asd.mk (HD.out.upd hk8)
          have HK8 := Asd.mk hk8
          have HM8 := Asd.mk hm8
          clear a0 a1 a2 a3 hrd he hm8 hk8
          by_cases h16 : e.2.1 = 16
          case pos =>
            have HGn : Asd (Gd (10000 + (i + 1) * 3000 + total (L.take (i + 1))) s) := ⟨HG.out.mono (by have := HT.out; omega)⟩
            have h16b : (e.2.1 == 16) = true := beq_iff_eq.2 h16
            rw [h16] at HD8
            go_wp2
            go_roundw
            case rel => exact ⟨i + 1, s, Ga, Gb, by go_num, by omega, HD8, HGn, HF⟩
            case measure => simp only [intOf]; omega
          have h16b : (e.2.1 == 16) = false := beq_eq_false_iff_ne.2 h16
          have HGD : Asd (Gd (10000 + (i + 1) * 3000 + total (L.take (i + 1))) (doE s e).1) := ⟨(HG.out.doE e).mono (by have := HT.out; omega)⟩
          have HFD : Asd (Al FedP (doE s e).1) := ⟨Al.doE FedP.kz HG.out HF.out e (fun c h => absurd h h16)⟩
          obtain ⟨r, hr⟩ : ∃ r, r = doE s e := ⟨_, rfl⟩
          have HDOa := Asd.mk (sc_doE HD8.out.a HG.out (by have := HFEW.out.2; have := HT2.out; have := HT.out; omega) e Ad cd ((HRD.out.up HWW.out).up HK8.out) (fun ad e1 hp hF => by have h1 := rd_ap HRD.out hp ad e1; have h2 := HD.out.a.lo _ hF; omega) (by have := HFEW.out.2; have := HT2.out; omega) hi64)
          have HDOb := Asd.mk (fun (W : World) (F : Nat → Prop) (h : Sc w qb s W F) => sc_doE h HG.out (by have := HFEW.out.2; have := HT2.out; have := HT.out; omega) e Ad cd (HRD.out.up h.up) (fun ad e1 hp hF => by have h1 := rd_ap HRD.out hp ad e1; have h2 := h.lo _ hF; omega) (by have := HFEW.out.2; have := HT2.out; omega) hi64)
          rw [← hr] at HDOa HDOb HGD HFD
          have hna : ¬ Ga wr.heap.size := fun hf => by have := HD.out.a.lt _ hf; omega
          have hnb : ¬ Gb wr.heap.size := fun hf => by have := HD.out.b.lt _ hf; omega
          have HN8 := Asd.mk (And.intro hna hnb)
          have q1 : (r.2.1 != r.2.1) = false := by simp
          have q2 : (r.2.2 != r.2.2) = false := by simp
          clear hr hna hnb h16
          go_wp2_with fail
          refine HDOa.out.mono ?_
          rintro e2 v1 ⟨rfl, F1, h1, t1⟩
          have HD1 := Asd.mk (HD8.out.left h1 t1)
          have hb1 := tn_blk t1 HM8.out HN8.out.1
          have m0 := keepsC (o := 0) (v := .int .i64 e.1) hb1.1 rfl
          have m1 := keepsC (o := 1) (v := .int .i64 e.2.1) hb1.1 rfl
          have m2 := keepsC (o := 2) (v := .int .i64 e.2.2.1) hb1.1 rfl
          have m3 := keepsC (o := 3) (v := .slice Ad e.2.2.2.length cd) hb1.1 rfl
          have hs1 := Upd.refl (fun _ => False) v1
          clear h1 t1 hb1 b0 b1 b2 b3 hs HD8 HM8 HN8 HK8 HDOa
          go_wp2_with fail
          refine (HDOb.out v1 Gb HD1.out.b).mono ?_
          rintro e2 v2 ⟨rfl, F2, h2, t2⟩
          have HD2 := Asd.mk (HD1.out.right h2 t2)
          clear h2 t2 m0 m1 m2 m3 hs1 HDOb HD1
          go_wp2
          refine ⟨⟨_, _, _, _, _, _, _, _, _, _, _, _, _, _, _, _, _, _, _, _, _, _, _, _, _, _, _, _, _, _, _, _, _, _, ⟨i + 1, r.1, F1, F2, ?_, by omega, HD2, HGD, HFD⟩, rfl⟩, ?_⟩
          · go_num
          · show n - (intOf (.int .i64 ((i : Int) + 1))).toNat < n - (intOf (.int .i64 (i : Int))).toNat
            simp only [intOf]
            omega
        have hnn : i = n := by omega
        have HGE : Asd (Gd 400000 s) := ⟨HG.out.mono (by have := HFEW.out.2; have h := HLN.out; rw [hnn, ← h, List.take_length]; omega)⟩
        clear HG hnn
        go_wp2_with fail
        refine (HD.out.a.role 16 (by omega)).mono ?_
        rintro e v1 ⟨rfl, rfl⟩
        cases hrole : Fl.rget s.tab.roles 16 with
        | none =>
          simp only [Option.isSome_none]
          go_wp2
          go_ret
          exact ⟨rfl, HD.out.a.up⟩
        | some r =>
          simp only [Option.isSome_some]
          obtain ⟨c, hc, hc1⟩ := HGE.out.ok.use 16 (by rw [hrole]; rfl)
          obtain ⟨hfb, hfe⟩ := HF.out 16 c hc rfl (by omega)
          obtain ⟨hsx, hgone⟩ := HAP.out 400000 s c HGE.out hc hc1 hfb hfe
          obtain ⟨sa, hsa⟩ : ∃ x, x = (bytes s 16 (0 :: 0 :: junk)).1 := ⟨_, rfl⟩
          obtain ⟨sb, hsb⟩ : ∃ x, x = (bytes s 16 bB).1 := ⟨_, rfl⟩
          rw [← hsa, ← hsb] at hsx
          rw [← hsa] at hgone
          have HSX := Asd.mk hsx
          have HGO := Asd.mk hgone
          have HGA : Asd (Gd 500000 sa) := ⟨by rw [hsa]; exact (HGE.out.bytes _ _).mono (by have := HJL.out; simp only [List.length_cons]; omega)⟩
          have HGB : Asd (Gd 500000 sb) := ⟨by rw [hsb]; exact (HGE.out.bytes _ _).mono (by have := HBL.out; omega)⟩
          have HSA := Asd.mk hsa
          have HSB := Asd.mk hsb
          clear hc hc1 hfb hfe hsx hgone hsa hsb hrole
          have hu0 := Upd.refl (fun _ => False) wr
          go_wp2_with (first | (with_reducible refine stop_append _ _ _ _ rfl ?_) | (with_reducible refine stop_copy _ _ _ _ rfl ?_) | (with_reducible refine stop_make _ _ _ rfl ?_) | (with_reducible refine stop_conv 31 9 _ rfl ?_))
          refine wp_appendF (S := fun _ => False) (w0 := wr) ((Upd.refl _ _).alloc _) (2 + m) 5 [0, 0] junk (some wr.heap.size) (some ⟨wr.heap.size, 0, none⟩) 2 2 B0 m cm rfl _ _ 31 rfl Tryz.underlying31 (by kernel_rfl) rfl rfl (K.Own.lit wr _ 1 2 #[.int .u8 0, .int .u8 0] (by simp [maxLen]) rfl) (fun g e => by obtain rfl := Option.some.inj e; exact Nat.le_refl _) ((HJK.out.up HD.out.a.up).up ((Upd.refl (fun _ => False) _).alloc _)) rfl (by have := HJL.out; omega) ?_
          intro A5 c5 w5 G5 hc5 hm5 hO5 hG5 hu5 _ _
          have HD5 := Asd.mk (HD.out.upd hu5)
          have P5 : Asd (Apart w5 A5 c5 (0 :: 0 :: junk) wr.heap.size Ga) := ⟨⟨G5, by have h := hO5; rw [← HJL.out, show 2 + junk.length = (0 :: 0 :: junk : List UInt8).length by simp; omega] at h; exact h, fun g e => ⟨fun hf => by have h1 := HD.out.a.lt g hf; have h2 := hG5 g e; omega, hG5 g e⟩⟩⟩
          have HBA := Asd.mk (HD5.out.a.bytes HGE.out (by omega) 16 (by omega) A5 c5 (0 :: 0 :: junk) P5.out.rd P5.out.ad (by have := HJL.out; simp only [List.length_cons]; omega))
          rw [← HSA.out, show (0 :: 0 :: junk : List UInt8).length = 2 + m by simp only [List.length_cons]; have := HJL.out; omega] at HBA
          clear hO5 hG5 hu5 HF
          generalize (bytes s 16 (0 :: 0 :: junk)).2 = za at HBA
          go_wp2_with fail
          refine HBA.out.mono ?_
          rintro e v6 ⟨rfl, F6, h6, t6⟩
          have HD6 := Asd.mk (HD5.out.left h6 t6)
          clear h6 t6 HBA HD5 P5
          go_wp2_with fail
          refine (HBY.out v6).mono ?_
          rintro e v7 ⟨A7, c7, G7, rfl, ho, hg, hl, hm, hu⟩
          have HD7 := Asd.mk (HD6.out.upd hu)
          have P7 := Asd.mk (HD6.out.b.fresh ho hg)
          clear ho hg hl hm hu
          go_wp2_with fail
          refine (HD7.out.b.bytes HGE.out (by omega) 16 (by omega) A7 c7 bB P7.out.rd P7.out.ad (by have := HBL.out; omega)).mono ?_
          rw [← HSB.out]
          rintro e v8 ⟨rfl, F8, h8, t8⟩
          have HD8 := Asd.mk (HD7.out.right h8 t8)
          clear h8 t8 P7 HD7 HD6
          go_wp2
          go_loopw [17] (fun v17 wr => ∃ (i : Nat) (s t : Br) (Ga Gb : Nat → Prop), v17 = .int .i64 ((i + 1 : Nat) : Int) ∧ i ≤ 15 ∧ Asd (Sd w qa qb s t wr Ga Gb) ∧ Asd (Gd 500000 s) ∧ Asd (Gd 500000 t) ∧ Asd (Sx 16 s t) ∧ Asd (Al (GoneP 16) s)) (fun v17 _ => 16 - (intOf v17).toNat)
          case atStart => exact ⟨0, sa, sb, F6, F8, rfl, by omega, HD8, HGA, HGB, HSX, HGO⟩
          case round =>
            clear HD8 HGA HGB HSX HGO HD
            obtain ⟨i, s, t, Ga, Gb, rfl, hi, HD, HGA, HGB, HSX, HGO⟩ := hrel
            by_cases hlt : i < 15
            case pos =>
              obtain ⟨k, hk⟩ : ∃ k : Nat, k = i + 1 := ⟨_, rfl⟩
              rw [← hk]
              have hk16 : (k : Int) < 16 := by omega
              obtain ⟨hx1, hx2⟩ := HSX.out.write HGA.out HGB.out (show (k : Int) ≠ 16 by omega) 70000
              obtain ⟨s2, hs2⟩ : ∃ x, x = (write s (k : Int) 70000).1 := ⟨_, rfl⟩
              obtain ⟨t2, ht2⟩ : ∃ x, x = (write t (k : Int) 70000).1 := ⟨_, rfl⟩
              obtain ⟨tx, htx⟩ : ∃ x, x = (write s (k : Int) 70000).2.1 := ⟨_, rfl⟩
              obtain ⟨er, her⟩ : ∃ x, x = (write s (k : Int) 70000).2.2 := ⟨_, rfl⟩
              have htx2 : tx = (write t (k : Int) 70000).2.1 := by rw [hx2]; exact htx
              have her2 : er = (write t (k : Int) 70000).2.2 := by rw [hx2]; exact her
              rw [← hs2, ← ht2] at hx1
              have HSX2 := Asd.mk hx1
              have HGA2 : Asd (Gd 500000 s2) := ⟨by rw [hs2]; exact HGA.out.write _ _⟩
              have HGB2 : Asd (Gd 500000 t2) := ⟨by rw [ht2]; exact HGB.out.write _ _⟩
              have HGO2 : Asd (Al (GoneP 16) s2) := ⟨by rw [hs2]; exact Al.write (GoneP.kz 16) HGA.out HGO.out _ _⟩
              have HWA := Asd.mk (HD.out.a.write HGA.out (by omega) (k : Int) 70000 (by omega))
              have HWB := Asd.mk (fun (W : World) (F : Nat → Prop) (h : Sc w qb t W F) => h.write HGB.out (by omega) (k : Int) 70000 (by omega))
              unfold ScG at HWA HWB
              rw [← hs2, ← htx, ← her] at HWA
              rw [← ht2, ← htx2, ← her2] at HWB
              have q1 : (tx != tx) = false := by simp
              have q2 : (er != er) = false := by simp
              have HKK := Asd.mk hk
              clear hs2 ht2 htx her htx2 her2 hx1 hx2 hk
              go_wp2_with fail
              refine HWA.out.mono ?_
              rintro e v1 ⟨A1, c1, rfl, F1, h1, t1, p1⟩
              have HD1 := Asd.mk (HD.out.left h1 t1)
              have HDL := Asd.mk (fun k (h : Gb k) => HD.out.b.lt k h)
              have P1 := Asd.mk p1
              clear h1 t1 p1 HWA
              go_wp2_with fail
              refine (HWB.out v1 Gb HD1.out.b).mono ?_
              rintro e v2 ⟨A2, c2, rfl, F2, h2, t2', p2⟩
              have HD2 := Asd.mk (HD1.out.right h2 t2')
              have r1 : Rd v2 A1 tx.length tx := by
                obtain ⟨G, ho, hg⟩ := P1.out
                exact (K.Own.upd ho t2'.upd (fun g e hf => by have h3 := (hg g e).2; have h4 := HDL.out g hf; omega)).rd
              have cv1 : ∀ W, Upd (fun _ => False) v2 W → (convert 31 9 (.slice A1 tx.length c1)).run Tryz.prog W = .ok (.string (S tx)) W := fun W k => run_str (P := Tryz.prog) (c := c1) Tryz.underlying31 Tryz.underlying5 Tryz.underlying9 (r1.up k)
              have cv2 : ∀ W, Upd (fun _ => False) v2 W → (convert 31 9 (.slice A2 tx.length c2)).run Tryz.prog W = .ok (.string (S tx)) W := fun W k => run_str (P := Tryz.prog) (c := c2) Tryz.underlying31 Tryz.underlying5 Tryz.underlying9 (p2.rd.up k)
              have hs2 := Upd.refl (fun _ => False) v2
              clear h2 t2' p2 r1 HWB HD1 P1 HDL
              go_wp2
              go_roundw
              case rel => exact ⟨k, s2, t2, F1, F2, by go_num, by have := HKK.out; omega, HD2, HGA2, HGB2, HSX2, HGO2⟩
              case measure => simp only [intOf]; have := HKK.out; omega
            have hi15 : i = 15 := by omega
            subst hi15
            have hno := gone_role HGA.out.ok HGO.out
            have htab := HSX.out.tab
            have hhd : t.tab.holder = s.tab.holder := by rw [htab]
            clear htab hlt
            go_wp2_with fail
            refine (HD.out.a.role 16 (by omega)).mono ?_
            rw [hno]
            rintro e v1 ⟨rfl, rfl⟩
            simp only [Option.isSome_none]
            go_wp2_with fail
            refine HD.out.a.holder.mono ?_
            rintro e v1 ⟨rfl, rfl⟩
            go_wp2_with fail
            refine HD.out.b.holder.mono ?_
            rw [hhd]
            rintro e v1 ⟨rfl, rfl⟩
            go_wp2
            go_ret
            exact ⟨rfl, HD.out.a.up⟩
theorem apart_row (w : World) (henv : Or.Env w) (A : Option Addr) (n cp : Nat) (L : List Ev) (h : K.RSlice REv 4 w [.slice A n cp] L) (B0 : Option Addr) (m cm : Nat) (junk : List UInt8) (hj : K.Rd w B0 m junk) (hmc : m ≤ cm) (hcm : cm ≤ maxLen) : Calls Tryz.prog 12 #[.slice A n cp, .slice B0 m cm] w fun e w' => e = .returned (.bool true) ∧ Upd (fun _ => False) w w' := by
  obtain ⟨A1, c1, e1, hL, _⟩ := h
  simp only [List.cons.injEq, Value.slice.injEq, and_true] at e1
  obtain ⟨rfl, rfl, rfl⟩ := e1
  exact apart_walk w henv hL B0 m cm junk hj hmc
end Go.Proofs.YteepkanbiefpjaaGreatDoor.Bk
