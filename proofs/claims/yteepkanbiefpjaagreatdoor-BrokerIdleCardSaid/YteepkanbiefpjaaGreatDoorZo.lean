/- What these laws lean on, part Zo: contracts of the given program's functions and plain lists. No condition. -/
import Derived.Test.YteepkanbiefpjaaGreatDoorZn
import Derived.Test.YteepkanbiefpjaaGreatDoorZa
import Derived.HandedShaped
import Derived.LaidMore
import Derived.Stop.LaidErr
import Derived.Lib.LaidTab
import Derived.Test.YteepkanbiefpjaaGreatDoorZe
import Derived.Test.YteepkanbiefpjaaGreatDoorRows
import Derived.Shelf.Vars
set_option linter.unusedVariables false
set_option linter.unusedSimpArgs false
namespace Go.Proofs.YteepkanbiefpjaaGreatDoor.Bk
open Go.RowKit K
open MgRow (M mC Ms)
theorem mput_new (m : M) (w : World) : Calls Tryz.prog 21 #[.slice none 0 0, Vw.msgV m] w (Fr.PutPost (mb m) w) := by
  cases hr : Mg.right m.k m.a m.b m.t.length with
  | true =>
    have hm : mb m = MgPut.mbytes (UInt8.ofNat m.k.toNat) m.a.toNat m.b.toNat m.t := by unfold mb; rw [hr]; rfl
    have := MgPut.put_calls none 0 [] m.k m.a m.b m.t w hr (Rd.nil w _) (by simp)
    rw [List.nil_append, ← hm] at this
    exact this
  | false =>
    have hm : mb m = [] := by unfold mb; rw [hr]; rfl
    refine (MgTwo.put_no (.slice none 0 0) m.k m.a m.b m.t w hr).mono fun e w' ⟨he, hu⟩ => ?_
    exact ⟨none, 0, none, by rw [hm]; exact he, by rw [hm]; exact Own.nil _ _ _, fun g e => (by cases e), by rw [hm]; exact Nat.le_refl _, by simp [maxLen], hu⟩
theorem helloN_calls (t : List UInt8) (w : World) : Calls Tryz.prog 20 #[.string (S t)] w (Fr.PutPost (helloB t) w) := by
  have HP := Asd.mk (fun w => mput_new ⟨1, 5, 0, t⟩ w)
  unfold Vw.msgV at HP
  unfold helloB
  go_enter Tryz.func20, Tryz.ntmps20
  go_wp2_with fail
  refine (HP.out _).mono ?_
  rintro e w2 ⟨A, c, G, rfl, h1⟩
  have H1 := Asd.mk h1
  clear h1
  go_wp2
  go_ret
  exact ⟨A, c, G, rfl, H1.out⟩
theorem typedN_calls (q : Int) (t : List UInt8) (w : World) : Calls Tryz.prog 22 #[.int .i64 q, .string (S t)] w (Fr.PutPost (typedB q t) w) := by
  have HP := Asd.mk (fun w => mput_new ⟨2, q, 0, t⟩ w)
  unfold Vw.msgV at HP
  unfold typedB
  go_enter Tryz.func22, Tryz.ntmps22
  go_wp2_with fail
  refine (HP.out _).mono ?_
  rintro e w2 ⟨A, c, G, rfl, h1⟩
  have H1 := Asd.mk h1
  clear h1
  go_wp2
  go_ret
  exact ⟨A, c, G, rfl, H1.out⟩
structure Sc (w0 : World) (q : Nat) (s : Br) (w : World) (F : Nat → Prop) : Prop where
  mk ::
  has : ∃ L, L.q = q ∧ Bt L w s F
  lo : ∀ k, F k → w0.heap.size ≤ k
  up : Upd (fun _ => False) w0 w
def ScP (w0 : World) (q : Nat) (s : Br) (F : Nat → Prop) (w : World) (v : Value) (e : Ending) (w' : World) : Prop := e = .returned v ∧ ∃ F', Sc w0 q s w' F' ∧ Tn w F w' F'
def ScG (w0 : World) (q : Nat) (s : Br) (F : Nat → Prop) (w : World) (l : List UInt8) (v : Value → Value) (e : Ending) (w' : World) : Prop := ∃ A cp, e = .returned (v (.slice A l.length cp)) ∧ ∃ F', Sc w0 q s w' F' ∧ Tn w F w' F' ∧ Apart w' A cp l w.heap.size F'
section
variable {w0 w w' : World} {q n : Nat} {s : Br} {F F' : Nat → Prop} {id : Int} {c : Cn}
theorem Sc.go {L : Lay} {s' : Br} (h : Sc w0 q s w F) (hq : L.q = q) (hb : Bt L w' s' F') (t : Tn w F w' F') : Sc w0 q s' w' F' := ⟨⟨L, hq, hb⟩, fun k hk => by
  rcases t.new k hk with h1 | h1
  · exact h.lo k h1
  · exact Nat.le_trans h.up.size h1, h.up.trans t.upd (fun i hi hf => by have := h.lo i hf; omega)⟩
theorem Sc.upd (h : Sc w0 q s w F) (k : Upd (fun _ => False) w w') : Sc w0 q s w' F := by
  obtain ⟨L, hq, hb⟩ := h.has
  exact ⟨⟨L, hq, hb.up k⟩, h.lo, h.up.trans k (fun _ _ h => h)⟩
theorem Sc.lt (h : Sc w0 q s w F) : ∀ k, F k → k < w.heap.size := by
  obtain ⟨L, hq, hb⟩ := h.has
  exact fun k hk => hb.bk.lt k hk
theorem Sc.env (h : Sc w0 q s w F) : Or.Env w := by
  obtain ⟨L, hq, hb⟩ := h.has
  exact hb.env
theorem Sc.fresh {A : Option Addr} {cp : Nat} {l : List UInt8} {G : Option Nat} (h : Sc w0 q s w F) (ho : K.Own w' 5 1 (.slice A l.length cp) l.length (B l) G) (hg : ∀ g, G = some g → w.heap.size ≤ g) : Apart w' A cp l w.heap.size F := ⟨G, ho, fun g e => ⟨fun hf => by have := h.lt g hf; have := hg g e; omega, hg g e⟩⟩
theorem Apart.ad {A : Option Addr} {cp : Nat} {l : List UInt8} {lo : Nat} (h : Apart w A cp l lo F) : ∀ ad, A = some ad → ¬ F ad.block := by
  obtain ⟨G, h1, h2⟩ := h
  obtain ⟨A1, c1, he1, _, _, _, hA⟩ := K.Own.slice h1
  obtain ⟨rfl, rfl⟩ : A = A1 ∧ cp = c1 := by injection he1 with a b c; exact ⟨a, c⟩
  exact fun ad e => (h2 _ (hA ad e)).1
theorem Apart.le {A : Option Addr} {cp : Nat} {l : List UInt8} {lo : Nat} (h : Apart w A cp l lo F) : l.length ≤ cp ∧ cp ≤ maxLen := by
  obtain ⟨G, h1, h2⟩ := h
  obtain ⟨A1, c1, he1, a, b, _, _⟩ := K.Own.slice h1
  obtain ⟨rfl, rfl⟩ : A = A1 ∧ cp = c1 := by injection he1 with a b c; exact ⟨a, c⟩
  exact ⟨a, b⟩
theorem Sc.connect (h : Sc w0 q s w F) (hd : Gd n s) (id : Int) (hid : -9223372036854775808 ≤ id ∧ id ≤ 9223372036854775807) : Calls Tryz.prog 18 #[ptr q, .int .i64 id] w (ScP w0 q (connect s id).1 F w (.int .i64 (connect s id).2)) := by
  obtain ⟨L, rfl, hb⟩ := h.has
  refine (connect_calls n hb hd id hid).mono ?_
  rintro e w1 ⟨he, L1, F1, hq, h1, t1⟩
  exact ⟨he, F1, h.go hq h1 t1, t1⟩
theorem Sc.bytes (h : Sc w0 q s w F) (hd : Gd n s) (hn : n ≤ 10000000) (id : Int) (hid : -9223372036854775808 ≤ id ∧ id ≤ 9223372036854775807) (A : Option Addr) (cp : Nat) (b : List UInt8) (hr : Rd w A b.length b) (hA : ∀ ad, A = some ad → ¬ F ad.block) (hbl : b.length ≤ 10000000) : Calls Tryz.prog 19 #[ptr q, .int .i64 id, .slice A b.length cp] w (ScP w0 q (bytes s id b).1 F w (.int .i64 (bytes s id b).2)) := by
  obtain ⟨L, rfl, hb⟩ := h.has
  refine (bytes_calls n hb hd hn id hid A cp b hr hA hbl).mono ?_
  rintro e w1 ⟨he, F1, h1, t1⟩
  exact ⟨he, F1, h.go rfl h1 t1, t1⟩
theorem Sc.write (h : Sc w0 q s w F) (hd : Gd n s) (hn : n ≤ 100000000) (id x : Int) (hid : -9223372036854775808 ≤ id ∧ id ≤ 9223372036854775807) : Calls Tryz.prog 23 #[ptr q, .int .i64 id, .int .i64 x] w (ScG w0 q (write s id x).1 F w (write s id x).2.1 (fun v => .tuple #[v, .int .i64 (write s id x).2.2])) := by
  obtain ⟨L, rfl, hb⟩ := h.has
  refine (write_calls n hb hd hn id x hid).mono ?_
  rintro e w1 ⟨A, cp, he, F1, h1, t1, ha⟩
  exact ⟨A, cp, he, F1, h.go rfl h1 t1, t1, ha⟩
theorem Sc.drain (h : Sc w0 q s w F) (x : Int) : Calls Tryz.prog 37 #[ptr q, .int .i64 x] w (ScG w0 q (drain s x).1 F w (drain s x).2 (fun v => v)) := by
  obtain ⟨L, rfl, hb⟩ := h.has
  refine (drain_calls hb x).mono ?_
  rintro e w1 ⟨A, cp, he, F1, h1, t1, ha⟩
  exact ⟨A, cp, he, F1, h.go rfl h1 t1, t1, ha⟩
theorem Sc.output (h : Sc w0 q s w F) (hd : Gd n s) (hn : n ≤ 10000000) (A : Option Addr) (cp : Nat) (b : List UInt8) (hr : Rd w A b.length b) (hA : ∀ ad, A = some ad → ¬ F ad.block) (hbl : b.length ≤ 10000000) : Calls Tryz.prog 34 #[ptr q, .slice A b.length cp] w (ScP w0 q (output s b).1 F w (.int .i64 (output s b).2)) := by
  obtain ⟨L, rfl, hb⟩ := h.has
  refine (output_calls n hb hd hn A cp b hr hA hbl).mono ?_
  rintro e w1 ⟨he, F1, h1, t1⟩
  exact ⟨he, F1, h.go rfl h1 t1, t1⟩
theorem Sc.tick (h : Sc w0 q s w F) (hd : Gd n s) (hn : n ≤ 10000000) : Calls Tryz.prog 32 #[ptr q] w (ScP w0 q (tick s) F w (.tuple #[])) := by
  obtain ⟨L, rfl, hb⟩ := h.has
  refine (tick_calls n hb hd hn).mono ?_
  rintro e w1 ⟨he, F1, h1, t1⟩
  exact ⟨he, F1, h.go rfl h1 t1, t1⟩
theorem Sc.cut (h : Sc w0 q s w F) (hd : Gd n s) (hn : n ≤ 100000000) (id : Int) (hid : -9223372036854775808 ≤ id ∧ id ≤ 9223372036854775807) : Calls Tryz.prog 31 #[ptr q, .int .i64 id] w (ScP w0 q (cut s id).1 F w (.int .i64 (cut s id).2)) := by
  obtain ⟨L, rfl, hb⟩ := h.has
  refine (cut_calls n hb hd hn id hid).mono ?_
  rintro e w1 ⟨he, F1, h1, t1⟩
  exact ⟨he, F1, h.go rfl h1 t1, t1⟩
theorem Sc.end_ (h : Sc w0 q s w F) (hd : Gd n s) (hn : n ≤ 100000000) (code : Int) : Calls Tryz.prog 36 #[ptr q, .int .i64 code] w (ScP w0 q (end_ s code).1 F w (.int .i64 (end_ s code).2)) := by
  obtain ⟨L, rfl, hb⟩ := h.has
  refine (end_calls n hb hd hn code).mono ?_
  rintro e w1 ⟨he, F1, h1, t1⟩
  exact ⟨he, F1, h.go rfl h1 t1, t1⟩
theorem Sc.holder (h : Sc w0 q s w F) : Calls Tryz.prog 27 #[ptr q] w fun e w' => e = .returned (.int .i64 s.tab.holder) ∧ w = w' := by
  obtain ⟨L, rfl, hb⟩ := h.has
  exact holder_calls hb
theorem Sc.role (h : Sc w0 q s w F) (x : Int) (hx : -9223372036854775808 ≤ x ∧ x ≤ 9223372036854775807) : Calls Tryz.prog 26 #[ptr q, .int .i64 x] w fun e w' => e = .returned (.tuple #[.int .i64 ((Fl.rget s.tab.roles x).getD 0), .bool (Fl.rget s.tab.roles x).isSome]) ∧ w = w' := by
  obtain ⟨L, rfl, hb⟩ := h.has
  exact role_of_calls hb x hx
theorem Sc.waiting (h : Sc w0 q s w F) (x : Int) (hx : -9223372036854775808 ≤ x ∧ x ≤ 9223372036854775807) : Calls Tryz.prog 41 #[ptr q, .int .i64 x] w fun e w' => e = .returned (.int .i64 (waitN s x : Int)) ∧ w = w' := by
  obtain ⟨L, rfl, hb⟩ := h.has
  exact waiting_calls hb x hx
theorem Sc.seen (h : Sc w0 q s w F) (ho : Ok s) (x : Int) (hx : -9223372036854775808 ≤ x ∧ x ≤ 9223372036854775807) : Calls Tryz.prog 40 #[ptr q, .int .i64 x] w fun e w' => e = .returned (.tuple #[.int .i64 (((seenO s x).getD 0 : Nat) : Int), .bool (seenO s x).isSome]) ∧ w = w' := by
  obtain ⟨L, rfl, hb⟩ := h.has
  exact seen_calls hb ho x hx
theorem Sc.conns (h : Sc w0 q s w F) (ho : Ok s) : Calls Tryz.prog 30 #[ptr q] w (NewI (ids s) w) := by
  obtain ⟨L, rfl, hb⟩ := h.has
  exact conns_calls hb ho
theorem Sc.users (h : Sc w0 q s w F) (ho : Ok s) : Calls Tryz.prog 28 #[ptr q] w (NewI (Fl.keys s.tab) w) := by
  obtain ⟨L, rfl, hb⟩ := h.has
  exact users_calls hb ho
end
def ScN (w0 : World) (s : Br) (w : World) (e : Ending) (w' : World) : Prop := ∃ q F, e = .returned (.pointer (some ⟨q, 0, none⟩)) ∧ Sc w0 q s w' F ∧ (∀ k, F k → w.heap.size ≤ k) ∧ Upd (fun _ => False) w w'
theorem scnew_calls {w0 w : World} (h : Upd (fun _ => False) w0 w) (henv : Or.Env w) (c : Cf) (hc : rightC c = true) : Calls Tryz.prog 16 #[.agg (cfV c)] w (ScN w0 (new c) w) := by
  refine (new_calls c hc w henv).mono ?_
  rintro e w1 ⟨L, F, he, hb, hl, hu⟩
  exact ⟨L.q, F, he, ⟨⟨L, rfl, hb⟩, fun k hk => Nat.le_trans h.size (hl k hk), h.trans hu (fun _ _ h => h)⟩, hl, hu⟩
end Go.Proofs.YteepkanbiefpjaaGreatDoor.Bk
set_option linter.unusedVariables false
set_option linter.unusedSimpArgs false
namespace Go.Proofs.YteepkanbiefpjaaGreatDoor.Bk
open Go.RowKit K
open MgRow (M mC Ms)
def hd1 : Br := (connect (new dflt) 1).1
def hd2 : Br := (bytes hd1 1 (helloB [97])).1
def hd3 : Br := (bytes hd2 1 (typedB 1 cFloor)).1
def hdM : List M := [⟨5, 1, 0, [111, 119, 110, 101, 114]⟩, ⟨9, 0, 0, []⟩, ⟨9, 1, 0, []⟩]
theorem helloB_len (t : List UInt8) : (helloB t).length ≤ 2053 := mb_len _
theorem typedB_len (q : Int) (t : List UInt8) : (typedB q t).length ≤ 2053 := mb_len _
theorem write_len (s : Br) (id x : Int) {n : Nat} (h : Gd n s) (hq : ∀ c, get s id = some c → c.out.length ≤ 65536) : (write s id x).2.1.length ≤ 65536 := by
  unfold write
  cases hg : get s id with
  | none => simp
  | some c =>
    simp only [List.length_take]
    have := hq c hg
    omega
theorem Sc.few {w0 w : World} {q n : Nat} {s : Br} {F : Nat → Prop} (h : Sc w0 q s w F) (hd : Gd n s) : ∀ id c, get s id = some c → c.out.length ≤ 65536 := fun id c hg => by
  obtain ⟨L, hq, hb⟩ := h.has
  obtain ⟨Fo, hq, _, _⟩ := hb.out hg
  have := hq.fit
  have hcf := hd.cf
  unfold rightC at hcf
  simp only [decide_eq_true_eq] at hcf
  omega
theorem hd_c1 : (connect (new dflt) 1).2 = 0 := by decide +kernel
theorem hd_c2 : (bytes hd1 1 (helloB [97])).2 = 0 := by decide +kernel
theorem hd_c4 : (write hd3 1 1000).2.2 = 0 := by decide +kernel
deriving instance DecidableEq for M
theorem hd_m : msgs (write hd3 1 1000).2.1 = (hdM, true) := by decide +kernel
theorem hd_h : (write hd3 1 1000).1.tab.holder = 1 := by decide +kernel
set_option maxHeartbeats 8000000 in
set_option maxRecDepth 100000 in
theorem head_calls (w : World) (henv : Or.Env w) : Calls Tryz.prog 15 #[] w fun e w' => e = .returned (.bool true) ∧ Upd (fun _ => False) w w' := by
  have HENV := Asd.mk henv
  obtain ⟨s0, hs0⟩ : ∃ s, s = new dflt := ⟨_, rfl⟩
  obtain ⟨s1, hs1⟩ : ∃ s, s = hd1 := ⟨_, rfl⟩
  obtain ⟨s2, hs2⟩ : ∃ s, s = hd2 := ⟨_, rfl⟩
  obtain ⟨s3, hs3⟩ : ∃ s, s = hd3 := ⟨_, rfl⟩
  have e1 : (connect s0 1).1 = s1 ∧ (connect s0 1).2 = 0 := by rw [hs0, hs1]; exact ⟨rfl, hd_c1⟩
  have e2 : (bytes s1 1 (helloB [97])).1 = s2 ∧ (bytes s1 1 (helloB [97])).2 = 0 := by rw [hs1, hs2]; exact ⟨rfl, hd_c2⟩
  have e3 : (bytes s2 1 (typedB 1 cFloor)).1 = s3 := by rw [hs2, hs3]; rfl
  have e4 : (write s3 1 1000).2.2 = 0 ∧ msgs (write s3 1 1000).2.1 = (hdM, true) ∧ (write s3 1 1000).1.tab.holder = 1 := by rw [hs3]; exact ⟨hd_c4, hd_m, hd_h⟩
  have g0 : Gd 0 s0 := by rw [hs0]; exact Gd.new dflt dflt_ok
  have g1 : Gd 0 s1 := by rw [← e1.1]; exact g0.connect 1
  have g2 : Gd 10000 s2 := by rw [← e2.1]; exact (g1.bytes 1 _).mono (by have := helloB_len [97]; omega)
  have g3 : Gd 20000 s3 := by rw [← e3]; exact (g2.bytes 1 _).mono (by have := typedB_len 1 cFloor; omega)
  have E0 := Asd.mk hs0
  have E1 := Asd.mk e1
  have E2 := Asd.mk e2
  have E3 := Asd.mk e3
  have E4 := Asd.mk e4
  have G0 := Asd.mk g0
  have G1 := Asd.mk g1
  have G2 := Asd.mk g2
  have G3 := Asd.mk g3
  have HT := Asd.mk (fun w => helloN_calls [97] w)
  have HY := Asd.mk (fun w => typedN_calls 1 cFloor w)
  clear henv hs0 hs1 hs2 hs3 e1 e2 e3 e4 g0 g1 g2 g3
  go_enter Tryz.func15, Tryz.ntmps15
  go_wp2_with fail
  refine (default_calls w).mono ?_
  rintro e w1 ⟨rfl, hu1⟩
  go_wp2_with fail
  refine (scnew_calls hu1 (env_upd HENV.out hu1 (fun _ h => h.elim)) dflt dflt_ok).mono ?_
  rw [← E0.out]
  rintro e w2 ⟨q, F2, rfl, h2, hl2, hu2⟩
  have H2 := Asd.mk h2
  clear hu1 h2 hl2 hu2
  go_wp2_with fail
  refine (H2.out.connect G0.out 1 (by omega)).mono ?_
  rw [E1.out.1, E1.out.2]
  rintro e w3 ⟨rfl, F3, h3, t3⟩
  have H3 := Asd.mk h3
  clear h3 t3
  go_wp2_with fail
  refine (HT.out w3).mono ?_
  rintro e w4 ⟨A4, c4, G4, rfl, ho4, hg4, hl4, hm4, hu4⟩
  have H4 := Asd.mk (H3.out.upd hu4)
  have P4 := Asd.mk (H3.out.fresh ho4 hg4)
  clear ho4 hg4 hl4 hm4 hu4
  go_wp2_with fail
  refine (H4.out.bytes G1.out (by omega) 1 (by omega) A4 c4 (helloB [97]) P4.out.rd P4.out.ad (by have := helloB_len [97]; omega)).mono ?_
  rw [E2.out.1, E2.out.2]
  rintro e w5 ⟨rfl, F5, h5, t5⟩
  have H5 := Asd.mk h5
  clear h5 t5
  go_wp2_with fail
  refine (HY.out w5).mono ?_
  rintro e w6 ⟨A6, c6, G6, rfl, ho6, hg6, hl6, hm6, hu6⟩
  have H6 := Asd.mk (H5.out.upd hu6)
  have P6 := Asd.mk (H5.out.fresh ho6 hg6)
  clear ho6 hg6 hl6 hm6 hu6
  go_wp2_with fail
  refine (H6.out.bytes G2.out (by omega) 1 (by omega) A6 c6 (typedB 1 cFloor) P6.out.rd P6.out.ad (by have := typedB_len 1 cFloor; omega)).mono ?_
  rw [E3.out]
  rintro e w7 ⟨rfl, F7, h7, t7⟩
  have H7 := Asd.mk h7
  clear h7 t7
  have HFW := Asd.mk (H7.out.few G3.out)
  go_wp2_with fail
  refine (H7.out.write G3.out (by omega) 1 1000 (by omega)).mono ?_
  rw [E4.out.1]
  rintro e w8 ⟨A8, c8, rfl, F8, h8, t8, p8⟩
  have H8 := Asd.mk h8
  have P8 := Asd.mk p8
  have HWL := Asd.mk (write_len s3 1 1000 G3.out (fun c hg => HFW.out 1 c hg))
  obtain ⟨wb, hwb⟩ : ∃ wb, wb = (write s3 1 1000).2.1 := ⟨_, rfl⟩
  obtain ⟨s8, hs8⟩ : ∃ s8, s8 = (write s3 1 1000).1 := ⟨_, rfl⟩
  rw [← hwb] at P8 HWL ⊢
  rw [← hs8] at H8
  have HM8 : Asd (msgs wb = (hdM, true)) := ⟨by rw [hwb]; exact E4.out.2.1⟩
  have HH8 : Asd (s8.tab.holder = 1) := ⟨by rw [hs8]; exact E4.out.2.2⟩
  clear h8 t8 p8 hwb hs8
  go_wp2_with fail
  refine (messages_calls A8 wb.length c8 wb w8 P8.out.rd P8.out.le.1 (by have := HWL.out; omega)).mono ?_
  rw [HM8.out]
  rintro e w9 ⟨A9, c9, G9, rfl, ho9, hg9, hu9, hl9⟩
  have H9 := Asd.mk (H8.out.upd hu9)
  have hms : Ms w9 A9 3 hdM := ho9.ms (by show (3 : Nat) ≤ _; omega)
  have U9 := Asd.mk hu9
  clear ho9 hg9 hu9 hl9
  obtain ⟨ad, rfl, hc0⟩ := hms.at_ 0 (by omega)
  obtain ⟨ad1, e1, hc1⟩ := hms.at_ 1 (by omega)
  obtain rfl := Option.some.inj e1
  obtain ⟨ad2, e2, hc2⟩ := hms.at_ 2 (by omega)
  obtain rfl := Option.some.inj e2
  clear e1 e2
  have a0 : w9.cell? (ad.add 0) = some (.int .i64 5) := hc0 0 _ rfl
  have a1 : w9.cell? (ad.add 1) = some (.int .i64 1) := hc0 1 _ rfl
  have a2 : w9.cell? (ad.add 2) = some (.int .i64 0) := hc0 2 _ rfl
  have a3 : w9.cell? (ad.add 3) = some (.string (S [111, 119, 110, 101, 114])) := hc0 3 _ rfl
  have b0 : w9.cell? (ad.add 4) = some (.int .i64 9) := hc1 0 _ rfl
  have b1 : w9.cell? (ad.add 5) = some (.int .i64 0) := hc1 1 _ rfl
  have b2 : w9.cell? (ad.add 6) = some (.int .i64 0) := hc1 2 _ rfl
  have b3 : w9.cell? (ad.add 7) = some (.string (S [])) := hc1 3 _ rfl
  have c0 : w9.cell? (ad.add 8) = some (.int .i64 9) := hc2 0 _ rfl
  have c1 : w9.cell? (ad.add 9) = some (.int .i64 1) := hc2 1 _ rfl
  have c2 : w9.cell? (ad.add 10) = some (.int .i64 0) := hc2 2 _ rfl
  have c3 : w9.cell? (ad.add 11) = some (.string (S [])) := hc2 3 _ rfl
  clear hc0 hc1 hc2 hms
  simp only [Addr.add, if_pos, if_neg, Nat.reduceEqDiff, if_false, if_true] at a0 a1 a2 a3 b0 b1 b2 b3 c0 c1 c2 c3
  have hl3 : ((hdM.length : Int) != 3) = false := rfl
  go_wp2_with fail
  refine H9.out.holder.mono ?_
  rw [HH8.out]
  rintro e w10 ⟨rfl, rfl⟩
  go_wp2
  go_ret
  exact ⟨rfl, H9.out.up⟩
end Go.Proofs.YteepkanbiefpjaaGreatDoor.Bk
set_option linter.unusedVariables false
set_option linter.unusedSimpArgs false
namespace Go.Proofs.YteepkanbiefpjaaGreatDoor.K
open Go.RowKit Go.ChangeShapes Go.WideShapes
variable {H : Type} {enc : TypeId × Value → H}
theorem change_and_shaped {a : Assume} {C : Checked} {os : Os} {f : FuncId} {fn : Func} {s : ChangeSpec} {conds : List PathCond} {apart fresh handsOn again : Bool} {X : World → Array Value → Prop}
    (hX : ∀ (w w' : World) (args : Array Value), w.heap = w'.heap → X w args → X w' args)
    (own : ownKnob C.prog.godebug = none) (started : os.Started) (noInit : C.prog.inits.idxOf? f = none) (hfn : C.prog.funcs[f]? = some fn)
    (witness : ∃ (w : World) (tape : Tape) (i : Input), w.os = os ∧ (w.forCall tape i).Shaped C.prog ∧ i.vars = [] ∧ Input.okWide C.prog (w.forCall tape i) .any w.heap.size f i ∧
      ((s.pre enc C.prog fn conds apart (w.forCall tape i).memory i.args ∧ X (w.forCall tape i).memory i.args) ∧ sizedMet enc C.prog fn (OpenSpec.ofChange s) apart (w.forCall tape i).memory i.args) ∧ a.holds C.prog (lone (Frame.enter C.prog f i.args .normal) [] (w.forCall tape i)))
    (contract : ∀ (W : World) (base : Nat) (args : Array Value) (ds gs : List (DataW H)) (before : List MemPlace),
      (∀ (j : Nat) t v, fn.params[j]? = some t → args[j]? = some v → Value.okWide C.prog W .any base t v) →
      DataW.Whole enc C.prog fn.params.toList s.vars apart W args.toList ds gs before →
      (DataW.weightsEach C.prog (fn.params.toList ++ s.plain.varTypes C.prog) (ds ++ gs)).all (· ≤ reachBytes) = true → X W args → W.ShapedOpen C.prog →
      Calls C.prog f args W fun e W' => ∃ v, e = .returned v ∧ s.post enc C.prog fn apart fresh handsOn again W args v W') :
    ReturnsInHanded a C os f .any (fun w args => (s.pre enc C.prog fn conds apart w args ∧ X w args) ∧ sizedMet enc C.prog fn (OpenSpec.ofChange s) apart w args) (s.post enc C.prog fn apart fresh handsOn again) := by
  refine returnsInHanded_of_calls own started noInit witness ?_
  intro w tape i _ hsh _ hok hpre _
  obtain ⟨_, _, _, fn', hfn', _, _, _, _, hval⟩ := hok
  have e : fn' = fn := Option.some.inj (hfn'.symm.trans hfn)
  subst e
  obtain ⟨⟨⟨ds, gs, before, hw, _⟩, hx⟩, hz⟩ := hpre
  refine (contract (w.forCall tape i) w.heap.size i.args ds gs before hval (DataW.Whole.of_heap (w' := w.forCall tape i) (by rfl) hw) (hz.weights hw) (hX _ _ _ (by rfl) hx) hsh).mono fun e W' ⟨v, he, hp⟩ => ?_
  subst he
  exact ChangeSpec.post_blind hp
end Go.Proofs.YteepkanbiefpjaaGreatDoor.K
set_option linter.unusedVariables false
set_option linter.unusedSimpArgs false
namespace Go.Proofs.YteepkanbiefpjaaGreatDoor.Or
open Go.RowKit K
theorem star : ("*errors.errorString" : String) = "*" ++ "errors.errorString" := by decide
theorem rowE (u : TypeId) (h : Tryz.prog.typeName? 3 u = some "*errors.errorString") : u = 260 :=
  typeName_ptr_named (nm := "errors.errorString") (by rw [← star]; kernel_rfl) (by kernel_rfl) (by decide) u (by rw [← star]; exact h)
theorem env_of {W : World} (hL0 : laidMetH Tryz.prog Rows.brokerDeniedRow.laid W) (hsh : W.ShapedOpen Tryz.prog) : Env W := by
  rw [MakeChecks.laidMetH_plain _ _ _ (by kernel_rfl)] at hL0
  have h3 : laidMet Tryz.prog (("internal/strconv.uint64pow10", Lib.tabData .u64 Lib.pow10Tab) :: [("strconv.ErrRange", Rows.laid_strconv_ErrRange), ("strconv.ErrSyntax", Rows.laid_strconv_ErrSyntax)]) W := laidMet.tail (laidMet.tail hL0)
  refine ⟨?_, ?_, ?_, ?_⟩
  · exact Lib.tabIs_of_head (g := 0) (t := 212) (e := 185) (n := 20) (by kernel_rfl) (by kernel_rfl) Tryz.underlying212 Tryz.underlying185 (by kernel_rfl) (by kernel_rfl) h3
  · exact Go.Proofs.cell_of_shapedOpen_int (g := 3) (zero := #[.int .i64 0]) (t := 3) hsh (of_decide_eq_true (by kernel_rfl)) (by kernel_rfl) rfl (by kernel_rfl) (by kernel_rfl) Tryz.underlying3
  · obtain ⟨a0, s0, hv0, _⟩ := laid_sentinel (laidMet.tail (laidMet.tail h3)) (g := 4) (ti := 203) (by kernel_rfl) (by kernel_rfl) Tryz.underlying203 rowE Tryz.underlying260 Tryz.underlying262 rfl rfl Tryz.underlying9 (by kernel_rfl) (by kernel_rfl)
    exact ⟨_, _, hv0⟩
  · obtain ⟨a0, s0, hv0, _⟩ := laid_sentinel (laidMet.tail h3) (g := 5) (ti := 203) (by kernel_rfl) (by kernel_rfl) Tryz.underlying203 rowE Tryz.underlying260 Tryz.underlying262 rfl rfl Tryz.underlying9 (by kernel_rfl) (by kernel_rfl)
    exact ⟨_, _, hv0⟩
end Go.Proofs.YteepkanbiefpjaaGreatDoor.Or
