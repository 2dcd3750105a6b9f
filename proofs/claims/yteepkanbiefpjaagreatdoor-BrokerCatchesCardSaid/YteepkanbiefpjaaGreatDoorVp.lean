/- What these laws lean on, part Vp: contracts of the given program's functions and plain lists. No condition. -/
import Derived.Test.YteepkanbiefpjaaGreatDoorVo
import Derived.Test.YteepkanbiefpjaaGreatDoorVa
import Derived.HandedShaped
import Derived.LaidMore
import Derived.Stop.LaidErr
import Derived.Lib.LaidTab
import Derived.Test.YteepkanbiefpjaaGreatDoorVf
import Derived.Test.YteepkanbiefpjaaGreatDoorRows
import Derived.Shelf.Vars
import Derived.Test.YteepkanbiefpjaaGreatDoorVe
import Derived.Lib.SmallJoins
import Derived.Shelf.Strconv.Itoa3
set_option linter.unusedVariables false
set_option linter.unusedSimpArgs false
namespace Go.Proofs.YteepkanbiefpjaaGreatDoor.Bk
open Go.RowKit K
open MgRow (M mC Ms)
theorem mput_new (m : M) (w : World) : Calls Tryz.prog 21 #[.slice none 0 0, Vw.msgV m] w (Fr.PutPost (mb m) w) := by
  cases hr : Mg.right m.k m.a m.b m.t.length with
  | true =>
    have hm : mb m = MgPut.mbytes (UInt8.ofNat m.k.toNat) m.a.toNat m.b.toNat m.t := by unfold mb; rw [hr]; rfl
    have := MgPut.put_calls none 0 [] m.k m.a m.b m.t w hr (Rd.nil w _) (by simp)
    rw [List.nil_append, ← hm] at this
    exact this
  | false =>
    have hm : mb m = [] := by unfold mb; rw [hr]; rfl
    refine (MgTwo.put_no (.slice none 0 0) m.k m.a m.b m.t w hr).mono fun e w' ⟨he, hu⟩ => ?_
    exact ⟨none, 0, none, by rw [hm]; exact he, by rw [hm]; exact Own.nil _ _ _, fun g e => (by cases e), by rw [hm]; exact Nat.le_refl _, by simp [maxLen], hu⟩
theorem helloN_calls (t : List UInt8) (w : World) : Calls Tryz.prog 20 #[.string (S t)] w (Fr.PutPost (helloB t) w) := by
  have HP := Asd.mk (fun w => mput_new ⟨1, 5, 0, t⟩ w)
  unfold Vw.msgV at HP
  unfold helloB
  go_enter Tryz.func20, Tryz.ntmps20
  go_wp2_with fail
  refine (HP.out _).mono ?_
  rintro e w2 ⟨A, c, G, rfl, h1⟩
  have H1 := Asd.mk h1
  clear h1
  go_wp2
  go_ret
  exact ⟨A, c, G, rfl, H1.out⟩
theorem typedN_calls (q : Int) (t : List UInt8) (w : World) : Calls Tryz.prog 22 #[.int .i64 q, .string (S t)] w (Fr.PutPost (typedB q t) w) := by
  have HP := Asd.mk (fun w => mput_new ⟨2, q, 0, t⟩ w)
  unfold Vw.msgV at HP
  unfold typedB
  go_enter Tryz.func22, Tryz.ntmps22
  go_wp2_with fail
  refine (HP.out _).mono ?_
  rintro e w2 ⟨A, c, G, rfl, h1⟩
  have H1 := Asd.mk h1
  clear h1
  go_wp2
  go_ret
  exact ⟨A, c, G, rfl, H1.out⟩
structure Sc (w0 : World) (q : Nat) (s : Br) (w : World) (F : Nat → Prop) : Prop where
  mk ::
  has : ∃ L, L.q = q ∧ Bt L w s F
  lo : ∀ k, F k → w0.heap.size ≤ k
  up : Upd (fun _ => False) w0 w
def ScP (w0 : World) (q : Nat) (s : Br) (F : Nat → Prop) (w : World) (v : Value) (e : Ending) (w' : World) : Prop := e = .returned v ∧ ∃ F', Sc w0 q s w' F' ∧ Tn w F w' F'
def ScG (w0 : World) (q : Nat) (s : Br) (F : Nat → Prop) (w : World) (l : List UInt8) (v : Value → Value) (e : Ending) (w' : World) : Prop := ∃ A cp, e = .returned (v (.slice A l.length cp)) ∧ ∃ F', Sc w0 q s w' F' ∧ Tn w F w' F' ∧ Apart w' A cp l w.heap.size F'
section
variable {w0 w w' : World} {q n : Nat} {s : Br} {F F' : Nat → Prop} {id : Int} {c : Cn}
theorem Sc.go {L : Lay} {s' : Br} (h : Sc w0 q s w F) (hq : L.q = q) (hb : Bt L w' s' F') (t : Tn w F w' F') : Sc w0 q s' w' F' := ⟨⟨L, hq, hb⟩, fun k hk => by
  rcases t.new k hk with h1 | h1
  · exact h.lo k h1
  · exact Nat.le_trans h.up.size h1, h.up.trans t.upd (fun i hi hf => by have := h.lo i hf; omega)⟩
theorem Sc.upd (h : Sc w0 q s w F) (k : Upd (fun _ => False) w w') : Sc w0 q s w' F := by
  obtain ⟨L, hq, hb⟩ := h.has
  exact ⟨⟨L, hq, hb.up k⟩, h.lo, h.up.trans k (fun _ _ h => h)⟩
theorem Sc.lt (h : Sc w0 q s w F) : ∀ k, F k → k < w.heap.size := by
  obtain ⟨L, hq, hb⟩ := h.has
  exact fun k hk => hb.bk.lt k hk
theorem Sc.env (h : Sc w0 q s w F) : Or.Env w := by
  obtain ⟨L, hq, hb⟩ := h.has
  exact hb.env
theorem Sc.fresh {A : Option Addr} {cp : Nat} {l : List UInt8} {G : Option Nat} (h : Sc w0 q s w F) (ho : K.Own w' 5 1 (.slice A l.length cp) l.length (B l) G) (hg : ∀ g, G = some g → w.heap.size ≤ g) : Apart w' A cp l w.heap.size F := ⟨G, ho, fun g e => ⟨fun hf => by have := h.lt g hf; have := hg g e; omega, hg g e⟩⟩
theorem Apart.ad {A : Option Addr} {cp : Nat} {l : List UInt8} {lo : Nat} (h : Apart w A cp l lo F) : ∀ ad, A = some ad → ¬ F ad.block := by
  obtain ⟨G, h1, h2⟩ := h
  obtain ⟨A1, c1, he1, _, _, _, hA⟩ := K.Own.slice h1
  obtain ⟨rfl, rfl⟩ : A = A1 ∧ cp = c1 := by injection he1 with a b c; exact ⟨a, c⟩
  exact fun ad e => (h2 _ (hA ad e)).1
theorem Apart.le {A : Option Addr} {cp : Nat} {l : List UInt8} {lo : Nat} (h : Apart w A cp l lo F) : l.length ≤ cp ∧ cp ≤ maxLen := by
  obtain ⟨G, h1, h2⟩ := h
  obtain ⟨A1, c1, he1, a, b, _, _⟩ := K.Own.slice h1
  obtain ⟨rfl, rfl⟩ : A = A1 ∧ cp = c1 := by injection he1 with a b c; exact ⟨a, c⟩
  exact ⟨a, b⟩
theorem Sc.connect (h : Sc w0 q s w F) (hd : Gd n s) (id : Int) (hid : -9223372036854775808 ≤ id ∧ id ≤ 9223372036854775807) : Calls Tryz.prog 18 #[ptr q, .int .i64 id] w (ScP w0 q (connect s id).1 F w (.int .i64 (connect s id).2)) := by
  obtain ⟨L, rfl, hb⟩ := h.has
  refine (connect_calls n hb hd id hid).mono ?_
  rintro e w1 ⟨he, L1, F1, hq, h1, t1⟩
  exact ⟨he, F1, h.go hq h1 t1, t1⟩
theorem Sc.bytes0 (h : Sc w0 q s w F) (hd : Gd n s) (hn : n ≤ 10000000) (id : Int) (hid : -9223372036854775808 ≤ id ∧ id ≤ 9223372036854775807) (A : Option Addr) (cp : Nat) (b : List UInt8) (hr : Rd w A b.length b) (hA : ∀ ad, A = some ad → 0 < b.length → ¬ F ad.block) (hbl : b.length ≤ 10000000) : Calls Tryz.prog 19 #[ptr q, .int .i64 id, .slice A b.length cp] w (ScP w0 q (bytes s id b).1 F w (.int .i64 (bytes s id b).2)) := by
  obtain ⟨L, rfl, hb⟩ := h.has
  refine (bytes_calls n hb hd hn id hid A cp b hr hA hbl).mono ?_
  rintro e w1 ⟨he, F1, h1, t1⟩
  exact ⟨he, F1, h.go rfl h1 t1, t1⟩
theorem Sc.bytes (h : Sc w0 q s w F) (hd : Gd n s) (hn : n ≤ 10000000) (id : Int) (hid : -9223372036854775808 ≤ id ∧ id ≤ 9223372036854775807) (A : Option Addr) (cp : Nat) (b : List UInt8) (hr : Rd w A b.length b) (hA : ∀ ad, A = some ad → ¬ F ad.block) (hbl : b.length ≤ 10000000) : Calls Tryz.prog 19 #[ptr q, .int .i64 id, .slice A b.length cp] w (ScP w0 q (bytes s id b).1 F w (.int .i64 (bytes s id b).2)) := Sc.bytes0 h hd hn id hid A cp b hr (fun ad e _ => hA ad e) hbl
theorem Sc.write (h : Sc w0 q s w F) (hd : Gd n s) (hn : n ≤ 100000000) (id x : Int) (hid : -9223372036854775808 ≤ id ∧ id ≤ 9223372036854775807) : Calls Tryz.prog 23 #[ptr q, .int .i64 id, .int .i64 x] w (ScG w0 q (write s id x).1 F w (write s id x).2.1 (fun v => .tuple #[v, .int .i64 (write s id x).2.2])) := by
  obtain ⟨L, rfl, hb⟩ := h.has
  refine (write_calls n hb hd hn id x hid).mono ?_
  rintro e w1 ⟨A, cp, he, F1, h1, t1, ha⟩
  exact ⟨A, cp, he, F1, h.go rfl h1 t1, t1, ha⟩
theorem Sc.drain (h : Sc w0 q s w F) (x : Int) : Calls Tryz.prog 37 #[ptr q, .int .i64 x] w (ScG w0 q (drain s x).1 F w (drain s x).2 (fun v => v)) := by
  obtain ⟨L, rfl, hb⟩ := h.has
  refine (drain_calls hb x).mono ?_
  rintro e w1 ⟨A, cp, he, F1, h1, t1, ha⟩
  exact ⟨A, cp, he, F1, h.go rfl h1 t1, t1, ha⟩
theorem Sc.output0 (h : Sc w0 q s w F) (hd : Gd n s) (hn : n ≤ 10000000) (A : Option Addr) (cp : Nat) (b : List UInt8) (hr : Rd w A b.length b) (hA : ∀ ad, A = some ad → 0 < b.length → ¬ F ad.block) (hbl : b.length ≤ 10000000) : Calls Tryz.prog 34 #[ptr q, .slice A b.length cp] w (ScP w0 q (output s b).1 F w (.int .i64 (output s b).2)) := by
  obtain ⟨L, rfl, hb⟩ := h.has
  refine (output_calls n hb hd hn A cp b hr hA hbl).mono ?_
  rintro e w1 ⟨he, F1, h1, t1⟩
  exact ⟨he, F1, h.go rfl h1 t1, t1⟩
theorem Sc.output (h : Sc w0 q s w F) (hd : Gd n s) (hn : n ≤ 10000000) (A : Option Addr) (cp : Nat) (b : List UInt8) (hr : Rd w A b.length b) (hA : ∀ ad, A = some ad → ¬ F ad.block) (hbl : b.length ≤ 10000000) : Calls Tryz.prog 34 #[ptr q, .slice A b.length cp] w (ScP w0 q (output s b).1 F w (.int .i64 (output s b).2)) := Sc.output0 h hd hn A cp b hr (fun ad e _ => hA ad e) hbl
theorem Sc.tick (h : Sc w0 q s w F) (hd : Gd n s) (hn : n ≤ 10000000) : Calls Tryz.prog 32 #[ptr q] w (ScP w0 q (tick s) F w (.tuple #[])) := by
  obtain ⟨L, rfl, hb⟩ := h.has
  refine (tick_calls n hb hd hn).mono ?_
  rintro e w1 ⟨he, F1, h1, t1⟩
  exact ⟨he, F1, h.go rfl h1 t1, t1⟩
theorem Sc.cut (h : Sc w0 q s w F) (hd : Gd n s) (hn : n ≤ 100000000) (id : Int) (hid : -9223372036854775808 ≤ id ∧ id ≤ 9223372036854775807) : Calls Tryz.prog 31 #[ptr q, .int .i64 id] w (ScP w0 q (cut s id).1 F w (.int .i64 (cut s id).2)) := by
  obtain ⟨L, rfl, hb⟩ := h.has
  refine (cut_calls n hb hd hn id hid).mono ?_
  rintro e w1 ⟨he, F1, h1, t1⟩
  exact ⟨he, F1, h.go rfl h1 t1, t1⟩
theorem Sc.end_ (h : Sc w0 q s w F) (hd : Gd n s) (hn : n ≤ 100000000) (code : Int) : Calls Tryz.prog 36 #[ptr q, .int .i64 code] w (ScP w0 q (end_ s code).1 F w (.int .i64 (end_ s code).2)) := by
  obtain ⟨L, rfl, hb⟩ := h.has
  refine (end_calls n hb hd hn code).mono ?_
  rintro e w1 ⟨he, F1, h1, t1⟩
  exact ⟨he, F1, h.go rfl h1 t1, t1⟩
theorem Sc.holder (h : Sc w0 q s w F) : Calls Tryz.prog 27 #[ptr q] w fun e w' => e = .returned (.int .i64 s.tab.holder) ∧ w = w' := by
  obtain ⟨L, rfl, hb⟩ := h.has
  exact holder_calls hb
theorem Sc.role (h : Sc w0 q s w F) (x : Int) (hx : -9223372036854775808 ≤ x ∧ x ≤ 9223372036854775807) : Calls Tryz.prog 26 #[ptr q, .int .i64 x] w fun e w' => e = .returned (.tuple #[.int .i64 ((Fl.rget s.tab.roles x).getD 0), .bool (Fl.rget s.tab.roles x).isSome]) ∧ w = w' := by
  obtain ⟨L, rfl, hb⟩ := h.has
  exact role_of_calls hb x hx
theorem Sc.waiting (h : Sc w0 q s w F) (x : Int) (hx : -9223372036854775808 ≤ x ∧ x ≤ 9223372036854775807) : Calls Tryz.prog 41 #[ptr q, .int .i64 x] w fun e w' => e = .returned (.int .i64 (waitN s x : Int)) ∧ w = w' := by
  obtain ⟨L, rfl, hb⟩ := h.has
  exact waiting_calls hb x hx
theorem Sc.seen (h : Sc w0 q s w F) (ho : Ok s) (x : Int) (hx : -9223372036854775808 ≤ x ∧ x ≤ 9223372036854775807) : Calls Tryz.prog 40 #[ptr q, .int .i64 x] w fun e w' => e = .returned (.tuple #[.int .i64 (((seenO s x).getD 0 : Nat) : Int), .bool (seenO s x).isSome]) ∧ w = w' := by
  obtain ⟨L, rfl, hb⟩ := h.has
  exact seen_calls hb ho x hx
theorem Sc.conns (h : Sc w0 q s w F) (ho : Ok s) : Calls Tryz.prog 30 #[ptr q] w (NewI (ids s) w) := by
  obtain ⟨L, rfl, hb⟩ := h.has
  exact conns_calls hb ho
theorem Sc.users (h : Sc w0 q s w F) (ho : Ok s) : Calls Tryz.prog 28 #[ptr q] w (NewI (Fl.keys s.tab) w) := by
  obtain ⟨L, rfl, hb⟩ := h.has
  exact users_calls hb ho
end
def ScN (w0 : World) (s : Br) (w : World) (e : Ending) (w' : World) : Prop := ∃ q F, e = .returned (.pointer (some ⟨q, 0, none⟩)) ∧ Sc w0 q s w' F ∧ (∀ k, F k → w.heap.size ≤ k) ∧ Upd (fun _ => False) w w'
theorem scnew_calls {w0 w : World} (h : Upd (fun _ => False) w0 w) (henv : Or.Env w) (c : Cf) (hc : rightC c = true) : Calls Tryz.prog 16 #[.agg (cfV c)] w (ScN w0 (new c) w) := by
  refine (new_calls c hc w henv).mono ?_
  rintro e w1 ⟨L, F, he, hb, hl, hu⟩
  exact ⟨L.q, F, he, ⟨⟨L, rfl, hb⟩, fun k hk => Nat.le_trans h.size (hl k hk), h.trans hu (fun _ _ h => h)⟩, hl, hu⟩
end Go.Proofs.YteepkanbiefpjaaGreatDoor.Bk
set_option linter.unusedVariables false
set_option linter.unusedSimpArgs false
namespace Go.Proofs.YteepkanbiefpjaaGreatDoor.Bk
open Go.RowKit K
open MgRow (M mC Ms)
def hd1 : Br := (connect (new dflt) 1).1
def hd2 : Br := (bytes hd1 1 (helloB [97])).1
def hd3 : Br := (bytes hd2 1 (typedB 1 cFloor)).1
def hdM : List M := [⟨5, 1, 0, [111, 119, 110, 101, 114]⟩, ⟨9, 0, 0, []⟩, ⟨9, 1, 0, []⟩]
theorem helloB_len (t : List UInt8) : (helloB t).length ≤ 2053 := mb_len _
theorem typedB_len (q : Int) (t : List UInt8) : (typedB q t).length ≤ 2053 := mb_len _
theorem write_len (s : Br) (id x : Int) {n : Nat} (h : Gd n s) (hq : ∀ c, get s id = some c → c.out.length ≤ 65536) : (write s id x).2.1.length ≤ 65536 := by
  unfold write
  cases hg : get s id with
  | none => simp
  | some c =>
    simp only [List.length_take]
    have := hq c hg
    omega
theorem Sc.few {w0 w : World} {q n : Nat} {s : Br} {F : Nat → Prop} (h : Sc w0 q s w F) (hd : Gd n s) : ∀ id c, get s id = some c → c.out.length ≤ 65536 := fun id c hg => by
  obtain ⟨L, hq, hb⟩ := h.has
  obtain ⟨Fo, hq, _, _⟩ := hb.out hg
  have := hq.fit
  have hcf := hd.cf
  unfold rightC at hcf
  simp only [decide_eq_true_eq] at hcf
  omega
theorem hd_c1 : (connect (new dflt) 1).2 = 0 := by decide +kernel
theorem hd_c2 : (bytes hd1 1 (helloB [97])).2 = 0 := by decide +kernel
theorem hd_c4 : (write hd3 1 1000).2.2 = 0 := by decide +kernel
deriving instance DecidableEq for M
theorem hd_m : msgs (write hd3 1 1000).2.1 = (hdM, true) := by decide +kernel
theorem hd_h : (write hd3 1 1000).1.tab.holder = 1 := by decide +kernel
set_option maxHeartbeats 8000000 in
set_option maxRecDepth 100000 in
theorem head_calls (w : World) (henv : Or.Env w) : Calls Tryz.prog 15 #[] w fun e w' => e = .returned (.bool true) ∧ Upd (fun _ => False) w w' := by
  have HENV := Asd.mk henv
  obtain ⟨s0, hs0⟩ : ∃ s, s = new dflt := ⟨_, rfl⟩
  obtain ⟨s1, hs1⟩ : ∃ s, s = hd1 := ⟨_, rfl⟩
  obtain ⟨s2, hs2⟩ : ∃ s, s = hd2 := ⟨_, rfl⟩
  obtain ⟨s3, hs3⟩ : ∃ s, s = hd3 := ⟨_, rfl⟩
  have e1 : (connect s0 1).1 = s1 ∧ (connect s0 1).2 = 0 := by rw [hs0, hs1]; exact ⟨rfl, hd_c1⟩
  have e2 : (bytes s1 1 (helloB [97])).1 = s2 ∧ (bytes s1 1 (helloB [97])).2 = 0 := by rw [hs1, hs2]; exact ⟨rfl, hd_c2⟩
  have e3 : (bytes s2 1 (typedB 1 cFloor)).1 = s3 := by rw [hs2, hs3]; rfl
  have e4 : (write s3 1 1000).2.2 = 0 ∧ msgs (write s3 1 1000).2.1 = (hdM, true) ∧ (write s3 1 1000).1.tab.holder = 1 := by rw [hs3]; exact ⟨hd_c4, hd_m, hd_h⟩
  have g0 : Gd 0 s0 := by rw [hs0]; exact Gd.new dflt dflt_ok
  have g1 : Gd 0 s1 := by rw [← e1.1]; exact g0.connect 1
  have g2 : Gd 10000 s2 := by rw [← e2.1]; exact (g1.bytes 1 _).mono (by have := helloB_len [97]; omega)
  have g3 : Gd 20000 s3 := by rw [← e3]; exact (g2.bytes 1 _).mono (by have := typedB_len 1 cFloor; omega)
  have E0 := Asd.mk hs0
  have E1 := Asd.mk e1
  have E2 := Asd.mk e2
  have E3 := Asd.mk e3
  have E4 := Asd.mk e4
  have G0 := Asd.mk g0
  have G1 := Asd.mk g1
  have G2 := Asd.mk g2
  have G3 := Asd.mk g3
  have HT := Asd.mk (fun w => helloN_calls [97] w)
  have HY := Asd.mk (fun w => typedN_calls 1 cFloor w)
  clear henv hs0 hs1 hs2 hs3 e1 e2 e3 e4 g0 g1 g2 g3
  go_enter Tryz.func15, Tryz.ntmps15
  go_wp2_with fail
  refine (default_calls w).mono ?_
  rintro e w1 ⟨rfl, hu1⟩
  go_wp2_with fail
  refine (scnew_calls hu1 (env_upd HENV.out hu1 (fun _ h => h.elim)) dflt dflt_ok).mono ?_
  rw [← E0.out]
  rintro e w2 ⟨q, F2, rfl, h2, hl2, hu2⟩
  have H2 := Asd.mk h2
  clear hu1 h2 hl2 hu2
  go_wp2_with fail
  refine (H2.out.connect G0.out 1 (by omega)).mono ?_
  rw [E1.out.1, E1.out.2]
  rintro e w3 ⟨rfl, F3, h3, t3⟩
  have H3 := Asd.mk h3
  clear h3 t3
  go_wp2_with fail
  refine (HT.out w3).mono ?_
  rintro e w4 ⟨A4, c4, G4, rfl, ho4, hg4, hl4, hm4, hu4⟩
  have H4 := Asd.mk (H3.out.upd hu4)
  have P4 := Asd.mk (H3.out.fresh ho4 hg4)
  clear ho4 hg4 hl4 hm4 hu4
  go_wp2_with fail
  refine (H4.out.bytes G1.out (by omega) 1 (by omega) A4 c4 (helloB [97]) P4.out.rd P4.out.ad (by have := helloB_len [97]; omega)).mono ?_
  rw [E2.out.1, E2.out.2]
  rintro e w5 ⟨rfl, F5, h5, t5⟩
  have H5 := Asd.mk h5
  clear h5 t5
  go_wp2_with fail
  refine (HY.out w5).mono ?_
  rintro e w6 ⟨A6, c6, G6, rfl, ho6, hg6, hl6, hm6, hu6⟩
  have H6 := Asd.mk (H5.out.upd hu6)
  have P6 := Asd.mk (H5.out.fresh ho6 hg6)
  clear ho6 hg6 hl6 hm6 hu6
  go_wp2_with fail
  refine (H6.out.bytes G2.out (by omega) 1 (by omega) A6 c6 (typedB 1 cFloor) P6.out.rd P6.out.ad (by have := typedB_len 1 cFloor; omega)).mono ?_
  rw [E3.out]
  rintro e w7 ⟨rfl, F7, h7, t7⟩
  have H7 := Asd.mk h7
  clear h7 t7
  have HFW := Asd.mk (H7.out.few G3.out)
  go_wp2_with fail
  refine (H7.out.write G3.out (by omega) 1 1000 (by omega)).mono ?_
  rw [E4.out.1]
  rintro e w8 ⟨A8, c8, rfl, F8, h8, t8, p8⟩
  have H8 := Asd.mk h8
  have P8 := Asd.mk p8
  have HWL := Asd.mk (write_len s3 1 1000 G3.out (fun c hg => HFW.out 1 c hg))
  obtain ⟨wb, hwb⟩ : ∃ wb, wb = (write s3 1 1000).2.1 := ⟨_, rfl⟩
  obtain ⟨s8, hs8⟩ : ∃ s8, s8 = (write s3 1 1000).1 := ⟨_, rfl⟩
  rw [← hwb] at P8 HWL ⊢
  rw [← hs8] at H8
  have HM8 : Asd (msgs wb = (hdM, true)) := ⟨by rw [hwb]; exact E4.out.2.1⟩
  have HH8 : Asd (s8.tab.holder = 1) := ⟨by rw [hs8]; exact E4.out.2.2⟩
  clear h8 t8 p8 hwb hs8
  go_wp2_with fail
  refine (messages_calls A8 wb.length c8 wb w8 P8.out.rd P8.out.le.1 (by have := HWL.out; omega)).mono ?_
  rw [HM8.out]
  rintro e w9 ⟨A9, c9, G9, rfl, ho9, hg9, hu9, hl9⟩
  have H9 := Asd.mk (H8.out.upd hu9)
  have hms : Ms w9 A9 3 hdM := ho9.ms (by show (3 : Nat) ≤ _; omega)
  have U9 := Asd.mk hu9
  clear ho9 hg9 hu9 hl9
  obtain ⟨ad, rfl, hc0⟩ := hms.at_ 0 (by omega)
  obtain ⟨ad1, e1, hc1⟩ := hms.at_ 1 (by omega)
  obtain rfl := Option.some.inj e1
  obtain ⟨ad2, e2, hc2⟩ := hms.at_ 2 (by omega)
  obtain rfl := Option.some.inj e2
  clear e1 e2
  have a0 : w9.cell? (ad.add 0) = some (.int .i64 5) := hc0 0 _ rfl
  have a1 : w9.cell? (ad.add 1) = some (.int .i64 1) := hc0 1 _ rfl
  have a2 : w9.cell? (ad.add 2) = some (.int .i64 0) := hc0 2 _ rfl
  have a3 : w9.cell? (ad.add 3) = some (.string (S [111, 119, 110, 101, 114])) := hc0 3 _ rfl
  have b0 : w9.cell? (ad.add 4) = some (.int .i64 9) := hc1 0 _ rfl
  have b1 : w9.cell? (ad.add 5) = some (.int .i64 0) := hc1 1 _ rfl
  have b2 : w9.cell? (ad.add 6) = some (.int .i64 0) := hc1 2 _ rfl
  have b3 : w9.cell? (ad.add 7) = some (.string (S [])) := hc1 3 _ rfl
  have c0 : w9.cell? (ad.add 8) = some (.int .i64 9) := hc2 0 _ rfl
  have c1 : w9.cell? (ad.add 9) = some (.int .i64 1) := hc2 1 _ rfl
  have c2 : w9.cell? (ad.add 10) = some (.int .i64 0) := hc2 2 _ rfl
  have c3 : w9.cell? (ad.add 11) = some (.string (S [])) := hc2 3 _ rfl
  clear hc0 hc1 hc2 hms
  simp only [Addr.add, if_pos, if_neg, Nat.reduceEqDiff, if_false, if_true] at a0 a1 a2 a3 b0 b1 b2 b3 c0 c1 c2 c3
  have hl3 : ((hdM.length : Int) != 3) = false := rfl
  go_wp2_with fail
  refine H9.out.holder.mono ?_
  rw [HH8.out]
  rintro e w10 ⟨rfl, rfl⟩
  go_wp2
  go_ret
  exact ⟨rfl, H9.out.up⟩
end Go.Proofs.YteepkanbiefpjaaGreatDoor.Bk
set_option linter.unusedVariables false
set_option linter.unusedSimpArgs false
namespace Go.Proofs.YteepkanbiefpjaaGreatDoor.K
open Go.RowKit Go.ChangeShapes Go.WideShapes
variable {H : Type} {enc : TypeId × Value → H}
theorem change_and_shaped {a : Assume} {C : Checked} {os : Os} {f : FuncId} {fn : Func} {s : ChangeSpec} {conds : List PathCond} {apart fresh handsOn again : Bool} {X : World → Array Value → Prop}
    (hX : ∀ (w w' : World) (args : Array Value), w.heap = w'.heap → X w args → X w' args)
    (own : ownKnob C.prog.godebug = none) (started : os.Started) (noInit : C.prog.inits.idxOf? f = none) (hfn : C.prog.funcs[f]? = some fn)
    (witness : ∃ (w : World) (tape : Tape) (i : Input), w.os = os ∧ (w.forCall tape i).Shaped C.prog ∧ i.vars = [] ∧ Input.okWide C.prog (w.forCall tape i) .any w.heap.size f i ∧
      ((s.pre enc C.prog fn conds apart (w.forCall tape i).memory i.args ∧ X (w.forCall tape i).memory i.args) ∧ sizedMet enc C.prog fn (OpenSpec.ofChange s) apart (w.forCall tape i).memory i.args) ∧ a.holds C.prog (lone (Frame.enter C.prog f i.args .normal) [] (w.forCall tape i)))
    (contract : ∀ (W : World) (base : Nat) (args : Array Value) (ds gs : List (DataW H)) (before : List MemPlace),
      (∀ (j : Nat) t v, fn.params[j]? = some t → args[j]? = some v → Value.okWide C.prog W .any base t v) →
      DataW.Whole enc C.prog fn.params.toList s.vars apart W args.toList ds gs before →
      (DataW.weightsEach C.prog (fn.params.toList ++ s.plain.varTypes C.prog) (ds ++ gs)).all (· ≤ reachBytes) = true → X W args → W.ShapedOpen C.prog →
      Calls C.prog f args W fun e W' => ∃ v, e = .returned v ∧ s.post enc C.prog fn apart fresh handsOn again W args v W') :
    ReturnsInHanded a C os f .any (fun w args => (s.pre enc C.prog fn conds apart w args ∧ X w args) ∧ sizedMet enc C.prog fn (OpenSpec.ofChange s) apart w args) (s.post enc C.prog fn apart fresh handsOn again) := by
  refine returnsInHanded_of_calls own started noInit witness ?_
  intro w tape i _ hsh _ hok hpre _
  obtain ⟨_, _, _, fn', hfn', _, _, _, _, hval⟩ := hok
  have e : fn' = fn := Option.some.inj (hfn'.symm.trans hfn)
  subst e
  obtain ⟨⟨⟨ds, gs, before, hw, _⟩, hx⟩, hz⟩ := hpre
  refine (contract (w.forCall tape i) w.heap.size i.args ds gs before hval (DataW.Whole.of_heap (w' := w.forCall tape i) (by rfl) hw) (hz.weights hw) (hX _ _ _ (by rfl) hx) hsh).mono fun e W' ⟨v, he, hp⟩ => ?_
  subst he
  exact ChangeSpec.post_blind hp
end Go.Proofs.YteepkanbiefpjaaGreatDoor.K
set_option linter.unusedVariables false
set_option linter.unusedSimpArgs false
namespace Go.Proofs.YteepkanbiefpjaaGreatDoor.Or
open Go.RowKit K
theorem star : ("*errors.errorString" : String) = "*" ++ "errors.errorString" := by decide
theorem rowE (u : TypeId) (h : Tryz.prog.typeName? 3 u = some "*errors.errorString") : u = 260 :=
  typeName_ptr_named (nm := "errors.errorString") (by rw [← star]; kernel_rfl) (by kernel_rfl) (by decide) u (by rw [← star]; exact h)
theorem env_of {W : World} (hL0 : laidMetH Tryz.prog Rows.brokerDeniedRow.laid W) (hsh : W.ShapedOpen Tryz.prog) : Env W := by
  rw [MakeChecks.laidMetH_plain _ _ _ (by kernel_rfl)] at hL0
  have h3 : laidMet Tryz.prog (("internal/strconv.uint64pow10", Lib.tabData .u64 Lib.pow10Tab) :: [("strconv.ErrRange", Rows.laid_strconv_ErrRange), ("strconv.ErrSyntax", Rows.laid_strconv_ErrSyntax)]) W := laidMet.tail (laidMet.tail hL0)
  refine ⟨?_, ?_, ?_, ?_⟩
  · exact Lib.tabIs_of_head (g := 0) (t := 212) (e := 185) (n := 20) (by kernel_rfl) (by kernel_rfl) Tryz.underlying212 Tryz.underlying185 (by kernel_rfl) (by kernel_rfl) h3
  · exact Go.Proofs.cell_of_shapedOpen_int (g := 3) (zero := #[.int .i64 0]) (t := 3) hsh (of_decide_eq_true (by kernel_rfl)) (by kernel_rfl) rfl (by kernel_rfl) (by kernel_rfl) Tryz.underlying3
  · obtain ⟨a0, s0, hv0, _⟩ := laid_sentinel (laidMet.tail (laidMet.tail h3)) (g := 4) (ti := 203) (by kernel_rfl) (by kernel_rfl) Tryz.underlying203 rowE Tryz.underlying260 Tryz.underlying262 rfl rfl Tryz.underlying9 (by kernel_rfl) (by kernel_rfl)
    exact ⟨_, _, hv0⟩
  · obtain ⟨a0, s0, hv0, _⟩ := laid_sentinel (laidMet.tail h3) (g := 5) (ti := 203) (by kernel_rfl) (by kernel_rfl) Tryz.underlying203 rowE Tryz.underlying260 Tryz.underlying262 rfl rfl Tryz.underlying9 (by kernel_rfl) (by kernel_rfl)
    exact ⟨_, _, hv0⟩
end Go.Proofs.YteepkanbiefpjaaGreatDoor.Or
set_option linter.unusedVariables false
set_option linter.unusedSimpArgs false
namespace Go.Proofs.YteepkanbiefpjaaGreatDoor.Bk
open Go.RowKit K
open MgRow (M mC Ms)
abbrev Ev := Int × Int × Int × List UInt8
def k7 (x : Int) : Nat := (Go.bits .and .i64 x 7).toNat
theorem k7_le (x : Int) : k7 x ≤ 7 ∧ Go.bits .and .i64 x 7 = (k7 x : Int) := by
  obtain ⟨k, h1, h2⟩ := and_le x 7 (by omega)
  have h3 : Go.bits .and .i64 x 7 = (k : Int) := h2
  unfold k7
  rw [h3]
  exact ⟨by simpa using h1, by simp⟩
def doE (s : Br) (e : Ev) : Br × List UInt8 × Int :=
  if k7 e.1 = 0 then ((connect s e.2.1).1, [], (connect s e.2.1).2)
  else if k7 e.1 = 1 then ((bytes s e.2.1 e.2.2.2).1, [], (bytes s e.2.1 e.2.2.2).2)
  else if k7 e.1 = 2 then ((write s e.2.1 e.2.2.1).1, (write s e.2.1 e.2.2.1).2.1, (write s e.2.1 e.2.2.1).2.2)
  else if k7 e.1 = 3 then ((output s e.2.2.2).1, [], (output s e.2.2.2).2)
  else if k7 e.1 = 4 then ((drain s e.2.2.1).1, (drain s e.2.2.1).2, 0)
  else if k7 e.1 = 5 then (tick s, [], 0)
  else if k7 e.1 = 6 then ((cut s e.2.1).1, [], (cut s e.2.1).2)
  else ((end_ s e.2.2.1).1, [], (end_ s e.2.2.1).2)
theorem Gd.doE {n : Nat} {s : Br} (h : Gd n s) (e : Ev) : Gd (n + 3000 + e.2.2.2.length) (doE s e).1 := by
  unfold Bk.doE
  split
  · exact (h.connect _).mono (by omega)
  · split
    · exact h.bytes _ _
    · split
      · exact (h.write _ _).mono (by omega)
      · split
        · exact (h.output _).mono (by omega)
        · split
          · exact (h.drain _).mono (by omega)
          · split
            · exact h.tick.mono (by omega)
            · split
              · exact (h.cut _).mono (by omega)
              · exact (h.end_ _).mono (by omega)
def i64ok (x : Int) : Prop := -9223372036854775808 ≤ x ∧ x ≤ 9223372036854775807
def ScD (w0 : World) (q : Nat) (s : Br) (F : Nat → Prop) (w : World) (r : Br × List UInt8 × Int) (e : Ending) (w' : World) : Prop := e = .returned (.tuple #[.string (S r.2.1), .int .i64 r.2.2]) ∧ ∃ F', Sc w0 q r.1 w' F' ∧ Tn w F w' F'
section
variable {w0 w w' : World} {q n : Nat} {s : Br} {F F' : Nat → Prop} {id : Int} {c : Cn}
set_option maxHeartbeats 8000000 in
set_option maxRecDepth 100000 in
theorem sc_doE (h : Sc w0 q s w F) (hd : Gd n s) (hn : n ≤ 10000000) (e : Ev) (A : Option Addr) (cp : Nat) (hr : Rd w A e.2.2.2.length e.2.2.2) (hA : ∀ ad, A = some ad → 0 < e.2.2.2.length → ¬ F ad.block) (hbl : e.2.2.2.length ≤ 10000000) (hi : i64ok e.2.1) : Calls Tryz.prog 39 #[ptr q, .agg #[.int .i64 e.1, .int .i64 e.2.1, .int .i64 e.2.2.1, .slice A e.2.2.2.length cp]] w (ScD w0 q s F w (doE s e)) := by
  obtain ⟨k, id, x, b⟩ := e
  obtain ⟨r, hrr⟩ : ∃ r, r = Bk.doE s (k, id, x, b) := ⟨_, rfl⟩
  rw [← hrr]
  simp only at hr hA hbl hi ⊢
  obtain ⟨hk7, hand⟩ := k7_le k
  obtain ⟨kk, hkk⟩ : ∃ kk, kk = k7 k := ⟨_, rfl⟩
  rw [← hkk] at hk7 hand
  have HRR : Asd (r = if kk = 0 then ((connect s id).1, [], (connect s id).2) else if kk = 1 then ((bytes s id b).1, [], (bytes s id b).2) else if kk = 2 then ((write s id x).1, (write s id x).2.1, (write s id x).2.2) else if kk = 3 then ((output s b).1, [], (output s b).2) else if kk = 4 then ((drain s x).1, (drain s x).2, 0) else if kk = 5 then (tick s, [], 0) else if kk = 6 then ((cut s id).1, [], (cut s id).2) else ((end_ s x).1, [], (end_ s x).2)) := ⟨by rw [hrr, hkk]; rfl⟩
  have hk1 := (Upd.refl (fun _ => False) w).alloc (.cells #[.int .i64 k, .int .i64 id, .int .i64 x, .slice A b.length cp] 73)
  have H1 := Asd.mk (h.upd hk1)
  have T1 := Asd.mk (Tn.grow F hk1)
  have HR := Asd.mk (hr.up hk1)
  have HA := Asd.mk hA
  have HD := Asd.mk hd
  have HI := Asd.mk hi
  have HFL := Asd.mk h.lt
  clear h hd hr hA hrr hkk hk1 hi
  have hc : kk = 0 ∨ kk = 1 ∨ kk = 2 ∨ kk = 3 ∨ kk = 4 ∨ kk = 5 ∨ kk = 6 ∨ kk = 7 := by omega
  have EN : Asd (S ([] : List UInt8) = { data := #[] }) := ⟨rfl⟩
  clear hk7
  rcases hc with rfl | rfl | rfl | rfl | rfl | rfl | rfl | rfl
  · have HE : Asd (r = ((connect s id).1, [], (connect s id).2)) := ⟨HRR.out⟩
    clear HRR
    go_enter Tryz.func39, Tryz.ntmps39
    go_wp2_with fail
    refine (H1.out.connect HD.out id HI.out).mono ?_
    rintro e w2 ⟨rfl, F2, h2, t2⟩
    have H2 := Asd.mk h2
    have T2 := Asd.mk (T1.out.trans t2)
    clear h2 t2
    go_wp2
    go_ret2
    refine ⟨by rw [HE.out]; rfl, F2, by rw [HE.out]; exact H2.out, T2.out⟩
  · have HE : Asd (r = ((bytes s id b).1, [], (bytes s id b).2)) := ⟨HRR.out⟩
    clear HRR
    go_enter Tryz.func39, Tryz.ntmps39
    go_wp2_with fail
    refine (H1.out.bytes0 HD.out hn id HI.out A cp b HR.out HA.out hbl).mono ?_
    rintro e w2 ⟨rfl, F2, h2, t2⟩
    have H2 := Asd.mk h2
    have T2 := Asd.mk (T1.out.trans t2)
    clear h2 t2
    go_wp2
    go_ret2
    refine ⟨by rw [HE.out]; rfl, F2, by rw [HE.out]; exact H2.out, T2.out⟩
  · have HE : Asd (r = ((write s id x).1, (write s id x).2.1, (write s id x).2.2)) := ⟨HRR.out⟩
    clear HRR
    go_enter Tryz.func39, Tryz.ntmps39
    go_wp2_with fail
    refine (H1.out.write HD.out (by omega) id x HI.out).mono ?_
    rintro e w2 ⟨A2, c2, rfl, F2, h2, t2, p2⟩
    have hcv : ∀ W, Upd (fun _ => False) w2 W → (convert 31 9 (.slice A2 ((write s id x).2.1).length c2)).run Tryz.prog W = .ok (.string (S ((write s id x).2.1))) W := fun W k => run_str Tryz.underlying31 Tryz.underlying5 Tryz.underlying9 (p2.rd.up k)
    have hs2 : Upd (fun _ => False) w2 w2 := Upd.refl _ _
    clear p2
    have H2 := Asd.mk h2
    have T2 := Asd.mk (T1.out.trans t2)
    clear h2 t2
    go_wp2
    go_ret2
    refine ⟨by rw [HE.out]; rfl, F2, by rw [HE.out]; exact H2.out, T2.out⟩
  · have HE : Asd (r = ((output s b).1, [], (output s b).2)) := ⟨HRR.out⟩
    clear HRR
    go_enter Tryz.func39, Tryz.ntmps39
    go_wp2_with fail
    refine (H1.out.output0 HD.out hn A cp b HR.out HA.out hbl).mono ?_
    rintro e w2 ⟨rfl, F2, h2, t2⟩
    have H2 := Asd.mk h2
    have T2 := Asd.mk (T1.out.trans t2)
    clear h2 t2
    go_wp2
    go_ret2
    refine ⟨by rw [HE.out]; rfl, F2, by rw [HE.out]; exact H2.out, T2.out⟩
  · have HE : Asd (r = ((drain s x).1, (drain s x).2, 0)) := ⟨HRR.out⟩
    clear HRR
    go_enter Tryz.func39, Tryz.ntmps39
    go_wp2_with fail
    refine (H1.out.drain x).mono ?_
    rintro e w2 ⟨A2, c2, rfl, F2, h2, t2, p2⟩
    have hcv : ∀ W, Upd (fun _ => False) w2 W → (convert 31 9 (.slice A2 ((drain s x).2).length c2)).run Tryz.prog W = .ok (.string (S ((drain s x).2))) W := fun W k => run_str Tryz.underlying31 Tryz.underlying5 Tryz.underlying9 (p2.rd.up k)
    have hs2 : Upd (fun _ => False) w2 w2 := Upd.refl _ _
    clear p2
    have H2 := Asd.mk h2
    have T2 := Asd.mk (T1.out.trans t2)
    clear h2 t2
    go_wp2
    go_ret2
    refine ⟨by rw [HE.out]; rfl, F2, by rw [HE.out]; exact H2.out, T2.out⟩
  · have HE : Asd (r = (tick s, [], 0)) := ⟨HRR.out⟩
    clear HRR
    go_enter Tryz.func39, Tryz.ntmps39
    go_wp2_with fail
    refine (H1.out.tick HD.out hn).mono ?_
    rintro e w2 ⟨rfl, F2, h2, t2⟩
    have H2 := Asd.mk h2
    have T2 := Asd.mk (T1.out.trans t2)
    clear h2 t2
    go_wp2
    go_ret2
    refine ⟨by rw [HE.out]; rfl, F2, by rw [HE.out]; exact H2.out, T2.out⟩
  · have HE : Asd (r = ((cut s id).1, [], (cut s id).2)) := ⟨HRR.out⟩
    clear HRR
    go_enter Tryz.func39, Tryz.ntmps39
    go_wp2_with fail
    refine (H1.out.cut HD.out (by omega) id HI.out).mono ?_
    rintro e w2 ⟨rfl, F2, h2, t2⟩
    have H2 := Asd.mk h2
    have T2 := Asd.mk (T1.out.trans t2)
    clear h2 t2
    go_wp2
    go_ret2
    refine ⟨by rw [HE.out]; rfl, F2, by rw [HE.out]; exact H2.out, T2.out⟩
  · have HE : Asd (r = ((end_ s x).1, [], (end_ s x).2)) := ⟨HRR.out⟩
    clear HRR
    go_enter Tryz.func39, Tryz.ntmps39
    go_wp2_with fail
    refine (H1.out.end_ HD.out (by omega) x).mono ?_
    rintro e w2 ⟨rfl, F2, h2, t2⟩
    have H2 := Asd.mk h2
    have T2 := Asd.mk (T1.out.trans t2)
    clear h2 t2
    go_wp2
    go_ret2
    refine ⟨by rw [HE.out]; rfl, F2, by rw [HE.out]; exact H2.out, T2.out⟩
end
end Go.Proofs.YteepkanbiefpjaaGreatDoor.Bk
set_option linter.unusedVariables false
set_option linter.unusedSimpArgs false
namespace Go.Proofs.YteepkanbiefpjaaGreatDoor.Bk
open Go.RowKit K
open MgRow (M mC Ms)
abbrev REv : K.Rdr Ev := K.R4 (K.RInt .i64) (K.RInt .i64) (K.RInt .i64) K.RBytes
abbrev Evs (w : World) (A : Option Addr) (n : Nat) (L : List Ev) : Prop := K.Els REv 4 w A n L
theorem REv.stays : K.Stays REv := K.R4.stays (K.RInt.stays _) (K.RInt.stays _) (K.RInt.stays _) K.RBytes.stays
theorem ev_at {w : World} {A : Option Addr} {n : Nat} {L : List Ev} (h : Evs w A n L) {i : Nat} (hi : i < n) {e : Ev} (he : L[i]? = some e) : ∃ ad Ad cd, A = some ad ∧ w.cell? (ad.add (i * 4)) = some (.int .i64 e.1) ∧ w.cell? ⟨(ad.add (i * 4)).block, (ad.add (i * 4)).off + 1, none⟩ = some (.int .i64 e.2.1) ∧ w.cell? ⟨(ad.add (i * 4)).block, (ad.add (i * 4)).off + 2, none⟩ = some (.int .i64 e.2.2.1) ∧ w.cell? ⟨(ad.add (i * 4)).block, (ad.add (i * 4)).off + 3, none⟩ = some (.slice Ad e.2.2.2.length cd) ∧ Rd w Ad e.2.2.2.length e.2.2.2 ∧ e.2.2.2.length ≤ K.reach ∧ i64ok e.2.1 := by
  obtain ⟨ad, cs, ea, hl, hr, hc⟩ := K.Els.at_ h i hi
  have he2 : L[i]'(by rw [h.len]; exact hi) = e := by
    rw [List.getElem?_eq_getElem (by rw [h.len]; exact hi)] at he
    exact Option.some.inj he
  rw [he2] at hr
  obtain ⟨c0, c1, c2, c3, rfl, ⟨h0, _⟩, ⟨h1, w1⟩, ⟨h2, _⟩, Ad, cd, h3, hrd, _, _, hre⟩ := hr
  simp only [List.cons.injEq, and_true] at h0 h1 h2 h3
  subst h0; subst h1; subst h2; subst h3
  have hx : ∀ j, ad.add (i * 4 + (j + 1)) = ⟨(ad.add (i * 4)).block, (ad.add (i * 4)).off + (j + 1), none⟩ := fun j => by
    rw [← add_add]
    simp [Addr.add]
  refine ⟨ad, Ad, cd, ea, hc 0 _ rfl, by rw [← hx 0]; exact hc 1 _ rfl, by rw [← hx 1]; exact hc 2 _ rfl, by rw [← hx 2]; exact hc 3 _ rfl, hrd, hre, ?_⟩
  have := w1
  unfold i64ok
  simp [Lit.wf, IntKind.min, IntKind.max, IntKind.signed, IntKind.bits] at this
  omega
def total (L : List Ev) : Nat := (L.map fun e => e.2.2.2.length).sum
def few (L : List Ev) : Bool := decide (L.length ≤ 120) && decide (total L ≤ 6000)
theorem total_take (L : List Ev) (i : Nat) (e : Ev) (h : L[i]? = some e) : total (L.take (i + 1)) = total (L.take i) + e.2.2.2.length := by
  rw [List.take_add_one, h]
  simp [total]
set_option maxHeartbeats 4000000 in
theorem few_calls {w : World} {A : Option Addr} {n c : Nat} {L : List Ev} (h : Evs w A n L) : Calls Tryz.prog 38 #[.slice A n c] w fun e w' => e = .returned (.bool (few L)) ∧ Upd (fun _ => False) w w' := by
  have HE := Asd.mk h
  have HLN := Asd.mk h.len
  have HLM := Asd.mk h.lim
  by_cases hn : n ≤ 120
  · have hb1 : decide ((n : Int) ≤ 120) = true := decide_eq_true (by omega)
    clear h
    go_enter Tryz.func38, Tryz.ntmps38
    go_wp2
    go_loopw [3, 8] (fun v3 v8 wr => ∃ (i x : Nat), v3 = .int .i64 (x : Int) ∧ v8 = .int .i64 (i : Int) ∧ i ≤ n ∧ x ≤ i * 281474976710656 ∧ Asd (x = total (L.take i)) ∧ Asd (Upd (fun _ => False) w wr)) (fun _ v8 _ => n - (intOf v8).toNat)
    case atStart => exact ⟨0, 0, rfl, rfl, Nat.zero_le _, Nat.zero_le _, ⟨rfl⟩, ⟨Upd.refl _ _⟩⟩
    case round =>
      obtain ⟨i, x, rfl, rfl, hi, hx, HX, HU⟩ := hrel
      by_cases hlt : i < n
      · obtain ⟨e, he⟩ : ∃ e, L[i]? = some e := ⟨_, List.getElem?_eq_getElem (by rw [HLN.out]; exact hlt)⟩
        obtain ⟨ad, Ad, cd, rfl, a0, a1, a2, a3, hrd, hre, _⟩ := ev_at HE.out hlt he
        have b0 : ∀ W, Upd (fun _ => False) wr W → W.cell? (ad.add (i * 4)) = some (.int .i64 e.1) := fun W k => (HU.out.trans k (fun _ _ h => h)).cell a0 (fun h => h)
        have b1 : ∀ W, Upd (fun _ => False) wr W → W.cell? ⟨(ad.add (i * 4)).block, (ad.add (i * 4)).off + 1, none⟩ = some (.int .i64 e.2.1) := fun W k => (HU.out.trans k (fun _ _ h => h)).cell a1 (fun h => h)
        have b2 : ∀ W, Upd (fun _ => False) wr W → W.cell? ⟨(ad.add (i * 4)).block, (ad.add (i * 4)).off + 2, none⟩ = some (.int .i64 e.2.2.1) := fun W k => (HU.out.trans k (fun _ _ h => h)).cell a2 (fun h => h)
        have b3 : ∀ W, Upd (fun _ => False) wr W → W.cell? ⟨(ad.add (i * 4)).block, (ad.add (i * 4)).off + 3, none⟩ = some (.slice Ad e.2.2.2.length cd) := fun W k => (HU.out.trans k (fun _ _ h => h)).cell a3 (fun h => h)
        have hs := Upd.refl (fun _ => False) wr
        have HT := Asd.mk (total_take L i e he)
        have hreach : e.2.2.2.length ≤ 281474976710656 := by have := hre; unfold K.reach at this; omega
        obtain ⟨y, hy⟩ : ∃ y, y = x + e.2.2.2.length := ⟨_, rfl⟩
        have hyi : (x : Int) + (e.2.2.2.length : Int) = (y : Int) := by omega
        have hyb : y ≤ (i + 1) * 281474976710656 := by omega
        have hyw : y < 9223372036854775807 := by omega
        have HY : Asd (y = total (L.take (i + 1))) := ⟨by rw [HT.out, ← HX.out, hy]⟩
        have HU2 := Asd.mk (HU.out.alloc (.cells #[.int .i64 e.1, .int .i64 e.2.1, .int .i64 e.2.2.1, .slice Ad e.2.2.2.length cd] 73))
        clear a0 a1 a2 a3 hrd hre he hy
        go_wp2
        go_roundw
        case rel => exact ⟨i + 1, y, rfl, by go_num, by omega, hyb, HY, HU2⟩
        case measure => simp only [intOf]; omega
      · have hin : i = n := by omega
        have hxt : x = total L := by rw [HX.out, hin, ← HLN.out, List.take_length]
        by_cases hx6 : x ≤ 6000
        · have hb2 : decide ((x : Int) ≤ 6000) = true := decide_eq_true (by omega)
          have HF : Asd (few L = true) := ⟨by unfold few; rw [HLN.out, ← hxt, decide_eq_true hn, decide_eq_true hx6]; rfl⟩
          clear hxt hin
          go_wp2
          go_ret
          exact ⟨by rw [HF.out]; rfl, HU.out⟩
        · have hb2 : decide ((x : Int) ≤ 6000) = false := decide_eq_false (by omega)
          have HF : Asd (few L = false) := ⟨by unfold few; rw [HLN.out, ← hxt, decide_eq_false hx6, Bool.and_false]⟩
          clear hxt hin
          go_wp2
          go_ret
          exact ⟨by rw [HF.out]; rfl, HU.out⟩
  · have hb1 : decide ((n : Int) ≤ 120) = false := decide_eq_false (by omega)
    have HF : Asd (few L = false) := ⟨by unfold few; rw [HLN.out, decide_eq_false hn, Bool.false_and]⟩
    have hnl : n ≤ 9223372036854775807 := h.lim
    clear h
    go_enter Tryz.func38, Tryz.ntmps38
    go_wp2
    go_loopw [3, 8] (fun v3 v8 wr => ∃ (i : Nat) (x : Int), v3 = .int .i64 x ∧ v8 = .int .i64 (i : Int) ∧ i ≤ n ∧ Asd (Upd (fun _ => False) w wr)) (fun _ v8 _ => n - (intOf v8).toNat)
    case atStart => exact ⟨0, 0, rfl, rfl, Nat.zero_le _, ⟨Upd.refl _ _⟩⟩
    case round =>
      obtain ⟨i, x, rfl, rfl, hi, HU⟩ := hrel
      by_cases hlt : i < n
      · obtain ⟨e, he⟩ : ∃ e, L[i]? = some e := ⟨_, List.getElem?_eq_getElem (by rw [HLN.out]; exact hlt)⟩
        obtain ⟨ad, Ad, cd, rfl, a0, a1, a2, a3, hrd, hre, _⟩ := ev_at HE.out hlt he
        have b0 : ∀ W, Upd (fun _ => False) wr W → W.cell? (ad.add (i * 4)) = some (.int .i64 e.1) := fun W k => (HU.out.trans k (fun _ _ h => h)).cell a0 (fun h => h)
        have b1 : ∀ W, Upd (fun _ => False) wr W → W.cell? ⟨(ad.add (i * 4)).block, (ad.add (i * 4)).off + 1, none⟩ = some (.int .i64 e.2.1) := fun W k => (HU.out.trans k (fun _ _ h => h)).cell a1 (fun h => h)
        have b2 : ∀ W, Upd (fun _ => False) wr W → W.cell? ⟨(ad.add (i * 4)).block, (ad.add (i * 4)).off + 2, none⟩ = some (.int .i64 e.2.2.1) := fun W k => (HU.out.trans k (fun _ _ h => h)).cell a2 (fun h => h)
        have b3 : ∀ W, Upd (fun _ => False) wr W → W.cell? ⟨(ad.add (i * 4)).block, (ad.add (i * 4)).off + 3, none⟩ = some (.slice Ad e.2.2.2.length cd) := fun W k => (HU.out.trans k (fun _ _ h => h)).cell a3 (fun h => h)
        have hs := Upd.refl (fun _ => False) wr
        have HU2 := Asd.mk (HU.out.alloc (.cells #[.int .i64 e.1, .int .i64 e.2.1, .int .i64 e.2.2.1, .slice Ad e.2.2.2.length cd] 73))
        clear a0 a1 a2 a3 hrd hre he
        go_wp2
        go_roundw
        case rel => exact ⟨i + 1, _, rfl, by go_num, by omega, HU2⟩
        case measure => simp only [intOf]; omega
      · go_wp2
        go_ret
        exact ⟨by rw [HF.out]; rfl, HU.out⟩
end Go.Proofs.YteepkanbiefpjaaGreatDoor.Bk
set_option linter.unusedVariables false
set_option linter.unusedSimpArgs false
namespace Go.Proofs.YteepkanbiefpjaaGreatDoor.Bk
open Go.RowKit K
open MgRow (M mC Ms)
def l8 (c : Cf) : List Bool := [inb c.log 1 65536, inb c.data 1 2042, inb c.queue 220 65536, inb c.input 1 65536, inb c.strikes 0 9, inb c.lease 1 1000, inb c.idle 0 1000, inb c.width 1 500]
theorem l8_no (c : Cf) (i : Nat) (h : (l8 c)[i]? = some false) : rightC c = false := by
  have hm : false ∈ l8 c := List.mem_of_getElem? h
  rw [rightC_eq]
  simp only [l8, List.mem_cons, List.not_mem_nil, or_false] at hm
  rcases hm with h | h | h | h | h | h | h | h <;> rw [← h] <;> simp
theorem l8_yes (c : Cf) (h : ∀ j, j < 8 → (l8 c)[j]? = some true) : rightC c = true := by
  have h0 := h 0 (by omega); have h1 := h 1 (by omega); have h2 := h 2 (by omega); have h3 := h 3 (by omega)
  have h4 := h 4 (by omega); have h5 := h 5 (by omega); have h6 := h 6 (by omega); have h7 := h 7 (by omega)
  simp [l8] at h0 h1 h2 h3 h4 h5 h6 h7
  rw [rightC_eq, h0, h1, h2, h3, h4, h5, h6, h7]
  rfl
theorem l8_step (c : Cf) (i : Nat) (h : ∀ j, j < i → (l8 c)[j]? = some true) (hi : (l8 c)[i]? = some true) : ∀ j, j < i + 1 → (l8 c)[j]? = some true := by
  intro j hj
  by_cases e : j = i
  · rw [e]; exact hi
  · exact h j (by omega)
theorem inb_lo (n a b : Int) (h : n < a) : inb n a b = false := by
  unfold inb
  rw [decide_eq_false (by omega), Bool.false_and]
theorem inb_hi (n a b : Int) (h : b < n) : inb n a b = false := by
  unfold inb
  rw [decide_eq_false (p := n ≤ b) (by omega), Bool.and_false]
theorem inb_in (n a b : Int) (h : ¬ n < a) (h2 : ¬ b < n) : inb n a b = true := by
  unfold inb
  rw [decide_eq_true (by omega), decide_eq_true (by omega)]
  rfl
set_option maxHeartbeats 16000000 in
set_option maxRecDepth 100000 in
theorem rightL_calls (c : Cf) (w : World) : Calls Tryz.prog 33 #[.agg (cfV c)] w fun e w' => e = .returned (.bool (rightC c)) ∧ Upd (fun _ => False) w w' := by
  have hm := heap_alloc_new w (.cells (cfV c) 26)
  have hk := (Upd.refl (fun _ => False) w).alloc (.cells (cfV c) 26)
  have hs := Upd.refl (fun _ => False) (w.alloc (.cells (cfV c) 26))
  have m0 := keepsC (o := 0) (v := .int .i64 c.log) hm rfl
  have m1 := keepsC (o := 1) (v := .int .i64 c.data) hm rfl
  have m2 := keepsC (o := 2) (v := .int .i64 c.queue) hm rfl
  have m3 := keepsC (o := 3) (v := .int .i64 c.input) hm rfl
  have m4 := keepsC (o := 4) (v := .int .i64 c.strikes) hm rfl
  have m5 := keepsC (o := 5) (v := .int .i64 c.lease) hm rfl
  have m6 := keepsC (o := 6) (v := .int .i64 c.idle) hm rfl
  have m7 := keepsC (o := 7) (v := .int .i64 c.width) hm rfl
  have HK := Asd.mk hk
  unfold cfV at hs hk HK m0 m1 m2 m3 m4 m5 m6 m7 ⊢
  clear hm
  go_enter Tryz.func33, Tryz.ntmps33
  go_wp2_with fail
  obtain ⟨wA, hwA⟩ : ∃ wA, wA = w.alloc (.cells #[.int .i64 c.log, .int .i64 c.data, .int .i64 c.queue, .int .i64 c.input, .int .i64 c.strikes, .int .i64 c.lease, .int .i64 c.idle, .int .i64 c.width] 26) := ⟨_, rfl⟩
  have hz : w.heap.size + 1 = wA.heap.size := by rw [hwA, World.size_alloc]
  have hu1 : Upd (fun _ => False) w wA := by rw [hwA]; exact HK.out
  rw [← hwA, hz]
  have hm := heap_alloc_new wA (.cells #[.int .i64 c.log, .int .i64 1, .int .i64 65536, .int .i64 c.data, .int .i64 1, .int .i64 2042, .int .i64 c.queue, .int .i64 220, .int .i64 65536, .int .i64 c.input, .int .i64 1, .int .i64 65536, .int .i64 c.strikes, .int .i64 0, .int .i64 9, .int .i64 c.lease, .int .i64 1, .int .i64 1000, .int .i64 c.idle, .int .i64 0, .int .i64 1000, .int .i64 c.width, .int .i64 1, .int .i64 500] 123)
  have hu2 := hu1.alloc (.cells #[.int .i64 c.log, .int .i64 1, .int .i64 65536, .int .i64 c.data, .int .i64 1, .int .i64 2042, .int .i64 c.queue, .int .i64 220, .int .i64 65536, .int .i64 c.input, .int .i64 1, .int .i64 65536, .int .i64 c.strikes, .int .i64 0, .int .i64 9, .int .i64 c.lease, .int .i64 1, .int .i64 1000, .int .i64 c.idle, .int .i64 0, .int .i64 1000, .int .i64 c.width, .int .i64 1, .int .i64 500] 123)
  obtain ⟨wB, hwB⟩ : ∃ wB, wB = wA.alloc (.cells #[.int .i64 c.log, .int .i64 1, .int .i64 65536, .int .i64 c.data, .int .i64 1, .int .i64 2042, .int .i64 c.queue, .int .i64 220, .int .i64 65536, .int .i64 c.input, .int .i64 1, .int .i64 65536, .int .i64 c.strikes, .int .i64 0, .int .i64 9, .int .i64 c.lease, .int .i64 1, .int .i64 1000, .int .i64 c.idle, .int .i64 0, .int .i64 1000, .int .i64 c.width, .int .i64 1, .int .i64 500] 123) := ⟨_, rfl⟩
  rw [← hwB] at hm hu2 ⊢
  clear m0 m1 m2 m3 m4 m5 m6 m7 hs hk HK
  have q0 := keepsC (o := 0) (v := .int .i64 c.log) hm rfl
  have q1 := keepsC (o := 1) (v := .int .i64 1) hm rfl
  have q2 := keepsC (o := 2) (v := .int .i64 65536) hm rfl
  have q3 := keepsC (o := 3) (v := .int .i64 c.data) hm rfl
  have q4 := keepsC (o := 4) (v := .int .i64 1) hm rfl
  have q5 := keepsC (o := 5) (v := .int .i64 2042) hm rfl
  have q6 := keepsC (o := 6) (v := .int .i64 c.queue) hm rfl
  have q7 := keepsC (o := 7) (v := .int .i64 220) hm rfl
  have q8 := keepsC (o := 8) (v := .int .i64 65536) hm rfl
  have q9 := keepsC (o := 9) (v := .int .i64 c.input) hm rfl
  have q10 := keepsC (o := 10) (v := .int .i64 1) hm rfl
  have q11 := keepsC (o := 11) (v := .int .i64 65536) hm rfl
  have q12 := keepsC (o := 12) (v := .int .i64 c.strikes) hm rfl
  have q13 := keepsC (o := 13) (v := .int .i64 0) hm rfl
  have q14 := keepsC (o := 14) (v := .int .i64 9) hm rfl
  have q15 := keepsC (o := 15) (v := .int .i64 c.lease) hm rfl
  have q16 := keepsC (o := 16) (v := .int .i64 1) hm rfl
  have q17 := keepsC (o := 17) (v := .int .i64 1000) hm rfl
  have q18 := keepsC (o := 18) (v := .int .i64 c.idle) hm rfl
  have q19 := keepsC (o := 19) (v := .int .i64 0) hm rfl
  have q20 := keepsC (o := 20) (v := .int .i64 1000) hm rfl
  have q21 := keepsC (o := 21) (v := .int .i64 c.width) hm rfl
  have q22 := keepsC (o := 22) (v := .int .i64 1) hm rfl
  have q23 := keepsC (o := 23) (v := .int .i64 500) hm rfl
  obtain ⟨z, hzz⟩ : ∃ z, z = wA.heap.size := ⟨_, rfl⟩
  rw [← hzz] at q0 q1 q2 q3 q4 q5 q6 q7 q8 q9 q10 q11 q12 q13 q14 q15 q16 q17 q18 q19 q20 q21 q22 q23 ⊢
  have HB := Asd.mk hu2
  clear hm hu2 hu1 hwB hwA hz hzz
  go_loopw [33] (fun v33 wr => ∃ (i : Nat), v33 = .int .i64 (i : Int) ∧ i ≤ 8 ∧ Asd (∀ j, j < i → (l8 c)[j]? = some true) ∧ Asd (Upd (fun _ => False) wB wr)) (fun v33 _ => 8 - (intOf v33).toNat)
  case atStart => exact ⟨0, rfl, Nat.zero_le _, ⟨fun j hj => absurd hj (Nat.not_lt_zero j)⟩, ⟨Upd.refl _ _⟩⟩
  case round =>
    obtain ⟨i, rfl, hi, HP, HU⟩ := hrel
    have hc : i = 0 ∨ i = 1 ∨ i = 2 ∨ i = 3 ∨ i = 4 ∨ i = 5 ∨ i = 6 ∨ i = 7 ∨ i = 8 := by omega
    clear hi
    rcases hc with rfl | rfl | rfl | rfl | rfl | rfl | rfl | rfl | rfl
    · have hw := HU.out
      have r0 := fun W k => q0 W (HU.out.trans k (fun _ _ h => h))
      have r1 := fun W k => q1 W (HU.out.trans k (fun _ _ h => h))
      have r2 := fun W k => q2 W (HU.out.trans k (fun _ _ h => h))
      have hs := Upd.refl (fun _ => False) wr
      have HA := Asd.mk (HU.out.alloc (.cells #[.int .i64 c.log, .int .i64 1, .int .i64 65536] 123))
      clear q0 q1 q2 q3 q4 q5 q6 q7 q8 q9 q10 q11 q12 q13 q14 q15 q16 q17 q18 q19 q20 q21 q22 q23 hw
      by_cases h1 : c.log < 1
      · have e1 : decide (c.log < 1) = true := decide_eq_true h1
        have HV : Asd (rightC c = false) := ⟨l8_no c 0 (by show some _ = _; rw [inb_lo _ _ _ h1])⟩
        clear h1
        go_wp2
        go_ret
        exact ⟨by rw [HV.out]; rfl, HB.out.trans HA.out (fun _ _ h => h)⟩
      · have e1 : decide (c.log < 1) = false := decide_eq_false h1
        by_cases h2 : 65536 < c.log
        · have e2 : decide (65536 < c.log) = true := decide_eq_true h2
          have HV : Asd (rightC c = false) := ⟨l8_no c 0 (by show some _ = _; rw [inb_hi _ _ _ h2])⟩
          clear h1 h2
          go_wp2
          go_ret
          exact ⟨by rw [HV.out]; rfl, HB.out.trans HA.out (fun _ _ h => h)⟩
        · have e2 : decide (65536 < c.log) = false := decide_eq_false h2
          have HP2 := Asd.mk (l8_step c 0 HP.out (by show some _ = _; rw [inb_in _ _ _ h1 h2]))
          clear h1 h2
          go_wp2
          go_roundw
          case rel => exact ⟨1, rfl, by omega, HP2, HA⟩
          case measure => simp [intOf]
    · have hw := HU.out
      have r3 := fun W k => q3 W (HU.out.trans k (fun _ _ h => h))
      have r4 := fun W k => q4 W (HU.out.trans k (fun _ _ h => h))
      have r5 := fun W k => q5 W (HU.out.trans k (fun _ _ h => h))
      have hs := Upd.refl (fun _ => False) wr
      have HA := Asd.mk (HU.out.alloc (.cells #[.int .i64 c.data, .int .i64 1, .int .i64 2042] 123))
      clear q0 q1 q2 q3 q4 q5 q6 q7 q8 q9 q10 q11 q12 q13 q14 q15 q16 q17 q18 q19 q20 q21 q22 q23 hw
      by_cases h1 : c.data < 1
      · have e1 : decide (c.data < 1) = true := decide_eq_true h1
        have HV : Asd (rightC c = false) := ⟨l8_no c 1 (by show some _ = _; rw [inb_lo _ _ _ h1])⟩
        clear h1
        go_wp2
        go_ret
        exact ⟨by rw [HV.out]; rfl, HB.out.trans HA.out (fun _ _ h => h)⟩
      · have e1 : decide (c.data < 1) = false := decide_eq_false h1
        by_cases h2 : 2042 < c.data
        · have e2 : decide (2042 < c.data) = true := decide_eq_true h2
          have HV : Asd (rightC c = false) := ⟨l8_no c 1 (by show some _ = _; rw [inb_hi _ _ _ h2])⟩
          clear h1 h2
          go_wp2
          go_ret
          exact ⟨by rw [HV.out]; rfl, HB.out.trans HA.out (fun _ _ h => h)⟩
        · have e2 : decide (2042 < c.data) = false := decide_eq_false h2
          have HP2 := Asd.mk (l8_step c 1 HP.out (by show some _ = _; rw [inb_in _ _ _ h1 h2]))
          clear h1 h2
          go_wp2
          go_roundw
          case rel => exact ⟨2, rfl, by omega, HP2, HA⟩
          case measure => simp [intOf]
    · have hw := HU.out
      have r6 := fun W k => q6 W (HU.out.trans k (fun _ _ h => h))
      have r7 := fun W k => q7 W (HU.out.trans k (fun _ _ h => h))
      have r8 := fun W k => q8 W (HU.out.trans k (fun _ _ h => h))
      have hs := Upd.refl (fun _ => False) wr
      have HA := Asd.mk (HU.out.alloc (.cells #[.int .i64 c.queue, .int .i64 220, .int .i64 65536] 123))
      clear q0 q1 q2 q3 q4 q5 q6 q7 q8 q9 q10 q11 q12 q13 q14 q15 q16 q17 q18 q19 q20 q21 q22 q23 hw
      by_cases h1 : c.queue < 220
      · have e1 : decide (c.queue < 220) = true := decide_eq_true h1
        have HV : Asd (rightC c = false) := ⟨l8_no c 2 (by show some _ = _; rw [inb_lo _ _ _ h1])⟩
        clear h1
        go_wp2
        go_ret
        exact ⟨by rw [HV.out]; rfl, HB.out.trans HA.out (fun _ _ h => h)⟩
      · have e1 : decide (c.queue < 220) = false := decide_eq_false h1
        by_cases h2 : 65536 < c.queue
        · have e2 : decide (65536 < c.queue) = true := decide_eq_true h2
          have HV : Asd (rightC c = false) := ⟨l8_no c 2 (by show some _ = _; rw [inb_hi _ _ _ h2])⟩
          clear h1 h2
          go_wp2
          go_ret
          exact ⟨by rw [HV.out]; rfl, HB.out.trans HA.out (fun _ _ h => h)⟩
        · have e2 : decide (65536 < c.queue) = false := decide_eq_false h2
          have HP2 := Asd.mk (l8_step c 2 HP.out (by show some _ = _; rw [inb_in _ _ _ h1 h2]))
          clear h1 h2
          go_wp2
          go_roundw
          case rel => exact ⟨3, rfl, by omega, HP2, HA⟩
          case measure => simp [intOf]
    · have hw := HU.out
      have r9 := fun W k => q9 W (HU.out.trans k (fun _ _ h => h))
      have r10 := fun W k => q10 W (HU.out.trans k (fun _ _ h => h))
      have r11 := fun W k => q11 W (HU.out.trans k (fun _ _ h => h))
      have hs := Upd.refl (fun _ => False) wr
      have HA := Asd.mk (HU.out.alloc (.cells #[.int .i64 c.input, .int .i64 1, .int .i64 65536] 123))
      clear q0 q1 q2 q3 q4 q5 q6 q7 q8 q9 q10 q11 q12 q13 q14 q15 q16 q17 q18 q19 q20 q21 q22 q23 hw
      by_cases h1 : c.input < 1
      · have e1 : decide (c.input < 1) = true := decide_eq_true h1
        have HV : Asd (rightC c = false) := ⟨l8_no c 3 (by show some _ = _; rw [inb_lo _ _ _ h1])⟩
        clear h1
        go_wp2
        go_ret
        exact ⟨by rw [HV.out]; rfl, HB.out.trans HA.out (fun _ _ h => h)⟩
      · have e1 : decide (c.input < 1) = false := decide_eq_false h1
        by_cases h2 : 65536 < c.input
        · have e2 : decide (65536 < c.input) = true := decide_eq_true h2
          have HV : Asd (rightC c = false) := ⟨l8_no c 3 (by show some _ = _; rw [inb_hi _ _ _ h2])⟩
          clear h1 h2
          go_wp2
          go_ret
          exact ⟨by rw [HV.out]; rfl, HB.out.trans HA.out (fun _ _ h => h)⟩
        · have e2 : decide (65536 < c.input) = false := decide_eq_false h2
          have HP2 := Asd.mk (l8_step c 3 HP.out (by show some _ = _; rw [inb_in _ _ _ h1 h2]))
          clear h1 h2
          go_wp2
          go_roundw
          case rel => exact ⟨4, rfl, by omega, HP2, HA⟩
          case measure => simp [intOf]
    · have hw := HU.out
      have r12 := fun W k => q12 W (HU.out.trans k (fun _ _ h => h))
      have r13 := fun W k => q13 W (HU.out.trans k (fun _ _ h => h))
      have r14 := fun W k => q14 W (HU.out.trans k (fun _ _ h => h))
      have hs := Upd.refl (fun _ => False) wr
      have HA := Asd.mk (HU.out.alloc (.cells #[.int .i64 c.strikes, .int .i64 0, .int .i64 9] 123))
      clear q0 q1 q2 q3 q4 q5 q6 q7 q8 q9 q10 q11 q12 q13 q14 q15 q16 q17 q18 q19 q20 q21 q22 q23 hw
      by_cases h1 : c.strikes < 0
      · have e1 : decide (c.strikes < 0) = true := decide_eq_true h1
        have HV : Asd (rightC c = false) := ⟨l8_no c 4 (by show some _ = _; rw [inb_lo _ _ _ h1])⟩
        clear h1
        go_wp2
        go_ret
        exact ⟨by rw [HV.out]; rfl, HB.out.trans HA.out (fun _ _ h => h)⟩
      · have e1 : decide (c.strikes < 0) = false := decide_eq_false h1
        by_cases h2 : 9 < c.strikes
        · have e2 : decide (9 < c.strikes) = true := decide_eq_true h2
          have HV : Asd (rightC c = false) := ⟨l8_no c 4 (by show some _ = _; rw [inb_hi _ _ _ h2])⟩
          clear h1 h2
          go_wp2
          go_ret
          exact ⟨by rw [HV.out]; rfl, HB.out.trans HA.out (fun _ _ h => h)⟩
        · have e2 : decide (9 < c.strikes) = false := decide_eq_false h2
          have HP2 := Asd.mk (l8_step c 4 HP.out (by show some _ = _; rw [inb_in _ _ _ h1 h2]))
          clear h1 h2
          go_wp2
          go_roundw
          case rel => exact ⟨5, rfl, by omega, HP2, HA⟩
          case measure => simp [intOf]
    · have hw := HU.out
      have r15 := fun W k => q15 W (HU.out.trans k (fun _ _ h => h))
      have r16 := fun W k => q16 W (HU.out.trans k (fun _ _ h => h))
      have r17 := fun W k => q17 W (HU.out.trans k (fun _ _ h => h))
      have hs := Upd.refl (fun _ => False) wr
      have HA := Asd.mk (HU.out.alloc (.cells #[.int .i64 c.lease, .int .i64 1, .int .i64 1000] 123))
      clear q0 q1 q2 q3 q4 q5 q6 q7 q8 q9 q10 q11 q12 q13 q14 q15 q16 q17 q18 q19 q20 q21 q22 q23 hw
      by_cases h1 : c.lease < 1
      · have e1 : decide (c.lease < 1) = true := decide_eq_true h1
        have HV : Asd (rightC c = false) := ⟨l8_no c 5 (by show some _ = _; rw [inb_lo _ _ _ h1])⟩
        clear h1
        go_wp2
        go_ret
        exact ⟨by rw [HV.out]; rfl, HB.out.trans HA.out (fun _ _ h => h)⟩
      · have e1 : decide (c.lease < 1) = false := decide_eq_false h1
        by_cases h2 : 1000 < c.lease
        · have e2 : decide (1000 < c.lease) = true := decide_eq_true h2
          have HV : Asd (rightC c = false) := ⟨l8_no c 5 (by show some _ = _; rw [inb_hi _ _ _ h2])⟩
          clear h1 h2
          go_wp2
          go_ret
          exact ⟨by rw [HV.out]; rfl, HB.out.trans HA.out (fun _ _ h => h)⟩
        · have e2 : decide (1000 < c.lease) = false := decide_eq_false h2
          have HP2 := Asd.mk (l8_step c 5 HP.out (by show some _ = _; rw [inb_in _ _ _ h1 h2]))
          clear h1 h2
          go_wp2
          go_roundw
          case rel => exact ⟨6, rfl, by omega, HP2, HA⟩
          case measure => simp [intOf]
    · have hw := HU.out
      have r18 := fun W k => q18 W (HU.out.trans k (fun _ _ h => h))
      have r19 := fun W k => q19 W (HU.out.trans k (fun _ _ h => h))
      have r20 := fun W k => q20 W (HU.out.trans k (fun _ _ h => h))
      have hs := Upd.refl (fun _ => False) wr
      have HA := Asd.mk (HU.out.alloc (.cells #[.int .i64 c.idle, .int .i64 0, .int .i64 1000] 123))
      clear q0 q1 q2 q3 q4 q5 q6 q7 q8 q9 q10 q11 q12 q13 q14 q15 q16 q17 q18 q19 q20 q21 q22 q23 hw
      by_cases h1 : c.idle < 0
      · have e1 : decide (c.idle < 0) = true := decide_eq_true h1
        have HV : Asd (rightC c = false) := ⟨l8_no c 6 (by show some _ = _; rw [inb_lo _ _ _ h1])⟩
        clear h1
        go_wp2
        go_ret
        exact ⟨by rw [HV.out]; rfl, HB.out.trans HA.out (fun _ _ h => h)⟩
      · have e1 : decide (c.idle < 0) = false := decide_eq_false h1
        by_cases h2 : 1000 < c.idle
        · have e2 : decide (1000 < c.idle) = true := decide_eq_true h2
          have HV : Asd (rightC c = false) := ⟨l8_no c 6 (by show some _ = _; rw [inb_hi _ _ _ h2])⟩
          clear h1 h2
          go_wp2
          go_ret
          exact ⟨by rw [HV.out]; rfl, HB.out.trans HA.out (fun _ _ h => h)⟩
        · have e2 : decide (1000 < c.idle) = false := decide_eq_false h2
          have HP2 := Asd.mk (l8_step c 6 HP.out (by show some _ = _; rw [inb_in _ _ _ h1 h2]))
          clear h1 h2
          go_wp2
          go_roundw
          case rel => exact ⟨7, rfl, by omega, HP2, HA⟩
          case measure => simp [intOf]
    · have hw := HU.out
      have r21 := fun W k => q21 W (HU.out.trans k (fun _ _ h => h))
      have r22 := fun W k => q22 W (HU.out.trans k (fun _ _ h => h))
      have r23 := fun W k => q23 W (HU.out.trans k (fun _ _ h => h))
      have hs := Upd.refl (fun _ => False) wr
      have HA := Asd.mk (HU.out.alloc (.cells #[.int .i64 c.width, .int .i64 1, .int .i64 500] 123))
      clear q0 q1 q2 q3 q4 q5 q6 q7 q8 q9 q10 q11 q12 q13 q14 q15 q16 q17 q18 q19 q20 q21 q22 q23 hw
      by_cases h1 : c.width < 1
      · have e1 : decide (c.width < 1) = true := decide_eq_true h1
        have HV : Asd (rightC c = false) := ⟨l8_no c 7 (by show some _ = _; rw [inb_lo _ _ _ h1])⟩
        clear h1
        go_wp2
        go_ret
        exact ⟨by rw [HV.out]; rfl, HB.out.trans HA.out (fun _ _ h => h)⟩
      · have e1 : decide (c.width < 1) = false := decide_eq_false h1
        by_cases h2 : 500 < c.width
        · have e2 : decide (500 < c.width) = true := decide_eq_true h2
          have HV : Asd (rightC c = false) := ⟨l8_no c 7 (by show some _ = _; rw [inb_hi _ _ _ h2])⟩
          clear h1 h2
          go_wp2
          go_ret
          exact ⟨by rw [HV.out]; rfl, HB.out.trans HA.out (fun _ _ h => h)⟩
        · have e2 : decide (500 < c.width) = false := decide_eq_false h2
          have HP2 := Asd.mk (l8_step c 7 HP.out (by show some _ = _; rw [inb_in _ _ _ h1 h2]))
          clear h1 h2
          go_wp2
          go_roundw
          case rel => exact ⟨8, rfl, by omega, HP2, HA⟩
          case measure => simp [intOf]
    · have HV : Asd (rightC c = true) := ⟨l8_yes c HP.out⟩
      go_wp2
      go_ret
      exact ⟨by rw [HV.out]; rfl, HB.out.trans HU.out (fun _ _ h => h)⟩
end Go.Proofs.YteepkanbiefpjaaGreatDoor.Bk
set_option linter.unusedVariables false
set_option linter.unusedSimpArgs false
namespace Go.Proofs.YteepkanbiefpjaaGreatDoor.Bk
open Go.RowKit K
open MgRow (M mC Ms)
theorem cf_runAll (f : Br → Int → Br) (h : ∀ s id, (f s id).cf = s.cf) : ∀ (l : List Int) (s : Br), (runAll f l s).cf = s.cf
  | [], s => rfl
  | a :: l, s => by
    have h1 := cf_runAll f h l (if openS s a then f s a else s)
    have h2 : (if openS s a then f s a else s).cf = s.cf := by
      split
      · exact h s a
      · rfl
    exact h1.trans h2
theorem cf_pumpN (id : Int) : ∀ (k : Nat) (s : Br), (pumpN id k s).cf = s.cf
  | 0, s => rfl
  | k + 1, s => by
    unfold pumpN
    cases hg : get s id with
    | none => rfl
    | some c =>
      simp only
      split
      · cases hv : c.vw with
        | none => rfl
        | some v =>
          obtain ⟨at_, st⟩ := v
          simp only
          split
          · rfl
          · rw [cf_pumpN id k]
            split
            · rw [(sm_leave' _ _).cf]; rfl
            · rfl
      · rfl
theorem cf_settle (s : Br) : (settle s).cf = s.cf := by
  have h1 : (settle s).cf = (turned (pump (turned s))).cf := rfl
  rw [h1, (fx_turned _).cf]
  unfold pump
  rw [cf_runAll _ (fun s id => cf_pumpN id _ s), (fx_turned _).cf]
theorem cf_tick1 (s : Br) (id : Int) : (tick1 s id).cf = s.cf := by
  unfold tick1
  cases hg : get s id with
  | none => rfl
  | some c =>
    simp only
    split
    · rw [(fx_shut _ _ _).cf]; rfl
    · rfl
theorem cf_ticks : ∀ (l : List Int) (s : Br), (l.foldl tick1 s).cf = s.cf
  | [], s => rfl
  | a :: l, s => (cf_ticks l _).trans (cf_tick1 s a)
theorem cf_if (p : Prop) [Decidable p] (a b : Br) (x : Cf) (h : a.cf = x) (k : b.cf = x) : (if p then a else b).cf = x := by
  split
  · exact h
  · exact k
theorem cf_doE (s : Br) (e : Ev) : (doE s e).1.cf = s.cf := by
  unfold doE
  split
  · unfold connect; split
    · rfl
    · split <;> rfl
  · split
    · unfold bytes
      cases hg : get s e.2.1 with
      | none => rfl
      | some c =>
        simp only
        split
        · rfl
        · simp only
          rw [cf_settle]
          refine cf_if _ _ _ _ ?_ ?_
          · rw [(fx_shut _ _ _).cf, (fx_frames _ _ _).cf]; rfl
          · rw [(fx_frames _ _ _).cf]; rfl
    · split
      · unfold write
        cases hg : get s e.2.1 with
        | none => rfl
        | some c => simp only; rw [cf_settle]; rfl
      · split
        · unfold output
          split
          · rfl
          · simp only; rw [cf_settle]
        · split
          · rfl
          · split
            · simp only
              unfold tick
              rw [cf_settle, cf_ticks]; rfl
            · split
              · unfold cut
                cases hg : get s e.2.1 with
                | none => rfl
                | some c => simp only; rw [cf_settle]; exact (sm_leave' s e.2.1).cf
              · unfold end_
                split
                · rfl
                · split
                  · rfl
                  · simp only; rw [cf_settle, (fx_tell _ _).cf]
theorem Sc.fit {w0 w : World} {q : Nat} {s : Br} {F : Nat → Prop} (h : Sc w0 q s w F) (id : Int) : (waitN s id : Int) ≤ s.cf.queue ∨ waitN s id = 0 := by
  obtain ⟨L, hq, hb⟩ := h.has
  unfold waitN
  cases hg : get s id with
  | none => exact .inr rfl
  | some c =>
    obtain ⟨Fo, ho, _⟩ := hb.outE hg
    exact .inl ho.fit
theorem rget_keys {t : Fl.T} {id : Int} (hk : id ∈ Fl.keys t) : (Fl.rget t.roles id).isSome = true := by
  unfold Fl.keys at hk
  obtain ⟨p, hp, rfl⟩ := List.mem_map.1 hk
  unfold Fl.rget
  rw [Option.isSome_map, List.find?_isSome]
  exact ⟨p, hp, by simp⟩
theorem Ok.seen {s : Br} (h : Ok s) {id : Int} (hk : id ∈ Fl.keys s.tab) : (seenO s id).isSome = true := by
  obtain ⟨c, hg, h1⟩ := h.use id (rget_keys hk)
  have h2 := (h.rng id (get_ids hg)).2
  unfold seenO userOf
  rw [if_neg (by omega), hg]
  simp [h1]
theorem Ok.kin {s : Br} (h : Ok s) {id : Int} (hk : id ∈ Fl.keys s.tab) : 1 ≤ id ∧ id ≤ 9223372036854775807 := by
  unfold Fl.keys at hk
  obtain ⟨p, hp, rfl⟩ := List.mem_map.1 hk
  exact h.g.ids p hp
theorem rd_lt {w : World} {A : Option Addr} {n : Nat} {l : List UInt8} (h : Rd w A n l) (hn : 0 < n) : ∀ ad, A = some ad → ad.block < w.heap.size := by
  intro ad e
  obtain ⟨ad', e', hc⟩ := h.at 0 hn
  obtain rfl := Option.some.inj (e.symm.trans e')
  have := World.block_lt_of_cell? w _ hc
  rwa [add_block] at this
theorem total_le (L : List Ev) (i : Nat) (e : Ev) (h : L[i]? = some e) : total (L.take i) + e.2.2.2.length ≤ total L := by
  have h1 := total_take L i e h
  have h2 : total L = total (L.take (i + 1)) + total (L.drop (i + 1)) := by
    have h3 : L.take (i + 1) ++ L.drop (i + 1) = L := List.take_append_drop _ _
    have h4 : total (L.take (i + 1) ++ L.drop (i + 1)) = total (L.take (i + 1)) + total (L.drop (i + 1)) := by unfold total; rw [List.map_append, List.sum_append]
    rw [h3] at h4
    exact h4
  omega
end Go.Proofs.YteepkanbiefpjaaGreatDoor.Bk
set_option linter.unusedVariables false
set_option linter.unusedSimpArgs false
namespace Go.Proofs.YteepkanbiefpjaaGreatDoor.K
open Go.RowKit Go.ChangeShapes Go.WideShapes Go.Deep
def R8 {t0 t1 t2 t3 t4 t5 t6 t7 : Type} (R0 : Rdr t0) (R1 : Rdr t1) (R2 : Rdr t2) (R3 : Rdr t3) (R4 : Rdr t4) (R5 : Rdr t5) (R6 : Rdr t6) (R7 : Rdr t7) : Rdr (t0 × t1 × t2 × t3 × t4 × t5 × t6 × t7) := fun w cs x => ∃ c0 c1 c2 c3 c4 c5 c6 c7, cs = [c0, c1, c2, c3, c4, c5, c6, c7] ∧ R0 w [c0] x.1 ∧ R1 w [c1] x.2.1 ∧ R2 w [c2] x.2.2.1 ∧ R3 w [c3] x.2.2.2.1 ∧ R4 w [c4] x.2.2.2.2.1 ∧ R5 w [c5] x.2.2.2.2.2.1 ∧ R6 w [c6] x.2.2.2.2.2.2.1 ∧ R7 w [c7] x.2.2.2.2.2.2.2
section
variable {P : Program}
theorem R8.opens {t0 t1 t2 t3 t4 t5 t6 t7 : Type} {R0 : Rdr t0} {R1 : Rdr t1} {R2 : Rdr t2} {R3 : Rdr t3} {R4 : Rdr t4} {R5 : Rdr t5} {R6 : Rdr t6} {R7 : Rdr t7} {t : TypeId} {f0 f1 f2 f3 f4 f5 f6 f7 : Field} (ht : P.underlying t = some (.struct #[f0, f1, f2, f3, f4, f5, f6, f7])) (hn : P.cellsOf t = 8) (h0 : f0.offset = 0) (h1 : f1.offset = 1) (h2 : f2.offset = 2) (h3 : f3.offset = 3) (h4 : f4.offset = 4) (h5 : f5.offset = 5) (h6 : f6.offset = 6) (h7 : f7.offset = 7) (c0 : P.cellsOf f0.type = 1) (c1 : P.cellsOf f1.type = 1) (c2 : P.cellsOf f2.type = 1) (c3 : P.cellsOf f3.type = 1) (c4 : P.cellsOf f4.type = 1) (c5 : P.cellsOf f5.type = 1) (c6 : P.cellsOf f6.type = 1) (c7 : P.cellsOf f7.type = 1)
    (o0 : Opens P f0.type R0) (o1 : Opens P f1.type R1) (o2 : Opens P f2.type R2) (o3 : Opens P f3.type R3) (o4 : Opens P f4.type R4) (o5 : Opens P f5.type R5) (o6 : Opens P f6.type R6) (o7 : Opens P f7.type R7) : Opens P t (R8 R0 R1 R2 R3 R4 R5 R6 R7) := fun H enc W fuel cs x h hw => by
  obtain ⟨xs, n, _, rfl, hl, hlen, hf⟩ := DataW.trod_struct ht h
  match xs, hlen with
  | [y0, y1, y2, y3, y4, y5, y6, y7], _ =>
    have g0 := hf 0 f0 rfl
    simp only [List.getElem?_cons_succ, List.getElem?_cons_zero] at g0
    have g1 := hf 1 f1 rfl
    simp only [List.getElem?_cons_succ, List.getElem?_cons_zero] at g1
    have g2 := hf 2 f2 rfl
    simp only [List.getElem?_cons_succ, List.getElem?_cons_zero] at g2
    have g3 := hf 3 f3 rfl
    simp only [List.getElem?_cons_succ, List.getElem?_cons_zero] at g3
    have g4 := hf 4 f4 rfl
    simp only [List.getElem?_cons_succ, List.getElem?_cons_zero] at g4
    have g5 := hf 5 f5 rfl
    simp only [List.getElem?_cons_succ, List.getElem?_cons_zero] at g5
    have g6 := hf 6 f6 rfl
    simp only [List.getElem?_cons_succ, List.getElem?_cons_zero] at g6
    have g7 := hf 7 f7 rfl
    simp only [List.getElem?_cons_succ, List.getElem?_cons_zero] at g7
    rw [hn] at hl
    rw [h0, c0] at g0
    rw [h1, c1] at g1
    rw [h2, c2] at g2
    rw [h3, c3] at g3
    rw [h4, c4] at g4
    rw [h5, c5] at g5
    rw [h6, c6] at g6
    rw [h7, c7] at g7
    match cs, hl with
    | [v0, v1, v2, v3, v4, v5, v6, v7], _ =>
      simp only [List.drop_zero, List.drop_one, List.tail_cons, List.take_succ_cons, List.take_zero, List.drop_succ_cons] at g0 g1 g2 g3 g4 g5 g6 g7
      obtain ⟨a0, ha0⟩ := o0 _ _ _ _ _ _ g0 (fun k hk => hw k (by simp [DataW.weights, ht, DataW.weightsEach, hk]))
      obtain ⟨a1, ha1⟩ := o1 _ _ _ _ _ _ g1 (fun k hk => hw k (by simp [DataW.weights, ht, DataW.weightsEach, hk]))
      obtain ⟨a2, ha2⟩ := o2 _ _ _ _ _ _ g2 (fun k hk => hw k (by simp [DataW.weights, ht, DataW.weightsEach, hk]))
      obtain ⟨a3, ha3⟩ := o3 _ _ _ _ _ _ g3 (fun k hk => hw k (by simp [DataW.weights, ht, DataW.weightsEach, hk]))
      obtain ⟨a4, ha4⟩ := o4 _ _ _ _ _ _ g4 (fun k hk => hw k (by simp [DataW.weights, ht, DataW.weightsEach, hk]))
      obtain ⟨a5, ha5⟩ := o5 _ _ _ _ _ _ g5 (fun k hk => hw k (by simp [DataW.weights, ht, DataW.weightsEach, hk]))
      obtain ⟨a6, ha6⟩ := o6 _ _ _ _ _ _ g6 (fun k hk => hw k (by simp [DataW.weights, ht, DataW.weightsEach, hk]))
      obtain ⟨a7, ha7⟩ := o7 _ _ _ _ _ _ g7 (fun k hk => hw k (by simp [DataW.weights, ht, DataW.weightsEach, hk]))
      exact ⟨(a0, a1, a2, a3, a4, a5, a6, a7), v0, v1, v2, v3, v4, v5, v6, v7, rfl, ha0, ha1, ha2, ha3, ha4, ha5, ha6, ha7⟩
end
end Go.Proofs.YteepkanbiefpjaaGreatDoor.K
set_option linter.unusedVariables false
set_option linter.unusedSimpArgs false
namespace Go.Proofs.YteepkanbiefpjaaGreatDoor.Bk
open Go.RowKit K
abbrev RCf := K.R8 (K.RInt .i64) (K.RInt .i64) (K.RInt .i64) (K.RInt .i64) (K.RInt .i64) (K.RInt .i64) (K.RInt .i64) (K.RInt .i64)
theorem cf_cells {w : World} {cs : Array Value} {x : Int × Int × Int × Int × Int × Int × Int × Int} (h : RCf w cs.toList x) : ∃ c : Cf, cs = cfV c := by
  obtain ⟨c0, c1, c2, c3, c4, c5, c6, c7, hcs, ⟨h0, _⟩, ⟨h1, _⟩, ⟨h2, _⟩, ⟨h3, _⟩, ⟨h4, _⟩, ⟨h5, _⟩, ⟨h6, _⟩, ⟨h7, _⟩⟩ := h
  simp only [List.cons.injEq, and_true] at h0 h1 h2 h3 h4 h5 h6 h7
  subst h0; subst h1; subst h2; subst h3; subst h4; subst h5; subst h6; subst h7
  refine ⟨{ log := x.1, data := x.2.1, queue := x.2.2.1, input := x.2.2.2.1, strikes := x.2.2.2.2.1, lease := x.2.2.2.2.2.1, idle := x.2.2.2.2.2.2.1, width := x.2.2.2.2.2.2.2 }, ?_⟩
  apply Array.ext'
  simpa [cfV] using hcs
theorem law_row {f : Nat} {Q : World → Ending → World → Prop} {W : World} (hlaw : ∀ (c : Cf) {A : Option Addr} {n cp : Nat} {L : List Ev}, Evs W A n L → Calls Tryz.prog f #[.agg (cfV c), .slice A n cp] W (Q W)) (cs : Array Value) (x : Int × Int × Int × Int × Int × Int × Int × Int) (h : RCf W cs.toList x) (a : Option Addr) (len cap : Nat) (L : List Ev) (h1 : K.RSlice REv 4 W [.slice a len cap] L) : Calls Tryz.prog f #[.agg cs, .slice a len cap] W (Q W) := by
  obtain ⟨c, rfl⟩ := cf_cells h
  obtain ⟨A, cp, e, hels, _⟩ := h1
  simp only [List.cons.injEq, Value.slice.injEq, and_true] at e
  obtain ⟨rfl, rfl, rfl⟩ := e
  exact hlaw c hels
end Go.Proofs.YteepkanbiefpjaaGreatDoor.Bk
set_option linter.unusedVariables false
set_option linter.unusedSimpArgs false
namespace Go.Proofs.YteepkanbiefpjaaGreatDoor.Bk
open Go.RowKit K
open MgRow (M mC Ms)
theorem tn_cell {w w' : World} {F F' : Nat → Prop} (t : Tn w F w' F') {a : Addr} {v : Value} (hc : w.cell? a = some v) (hn : ¬ F a.block) : w'.cell? a = some v ∧ ¬ F' a.block := ⟨t.upd.cell hc hn, fun h => by
  rcases t.new _ h with h | h
  · exact hn h
  · have := World.block_lt_of_cell? w a hc; omega⟩
theorem tn_blk {w w' : World} {F F' : Nat → Prop} (t : Tn w F w' F') {g : Nat} {o : Obj} (hc : w.heap[g]? = some o) (hn : ¬ F g) : w'.heap[g]? = some o ∧ ¬ F' g := ⟨t.upd.blk hc hn, fun h => by
  rcases t.new _ h with h | h
  · exact hn h
  · have := blk_lt hc; omega⟩
theorem OwnM.cells {w : World} {A : Option Addr} {c : Nat} {L : List M} {G : Option Nat} (h : OwnM w A c L G) (hl : L.length ≤ 1000000) {i : Nat} {m : M} (hm : L[i]? = some m) : ∃ ad, A = some ad ∧ G = some ad.block ∧ w.cell? (ad.add (i * 4)) = some (.int .i64 m.k) ∧ w.cell? ⟨(ad.add (i * 4)).block, (ad.add (i * 4)).off + 1, none⟩ = some (.int .i64 m.a) ∧ w.cell? ⟨(ad.add (i * 4)).block, (ad.add (i * 4)).off + 2, none⟩ = some (.int .i64 m.b) ∧ w.cell? ⟨(ad.add (i * 4)).block, (ad.add (i * 4)).off + 3, none⟩ = some (.string (S m.t)) := by
  obtain ⟨hi, hmi⟩ := List.getElem?_eq_some_iff.1 hm
  have hms := h.ms (by omega)
  obtain ⟨ad, e, hc⟩ := hms.at_ i hi
  rw [hmi] at hc
  obtain ⟨A1, c1, he1, _, _, _, hA⟩ := K.Own.slice h
  obtain ⟨rfl, rfl⟩ : A = A1 ∧ c = c1 := by injection he1 with a b c; exact ⟨a, c⟩
  have hx : ∀ j, ad.add (i * 4 + (j + 1)) = ⟨(ad.add (i * 4)).block, (ad.add (i * 4)).off + (j + 1), none⟩ := fun j => by
    rw [← add_add]
    simp [Addr.add]
  exact ⟨ad, e, hA ad e, hc 0 _ rfl, by rw [← hx 0]; exact hc 1 _ rfl, by rw [← hx 1]; exact hc 2 _ rfl, by rw [← hx 2]; exact hc 3 _ rfl⟩
theorem one_msg {w : World} {A : Option Addr} {c : Nat} {m : M} {G : Option Nat} (h : OwnM w A c [m] G) : ∃ ad, A = some ad ∧ G = some ad.block ∧ w.cell? ad = some (.int .i64 m.k) ∧ w.cell? ⟨ad.block, ad.off + 1, none⟩ = some (.int .i64 m.a) ∧ w.cell? ⟨ad.block, ad.off + 2, none⟩ = some (.int .i64 m.b) ∧ w.cell? ⟨ad.block, ad.off + 3, none⟩ = some (.string (S m.t)) := by
  have hms := h.ms (by simp)
  obtain ⟨A1, c1, he1, _, _, _, hA⟩ := K.Own.slice h
  obtain ⟨rfl, rfl⟩ : A = A1 ∧ c = c1 := by injection he1 with a b c; exact ⟨a, c⟩
  obtain ⟨ad, e, hc⟩ := hms.at_ 0 (by simp)
  have h0 := hc 0 _ rfl
  have h1 := hc 1 _ rfl
  have h2 := hc 2 _ rfl
  have h3 := hc 3 _ rfl
  refine ⟨ad, e, hA ad e, ?_, ?_, ?_, ?_⟩
  · simpa [Addr.add] using h0
  · simpa [Addr.add] using h1
  · simpa [Addr.add] using h2
  · simpa [Addr.add] using h3
theorem msgsN_le : ∀ (n : Nat) (b : List UInt8), (msgsN n b).1.length ≤ b.length
  | 0, b => by simp [msgsN]
  | n + 1, b => by
    unfold msgsN
    split
    · simp
    · split
      · simp
      · rename_i h1 h2
        have h0 : (Fr.fget b).2.2.2 = 0 := by
          rcases Classical.em ((Fr.fget b).2.2.2 = 0) with e | e
          · exact e
          · exact absurd (.inl e) h2
        have := FdMath.drop_lt b h0
        have := msgsN_le n (b.drop (Fr.fget b).2.2.1)
        simp only [List.length_cons]
        omega
theorem msgs_le (b : List UInt8) : (msgs b).1.length ≤ b.length := msgsN_le _ b
end Go.Proofs.YteepkanbiefpjaaGreatDoor.Bk
set_option linter.unusedVariables false
set_option linter.unusedSimpArgs false
namespace Go.Proofs.YteepkanbiefpjaaGreatDoor.Bk
open Go.RowKit K
open MgRow (M mC Ms)
def recv (s : Br) (id : Int) (m : M) : Br :=
  if (match get s id with | some c => c.st == 0 | none => false) then hello s id m
  else if m.k = 2 then typed s id m
  else if m.k = 3 then send s id ⟨14, 0, 0, []⟩
  else if m.k = 4 then shut s id 0
  else shut s id 4
theorem recv_typed {s : Br} {id : Int} {c : Cn} (hg : get s id = some c) (h0 : c.st ≠ 0) {m : M} (hk : m.k = 2) : recv s id m = typed s id m := by
  unfold recv
  rw [hg]
  simp only
  rw [if_neg (by simpa using h0), if_pos hk]
theorem recv_hello {s : Br} {id : Int} {c : Cn} (hg : get s id = some c) (h0 : c.st = 0) (m : M) : recv s id m = hello s id m := by
  unfold recv
  rw [hg]
  simp only
  rw [if_pos (by simpa using h0)]
def hello2 (s1 : Br) (id : Int) (c : Cn) (at_ : Nat) (t : List UInt8) (wr : Bool) : Br :=
  let s2 := set s1 id { c with st := 1, name := t, vw := some (at_, 0) }
  let r := roleOf s2 wr
  let s3 := wTab s2 (Fl.join s2.tab id r)
  let s4 := send s3 id ⟨5, id, (at_ : Int), wordOf r⟩
  let s5 := send s4 id ⟨9, s4.holder, 0, []⟩
  if s5.ended then send s5 id ⟨15, s5.code, 0, []⟩ else s5
theorem hello_is {s : Br} {id a b : Int} {t : List UInt8} (ha : a / 4 = 1) (hn : named t = true) {c : Cn} (hg : get (tell s (note (joinT id t))) id = some c) :
    hello s id ⟨1, a, b, t⟩ = hello2 (tell s (note (joinT id t))) id c (Vw.startN (tell s (note (joinT id t))).log (Rg.roomN (tell s (note (joinT id t))).cf.log) b (decide (a / 2 % 2 = 1))) t (decide (a % 2 = 1)) := by
  unfold hello
  simp only
  rw [if_neg (fun h => h rfl), if_neg (fun h => h ha), if_neg (by rw [hn]; decide), hg]
  rfl
def rightM (m : M) : Bool := Mg.right m.k m.a m.b m.t.length
theorem rightM_is {m : M} (h : rightM m = true) : ∃ (k : UInt8) (a b : Nat), m.k = (k.toNat : Int) ∧ m.a = (a : Int) ∧ m.b = (b : Int) ∧ Mg.right (k.toNat : Int) (a : Int) (b : Int) m.t.length = true ∧ mb m = Fr.fbytes k (MgNum.mbody (k.toNat : Int) a b m.t) := by
  have h2 := h
  unfold rightM Mg.right at h2
  simp only [Bool.and_eq_true, decide_eq_true_eq] at h2
  obtain ⟨hk, _, ha, hb, _⟩ := h2
  obtain ⟨k, hk⟩ := MgPut.kind_exists m.k hk
  obtain ⟨a, ha⟩ : ∃ a : Nat, m.a = (a : Int) := ⟨m.a.toNat, by omega⟩
  obtain ⟨b, hb⟩ : ∃ b : Nat, m.b = (b : Int) := ⟨m.b.toNat, by omega⟩
  refine ⟨k, a, b, hk, ha, hb, ?_, ?_⟩
  · unfold rightM at h; rw [hk, ha, hb] at h; exact h
  · unfold mb
    unfold rightM at h
    rw [h, if_pos rfl]
    unfold MgPut.mbytes
    rw [hk, ha, hb]
    simp
theorem message_is (s : Br) (id : Int) (k : UInt8) (a b : Nat) (t : List UInt8) (hr : Mg.right (k.toNat : Int) (a : Int) (b : Int) t.length = true) : message s id k (MgNum.mbody (k.toNat : Int) a b t) = recv s id ⟨(k.toNat : Int), (a : Int), (b : Int), t⟩ := by
  obtain ⟨h1, h2, h3, h4⟩ := MgTwo.body_is (k.toNat : Int) a b t hr
  unfold message recv
  simp only
  rw [if_neg (by rw [h1]; decide), h2, h3, h4]
  rfl
theorem body_len {k : UInt8} {a b : Nat} {t : List UInt8} (hr : Mg.right (k.toNat : Int) (a : Int) (b : Int) t.length = true) : (MgNum.mbody (k.toNat : Int) a b t).length ≤ 2048 := by
  have h1 := MgNum.mbody_length (k.toNat : Int) a b t
  have h2 := MgPut.room_for (k.toNat : Int)
  unfold Mg.right at hr
  simp only [Bool.and_eq_true, decide_eq_true_eq] at hr
  have := hr.2.1
  omega
theorem all_one (k : UInt8) (b : List UInt8) (hb : b.length ≤ 2048) : FdMath.all (Fr.fbytes k b) = ([(k, b)], [], 0) := by
  have h := FdMath.all_joined [(k, b)] (fun x hx => by rw [List.mem_singleton.1 hx]; exact hb) []
  rw [FdMath.all_nil, List.append_nil] at h
  simpa [FdMath.joined] using h
theorem bytes_mb {s : Br} {id : Int} {c : Cn} (hg : get s id = some c) (h2 : c.st ≠ 2) (hf : c.fb = []) (he : c.fe = 0) {m : M} (hr : rightM m = true) : bytes s id (mb m) = (settle (turned (recv (set s id { c with idle := 0 }) id m)), 0) := by
  obtain ⟨k, a, b, hk, ha, hb, hr2, hm⟩ := rightM_is hr
  have hp : push c (mb m) = ([(k, MgNum.mbody (k.toNat : Int) a b m.t)], [], 0) := by
    unfold push
    rw [if_neg (by rw [he]; decide), hf, List.nil_append, hm, all_one k _ (body_len hr2)]
  have hne : mb m ≠ [] := by
    rw [hm]
    intro h
    have := Fr.fbytes_length k (MgNum.mbody (k.toNat : Int) a b m.t)
    rw [h] at this
    simp at this
  unfold bytes
  rw [hg]
  simp only
  rw [if_neg h2, hp, if_neg hne]
  split
  · rename_i h
    exact absurd rfl h.2
  simp only [List.foldl_cons, List.foldl_nil]
  have hc : { c with idle := 0, fb := [], fe := 0 } = { c with idle := 0 } := by rw [← hf, ← he]
  have hcl : closed (set s id { c with idle := 0, fb := [], fe := 0 }) id = false := by
    unfold closed
    rw [get_set_same hg]
    simpa using h2
  unfold frame1
  rw [hcl, if_neg (by decide)]
  simp only
  rw [message_is _ id k a b m.t hr2, hc]
  obtain ⟨mk, ma, mb_, mt⟩ := m
  simp only at hk ha hb
  rw [hk, ha, hb]
theorem msgs_mb {m : M} (hr : rightM m = true) (r : List UInt8) : msgs (mb m ++ r) = (m :: (msgs r).1, (msgs r).2) := by
  obtain ⟨k, a, b, hk, ha, hb, hr2, hm⟩ := rightM_is hr
  have hf := FrMath.get_put k (MgNum.mbody (k.toNat : Int) a b m.t) r (body_len hr2)
  obtain ⟨h1, h2, h3, h4⟩ := MgTwo.body_is (k.toNat : Int) a b m.t hr2
  have hl := Fr.fbytes_length k (MgNum.mbody (k.toNat : Int) a b m.t)
  rw [hm]
  have hne : Fr.fbytes k (MgNum.mbody (k.toNat : Int) a b m.t) ++ r ≠ [] := fun h => by
    have := congrArg List.length h
    rw [List.length_append, hl] at this
    simp at this
  rw [msgs_cons hne (by rw [hf]) (by rw [hf]; exact h1), hf]
  simp only
  rw [List.drop_append_of_le_length (by omega), ← hl, List.drop_length, List.nil_append]
  have he : msgOf k (MgNum.mbody (k.toNat : Int) a b m.t) = m := by
    unfold msgOf
    rw [h2, h3, h4]
    obtain ⟨mk, ma, mb_, mt⟩ := m
    simp only at hk ha hb
    rw [hk, ha, hb]
  rw [he]
theorem msgs_one {m : M} (hr : rightM m = true) : msgs (mb m) = ([m], true) := by
  have h := msgs_mb hr []
  rwa [List.append_nil, msgs_nil] at h
theorem mbdata_len (a : Nat) (d : List UInt8) (ha : a ≤ 1099511627776) (hd : d.length ≤ 2042) : rightM ⟨6, a, 0, d⟩ = true ∧ (mb ⟨6, a, 0, d⟩).length = 11 + d.length := by
  have h : rightM ⟨6, (a : Int), 0, d⟩ = true := by
    unfold rightM Mg.right
    simp only [Bool.and_eq_true, decide_eq_true_eq]
    exact ⟨by decide, hd, by omega, by omega, by omega, by omega, Bool.or_eq_true_iff.2 (.inl (show decide (0 < Mg.nums 6) = true from (by decide : decide (0 < Mg.nums 6) = true))), Bool.or_eq_true_iff.2 (.inr rfl)⟩
  obtain ⟨k, a', b', hk, _, _, hr2, hm⟩ := rightM_is h
  refine ⟨h, ?_⟩
  rw [hm, Fr.fbytes_length, MgNum.mbody_length, ← hk]
  have h6 : Mg.nums 6 = 1 := by decide
  show 6 * Mg.nums 6 + d.length + 5 = 11 + d.length
  omega
theorem next_whole {l : List UInt8} {n a b : Nat} {room most strikes : Int} (ha : l.length - n ≤ a) (hd : (l.drop a).length ≤ (Vw.roomOf room most).toNat) :
    Vw.next l n a b room most strikes = if l.drop a = [] then ⟨⟨0, 0, 0, []⟩, false, a, b⟩ else ⟨⟨6, (a : Int), 0, l.drop a⟩, true, a + (l.drop a).length, b⟩ := by
  unfold Vw.next
  rw [if_neg (by omega), List.take_of_length_le hd]
theorem pump_whole {s : Br} {id : Int} {c : Cn} {a b : Nat} (f : Nat) (hg : get s id = some c) (h1 : c.st = 1) (hv : c.vw = some (a, b)) (hal : a ≤ s.log.length) (hlog : s.log.length ≤ 1000000000) (ha : s.log.length - Rg.roomN s.cf.log ≤ a) (hd : (s.log.drop a).length ≤ (Vw.roomOf (s.cf.queue - c.out.length - 200) s.cf.data).toNat) (hq : 0 ≤ Vw.roomOf (s.cf.queue - c.out.length - 200) s.cf.data ∧ Vw.roomOf (s.cf.queue - c.out.length - 200) s.cf.data ≤ 2042 ∧ (c.out.length : Int) + 11 + Vw.roomOf (s.cf.queue - c.out.length - 200) s.cf.data ≤ s.cf.queue) :
    pumpN id (f + 2) s = set s id (cVw (cOut c (c.out ++ if s.log.drop a = [] then [] else mb ⟨6, (a : Int), 0, s.log.drop a⟩)) (s.log.length, b)) := by
  have hn := next_whole (b := b) (strikes := s.strikes) ha hd
  have hno : nextOf s c a b = if s.log.drop a = [] then ⟨⟨0, 0, 0, []⟩, false, a, b⟩ else ⟨⟨6, (a : Int), 0, s.log.drop a⟩, true, a + (s.log.drop a).length, b⟩ := hn
  by_cases h0 : s.log.drop a = []
  · rw [if_pos h0] at hno
    have hla : s.log.length ≤ a := List.drop_eq_nil_iff.1 h0
    obtain rfl : a = s.log.length := by omega
    rw [pump_stop (f + 1) hg h1 hv (by rw [hno]), hno, if_pos h0, List.append_nil]
    rfl
  · rw [if_neg h0] at hno
    have hdl : (s.log.drop a).length = s.log.length - a := List.length_drop
    have hml := (mbdata_len a (s.log.drop a) (by omega) (by omega)).2
    have hp : pumped s id c (nextOf s c a b) = set s id (cVw (cOut c (c.out ++ mb ⟨6, (a : Int), 0, s.log.drop a⟩)) (s.log.length, b)) := by
      unfold pumped
      rw [hno]
      simp only
      rw [if_neg (by decide), if_pos (by rw [hml]; omega), hdl, show a + (s.log.length - a) = s.log.length by omega]
      rfl
    rw [pump_go (f + 1) hg h1 hv (by rw [hno]), hp]
    have hg2 : get (set s id (cVw (cOut c (c.out ++ mb ⟨6, (a : Int), 0, s.log.drop a⟩)) (s.log.length, b))) id = some (cVw (cOut c (c.out ++ mb ⟨6, (a : Int), 0, s.log.drop a⟩)) (s.log.length, b)) := get_set_same hg
    have hno2 : ∀ R : Int, Vw.next s.log (Rg.roomN s.cf.log) s.log.length b R s.cf.data s.strikes = ⟨⟨0, 0, 0, []⟩, false, s.log.length, b⟩ := fun R => by
      unfold Vw.next
      rw [if_neg (by omega), List.drop_length, List.take_nil, if_pos rfl]
    rw [if_neg h0]
    rw [pump_stop f hg2 h1 rfl (by unfold nextOf; exact congrArg Vw.Nx.ok (hno2 _))]
    have : nextOf (set s id (cVw (cOut c (c.out ++ mb ⟨6, (a : Int), 0, s.log.drop a⟩)) (s.log.length, b))) (cVw (cOut c (c.out ++ mb ⟨6, (a : Int), 0, s.log.drop a⟩)) (s.log.length, b)) s.log.length b = ⟨⟨0, 0, 0, []⟩, false, s.log.length, b⟩ := hno2 _
    rw [this]
    unfold set
    congr 1
    unfold cset
    rw [List.map_map]
    refine List.map_congr_left fun p hp => ?_
    by_cases e : p.1 = id
    · simp [e, cVw, cOut]
    · simp [e]
end Go.Proofs.YteepkanbiefpjaaGreatDoor.Bk
set_option linter.unusedVariables false
set_option linter.unusedSimpArgs false
namespace Go.Proofs.YteepkanbiefpjaaGreatDoor.Bk
open Go.RowKit K
open MgRow (M mC Ms)
def pieceA (l : List UInt8) (a : Nat) : List UInt8 := if l.drop a = [] then [] else mb ⟨6, (a : Int), 0, l.drop a⟩
structure Fits (s : Br) (c : Cn) : Prop where
  mk ::
  vw : ∃ a b, c.vw = some (a, b) ∧ a ≤ s.log.length ∧ s.log.length - Rg.roomN s.cf.log ≤ a ∧ (s.log.drop a).length ≤ (Vw.roomOf (s.cf.queue - c.out.length - 200) s.cf.data).toNat ∧ (0 ≤ Vw.roomOf (s.cf.queue - c.out.length - 200) s.cf.data ∧ Vw.roomOf (s.cf.queue - c.out.length - 200) s.cf.data ≤ 2042 ∧ (c.out.length : Int) + 11 + Vw.roomOf (s.cf.queue - c.out.length - 200) s.cf.data ≤ s.cf.queue)
def pumpC (l : List UInt8) (c : Cn) : Cn := if c.st = 1 then match c.vw with
  | some (a, b) => cVw (cOut c (c.out ++ pieceA l a)) (l.length, b)
  | none => c else c
theorem cget_mem : ∀ {cs : List (Int × Cn)} {p : Int × Cn}, (cs.map (·.1)).Pairwise (· < ·) → p ∈ cs → cget cs p.1 = some p.2
  | [], _, _, h => by cases h
  | x :: cs, p, hs, h => by
    simp only [List.map_cons, List.pairwise_cons] at hs
    unfold cget
    rw [List.find?_cons]
    rcases List.mem_cons.1 h with rfl | h
    · simp
    · have hlt := hs.1 p.1 (List.mem_map.2 ⟨p, h, rfl⟩)
      have hne : ¬ x.1 = p.1 := by omega
      rw [decide_eq_false hne]
      exact cget_mem hs.2 h
def upd1 (g : Cn → Cn) (P : Int → Bool) (s : Br) : Br := { s with cs := s.cs.map fun p => if P p.1 = true then (p.1, g p.2) else p }
theorem upd1_ids (g : Cn → Cn) (P : Int → Bool) (s : Br) : ids (upd1 g P s) = ids s := by
  unfold ids upd1
  rw [List.map_map]
  exact List.map_congr_left fun p _ => by simp only [Function.comp]; split <;> rfl
theorem set_upd {s : Br} (hs : (ids s).Pairwise (· < ·)) {id : Int} {c : Cn} (hg : get s id = some c) (g : Cn → Cn) : set s id (g c) = upd1 g (fun j => decide (j = id)) s := by
  unfold set upd1 cset
  congr 1
  refine List.map_congr_left fun p hp => ?_
  by_cases e : p.1 = id
  · have h1 := cget_mem hs hp
    have h2 : cget s.cs id = some c := hg
    rw [e, h2] at h1
    injection h1 with h1
    rw [if_pos e, if_pos (decide_eq_true e), ← h1, e]
  · rw [if_neg e, if_neg (by simpa using e)]
theorem upd1_none {s : Br} (hs : (ids s).Pairwise (· < ·)) {id : Int} {c : Cn} (hg : get s id = some c) {g : Cn → Cn} (hc : g c = c) : upd1 g (fun j => decide (j = id)) s = s := by
  rw [← set_upd hs hg g, hc]
  unfold set cset
  have : (s.cs.map fun p => if p.1 = id then (id, c) else p) = s.cs := by
    conv => rhs; rw [← List.map_id s.cs]
    refine List.map_congr_left fun p hp => ?_
    by_cases e : p.1 = id
    · have h1 := cget_mem hs hp
      have h2 : cget s.cs id = some c := hg
      rw [e, h2] at h1
      injection h1 with h1
      rw [if_pos e, ← e, h1]; rfl
    · rw [if_neg e]; rfl
  rw [this]
theorem upd1_two (g : Cn → Cn) (P Q : Int → Bool) (s : Br) (h : ∀ j, P j = true → Q j = false) : upd1 g Q (upd1 g P s) = upd1 g (fun j => P j || Q j) s := by
  unfold upd1
  simp only
  congr 1
  rw [List.map_map]
  refine List.map_congr_left fun p _ => ?_
  simp only [Function.comp]
  by_cases hp : P p.1 = true
  · have := h p.1 hp
    simp [hp, this]
  · simp [hp]
theorem get_upd1 (g : Cn → Cn) (P : Int → Bool) (s : Br) (id : Int) : get (upd1 g P s) id = (get s id).map fun c => if P id = true then g c else c := by
  unfold get upd1
  simp only
  generalize s.cs = cs
  induction cs with
  | nil => rfl
  | cons p cs ih =>
    have h : ∀ (q : Int × Cn) (r : List (Int × Cn)), cget (q :: r) id = if q.1 = id then some q.2 else cget r id := fun q r => by
      unfold cget
      rw [List.find?_cons]
      by_cases e : q.1 = id <;> simp [e]
    rw [List.map_cons, h, h, ih]
    by_cases e : p.1 = id
    · rw [if_pos e, if_pos (by split <;> exact e), ← e]
      simp only [Option.map_some]
      cases hp : P p.1 <;> simp [hp]
    · rw [if_neg e, if_neg (by split <;> exact e)]
theorem runAll_upd (f : Br → Int → Br) (g : Cn → Cn) (s : Br) (hs : (ids s).Pairwise (· < ·)) (hg0 : ∀ c, c.st ≠ 1 → g c = c)
    (hf : ∀ (t : Br) id c, ids t = ids s → t.log = s.log → t.cf = s.cf → get t id = some c → get s id = some c → c.st = 1 → f t id = set t id (g c)) :
    runAll f (ids s) s = upd1 g (fun _ => true) s := by
  have key : ∀ (l : List Int) (P : Int → Bool), (∀ j ∈ l, P j = false) → (∀ j ∈ l, j ∈ ids s) → l.Nodup → runAll f l (upd1 g P s) = upd1 g (fun j => P j || decide (j ∈ l)) s := by
    intro l
    induction l with
    | nil =>
      intro P _ _ _
      unfold runAll
      rw [List.foldl_nil]
      congr 1
      funext j
      simp
    | cons id l ih =>
      intro P hP hl hn
      obtain ⟨c, hc⟩ := ids_get (hl id (by simp))
      have hPi := hP id (by simp)
      have hgt : get (upd1 g P s) id = some c := by rw [get_upd1, hc]; simp [hPi]
      have hst : (upd1 g P s).log = s.log ∧ (upd1 g P s).cf = s.cf := ⟨rfl, rfl⟩
      have hid := upd1_ids g P s
      have hs2 : (ids (upd1 g P s)).Pairwise (· < ·) := by rw [hid]; exact hs
      have h1 : (if openS (upd1 g P s) id then f (upd1 g P s) id else upd1 g P s) = upd1 g (fun j => P j || decide (j = id)) s := by
        have h2 : upd1 g (fun j => decide (j = id)) (upd1 g P s) = upd1 g (fun j => P j || decide (j = id)) s := upd1_two g P _ s fun j hj => decide_eq_false fun e => by rw [e, hPi] at hj; cases hj
        by_cases ho : openS (upd1 g P s) id = true
        · have hc1 : c.st = 1 := by unfold openS at ho; rw [hgt] at ho; simpa using ho
          rw [if_pos ho, hf _ id c hid hst.1 hst.2 hgt hc hc1, set_upd hs2 hgt g, h2]
        · have hc1 : c.st ≠ 1 := fun e => ho (by unfold openS; rw [hgt]; simp [e])
          rw [if_neg ho, ← h2, upd1_none hs2 hgt (hg0 c hc1)]
      unfold runAll at ih ⊢
      rw [List.foldl_cons, h1]
      rw [ih (fun j => P j || decide (j = id)) (fun j hj => ?_) (fun j hj => hl j (List.mem_cons_of_mem _ hj)) (List.nodup_cons.1 hn).2]
      · congr 1
        funext j
        by_cases e : j = id <;> simp [e, Bool.or_assoc]
      · have hne : j ≠ id := fun e => (List.nodup_cons.1 hn).1 (by rw [← e]; exact hj)
        simp [hP j (List.mem_cons_of_mem _ hj), hne]
  have h0 : upd1 g (fun _ => false) s = s := by
    unfold upd1
    have : (s.cs.map fun p => if false = true then (p.1, g p.2) else p) = s.cs := by simp
    rw [this]
  have h := key (ids s) (fun _ => false) (fun _ _ => rfl) (fun _ h => h) (hs.imp (fun h => Int.ne_of_lt h))
  rw [h0] at h
  rw [h]
  unfold upd1
  congr 1
  refine List.map_congr_left fun p hp => ?_
  have : p.1 ∈ ids s := List.mem_map.2 ⟨p, hp, rfl⟩
  simp [this]
theorem pump_all {s : Br} (hs : (ids s).Pairwise (· < ·)) (hlog : s.log.length ≤ 1000000000) (h : ∀ id c, get s id = some c → c.st = 1 → Fits s c) : pump s = upd1 (pumpC s.log) (fun _ => true) s := by
  unfold pump
  refine runAll_upd _ (pumpC s.log) s hs (fun c hc => by unfold pumpC; rw [if_neg hc]) ?_
  intro t id c hi hl hcf hgt hgs h1
  obtain ⟨a, b, hv, h2, h3, h4, h5⟩ := (h id c hgs h1).vw
  have hp := pump_whole (s := t) (id := id) (c := c) (a := a) (b := b) t.log.length hgt h1 hv (by rw [hl]; exact h2) (by rw [hl]; exact hlog) (by rw [hl, hcf]; exact h3) (by rw [hl, hcf]; exact h4) (by rw [hcf]; exact h5)
  rw [hp, hl]
  unfold pumpC
  rw [if_pos h1, hv]
  rfl
def sendC (b : List UInt8) (c : Cn) : Cn := if c.st = 1 then cOut c (c.out ++ b) else c
theorem send_fits {s : Br} {id : Int} {c : Cn} (hg : get s id = some c) (h2 : c.st ≠ 2) {m : M} (hf : (c.out.length : Int) + (mb m).length ≤ s.cf.queue) : send s id m = set s id (cOut c (c.out ++ mb m)) := by
  unfold send sendW
  rw [hg]
  simp only
  rw [if_neg h2, if_pos hf]
theorem tell_fits {s : Br} (hs : (ids s).Pairwise (· < ·)) {m : M} (h : ∀ id c, get s id = some c → c.st = 1 → (c.out.length : Int) + (mb m).length ≤ s.cf.queue) : tell s m = upd1 (sendC (mb m)) (fun _ => true) s := by
  unfold tell tellW
  refine runAll_upd _ (sendC (mb m)) s hs (fun c hc => by unfold sendC; rw [if_neg hc]) ?_
  intro t id c hi hl hcf hgt hgs h1
  have := send_fits (s := t) hgt (by omega) (m := m) (by rw [hcf]; exact h id c hgs h1)
  unfold send at this
  rw [this]
  unfold sendC
  rw [if_pos h1]
theorem turned_same {s : Br} (h : s.tab.holder = s.holder) : turned s = s := by
  unfold turned turnedN
  rw [if_pos h]
theorem sweep_none {s : Br} (h : ∀ p ∈ s.cs, p.2.st ≠ 2) : sweep s = s := by
  unfold sweep
  have : (s.cs.filter fun p => !(p.2.st == 2 && p.2.out.isEmpty)) = s.cs := by
    refine List.filter_eq_self.2 fun p hp => ?_
    have := h p hp
    simp [this]
  rw [this]
theorem settle_fits {s : Br} (hs : (ids s).Pairwise (· < ·)) (hlog : s.log.length ≤ 1000000000) (hh : s.tab.holder = s.holder) (h : ∀ id c, get s id = some c → c.st = 1 → Fits s c) (hn : ∀ p ∈ s.cs, p.2.st ≠ 2) : settle s = upd1 (pumpC s.log) (fun _ => true) s := by
  unfold settle
  rw [turned_same hh, pump_all hs hlog h]
  have e : (upd1 (pumpC s.log) (fun _ => true) s).tab.holder = (upd1 (pumpC s.log) (fun _ => true) s).holder := hh
  rw [turned_same e, sweep_none]
  intro p hp
  obtain ⟨p0, hp0, rfl⟩ := List.mem_map.1 hp
  have := hn p0 hp0
  simp only [if_true]
  unfold pumpC
  split
  · rename_i h1
    split <;> simp [cVw, cOut, h1]
  · exact this
theorem write_all {s : Br} {id : Int} {c : Cn} (hg : get s id = some c) {n : Int} (hn : (c.out.length : Int) ≤ n) : write s id n = (settle (set s id (cOut c [])), c.out, 0) := by
  have hk : Oq.takeN n c.out.length = c.out.length := by
    unfold Oq.takeN mn mx
    (repeat' split) <;> omega
  unfold write
  rw [hg]
  simp only
  rw [hk, List.drop_length, List.take_length]
theorem typed_keys {s : Br} {id : Int} {c : Cn} (hg : get s id = some c) {m : M} {x : Lx} {k : List UInt8} (hl : lxAll c.lx m.t = (x, k, [])) (hk : k ≠ []) {y : Int} (hy : Iq.why s.inp s.tab id k.length = y) (h0 : y ≠ 0) :
    typed s id m = send (set s id { c with lx := x }) id ⟨8, m.a, y, []⟩ := by
  have hw : Iq.why (set s id { c with lx := x }).inp (set s id { c with lx := x }).tab id k.length = y := hy
  have ho : Iq.offer (set s id { c with lx := x }).inp (set s id { c with lx := x }).tab id k = s.inp := by
    unfold Iq.offer
    rw [hw, if_neg h0]
    rfl
  unfold typed
  rw [hg]
  simp only
  rw [hl]
  simp only
  rw [if_neg hk, hw, if_neg h0, ho]
  rfl
end Go.Proofs.YteepkanbiefpjaaGreatDoor.Bk
namespace Go.Proofs
open Go.Shelf
theorem Tryz.laysQ171 : Go.Proofs.LaysM.n171 Tryz.prog Tryz.laysM171_ren := {
  mixed := by kernel_rfl
  f129 := Tryz.func140.trans (congrArg some (by kernel_rfl))
  f171 := Tryz.func35.trans (congrArg some (by kernel_rfl))
  f243 := Tryz.func73.trans (congrArg some (by kernel_rfl))
  f246 := Tryz.func87.trans (congrArg some (by kernel_rfl))
  f283 := Tryz.func110.trans (congrArg some (by kernel_rfl))
  f284 := Tryz.func111.trans (congrArg some (by kernel_rfl))
  f285 := Tryz.func112.trans (congrArg some (by kernel_rfl))
  f286 := Tryz.func113.trans (congrArg some (by kernel_rfl))
  f317 := Tryz.func139.trans (congrArg some (by kernel_rfl))
  f318 := Tryz.func141.trans (congrArg some (by kernel_rfl))
  f319 := Tryz.func142.trans (congrArg some (by kernel_rfl))
  f320 := Tryz.func143.trans (congrArg some (by kernel_rfl))
  f337 := Tryz.func167.trans (congrArg some (by kernel_rfl))
  f338 := Tryz.func168.trans (congrArg some (by kernel_rfl))
  t0 := Tryz.underlying0
  a0 := Tryz.isAgg0
  z0 := Tryz.sizeOf0
  v0 := Tryz.zeroValue0
  t2 := Tryz.underlying2
  a2 := Tryz.isAgg2
  z2 := Tryz.sizeOf2
  v2 := Tryz.zeroValue2
  t3 := Tryz.underlying3
  a3 := Tryz.isAgg3
  z3 := Tryz.sizeOf3
  v3 := Tryz.zeroValue3
  t4 := Tryz.underlying4
  a4 := Tryz.isAgg4
  z4 := Tryz.sizeOf4
  v4 := Tryz.zeroValue4
  t5 := Tryz.underlying5
  a5 := Tryz.isAgg5
  z5 := Tryz.sizeOf5
  v5 := Tryz.zeroValue5
  t9 := Tryz.underlying9
  a9 := Tryz.isAgg9
  z9 := Tryz.sizeOf9
  v9 := Tryz.zeroValue9
  t20 := Tryz.underlying20
  a20 := Tryz.isAgg20
  z20 := Tryz.sizeOf20
  v20 := Tryz.zeroValue20
  t37 := Tryz.underlying31
  a37 := Tryz.isAgg31
  z37 := Tryz.sizeOf31
  v37 := Tryz.zeroValue31
  t46 := Tryz.underlying42
  a46 := Tryz.isAgg42
  z46 := Tryz.sizeOf42
  v46 := Tryz.zeroValue42
  t51 := Tryz.underlying213
  a51 := Tryz.isAgg213
  z51 := Tryz.sizeOf213
  v51 := Tryz.zeroValue213
  t53 := Tryz.underlying185
  a53 := Tryz.isAgg185
  z53 := Tryz.sizeOf185
  v53 := Tryz.zeroValue185
  t171 := Tryz.underlying184
  a171 := Tryz.isAgg184
  z171 := Tryz.sizeOf184
  v171 := Tryz.zeroValue184
  t173 := Tryz.underlying188
  a173 := Tryz.isAgg188
  z173 := Tryz.sizeOf188
  v173 := Tryz.zeroValue188
  t212 := Tryz.underlying212
  a212 := Tryz.isAgg212
  z212 := Tryz.sizeOf212
  v212 := Tryz.zeroValue212
  t213 := Tryz.underlying214
  a213 := Tryz.isAgg214
  z213 := Tryz.sizeOf214
  t232 := Tryz.underlying245
  a232 := Tryz.isAgg245
  z232 := Tryz.sizeOf245
  v232 := Tryz.zeroValue245
  t233 := Tryz.underlying246
  a233 := Tryz.isAgg246
  z233 := Tryz.sizeOf246
  v233 := Tryz.zeroValue246
  g17 := by kernel_rfl
  g18 := by kernel_rfl
  g19 := by kernel_rfl
  i0 := by kernel_rfl
  i2 := by kernel_rfl
  i3 := by kernel_rfl
  i4 := by kernel_rfl
  i5 := by kernel_rfl
  i9 := by kernel_rfl
  i20 := by kernel_rfl
  i37 := by kernel_rfl
  i46 := by kernel_rfl
  i51 := by kernel_rfl
  i53 := by kernel_rfl
  i171 := by kernel_rfl
  i173 := by kernel_rfl
  i212 := by kernel_rfl
  i232 := by kernel_rfl
  i233 := by kernel_rfl
  m17 := by kernel_rfl
  m18 := by kernel_rfl
  m19 := by kernel_rfl }
open Go.RowKit Go.Sort Go.Lib in
theorem Tryz.strconv_ItoaQ (n : Int) (h0 : -9223372036854775808 ≤ n) (h1 : n ≤ 9223372036854775807) (w : World) (htab : Lib.TabIs Tryz.prog w "internal/strconv.uint64pow10" .u64 Lib.pow10Tab) :
    Calls Tryz.prog 35 #[.int .i64 n] w fun e w' => e = .returned (.string ⟨(Lib.itoa n).toArray⟩) ∧ ∃ k os, w' = grow (w.drewN k) os := Any.strconv_Itoa Tryz.laysQ171 n h0 h1 w htab
end Go.Proofs
namespace Go.Proofs.YteepkanbiefpjaaGreatDoor.Bk
open Go.RowKit K
theorem itoa_env {w : World} (h : Or.Env w) (n : Int) (h0 : -9223372036854775808 ≤ n) (h1 : n ≤ 9223372036854775807) : Calls Tryz.prog 35 #[.int .i64 n] w fun e w' => e = .returned (.string (S (Lib.itoa n))) ∧ Upd (fun _ => False) w w' := by
  refine (Tryz.strconv_ItoaQ n h0 h1 w h.tab).mono fun e w' ⟨he, k, os, hw⟩ => ⟨he, ?_⟩
  rw [hw]
  exact Or.grow_upd ((Upd.refl (fun _ => False) w).drewN k) os
end Go.Proofs.YteepkanbiefpjaaGreatDoor.Bk
