/- What these laws lean on, part YReplay: contracts of the given program's functions and plain lists. No condition. -/
import Derived.Test.YteepkanbiefpjaaGreatDoorVp
import Derived.Test.YteepkanbiefpjaaGreatDoorVa
set_option linter.unusedVariables false
set_option linter.unusedSimpArgs false
namespace Go.Proofs.YteepkanbiefpjaaGreatDoor.Bk
open Go.RowKit K
open MgRow (M mC Ms)
theorem typed_cmd {s : Br} {id : Int} {c : Cn} (hg : get s id = some c) (hst : c.st = 1) {m : M} {x : Lx} {t : List UInt8} (hl : lxAll c.lx m.t = (x, [], [t])) {k n : Int} (hp : Or.parse t = (k, n, 0)) :
    typed s id m = turned (if (does (set s id { c with lx := x }) id k n).2 then (does (set s id { c with lx := x }) id k n).1 else send (does (set s id { c with lx := x }) id k n).1 id ⟨11, 0, 0, t⟩) := by
  have ho : openS (set s id { c with lx := x }) id = true := by unfold openS; rw [get_set_same hg]; simp [hst]
  unfold typed
  rw [hg]
  simp only
  rw [hl]
  split
  case isFalse h => exact absurd rfl h
  simp only [List.foldl_cons, List.foldl_nil]
  unfold line
  rw [if_pos ho, hp]
  rfl
def lx0 : Lx := ⟨0, [], false⟩
def ownerT : List UInt8 := [111, 119, 110, 101, 114]
def rOut : List UInt8 := mb ⟨5, 1, 0, ownerT⟩ ++ mb ⟨9, 0, 0, []⟩
def cR (out : List UInt8) (vw : Nat × Nat) (lx : Lx) : Cn := ⟨1, [97], 0, [], 0, lx, out, some vw⟩
def rS : Br := (bytes (connect (new dflt) 1).1 1 (helloB [97])).1
def rB (l : List UInt8) (sp : Sp.T) (c : Cn) : Br := ⟨dflt, l, Fl.join (Fl.new 100) 1 2, ⟨[], Oq.clampSize 256, false, 0⟩, [(1, c)], 3, false, 0, 0, sp⟩
theorem roomN_dflt : Rg.roomN dflt.log = 4096 := by decide +kernel
section
variable {l out : List UInt8} {sp : Sp.T} {a b : Nat} {lx : Lx}
theorem rS_is : rS = rB [] ⟨0, 0, 0⟩ (cR rOut (0, 0) lx0) := by kernel_rfl
theorem get_rB (c : Cn) : get (rB l sp c) 1 = some c := rfl
theorem set_rB (c c' : Cn) : set (rB l sp c) 1 c' = rB l sp c' := rfl
theorem turned_rB (c : Cn) : turned (rB l sp c) = rB l sp c := by kernel_rfl
theorem open_rB : openS (rB l sp (cR out (a, b) lx)) 1 = true := rfl
theorem pump_rB : pump (rB l sp (cR out (a, b) lx)) = pumpN 1 (l.length + 2) (rB l sp (cR out (a, b) lx)) := by
  unfold pump runAll
  show List.foldl (fun s id => if openS s id = true then pumpN id (s.log.length + 2) s else s) (rB l sp (cR out (a, b) lx)) [1] = _
  rw [List.foldl_cons, List.foldl_nil, if_pos open_rB]
  rfl
theorem output_rB (c : Cn) : output (rB [] sp c) l = (settle (rB l (Sp.put dflt.width.toNat sp l) c), 0) := rfl
theorem sweep_rB : sweep (rB l sp (cR out (a, b) lx)) = rB l sp (cR out (a, b) lx) := by kernel_rfl
def pieceD (l : List UInt8) (a : Nat) : List UInt8 := if l.drop a = [] then [] else mb ⟨6, (a : Int), 0, l.drop a⟩
theorem room_rB (ho : out.length ≤ 500) (c : Cn) (hc : c.out = out) : Vw.roomOf ((rB l sp c).cf.queue - c.out.length - 200) (rB l sp c).cf.data = 512 := by
  have h1 : (rB l sp c).cf.queue = 2048 := rfl
  have h2 : (rB l sp c).cf.data = 512 := rfl
  rw [h1, h2, hc]
  unfold Vw.roomOf mn mx
  repeat' split
  all_goals omega
theorem settle_rB (hl : l.length ≤ 500) (ho : out.length ≤ 500) (ha : a ≤ l.length) : settle (rB l sp (cR out (a, b) lx)) = rB l sp (cR (out ++ pieceD l a) (l.length, b) lx) := by
  have hr := room_rB (l := l) (sp := sp) ho (cR out (a, b) lx) rfl
  have h1 : (rB l sp (cR out (a, b) lx)).log = l := rfl
  have h2 : Rg.roomN (rB l sp (cR out (a, b) lx)).cf.log = 4096 := roomN_dflt
  have h3 : (rB l sp (cR out (a, b) lx)).cf.queue = 2048 := rfl
  unfold settle
  rw [turned_rB, pump_rB, pump_whole (a := a) (b := b) l.length (get_rB _) rfl rfl (by rw [h1]; exact ha) (by rw [h1]; omega) (by rw [h1, h2]; omega) (by rw [hr, h1, List.length_drop]; omega) (by rw [hr, h3]; exact ⟨by omega, by omega, by show (out.length : Int) + 11 + 512 ≤ 2048; omega⟩)]
  rw [set_rB, h1]
  show sweep (turned (rB l sp (cR (out ++ pieceD l a) (l.length, b) lx))) = _
  rw [turned_rB, sweep_rB]
theorem write_rB (hl : l.length ≤ 500) (ho : out.length ≤ 2000) (ha : a = l.length) : write (rB l sp (cR out (a, b) lx)) 1 5000 = (rB l sp (cR [] (l.length, b) lx), out, 0) := by
  have hk : Oq.takeN 5000 out.length = out.length := by unfold Oq.takeN mn mx; (repeat' split) <;> omega
  unfold write
  rw [get_rB]
  simp only
  show (settle (set (rB l sp (cR out (a, b) lx)) 1 (cOut (cR out (a, b) lx) (out.drop (Oq.takeN 5000 out.length)))), out.take (Oq.takeN 5000 out.length), 0) = _
  rw [hk, List.drop_length, List.take_length, set_rB]
  show (settle (rB l sp (cR [] (a, b) lx)), out, 0) = _
  rw [settle_rB hl (by simp) (by omega)]
  have : pieceD l a = [] := by unfold pieceD; rw [ha, List.drop_length]; rfl
  rw [this]
  rfl
end
def rText (n : Nat) : List UInt8 := [114, 101, 112, 108, 97, 121, 32] ++ Lib.itoa (n : Int)
def rLine (n : Nat) : List UInt8 := [29, 58] ++ rText n ++ [10]
def rChk (n : Nat) : Bool :=
  let r := lxAll lx0 (rLine n)
  r.1.st == 0 && decide (r.1.tx = rText n) && !r.1.lg && r.2.1.isEmpty && decide (r.2.2 = [rText n]) && decide (Or.parse (rText n) = (10, (n : Int), 0)) && decide ((rText n).length ≤ 20)
theorem rChk_all : ∀ n < 512, rChk n = true := by decide +kernel
theorem rChk_is {n : Nat} (h : n < 512) : lxAll lx0 (rLine n) = (⟨0, rText n, false⟩, [], [rText n]) ∧ Or.parse (rText n) = (10, (n : Int), 0) ∧ (rText n).length ≤ 20 := by
  have h1 := rChk_all n h
  unfold rChk at h1
  simp only [Bool.and_eq_true, decide_eq_true_eq, List.isEmpty_iff, Bool.not_eq_true', beq_iff_eq] at h1
  obtain ⟨⟨⟨⟨⟨⟨a1, a2⟩, a3⟩, a4⟩, a5⟩, a6⟩, a7⟩ := h1
  refine ⟨?_, a6, a7⟩
  generalize lxAll lx0 (rLine n) = r at a1 a2 a3 a4 a5 ⊢
  obtain ⟨⟨s, t, g⟩, k, ls⟩ := r
  simp only at a1 a2 a3 a4 a5
  subst a1 a2 a3 a4 a5
  rfl
theorem right_keys {q : Int} {t : List UInt8} (hq : 0 ≤ q ∧ q ≤ 1099511627776) (ht : t.length ≤ 1000) : rightM ⟨2, q, 0, t⟩ = true := by
  unfold rightM Mg.right
  simp only [Bool.and_eq_true, decide_eq_true_eq]
  have hm : Mg.most 2 = 2042 := by decide
  exact ⟨by decide, by simp only [hm]; omega, by omega, by omega, by omega, by omega, Bool.or_eq_true_iff.2 (.inl (show decide (0 < Mg.nums 2) = true from (by decide : decide (0 < Mg.nums 2) = true))), Bool.or_eq_true_iff.2 (.inr rfl)⟩
theorem does_replay (l : List UInt8) (sp : Sp.T) (n : Int) (lx : Lx) (a : Nat) : does (rB l sp (cR [] (a, 0) lx)) 1 10 n = (rB l sp (cR [] (Vw.startN l 4096 n false, 0) lx), true) := by kernel_rfl
theorem rOut_len : rOut.length = 33 := by decide +kernel
theorem pieceD_len {l : List UInt8} (hl : l.length ≤ 500) (a : Nat) : (pieceD l a).length ≤ 11 + l.length := by
  unfold pieceD
  split
  · simp
  · rename_i h
    have hd : (l.drop a).length = l.length - a := List.length_drop
    have h0 : 0 < (l.drop a).length := List.length_pos_iff.2 h
    rw [(mbdata_len a (l.drop a) (by omega) (by omega)).2]; omega
theorem startN_replay (l : List UInt8) (hl : l.length ≤ 400) (n : Nat) : Vw.startN l 4096 (n : Int) false = l.length - min n l.length := by
  unfold Vw.startN
  rw [if_neg (by decide)]
  unfold Vw.startA mx
  (repeat' split) <;> omega
theorem typed_rB (l : List UInt8) (sp : Sp.T) (n : Nat) (hn : n < 512) : typed (rB l sp (cR [] (l.length, 0) lx0)) 1 ⟨2, 1, 0, rLine n⟩ = rB l sp (cR [] (Vw.startN l 4096 n false, 0) ⟨0, rText n, false⟩) := by
  obtain ⟨hx, hpa, htl⟩ := rChk_is hn
  rw [typed_cmd (get_rB _) rfl hx hpa]
  have hset : set (rB l sp (cR [] (l.length, 0) lx0)) 1 { cR [] (l.length, 0) lx0 with lx := ⟨0, rText n, false⟩ } = rB l sp (cR [] (l.length, 0) ⟨0, rText n, false⟩) := set_rB _ _
  rw [hset, does_replay, if_pos rfl, turned_rB]
theorem rbytes_is (l : List UInt8) (sp : Sp.T) (n : Nat) (hn : n < 512) : (bytes (rB l sp (cR [] (l.length, 0) lx0)) 1 (typedB 1 (rLine n))).1 = settle (rB l sp (cR [] (Vw.startN l 4096 n false, 0) ⟨0, rText n, false⟩)) := by
  obtain ⟨hx, hpa, htl⟩ := rChk_is hn
  have hll : (rLine n).length ≤ 23 := by unfold rLine; simp only [List.length_append, List.length_cons, List.length_nil]; omega
  unfold typedB
  rw [bytes_mb (get_rB _) (show (1 : Int) ≠ 2 by decide) rfl rfl (right_keys (by omega) (by omega))]
  have hs : set (rB l sp (cR [] (l.length, 0) lx0)) 1 { cR [] (l.length, 0) lx0 with idle := 0 } = rB l sp (cR [] (l.length, 0) lx0) := set_rB _ _
  rw [hs, recv_typed (get_rB _) (show (1 : Int) ≠ 0 by decide) rfl, typed_rB l sp n hn, turned_rB]
theorem rOut_one (l : List UInt8) (hl : l.length ≤ 400) (sp : Sp.T) : settle (rB l sp (cR rOut (0, 0) lx0)) = rB l sp (cR (rOut ++ pieceD l 0) (l.length, 0) lx0) := settle_rB (by omega) (by rw [rOut_len]; omega) (Nat.zero_le _)
theorem rOut_two (l : List UInt8) (hl : l.length ≤ 400) (sp : Sp.T) : write (rB l sp (cR (rOut ++ pieceD l 0) (l.length, 0) lx0)) 1 5000 = (rB l sp (cR [] (l.length, 0) lx0), rOut ++ pieceD l 0, 0) := by
  have hp0 := pieceD_len (l := l) (by omega) 0
  exact write_rB (by omega) (by rw [List.length_append, rOut_len]; omega) rfl
theorem fst_is {α β : Type} {p : α × β} {a : α} {b : β} (h : p = (a, b)) : p.1 = a := by rw [h]
theorem rEnd_0 (l : List UInt8) : (output rS l).1 = settle (rB l (Sp.put dflt.width.toNat ⟨0, 0, 0⟩ l) (cR rOut (0, 0) lx0)) := fst_is (by rw [rS_is]; exact output_rB _)
theorem replay_plain (l : List UInt8) (hl : l.length ≤ 400) (n : Nat) (hn : n < 512) {s3 s4 s5 : Br} (h3 : s3 = (output rS l).1) (h4 : s4 = (write s3 1 5000).1) (h5 : s5 = (bytes s4 1 (typedB 1 (rLine n))).1) : msgs (write s5 1 5000).2.1 = (if min n l.length = 0 then [] else [⟨6, ((l.length - min n l.length : Nat) : Int), 0, l.drop (l.length - min n l.length)⟩], true) := by
  have hst := startN_replay l hl n
  have hpl := pieceD_len (l := l) (by omega) (l.length - min n l.length)
  rw [rEnd_0 l, rOut_one l hl] at h3
  rw [h3, fst_is (rOut_two l hl _)] at h4
  rw [h4, rbytes_is l _ n hn, hst, settle_rB (by omega) (by simp) (by omega), List.nil_append] at h5
  rw [h5, write_rB (by omega) (by omega) rfl]
  dsimp only
  unfold pieceD
  by_cases h0 : min n l.length = 0
  · rw [if_pos h0, if_pos (by rw [h0, Nat.sub_zero, List.drop_length]), msgs_nil]
  · rw [if_neg h0, if_neg (by intro h; have := congrArg List.length h; rw [List.length_drop] at this; simp at this; omega), msgs_one (mbdata_len _ _ (by omega) (by rw [List.length_drop]; omega)).1]
end Go.Proofs.YteepkanbiefpjaaGreatDoor.Bk
set_option linter.unusedVariables false
set_option linter.unusedSimpArgs false
namespace Go.Proofs.YteepkanbiefpjaaGreatDoor.Bk
open Go.RowKit K
open MgRow (M mC Ms)
theorem rd_at {w : World} {A : Option Addr} {n : Nat} {l : List UInt8} (h : Rd w A n l) (hn : 0 < n) : ∀ ad, A = some ad → ad.block < w.heap.size := by
  intro ad e
  obtain ⟨ad', e', hc⟩ := h.at 0 hn
  rw [e] at e'
  cases e'
  have := World.block_lt_of_cell? w _ hc
  rwa [add_block] at this
set_option maxHeartbeats 16000000 in
set_option maxRecDepth 100000 in
theorem replay_law (w : World) (henv : Or.Env w) (A : Option Addr) (n cp : Nat) (l : List UInt8) (hrd : K.Rd w A n l) (hnc : n ≤ cp) (hcm : cp ≤ maxLen) (back : Int) (wb : (Lit.int .i64 back).wf = true) : Calls Tryz.prog 9 #[.slice A n cp, .int .i64 back] w fun e w' => e = .returned (.bool true) ∧ Upd (fun _ => False) w w' := by
  have HENV := Asd.mk henv
  have HHE := Asd.mk (fun w h => head_calls w h)
  have hln := hrd.len
  by_cases h400 : 400 < n
  · clear hrd hln
    go_enter Tryz.func9, Tryz.ntmps9
    go_wp2_with fail
    refine (HHE.out w HENV.out).mono ?_
    rintro e w1 ⟨rfl, hu1⟩
    have HU1 := Asd.mk hu1
    clear hu1
    go_wp2
    go_ret
    exact ⟨rfl, HU1.out⟩
  obtain ⟨k, hk, hb0⟩ := and_le back 511 (by omega)
  have hand : Go.bits .and .i64 back 511 = (k : Int) := hb0
  obtain ⟨m, hm⟩ : ∃ m, m = min k n := ⟨_, rfl⟩
  have hmn : m ≤ n := by omega
  obtain ⟨d, hd⟩ : ∃ d, d = n - m := ⟨_, rfl⟩
  have hdn : d ≤ n := by omega
  have hdi : (n : Int) - (m : Int) = (d : Int) := by omega
  obtain ⟨s0, hs0⟩ : ∃ s0, s0 = new dflt := ⟨_, rfl⟩
  obtain ⟨s1, hs1⟩ : ∃ s1, s1 = (connect s0 1).1 := ⟨_, rfl⟩
  obtain ⟨s2, hs2⟩ : ∃ s2, s2 = (bytes s1 1 (helloB [97])).1 := ⟨_, rfl⟩
  obtain ⟨s3, hs3⟩ : ∃ s3, s3 = (output s2 l).1 := ⟨_, rfl⟩
  obtain ⟨s4, hs4⟩ : ∃ s4, s4 = (write s3 1 5000).1 := ⟨_, rfl⟩
  obtain ⟨s5, hs5⟩ : ∃ s5, s5 = (bytes s4 1 (typedB 1 (rLine k))).1 := ⟨_, rfl⟩
  obtain ⟨s6, hs6⟩ : ∃ s6, s6 = (write s5 1 5000).1 := ⟨_, rfl⟩
  obtain ⟨tx, htx⟩ : ∃ tx, tx = (write s5 1 5000).2.1 := ⟨_, rfl⟩
  have h2r : s2 = rS := by unfold rS; rw [hs2, hs1, hs0]
  have hpl := replay_plain l (by omega) k (by omega) (by rw [← h2r]; exact hs3) hs4 hs5
  rw [hln, ← hm, ← hd, ← htx] at hpl
  have a1 := helloB_len [97]
  have a2 := typedB_len 1 (rLine k)
  have HG0 : Asd (Gd 0 s0) := ⟨by rw [hs0]; exact Gd.new _ dflt_ok⟩
  have HG1 : Asd (Gd 0 s1) := ⟨by rw [hs1]; exact HG0.out.connect _⟩
  have HG2 : Asd (Gd 10000 s2) := ⟨by rw [hs2]; exact (HG1.out.bytes _ _).mono (by omega)⟩
  have HG3 : Asd (Gd 20000 s3) := ⟨by rw [hs3]; exact (HG2.out.output _).mono (by omega)⟩
  have HG4 : Asd (Gd 20000 s4) := ⟨by rw [hs4]; exact HG3.out.write _ _⟩
  have HG5 : Asd (Gd 30000 s5) := ⟨by rw [hs5]; exact (HG4.out.bytes _ _).mono (by omega)⟩
  have HLN := Asd.mk hln
  have HPL := Asd.mk hpl
  have HRD := Asd.mk hrd
  have HTH := Asd.mk (fun w => helloN_calls [97] w)
  have HTD := Asd.mk (fun w => typedN_calls 1 (rLine k) w)
  have HA1 := Asd.mk a1
  have HA2 := Asd.mk a2
  obtain ⟨uT, huT⟩ : ∃ u, u = [29, 58] ++ rText k := ⟨_, rfl⟩
  have htl := (rChk_is (show k < 512 by omega)).2.2
  have hit : Asd (∀ w2, Or.Env w2 → Calls Tryz.prog 35 #[.int .i64 (k : Int)] w2 (fun e w' => e = .returned (.string (S (Lib.itoa (k : Int)))) ∧ Upd (fun _ => False) w2 w')) := ⟨fun w2 h => itoa_env h (k : Int) (by omega) (by omega)⟩
  have e1 : ({ data := #[29, 58, 114, 101, 112, 108, 97, 121, 32] } : ByteArray) ++ S (Lib.itoa (k : Int)) = S uT := by
    rw [show ({ data := #[29, 58, 114, 101, 112, 108, 97, 121, 32] } : ByteArray) = S [29, 58, 114, 101, 112, 108, 97, 121, 32] from rfl, S_append, huT]; rfl
  have e2 : S uT ++ ({ data := #[10] } : ByteArray) = S (rLine k) := by
    rw [show ({ data := #[10] } : ByteArray) = S [10] from rfl, S_append, huT]; rfl
  have hul : uT.length ≤ 22 := by rw [huT]; simp only [List.length_append, List.length_cons, List.length_nil]; omega
  have hil : (Lib.itoa (k : Int)).length ≤ 20 := by unfold rText at htl; simp only [List.length_append, List.length_cons, List.length_nil] at htl; omega
  have n1 : ¬ 9223372036854775807 < 9 + (Lib.itoa (k : Int)).length := by omega
  have n2 : ¬ 9223372036854775807 < uT.length + 1 := by omega
  obtain ⟨tK, htK⟩ : ∃ t, t = Lib.itoa (k : Int) := ⟨_, rfl⟩
  rw [← htK] at hit e1 n1
  obtain ⟨tD, htD⟩ : ∃ t, t = rLine k := ⟨_, rfl⟩
  rw [← htD] at e2 HTD HA2 hs5
  obtain ⟨bD, hbD⟩ : ∃ b, b = typedB 1 tD := ⟨_, rfl⟩
  rw [← hbD] at HTD HA2 hs5
  obtain ⟨bH, hbH⟩ : ∃ b, b = helloB [97] := ⟨_, rfl⟩
  rw [← hbH] at HTH HA1 hs2
  have HS0 := Asd.mk hs0
  have HS1 := Asd.mk hs1
  have HS2 := Asd.mk hs2
  have HS3 := Asd.mk hs3
  have HS4 := Asd.mk hs4
  have HS5 := Asd.mk hs5
  have HS6 := Asd.mk hs6
  have HTX := Asd.mk htx
  have HDF := Asd.mk (fun w => default_calls w)
  unfold cfV dflt at HDF
  have hmin : mn (k : Int) (n : Int) = (m : Int) := by unfold mn; split <;> omega
  clear hb0 hk wb henv hs0 hs1 hs2 hs3 hs4 hs5 hs6 htx h2r hbH hbD htD htK huT hul hil htl hpl hrd a1 a2 hln hd hm
  go_enter Tryz.func9, Tryz.ntmps9
  go_wp2_with fail
  refine (HHE.out w HENV.out).mono ?_
  rintro e w1 ⟨rfl, hu1⟩
  have HU1 := Asd.mk hu1
  clear hu1
  go_wp2_with fail
  refine (HDF.out w1).mono ?_
  rintro e w2 ⟨rfl, hu2⟩
  have HU2 := Asd.mk (HU1.out.trans hu2 (fun _ _ h => h))
  clear hu2 HU1
  go_wp2_with fail
  refine (scnew_calls HU2.out (env_upd HENV.out HU2.out (fun _ h => h.elim)) dflt dflt_ok).mono ?_
  rw [← HS0.out]
  rintro e v0 ⟨q, F0, rfl, h0, hl0, hu0⟩
  have H0 := Asd.mk h0
  clear h0 hl0 hu0 HU2
  go_wp2_with fail
  refine (H0.out.connect HG0.out 1 (by omega)).mono ?_
  rw [← HS1.out]
  rintro e v1 ⟨rfl, F1, h1, t1⟩
  have H1 := Asd.mk h1
  clear h1 t1
  go_wp2_with fail
  refine (HTH.out v1).mono ?_
  rintro e v2 ⟨A2, c2, G2, rfl, ho, hg, hl, hm, hu⟩
  have H2 := Asd.mk (H1.out.upd hu)
  have P2 := Asd.mk (H1.out.fresh ho hg)
  clear ho hg hl hm hu
  go_wp2_with fail
  refine (H2.out.bytes HG1.out (by omega) 1 (by omega) A2 c2 (bH) P2.out.rd P2.out.ad (by have := HA1.out; omega)).mono ?_
  rw [← HS2.out]
  rintro e v3 ⟨rfl, F3, h3, t3⟩
  have H3 := Asd.mk h3
  clear h3 t3 P2
  have HR3 := Asd.mk (HRD.out.up H3.out.up)
  have HO3 := Asd.mk (H3.out.output0 HG2.out (by omega) A cp l (by rw [HLN.out]; exact HR3.out) (fun ad e hp hf => by have h1 := rd_at HRD.out (by rw [← HLN.out]; exact hp) ad e; have h2 := H3.out.lo _ hf; omega) (by have := HLN.out; omega))
  rw [HLN.out, ← HS3.out] at HO3
  generalize (output s2 l).2 = zo at HO3
  go_wp2_with fail
  refine (HO3.out).mono ?_
  rintro e v4 ⟨rfl, F4, h4, t4⟩
  have H4 := Asd.mk h4
  clear h4 t4 HO3 HR3
  go_wp2_with fail
  refine (H4.out.write HG3.out (by omega) 1 5000 (by omega)).mono ?_
  unfold ScG
  rw [← HS4.out]
  rintro e v5 ⟨A5, c5, rfl, F5, h5, t5, p5⟩
  have H5 := Asd.mk h5
  have P5 := Asd.mk p5
  have T5 := Asd.mk t5
  clear h5 t5 p5
  go_wp2_with fail
  refine (hit.out _ H5.out.env).mono ?_
  rintro e v6 ⟨rfl, hu⟩
  have H6 := Asd.mk (H5.out.upd hu)
  clear hu
  go_wp2_with fail
  refine (HTD.out v6).mono ?_
  rintro e v7 ⟨A7, c7, G7, rfl, ho, hg, hl, hm, hu⟩
  have H7 := Asd.mk (H6.out.upd hu)
  have P7 := Asd.mk (H6.out.fresh ho hg)
  clear ho hg hl hm hu
  go_wp2_with fail
  refine (H7.out.bytes HG4.out (by omega) 1 (by omega) A7 c7 (bD) P7.out.rd P7.out.ad (by have := HA2.out; omega)).mono ?_
  rw [← HS5.out]
  rintro e v8 ⟨rfl, F8, h8, t8⟩
  have H8 := Asd.mk h8
  clear h8 t8 P7
  have HFW := H8.out.few HG5.out
  have HWL : Asd (tx.length ≤ 65536) := ⟨by rw [HTX.out]; exact write_len s5 1 5000 HG5.out (fun c hg => HFW 1 c hg)⟩
  clear HFW
  go_wp2_with fail
  refine (H8.out.write HG5.out (by omega) 1 5000 (by omega)).mono ?_
  unfold ScG
  rw [← HS6.out, ← HTX.out]
  rintro e v9 ⟨A9, c9, rfl, F9, h9, t9, p9⟩
  have H9 := Asd.mk h9
  have P9 := Asd.mk p9
  have T9 := Asd.mk t9
  clear h9 t9 p9
  obtain ⟨L, hL⟩ : ∃ L : List M, L = (if m = 0 then [] else [⟨6, (d : Int), 0, l.drop d⟩]) := ⟨_, rfl⟩
  have HLL := Asd.mk hL
  have HMS : Asd (msgs tx = (L, true)) := ⟨by rw [hL]; exact HPL.out⟩
  clear hL
  go_wp2_with fail
  refine (messages_calls A9 tx.length c9 tx v9 P9.out.rd P9.out.le.1 (by have := HWL.out; omega)).mono ?_
  rw [HMS.out]
  rintro e v10 ⟨A10, c10, G10, rfl, ho, hg, hu, hl⟩
  have H10 := Asd.mk (H9.out.upd hu)
  have HO := Asd.mk ho
  clear ho hg hu hl
  by_cases h0 : m = 0
  · have hLe : L = [] := by rw [HLL.out, if_pos h0]
    subst hLe
    subst h0
    simp only [List.length_nil]
    go_wp2
    go_ret
    exact ⟨rfl, H10.out.up⟩
  · have hLe : L = [⟨6, (d : Int), 0, l.drop d⟩] := by rw [HLL.out, if_neg h0]
    subst hLe
    simp only [List.length_singleton]
    obtain ⟨ad, rfl, hG, z0, z1, z2, z3⟩ := one_msg HO.out
    have d0 : ∀ W, Upd (fun _ => False) v10 W → W.cell? ad = some (.int .i64 6) := fun W k => k.cell z0 (fun h => h)
    have d1 : ∀ W, Upd (fun _ => False) v10 W → W.cell? ⟨ad.block, ad.off + 1, none⟩ = some (.int .i64 (d : Int)) := fun W k => k.cell z1 (fun h => h)
    have d2 : ∀ W, Upd (fun _ => False) v10 W → W.cell? ⟨ad.block, ad.off + 2, none⟩ = some (.int .i64 0) := fun W k => k.cell z2 (fun h => h)
    have d3 : ∀ W, Upd (fun _ => False) v10 W → W.cell? ⟨ad.block, ad.off + 3, none⟩ = some (.string (S (l.drop d))) := fun W k => k.cell z3 (fun h => h)
    obtain ⟨A6, hcut, _, hrd6, _⟩ := cut_from' (P := Tryz.prog) 31 5 .i64 (sz := 1) Tryz.underlying31 (by kernel_rfl) A n cp d (d : Int) rfl hdn hnc
    have hst : ∀ W, Upd (fun _ => False) v10 W → (convert 31 9 (.slice A6 (n - d) (cp - d))).run Tryz.prog W = .ok (.string (S (l.drop d))) W := fun W k => run_str (P := Tryz.prog) (c := cp - d) Tryz.underlying31 Tryz.underlying5 Tryz.underlying9 (hrd6 rfl W l (HRD.out.up (H10.out.up.trans k (fun _ _ h => h))))
    have hwd := And.intro (show IntKind.i64.wrap (d : Int) = (d : Int) from w64i _ (by omega) (by omega)) (show wrap64 ((n : Int) - (m : Int)) = (d : Int) by unfold wrap64; omega)
    clear z0 z1 z2 z3 hG hrd6
    go_upto_region 19 with fail
    refine wp_region_held_drew (S := fun W => Upd (fun _ => False) v10 W) (by kernel_rfl) (by exact (by repeat (first | assumption | with_reducible exact Upd.refl _ _ | with_reducible refine Upd.drewN ?_ _ | with_reducible refine Upd.drew ?_ | with_reducible refine Upd.alloc ?_ _ | with_reducible refine Upd.setAt ?_ ?_ | exact Or.inl rfl | exact Or.inr (by simp) | exact Or.inr (by omega)))) (fun hHeld => ?_)
    refine tk_ 0 ?_
    try simp only [Act.put, sl1_, sl2_, sl3_]
    refine tk_ 1 ?_
    try simp only [Act.put, sl1_, sl2_, sl3_]
    refine tk_ 2 ?_
    try simp only [Act.put, sl1_, sl2_, sl3_]
    refine tk_ 3 ?_
    try simp only [Act.put, sl1_, sl2_, sl3_]
    refine tk_ 4 ?_
    try simp only [Act.put, sl1_, sl2_, sl3_]
    refine tk_ 5 ?_
    try simp only [Act.put, sl1_, sl2_, sl3_]
    refine tk_ 6 ?_
    try simp only [Act.put, sl1_, sl2_, sl3_]
    refine tk_ 7 ?_
    try simp only [Act.put, sl1_, sl2_, sl3_]
    refine tk_ 8 ?_
    try simp only [Act.put, sl1_, sl2_, sl3_]
    refine tk_ 9 ?_
    try simp only [Act.put, sl1_, sl2_, sl3_]
    refine tk_ 10 ?_
    try simp only [Act.put, sl1_, sl2_, sl3_]
    refine tk_ 11 ?_
    try simp only [Act.put, sl1_, sl2_, sl3_]
    refine tk_ 12 ?_
    try simp only [Act.put, sl1_, sl2_, sl3_]
    refine tk_ 13 ?_
    try simp only [Act.put, sl1_, sl2_, sl3_]
    refine tk_ 14 ?_
    try simp only [Act.put, sl1_, sl2_, sl3_]
    refine tk_ 15 ?_
    try simp only [Act.put, sl1_, sl2_, sl3_]
    refine tk_ 16 ?_
    try simp only [Act.put, sl1_, sl2_, sl3_]
    refine tk_ 17 ?_
    try simp only [Act.put, sl1_, sl2_, sl3_]
    refine tk_ 18 ?_
    try simp only [Act.put, sl1_, sl2_, sl3_]
    refine tk_ 19 ?_
    try simp only [Act.put, sl1_, sl2_, sl3_]
    refine tk_ 20 ?_
    try simp only [Act.put, sl1_, sl2_, sl3_]
    refine tk_ 21 ?_
    try simp only [Act.put, sl1_, sl2_, sl3_]
    refine tk_ 22 ?_
    try simp only [Act.put, sl1_, sl2_, sl3_]
    refine tk_ 23 ?_
    try simp only [Act.put, sl1_, sl2_, sl3_]
    refine tk_ 24 ?_
    try simp only [Act.put, sl1_, sl2_, sl3_]
    refine wpAnyH_done (by kernel_rfl) ?_ _
    go_wp2
    go_ret
    exact ⟨rfl, H10.out.up.trans hHeld (fun _ _ h => h)⟩
end Go.Proofs.YteepkanbiefpjaaGreatDoor.Bk
