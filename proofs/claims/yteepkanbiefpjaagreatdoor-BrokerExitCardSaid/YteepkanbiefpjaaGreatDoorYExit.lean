/- What these laws lean on, part YExit: contracts of the given program's functions and plain lists. No condition. -/
import Derived.Test.YteepkanbiefpjaaGreatDoorVp
import Derived.Test.YteepkanbiefpjaaGreatDoorVa
set_option linter.unusedVariables false
set_option linter.unusedSimpArgs false
namespace Go.Proofs.YteepkanbiefpjaaGreatDoor.Bk
open Go.RowKit K
open MgRow (M mC Ms)
theorem fst_eq {α β : Type} {p : α × β} {a : α} {b : β} (h : p = (a, b)) : p.1 = a := by rw [h]
theorem snd_eq {α β : Type} {p : α × β} {a : α} {b : β} (h : p = (a, b)) : p.2 = b := by rw [h]
def tE : Fl.T := Fl.ask (Fl.join (Fl.new 100) 1 2) 1
def tE2 : Fl.T := Fl.join tE 2 0
def iE (b : List UInt8) (e : Bool) : Iq.QS := ⟨b, Oq.clampSize 256, e, 2⟩
def eB (l : List UInt8) (sp : Sp.T) (t : Fl.T) (i : Iq.QS) (e : Bool) (code : Int) (cs : List (Int × Cn)) : Br := ⟨dflt, l, t, i, cs, 3, e, code, 1, sp⟩
def cE (out : List UInt8) (vw : Nat × Nat) (lx : Lx) : Cn := ⟨1, [97], 0, [], 0, lx, out, some vw⟩
def cE2 (out : List UInt8) (vw : Nat × Nat) : Cn := ⟨1, [98], 0, [], 0, ⟨0, [], false⟩, out, some vw⟩
def ownT : List UInt8 := [111, 119, 110, 101, 114]
def eOut : List UInt8 := mb ⟨5, 1, 0, ownT⟩ ++ mb ⟨9, 0, 0, []⟩ ++ mb ⟨9, 1, 0, []⟩
def lxF : Lx := ⟨0, [102, 108, 111, 111, 114], false⟩
theorem eX_is : (bytes (bytes (bytes (connect (new dflt) 1).1 1 (helloB [97])).1 1 (typedB 1 cFloor)).1 1 (typedB 2 [108, 115])).1 = eB [] ⟨0, 0, 0⟩ tE (iE [108, 115] false) false 0 [(1, cE eOut (0, 0) lxF)] := by kernel_rfl
theorem roomN_d : Rg.roomN dflt.log = 4096 := by decide +kernel
theorem room_d {n : Nat} (hn : n ≤ 1000) : Vw.roomOf (dflt.queue - n - 200) dflt.data = 512 := by
  have h1 : dflt.queue = 2048 := rfl
  have h2 : dflt.data = 512 := rfl
  rw [h1, h2]
  unfold Vw.roomOf mn mx
  repeat' split
  all_goals omega
theorem pieceA_len {l : List UInt8} (hl : l.length ≤ 500) (a : Nat) : (pieceA l a).length ≤ 11 + l.length := by
  unfold pieceA
  split
  · simp
  · rename_i h
    have hd : (l.drop a).length = l.length - a := List.length_drop
    have h0 : 0 < (l.drop a).length := List.length_pos_iff.2 h
    rw [(mbdata_len a (l.drop a) (by omega) (by omega)).2]; omega
section
variable {l : List UInt8} {sp : Sp.T} {t : Fl.T} {i : Iq.QS} {e : Bool} {code : Int}
theorem fits_e {cs : List (Int × Cn)} {c : Cn} {a b : Nat} (hl : l.length ≤ 500) (hv : c.vw = some (a, b)) (ha : a ≤ l.length) (ho : c.out.length ≤ 1000) : Fits (eB l sp t i e code cs) c := by
  have hr := room_d ho
  refine ⟨a, b, hv, ha, ?_, ?_, ?_⟩
  · show l.length - Rg.roomN dflt.log ≤ a
    rw [roomN_d]; omega
  · show (l.drop a).length ≤ (Vw.roomOf (dflt.queue - c.out.length - 200) dflt.data).toNat
    rw [hr, List.length_drop]; omega
  · show 0 ≤ Vw.roomOf (dflt.queue - c.out.length - 200) dflt.data ∧ Vw.roomOf (dflt.queue - c.out.length - 200) dflt.data ≤ 2042 ∧ (c.out.length : Int) + 11 + Vw.roomOf (dflt.queue - c.out.length - 200) dflt.data ≤ 2048
    rw [hr]; omega
theorem get_e1 {c1 : Cn} {id : Int} {c : Cn} (h : get (eB l sp t i e code [(1, c1)]) id = some c) : c = c1 := by
  have := get_mem h
  simp only [eB, List.mem_singleton, Prod.mk.injEq] at this
  exact this.2
theorem get_e2 {c1 c2 : Cn} {id : Int} {c : Cn} (h : get (eB l sp t i e code [(1, c1), (2, c2)]) id = some c) : c = c1 ∨ c = c2 := by
  have := get_mem h
  simp only [eB, List.mem_cons, Prod.mk.injEq, List.not_mem_nil, or_false] at this
  rcases this with h | h
  · exact .inl h.2
  · exact .inr h.2
theorem srt_e1 (c1 : Cn) : (ids (eB l sp t i e code [(1, c1)])).Pairwise (· < ·) := by simp [ids, eB]
theorem srt_e2 (c1 c2 : Cn) : (ids (eB l sp t i e code [(1, c1), (2, c2)])).Pairwise (· < ·) := by simp [ids, eB]
theorem settle_e1 {out : List UInt8} {a b : Nat} {lx : Lx} (hl : l.length ≤ 500) (ht : t.holder = 1) (ha : a ≤ l.length) (ho : out.length ≤ 1000) :
    settle (eB l sp t i e code [(1, cE out (a, b) lx)]) = eB l sp t i e code [(1, cE (out ++ pieceA l a) (l.length, b) lx)] := by
  rw [settle_fits (srt_e1 _) (by show l.length ≤ _; omega) ht (fun id c hg _ => by rw [get_e1 hg]; exact fits_e hl rfl ha ho) (fun p hp => by
    simp only [eB, List.mem_singleton] at hp
    rw [hp]; exact (by decide : (1 : Int) ≠ 2))]
  rfl
theorem settle_e2 {out out2 : List UInt8} {a b a2 b2 : Nat} {lx : Lx} (hl : l.length ≤ 500) (ht : t.holder = 1) (ha : a ≤ l.length) (ho : out.length ≤ 1000) (ha2 : a2 ≤ l.length) (ho2 : out2.length ≤ 1000) :
    settle (eB l sp t i e code [(1, cE out (a, b) lx), (2, cE2 out2 (a2, b2))]) = eB l sp t i e code [(1, cE (out ++ pieceA l a) (l.length, b) lx), (2, cE2 (out2 ++ pieceA l a2) (l.length, b2))] := by
  rw [settle_fits (srt_e2 _ _) (by show l.length ≤ _; omega) ht (fun id c hg _ => by
    rcases get_e2 hg with rfl | rfl
    · exact fits_e hl rfl ha ho
    · exact fits_e hl rfl ha2 ho2) (fun p hp => by
    simp only [eB, List.mem_cons, List.not_mem_nil, or_false] at hp
    rcases hp with rfl | rfl
    · exact (by decide : (1 : Int) ≠ 2)
    · exact (by decide : (1 : Int) ≠ 2))]
  rfl
theorem output_e (cs : List (Int × Cn)) : output (eB [] sp t i false code cs) l = (settle (eB l (Sp.put dflt.width.toNat sp l) t i false code cs), 0) := rfl
theorem output_no (cs : List (Int × Cn)) (k : List UInt8) : output (eB l sp t i true code cs) k = (eB l sp t i true code cs, 3) := rfl
theorem end_arg (cs : List (Int × Cn)) : end_ (eB l sp t i false code cs) 256 = (eB l sp t i false code cs, 1) := rfl
theorem end_no (cs : List (Int × Cn)) (x : Int) : end_ (eB l sp t i true code cs) x = (eB l sp t i true code cs, 3) := rfl
theorem end_go (cs : List (Int × Cn)) {x : Int} (h : 0 ≤ x ∧ x ≤ 255) {b : List UInt8} : end_ (eB l sp t (iE b false) false code cs) x = (settle (tell (eB l sp t (iE [] true) true x cs) ⟨15, x, 0, []⟩), 0) := by
  unfold end_
  have h1 : (eB l sp t (iE b false) false code cs).ended = false := rfl
  rw [if_neg (by rw [h1]; decide), if_neg (by omega)]
  rfl
theorem drain_e (cs : List (Int × Cn)) : drain (eB l sp t (iE [] true) e code cs) 9 = (eB l sp t (iE [] true) e code cs, []) := rfl
end
def exM (x : Int) : M := ⟨15, x, 0, []⟩
theorem right_exit {x : Int} (h : 0 ≤ x ∧ x ≤ 255) : rightM (exM x) = true := by
  unfold exM rightM Mg.right
  simp only [Bool.and_eq_true, decide_eq_true_eq]
  exact ⟨by decide, Nat.zero_le _, by omega, by omega, by omega, by omega, Bool.or_eq_true_iff.2 (.inl (show decide (0 < Mg.nums 15) = true from (by decide : decide (0 < Mg.nums 15) = true))), Bool.or_eq_true_iff.2 (.inr rfl)⟩
theorem exit_len {x : Int} (h : 0 ≤ x ∧ x ≤ 255) : (mb ⟨15, x, 0, []⟩).length = 11 := by
  obtain ⟨k, a', b', hk, _, _, hr2, hm⟩ := rightM_is (right_exit h)
  show (mb (exM x)).length = 11
  rw [hm, Fr.fbytes_length, MgNum.mbody_length, ← hk]
  have h6 : Mg.nums 15 = 1 := by decide
  show 6 * Mg.nums 15 + ([] : List UInt8).length + 5 = 11
  rw [h6]; rfl
def rejM : M := ⟨8, 3, 1, []⟩
def noteM : M := note (joinT 2 [98])
def welM : M := ⟨5, 2, 0, wordOf 0⟩
def floM : M := ⟨9, 1, 0, []⟩
theorem startN_far (l : List UInt8) (hl : l.length ≤ 400) (n : Int) (hn : 400 ≤ n) : Vw.startN l 4096 n false = 0 := by
  unfold Vw.startN
  rw [if_neg (by decide)]
  unfold Vw.startA mx
  (repeat' split) <;> omega
theorem small_len : (mb rejM).length = 17 ∧ (mb noteM).length = 15 ∧ (mb welM).length = 25 ∧ (mb floM).length = 11 ∧ rightM rejM = true ∧ rightM noteM = true ∧ rightM welM = true ∧ rightM floM = true ∧ eOut.length = 44 := by decide +kernel
theorem exit_x (l : List UInt8) (hl : l.length ≤ 300) (x : Int) (hx : 0 ≤ x ∧ x ≤ 255) {s4 s5 s6 s7 s8 s9 sA sB : Br}
    (h4 : s4 = (bytes (bytes (bytes (connect (new dflt) 1).1 1 (helloB [97])).1 1 (typedB 1 cFloor)).1 1 (typedB 2 [108, 115])).1)
    (h5 : s5 = (output s4 l).1) (h6 : s6 = (write s5 1 5000).1) (h7 : s7 = (end_ s6 x).1) (h8 : s8 = (bytes s7 1 (typedB 3 [120])).1) (h9 : s9 = (connect s8 2).1) (hA : sA = (bytes s9 2 (mb ⟨1, 4, 1000, [98]⟩)).1) (hB : sB = (write sA 1 5000).1) :
    (end_ s6 256 = (s6, 1) ∧ end_ s6 x = (s7, 0) ∧ end_ s7 0 = (s7, 3) ∧ output s7 l = (s7, 3) ∧ drain s7 9 = (s7, [])) ∧
    msgs (write sA 1 5000).2.1 = ([exM x, rejM, noteM], true) ∧ msgs (write sB 2 5000).2.1 = (welM :: floM :: exM x :: (if l = [] then [] else [⟨6, 0, 0, l⟩]), true) := by
  obtain ⟨n1, n2, n3, n4, r1, r2, r3, r4, n5⟩ := small_len
  have nx := exit_len hx
  rw [eX_is] at h4
  obtain ⟨sp, hsp⟩ : ∃ sp, sp = Sp.put dflt.width.toNat ⟨0, 0, 0⟩ l := ⟨_, rfl⟩
  have hp0 := pieceA_len (l := l) (by omega) 0
  have hpe : pieceA l l.length = [] := by unfold pieceA; rw [List.drop_length]; rfl
  rw [h4, output_e, ← hsp] at h5
  dsimp only at h5
  rw [settle_e1 (by omega) rfl (Nat.zero_le _) (by omega)] at h5
  have hw6 : write s5 1 5000 = (eB l sp tE (iE [108, 115] false) false 0 [(1, cE [] (l.length, 0) lxF)], eOut ++ pieceA l 0, 0) := by
    rw [h5, write_all (s := eB l sp tE (iE [108, 115] false) false 0 [(1, cE (eOut ++ pieceA l 0) (l.length, 0) lxF)]) (id := 1) (c := cE (eOut ++ pieceA l 0) (l.length, 0) lxF) rfl (by show ((eOut ++ pieceA l 0).length : Int) ≤ 5000; rw [List.length_append]; omega)]
    have : set (eB l sp tE (iE [108, 115] false) false 0 [(1, cE (eOut ++ pieceA l 0) (l.length, 0) lxF)]) 1 (cOut (cE (eOut ++ pieceA l 0) (l.length, 0) lxF) []) = eB l sp tE (iE [108, 115] false) false 0 [(1, cE [] (l.length, 0) lxF)] := rfl
    rw [this, settle_e1 (by omega) rfl (Nat.le_refl _) (by simp), hpe]
    rfl
  rw [fst_eq hw6] at h6
  have he7 : end_ s6 x = (eB l sp tE (iE [] true) true x [(1, cE (mb (exM x)) (l.length, 0) lxF)], 0) := by
    rw [h6, end_go _ hx, tell_fits (srt_e1 _) (fun id c hg _ => by rw [get_e1 hg]; show (([] : List UInt8).length : Int) + (mb ⟨15, x, 0, []⟩).length ≤ 2048; rw [nx]; simp)]
    have : upd1 (sendC (mb ⟨15, x, 0, []⟩)) (fun _ => true) (eB l sp tE (iE [] true) true x [(1, cE [] (l.length, 0) lxF)]) = eB l sp tE (iE [] true) true x [(1, cE (mb (exM x)) (l.length, 0) lxF)] := rfl
    rw [this, settle_e1 (by omega) rfl (Nat.le_refl _) (by show (mb ⟨15, x, 0, []⟩).length ≤ 1000; omega), hpe, List.append_nil]
  rw [fst_eq he7] at h7
  refine ⟨⟨by rw [h6]; rfl, by rw [he7, h7], by rw [h7]; rfl, by rw [h7]; rfl, by rw [h7]; rfl⟩, ?_⟩
  have he8 : s8 = eB l sp tE (iE [] true) true x [(1, cE (mb (exM x) ++ mb rejM) (l.length, 0) lxF)] := by
    rw [h8, h7]
    unfold typedB
    rw [bytes_mb (s := eB l sp tE (iE [] true) true x [(1, cE (mb (exM x)) (l.length, 0) lxF)]) (id := 1) (c := cE (mb (exM x)) (l.length, 0) lxF) rfl (show (1 : Int) ≠ 2 by decide) rfl rfl (by decide +kernel)]
    dsimp only
    have h1 : set (eB l sp tE (iE [] true) true x [(1, cE (mb (exM x)) (l.length, 0) lxF)]) 1 { cE (mb (exM x)) (l.length, 0) lxF with idle := 0 } = eB l sp tE (iE [] true) true x [(1, cE (mb (exM x)) (l.length, 0) lxF)] := rfl
    rw [h1, recv_typed (c := cE (mb (exM x)) (l.length, 0) lxF) rfl (show (1 : Int) ≠ 0 by decide) rfl,
      typed_keys (c := cE (mb (exM x)) (l.length, 0) lxF) (m := ⟨2, 3, 0, [120]⟩) (x := lxF) (k := [120]) (y := 1) rfl (show lxAll lxF [120] = (lxF, [120], []) from rfl) (by decide) rfl (by decide)]
    have h2 : set (eB l sp tE (iE [] true) true x [(1, cE (mb (exM x)) (l.length, 0) lxF)]) 1 { cE (mb (exM x)) (l.length, 0) lxF with lx := lxF } = eB l sp tE (iE [] true) true x [(1, cE (mb (exM x)) (l.length, 0) lxF)] := rfl
    rw [h2, send_fits (c := cE (mb (exM x)) (l.length, 0) lxF) rfl (show (1 : Int) ≠ 2 by decide) (by show ((mb ⟨15, x, 0, []⟩).length : Int) + (mb rejM).length ≤ 2048; omega)]
    have h3 : set (eB l sp tE (iE [] true) true x [(1, cE (mb (exM x)) (l.length, 0) lxF)]) 1 (cOut (cE (mb (exM x)) (l.length, 0) lxF) ((cE (mb (exM x)) (l.length, 0) lxF).out ++ mb ⟨8, 3, 1, []⟩)) = eB l sp tE (iE [] true) true x [(1, cE (mb (exM x) ++ mb rejM) (l.length, 0) lxF)] := rfl
    rw [h3, turned_same rfl, settle_e1 (by omega) rfl (Nat.le_refl _) (by rw [List.length_append]; show (mb ⟨15, x, 0, []⟩).length + _ ≤ 1000; omega), hpe, List.append_nil]
  have he9 : s9 = eB l sp tE (iE [] true) true x [(1, cE (mb (exM x) ++ mb rejM) (l.length, 0) lxF), (2, fresh)] := by
    rw [h9, he8]
    have : connect (eB l sp tE (iE [] true) true x [(1, cE (mb (exM x) ++ mb rejM) (l.length, 0) lxF)]) 2 = (eB l sp tE (iE [] true) true x [(1, cE (mb (exM x) ++ mb rejM) (l.length, 0) lxF), (2, fresh)], 0) := rfl
    exact fst_eq this
  obtain ⟨o1, ho1⟩ : ∃ o1, o1 = mb (exM x) ++ mb rejM ++ mb noteM := ⟨_, rfl⟩
  have hst : Vw.startN l 4096 1000 false = 0 := startN_far l (by omega) 1000 (by omega)
  obtain ⟨o2, ho2⟩ : ∃ o2, o2 = mb welM ++ mb floM ++ mb (exM x) := ⟨_, rfl⟩
  have hl1 : o1.length ≤ 50 := by rw [ho1, List.length_append, List.length_append]; show (mb ⟨15, x, 0, []⟩).length + _ + _ ≤ 50; omega
  have hl2 : o2.length ≤ 50 := by rw [ho2, List.length_append, List.length_append]; show _ + _ + (mb ⟨15, x, 0, []⟩).length ≤ 50; omega
  have heA : sA = eB l sp tE2 (iE [] true) true x [(1, cE o1 (l.length, 0) lxF), (2, cE2 (o2 ++ pieceA l 0) (l.length, 0))] := by
    rw [hA, he9, bytes_mb (s := eB l sp tE (iE [] true) true x [(1, cE (mb (exM x) ++ mb rejM) (l.length, 0) lxF), (2, fresh)]) (id := 2) (c := fresh) rfl (show (0 : Int) ≠ 2 by decide) rfl rfl (by decide +kernel)]
    dsimp only
    have h1 : set (eB l sp tE (iE [] true) true x [(1, cE (mb (exM x) ++ mb rejM) (l.length, 0) lxF), (2, fresh)]) 2 { fresh with idle := 0 } = eB l sp tE (iE [] true) true x [(1, cE (mb (exM x) ++ mb rejM) (l.length, 0) lxF), (2, fresh)] := rfl
    have ht : tell (eB l sp tE (iE [] true) true x [(1, cE (mb (exM x) ++ mb rejM) (l.length, 0) lxF), (2, fresh)]) (note (joinT 2 [98])) = eB l sp tE (iE [] true) true x [(1, cE o1 (l.length, 0) lxF), (2, fresh)] := by
      rw [tell_fits (srt_e2 _ _) (fun id c hg h1 => by
        rcases get_e2 hg with rfl | rfl
        · show ((mb ⟨15, x, 0, []⟩ ++ mb rejM).length : Int) + (mb noteM).length ≤ 2048
          rw [List.length_append]; omega
        · exact absurd h1 (by decide)), ho1]
      rfl
    rw [h1, recv_hello (c := fresh) rfl rfl, hello_is (by decide) (by decide) (c := fresh) (by rw [ht]; rfl), ht]
    have hs0 : Vw.startN (eB l sp tE (iE [] true) true x [(1, cE o1 (l.length, 0) lxF), (2, fresh)]).log (Rg.roomN (eB l sp tE (iE [] true) true x [(1, cE o1 (l.length, 0) lxF), (2, fresh)]).cf.log) 1000 (decide ((4 : Int) / 2 % 2 = 1)) = 0 := by
      show Vw.startN l (Rg.roomN dflt.log) 1000 (decide ((4 : Int) / 2 % 2 = 1)) = 0
      rw [roomN_d, decide_eq_false (by decide)]
      exact hst
    rw [hs0]
    have hd : decide ((4 : Int) % 2 = 1) = false := by decide
    rw [hd]
    have hh : hello2 (eB l sp tE (iE [] true) true x [(1, cE o1 (l.length, 0) lxF), (2, fresh)]) 2 fresh 0 [98] false = eB l sp tE2 (iE [] true) true x [(1, cE o1 (l.length, 0) lxF), (2, cE2 o2 (0, 0))] := by
      have e1 : wTab (set (eB l sp tE (iE [] true) true x [(1, cE o1 (l.length, 0) lxF), (2, fresh)]) 2 { fresh with st := 1, name := [98], vw := some (0, 0) }) (Fl.join tE 2 0) = eB l sp tE2 (iE [] true) true x [(1, cE o1 (l.length, 0) lxF), (2, cE2 [] (0, 0))] := rfl
      have e2 : send (eB l sp tE2 (iE [] true) true x [(1, cE o1 (l.length, 0) lxF), (2, cE2 [] (0, 0))]) 2 welM = eB l sp tE2 (iE [] true) true x [(1, cE o1 (l.length, 0) lxF), (2, cE2 (mb welM) (0, 0))] := by
        rw [send_fits (c := cE2 [] (0, 0)) rfl (show (1 : Int) ≠ 2 by decide) (by show (([] : List UInt8).length : Int) + (mb welM).length ≤ 2048; simp; omega)]
        rfl
      have e3 : send (eB l sp tE2 (iE [] true) true x [(1, cE o1 (l.length, 0) lxF), (2, cE2 (mb welM) (0, 0))]) 2 floM = eB l sp tE2 (iE [] true) true x [(1, cE o1 (l.length, 0) lxF), (2, cE2 (mb welM ++ mb floM) (0, 0))] := by
        rw [send_fits (c := cE2 (mb welM) (0, 0)) rfl (show (1 : Int) ≠ 2 by decide) (by show ((mb welM).length : Int) + (mb floM).length ≤ 2048; omega)]
        rfl
      have e4 : send (eB l sp tE2 (iE [] true) true x [(1, cE o1 (l.length, 0) lxF), (2, cE2 (mb welM ++ mb floM) (0, 0))]) 2 (exM x) = eB l sp tE2 (iE [] true) true x [(1, cE o1 (l.length, 0) lxF), (2, cE2 o2 (0, 0))] := by
        rw [send_fits (c := cE2 (mb welM ++ mb floM) (0, 0)) rfl (show (1 : Int) ≠ 2 by decide) (by show ((mb welM ++ mb floM).length : Int) + (mb ⟨15, x, 0, []⟩).length ≤ 2048; rw [List.length_append]; omega), ho2]
        rfl
      unfold hello2
      simp only
      have er : roleOf (set (eB l sp tE (iE [] true) true x [(1, cE o1 (l.length, 0) lxF), (2, fresh)]) 2 { fresh with st := 1, name := [98], vw := some (0, 0) }) false = 0 := rfl
      rw [er]
      have e1' : wTab (set (eB l sp tE (iE [] true) true x [(1, cE o1 (l.length, 0) lxF), (2, fresh)]) 2 { fresh with st := 1, name := [98], vw := some (0, 0) }) (Fl.join (set (eB l sp tE (iE [] true) true x [(1, cE o1 (l.length, 0) lxF), (2, fresh)]) 2 { fresh with st := 1, name := [98], vw := some (0, 0) }).tab 2 0) = eB l sp tE2 (iE [] true) true x [(1, cE o1 (l.length, 0) lxF), (2, cE2 [] (0, 0))] := e1
      rw [e1']
      have e2' : send (eB l sp tE2 (iE [] true) true x [(1, cE o1 (l.length, 0) lxF), (2, cE2 [] (0, 0))]) 2 ⟨5, 2, ((0 : Nat) : Int), wordOf 0⟩ = eB l sp tE2 (iE [] true) true x [(1, cE o1 (l.length, 0) lxF), (2, cE2 (mb welM) (0, 0))] := e2
      rw [e2']
      have e3' : send (eB l sp tE2 (iE [] true) true x [(1, cE o1 (l.length, 0) lxF), (2, cE2 (mb welM) (0, 0))]) 2 ⟨9, (eB l sp tE2 (iE [] true) true x [(1, cE o1 (l.length, 0) lxF), (2, cE2 (mb welM) (0, 0))]).holder, 0, []⟩ = eB l sp tE2 (iE [] true) true x [(1, cE o1 (l.length, 0) lxF), (2, cE2 (mb welM ++ mb floM) (0, 0))] := e3
      rw [e3']
      have e5 : (eB l sp tE2 (iE [] true) true x [(1, cE o1 (l.length, 0) lxF), (2, cE2 (mb welM ++ mb floM) (0, 0))]).ended = true := rfl
      rw [if_pos e5]
      exact e4
    rw [hh, turned_same rfl, settle_e2 (by omega) rfl (Nat.le_refl _) (by omega) (Nat.zero_le _) (by omega), hpe, List.append_nil]
  have hwB : write sA 1 5000 = (eB l sp tE2 (iE [] true) true x [(1, cE [] (l.length, 0) lxF), (2, cE2 (o2 ++ pieceA l 0) (l.length, 0))], o1, 0) := by
    rw [heA, write_all (c := cE o1 (l.length, 0) lxF) rfl (by show (o1.length : Int) ≤ 5000; omega)]
    have : set (eB l sp tE2 (iE [] true) true x [(1, cE o1 (l.length, 0) lxF), (2, cE2 (o2 ++ pieceA l 0) (l.length, 0))]) 1 (cOut (cE o1 (l.length, 0) lxF) []) = eB l sp tE2 (iE [] true) true x [(1, cE [] (l.length, 0) lxF), (2, cE2 (o2 ++ pieceA l 0) (l.length, 0))] := rfl
    rw [this, settle_e2 (by omega) rfl (Nat.le_refl _) (by simp) (Nat.le_refl _) (by rw [List.length_append]; omega), hpe, List.append_nil, List.append_nil]
    rfl
  have hwC : (write sB 2 5000).2.1 = o2 ++ pieceA l 0 := by
    rw [hB, fst_eq hwB, write_all (c := cE2 (o2 ++ pieceA l 0) (l.length, 0)) rfl (by show ((o2 ++ pieceA l 0).length : Int) ≤ 5000; rw [List.length_append]; omega)]
    rfl
  refine ⟨?_, ?_⟩
  · have : (write sA 1 5000).2.1 = o1 := by rw [hwB]
    rw [this, ho1, List.append_assoc, msgs_mb (right_exit hx), msgs_mb r1, msgs_one r2]
  · rw [hwC, ho2, List.append_assoc, List.append_assoc, msgs_mb r3, msgs_mb r4, msgs_mb (right_exit hx)]
    unfold pieceA
    rw [List.drop_zero]
    by_cases h0 : l = []
    · rw [if_pos h0, if_pos h0, msgs_nil]
    · rw [if_neg h0, if_neg h0, msgs_one (mbdata_len 0 l (by omega) (by omega)).1]
      rfl
end Go.Proofs.YteepkanbiefpjaaGreatDoor.Bk
set_option linter.unusedVariables false
set_option linter.unusedSimpArgs false
namespace Go.Proofs.YteepkanbiefpjaaGreatDoor.Bk
open Go.RowKit K
open MgRow (M mC Ms)
theorem rd_ats {w : World} {A : Option Addr} {n : Nat} {l : List UInt8} (h : Rd w A n l) (hn : 0 < n) : ∀ ad, A = some ad → ad.block < w.heap.size := by
  intro ad e
  obtain ⟨ad', e', hc⟩ := h.at 0 hn
  rw [e] at e'
  cases e'
  have := World.block_lt_of_cell? w _ hc
  rwa [add_block] at this
theorem out_of {w0 w : World} {q : Nat} {s : Br} {F : Nat → Prop} {A : Option Addr} {n : Nat} {l : List UInt8} (H : Sc w0 q s w F) (hr : Rd w0 A n l) : ∀ ad, A = some ad → 0 < l.length → ¬ F ad.block := fun ad e hp hf => by
  have h1 := rd_ats hr (by rw [← hr.len]; exact hp) ad e
  have h2 := H.lo _ hf
  omega
theorem row_at {w w1 : World} (k : Upd (fun _ => False) w w1) {a : Addr} {v : Value} (h : w.cell? a = some v) : ∀ W, Upd (fun _ => False) w1 W → W.cell? a = some v := fun W k2 => (k.trans k2 (fun _ _ h => h)).cell h (fun h => h)
set_option maxHeartbeats 16000000 in
set_option maxRecDepth 100000 in
theorem exit_law (w : World) (henv : Or.Env w) (code : Int) (wc : (Lit.int .i64 code).wf = true) (A : Option Addr) (n cp : Nat) (l : List UInt8) (hrd : K.Rd w A n l) (hnc : n ≤ cp) (hcm : cp ≤ maxLen) : Calls Tryz.prog 11 #[.int .i64 code, .slice A n cp] w fun e w' => e = .returned (.bool true) ∧ Upd (fun _ => False) w w' := by
  have HENV := Asd.mk henv
  have HHE := Asd.mk (fun w h => head_calls w h)
  have hln := hrd.len
  by_cases h300 : 300 < n
  · clear hrd hln
    go_enter Tryz.func11, Tryz.ntmps11
    go_wp2_with fail
    refine (HHE.out w HENV.out).mono ?_
    rintro e w1 ⟨rfl, hu1⟩
    have HU1 := Asd.mk hu1
    clear hu1
    go_wp2
    go_ret
    exact ⟨rfl, HU1.out⟩
  obtain ⟨k, hk, hb0⟩ := and_le code 255 (by omega)
  have hand : Go.bits .and .i64 code 255 = (k : Int) := hb0
  obtain ⟨s0, hs0⟩ : ∃ s, s = new dflt := ⟨_, rfl⟩
  obtain ⟨s1, hs1⟩ : ∃ s, s = (connect s0 1).1 := ⟨_, rfl⟩
  obtain ⟨s2, hs2⟩ : ∃ s, s = (bytes s1 1 (helloB [97])).1 := ⟨_, rfl⟩
  obtain ⟨s3, hs3⟩ : ∃ s, s = (bytes s2 1 (typedB 1 cFloor)).1 := ⟨_, rfl⟩
  obtain ⟨s4, hs4⟩ : ∃ s, s = (bytes s3 1 (typedB 2 [108, 115])).1 := ⟨_, rfl⟩
  obtain ⟨s5, hs5⟩ : ∃ s, s = (output s4 l).1 := ⟨_, rfl⟩
  obtain ⟨s6, hs6⟩ : ∃ s, s = (write s5 1 5000).1 := ⟨_, rfl⟩
  obtain ⟨s7, hs7⟩ : ∃ s, s = (end_ s6 (k : Int)).1 := ⟨_, rfl⟩
  obtain ⟨s8, hs8⟩ : ∃ s, s = (bytes s7 1 (typedB 3 [120])).1 := ⟨_, rfl⟩
  obtain ⟨s9, hs9⟩ : ∃ s, s = (connect s8 2).1 := ⟨_, rfl⟩
  obtain ⟨sA, hsA⟩ : ∃ s, s = (bytes s9 2 (mb ⟨1, 4, 1000, [98]⟩)).1 := ⟨_, rfl⟩
  obtain ⟨sB, hsB⟩ : ∃ s, s = (write sA 1 5000).1 := ⟨_, rfl⟩
  obtain ⟨sC, hsC⟩ : ∃ s, s = (write sB 2 5000).1 := ⟨_, rfl⟩
  obtain ⟨tx, htx⟩ : ∃ b, b = (write sA 1 5000).2.1 := ⟨_, rfl⟩
  obtain ⟨ty, hty⟩ : ∃ b, b = (write sB 2 5000).2.1 := ⟨_, rfl⟩
  have hpl := exit_x l (by omega) (k : Int) (by omega) (by rw [← hs0, ← hs1, ← hs2, ← hs3]; exact hs4) hs5 hs6 hs7 hs8 hs9 hsA hsB
  rw [← htx, ← hty] at hpl
  have a1 := helloB_len [97]
  have a2 := typedB_len 1 cFloor
  have a3 := typedB_len 2 [108, 115]
  have a4 := typedB_len 3 [120]
  have a5 : (mb ⟨1, 4, 1000, [98]⟩).length ≤ 2053 := mb_len _
  have HG0 : Asd (Gd 0 s0) := ⟨by rw [hs0]; exact Gd.new _ dflt_ok⟩
  have HG1 : Asd (Gd 0 s1) := ⟨by rw [hs1]; exact HG0.out.connect _⟩
  have HG2 : Asd (Gd 10000 s2) := ⟨by rw [hs2]; exact (HG1.out.bytes _ _).mono (by omega)⟩
  have HG3 : Asd (Gd 20000 s3) := ⟨by rw [hs3]; exact (HG2.out.bytes _ _).mono (by omega)⟩
  have HG4 : Asd (Gd 30000 s4) := ⟨by rw [hs4]; exact (HG3.out.bytes _ _).mono (by omega)⟩
  have HG5 : Asd (Gd 40000 s5) := ⟨by rw [hs5]; exact (HG4.out.output _).mono (by omega)⟩
  have HG6 : Asd (Gd 40000 s6) := ⟨by rw [hs6]; exact HG5.out.write _ _⟩
  have HG7 : Asd (Gd 40000 s7) := ⟨by rw [hs7]; exact HG6.out.end_ _⟩
  have HG8 : Asd (Gd 50000 s8) := ⟨by rw [hs8]; exact (HG7.out.bytes _ _).mono (by omega)⟩
  have HG9 : Asd (Gd 50000 s9) := ⟨by rw [hs9]; exact HG8.out.connect _⟩
  have HGA : Asd (Gd 60000 sA) := ⟨by rw [hsA]; exact (HG9.out.bytes _ _).mono (by omega)⟩
  have HGB : Asd (Gd 60000 sB) := ⟨by rw [hsB]; exact HGA.out.write _ _⟩
  have HLN := Asd.mk hln
  have HPL := Asd.mk hpl
  have HRD := Asd.mk hrd
  have HTH := Asd.mk (fun w => helloN_calls [97] w)
  have HTF := Asd.mk (fun w => typedN_calls 1 cFloor w)
  have HTL := Asd.mk (fun w => typedN_calls 2 [108, 115] w)
  have HTX := Asd.mk (fun w => typedN_calls 3 [120] w)
  have HTB : Asd (∀ w, Calls Tryz.prog 21 #[.slice none 0 0, .agg #[.int .i64 1, .int .i64 4, .int .i64 1000, .string (S [98])]] w (Fr.PutPost (mb ⟨1, 4, 1000, [98]⟩) w)) := ⟨fun w => by
    have h := mput_new ⟨1, 4, 1000, [98]⟩ w
    unfold Vw.msgV at h
    exact h⟩
  have HA1 := Asd.mk a1
  obtain ⟨bH, hbH⟩ : ∃ b, b = helloB [97] := ⟨_, rfl⟩
  rw [← hbH] at HTH HA1 hs2
  have HA2 := Asd.mk a2
  obtain ⟨bF, hbF⟩ : ∃ b, b = typedB 1 cFloor := ⟨_, rfl⟩
  rw [← hbF] at HTF HA2 hs3
  have HA3 := Asd.mk a3
  obtain ⟨bL, hbL⟩ : ∃ b, b = typedB 2 [108, 115] := ⟨_, rfl⟩
  rw [← hbL] at HTL HA3 hs4
  have HA4 := Asd.mk a4
  obtain ⟨bX, hbX⟩ : ∃ b, b = typedB 3 [120] := ⟨_, rfl⟩
  rw [← hbX] at HTX HA4 hs8
  have HA5 := Asd.mk a5
  obtain ⟨bB, hbB⟩ : ∃ b, b = mb ⟨1, 4, 1000, [98]⟩ := ⟨_, rfl⟩
  rw [← hbB] at HTB HA5 hsA
  have HS0 := Asd.mk hs0
  have HS1 := Asd.mk hs1
  have HS2 := Asd.mk hs2
  have HS3 := Asd.mk hs3
  have HS4 := Asd.mk hs4
  have HS5 := Asd.mk hs5
  have HS6 := Asd.mk hs6
  have HS7 := Asd.mk hs7
  have HS8 := Asd.mk hs8
  have HS9 := Asd.mk hs9
  have HSA := Asd.mk hsA
  have HSB := Asd.mk hsB
  have HSC := Asd.mk hsC
  have HWX := Asd.mk htx
  have HWY := Asd.mk hty
  have HDF := Asd.mk (fun w => default_calls w)
  unfold cfV dflt at HDF
  obtain ⟨rest, hrest⟩ : ∃ r : List M, r = (if l = [] then [] else [⟨6, 0, 0, l⟩]) := ⟨_, rfl⟩
  have HRE := Asd.mk hrest
  have hrl : rest.length ≤ 1 := by rw [hrest]; split <;> simp
  rw [← hrest] at HPL
  clear hb0 wc henv hs0 hs1 hs2 hs3 hs4 hs5 hs6 hs7 hs8 hs9 hsA hsB hsC htx hty hpl hrd a1 a2 a3 a4 a5 hbH hbF hbL hbX hbB hln hrest
  go_enter Tryz.func11, Tryz.ntmps11
  go_wp2_with fail
  refine (HHE.out w HENV.out).mono ?_
  rintro e w1 ⟨rfl, hu1⟩
  have HU1 := Asd.mk hu1
  clear hu1
  go_wp2_with fail
  refine (HDF.out w1).mono ?_
  rintro e w2 ⟨rfl, hu2⟩
  have HU2 := Asd.mk (HU1.out.trans hu2 (fun _ _ h => h))
  clear hu2 HU1
  go_wp2_with fail
  refine (scnew_calls HU2.out (env_upd HENV.out HU2.out (fun _ h => h.elim)) dflt dflt_ok).mono ?_
  rw [← HS0.out]
  rintro e v0 ⟨q, F0, rfl, h0, hl0, hu0⟩
  have H0 := Asd.mk h0
  clear h0 hl0 hu0 HU2
  go_wp2_with fail
  refine (H0.out.connect HG0.out 1 (by omega)).mono ?_
  rw [← HS1.out]
  rintro e v1 ⟨rfl, F1, h1, t1⟩
  have H1 := Asd.mk h1
  clear h1 t1
  go_wp2_with fail
  refine (HTH.out v1).mono ?_
  rintro e v2 ⟨A2, c2, G2, rfl, ho, hg, hl, hm, hu⟩
  have H2 := Asd.mk (H1.out.upd hu)
  have P2 := Asd.mk (H1.out.fresh ho hg)
  clear ho hg hl hm hu
  go_wp2_with fail
  refine (H2.out.bytes HG1.out (by omega) 1 (by omega) A2 c2 (bH) P2.out.rd P2.out.ad (by have := HA1.out; omega)).mono ?_
  rw [← HS2.out]
  rintro e v3 ⟨rfl, F3, h3, t3⟩
  have H3 := Asd.mk h3
  clear h3 t3 P2
  go_wp2_with fail
  refine (HTF.out v3).mono ?_
  rintro e v4 ⟨A4, c4, G4, rfl, ho, hg, hl, hm, hu⟩
  have H4 := Asd.mk (H3.out.upd hu)
  have P4 := Asd.mk (H3.out.fresh ho hg)
  clear ho hg hl hm hu
  go_wp2_with fail
  refine (H4.out.bytes HG2.out (by omega) 1 (by omega) A4 c4 (bF) P4.out.rd P4.out.ad (by have := HA2.out; omega)).mono ?_
  rw [← HS3.out]
  rintro e v5 ⟨rfl, F5, h5, t5⟩
  have H5 := Asd.mk h5
  clear h5 t5 P4
  go_wp2_with fail
  refine (HTL.out v5).mono ?_
  rintro e v6 ⟨A6, c6, G6, rfl, ho, hg, hl, hm, hu⟩
  have H6 := Asd.mk (H5.out.upd hu)
  have P6 := Asd.mk (H5.out.fresh ho hg)
  clear ho hg hl hm hu
  go_wp2_with fail
  refine (H6.out.bytes HG3.out (by omega) 1 (by omega) A6 c6 (bL) P6.out.rd P6.out.ad (by have := HA3.out; omega)).mono ?_
  rw [← HS4.out]
  rintro e v7 ⟨rfl, F7, h7, t7⟩
  have H7 := Asd.mk h7
  clear h7 t7 P6
  have HO := Asd.mk (H7.out.output0 HG4.out (by omega) A cp l (by rw [HLN.out]; exact HRD.out.up H7.out.up) (out_of H7.out HRD.out) (by have := HLN.out; omega))
  rw [HLN.out, ← HS5.out] at HO
  generalize (output s4 l).2 = zo at HO
  go_wp2_with fail
  refine (HO.out).mono ?_
  rintro e v8 ⟨rfl, F8, h8, t8⟩
  have H8 := Asd.mk h8
  clear h8 t8 HO
  go_wp2_with fail
  refine (H8.out.write HG5.out (by omega) 1 5000 (by omega)).mono ?_
  unfold ScG
  rw [← HS6.out]
  rintro e v9 ⟨A9, c9, rfl, F9, h9, t9, p9⟩
  have H9 := Asd.mk h9
  have P9 := Asd.mk p9
  have T9 := Asd.mk t9
  clear h9 t9 p9
  go_wp2_with fail
  refine (H9.out.end_ HG6.out (by omega) 256).mono ?_
  rw [HPL.out.1.1]
  rintro e v10 ⟨rfl, F10, h10, t10⟩
  have H10 := Asd.mk h10
  clear h10 t10
  go_wp2_with fail
  refine (H10.out.end_ HG6.out (by omega) (k : Int)).mono ?_
  rw [HPL.out.1.2.1]
  rintro e v11 ⟨rfl, F11, h11, t11⟩
  have H11 := Asd.mk h11
  clear h11 t11
  go_wp2_with fail
  refine (H11.out.end_ HG7.out (by omega) 0).mono ?_
  rw [HPL.out.1.2.2.1]
  rintro e v12 ⟨rfl, F12, h12, t12⟩
  have H12 := Asd.mk h12
  clear h12 t12
  have HO := Asd.mk (H12.out.output0 HG7.out (by omega) A cp l (by rw [HLN.out]; exact HRD.out.up H12.out.up) (out_of H12.out HRD.out) (by have := HLN.out; omega))
  rw [HLN.out, HPL.out.1.2.2.2.1] at HO
  go_wp2_with fail
  refine (HO.out).mono ?_
  rintro e v13 ⟨rfl, F13, h13, t13⟩
  have H13 := Asd.mk h13
  clear h13 t13 HO
  go_wp2_with fail
  refine (H13.out.drain 9).mono ?_
  unfold ScG
  rw [HPL.out.1.2.2.2.2]
  simp only [List.length_nil]
  rintro e v14 ⟨A14, c14, rfl, F14, h14, t14, p14⟩
  have H14 := Asd.mk h14
  clear h14 t14 p14
  go_wp2_with fail
  refine (HTX.out v14).mono ?_
  rintro e v15 ⟨A15, c15, G15, rfl, ho, hg, hl, hm, hu⟩
  have H15 := Asd.mk (H14.out.upd hu)
  have P15 := Asd.mk (H14.out.fresh ho hg)
  clear ho hg hl hm hu
  go_wp2_with fail
  refine (H15.out.bytes HG7.out (by omega) 1 (by omega) A15 c15 (bX) P15.out.rd P15.out.ad (by have := HA4.out; omega)).mono ?_
  rw [← HS8.out]
  rintro e v16 ⟨rfl, F16, h16, t16⟩
  have H16 := Asd.mk h16
  clear h16 t16 P15
  go_wp2_with fail
  refine (H16.out.connect HG8.out 2 (by omega)).mono ?_
  rw [← HS9.out]
  rintro e v17 ⟨rfl, F17, h17, t17⟩
  have H17 := Asd.mk h17
  clear h17 t17
  go_wp2_with fail
  refine (HTB.out v17).mono ?_
  rintro e v18 ⟨A18, c18, G18, rfl, ho, hg, hl, hm, hu⟩
  have H18 := Asd.mk (H17.out.upd hu)
  have P18 := Asd.mk (H17.out.fresh ho hg)
  clear ho hg hl hm hu
  go_wp2_with fail
  refine (H18.out.bytes HG9.out (by omega) 2 (by omega) A18 c18 (bB) P18.out.rd P18.out.ad (by have := HA5.out; omega)).mono ?_
  rw [← HSA.out]
  rintro e v19 ⟨rfl, F19, h19, t19⟩
  have H19 := Asd.mk h19
  clear h19 t19 P18
  have HFW := H19.out.few HGA.out
  have HWL : Asd (tx.length ≤ 65536) := ⟨by rw [HWX.out]; exact write_len sA 1 5000 HGA.out (fun c hg => HFW 1 c hg)⟩
  clear HFW
  go_wp2_with fail
  refine (H19.out.write HGA.out (by omega) 1 5000 (by omega)).mono ?_
  unfold ScG
  rw [← HSB.out, ← HWX.out]
  rintro e v20 ⟨A20, c20, rfl, F20, h20, t20, p20⟩
  have H20 := Asd.mk h20
  have P20 := Asd.mk p20
  have T20 := Asd.mk t20
  clear h20 t20 p20
  have HFW := H20.out.few HGB.out
  have HWM : Asd (ty.length ≤ 65536) := ⟨by rw [HWY.out]; exact write_len sB 2 5000 HGB.out (fun c hg => HFW 2 c hg)⟩
  clear HFW
  go_wp2_with fail
  refine (H20.out.write HGB.out (by omega) 2 5000 (by omega)).mono ?_
  unfold ScG
  rw [← HSC.out, ← HWY.out]
  rintro e v21 ⟨A21, c21, rfl, F21, h21, t21, p21⟩
  have H21 := Asd.mk h21
  have P21 := Asd.mk p21
  have T21 := Asd.mk t21
  clear h21 t21 p21
  have PX := Asd.mk (P20.out.tn T21.out)
  go_wp2_with fail
  refine (messages_calls A20 tx.length c20 tx v21 PX.out.rd PX.out.le.1 (by have := HWL.out; omega)).mono ?_
  rw [HPL.out.2.1]
  rintro e v22 ⟨A22, c22, G22, rfl, ho, hg, hu, hl⟩
  have H22 := Asd.mk (H21.out.upd hu)
  have U22 := Asd.mk hu
  have HO1 := Asd.mk ho
  have hcx : 3 ≤ c22 := by obtain ⟨_, _, he1, h1, _⟩ := K.Own.slice ho; injection he1 with _ _ e3; rw [e3]; exact h1
  clear ho hg hu hl
  go_wp2_with fail
  refine (messages_calls A21 ty.length c21 ty v22 (P21.out.rd.up U22.out) P21.out.le.1 (by have := HWM.out; omega)).mono ?_
  rw [HPL.out.2.2]
  rintro e v23 ⟨A23, c23, G23, rfl, ho, hg, hu, hl⟩
  have H23 := Asd.mk (H22.out.upd hu)
  have HO2 := Asd.mk ho
  have HO1b : Asd (OwnM v23 A22 c22 [exM (k : Int), rejM, noteM] G22) := ⟨K.Own.upd HO1.out hu (fun _ _ h => h)⟩
  obtain ⟨N, hN⟩ : ∃ N, N = rest.length + 3 := ⟨_, rfl⟩
  have hNl : (welM :: floM :: exM (k : Int) :: rest).length = N := by rw [hN]; rfl
  have hcy : N ≤ c23 := by obtain ⟨_, _, he1, h1, _⟩ := K.Own.slice ho; injection he1 with _ _ e3; rw [e3, ← hNl]; exact h1
  have hN3 : ¬ ((N : Int) < 3) := by omega
  rw [hNl]
  simp only [List.length_cons, List.length_nil]
  clear ho hg hu hl
  obtain ⟨ax, rfl, _, x00, x01, x02, x03⟩ := HO1b.out.cells (by simp) (i := 0) rfl
  obtain ⟨ax1, hax, _, x10, x11, x12, x13⟩ := HO1b.out.cells (by simp) (i := 1) rfl
  obtain rfl := Option.some.inj hax
  obtain ⟨ay, rfl, _, y20, y21, y22, y23⟩ := HO2.out.cells (by rw [hNl]; omega) (i := 2) rfl
  have HNN := Asd.mk (And.intro hN hNl)
  have hN4 : (2 : Int) < (N : Int) := by omega
  have hN5 : 2 < N := by omega
  clear hN hNl
  go_upto_region 25 with fail
  have hz := heap_alloc_new v23 (.cells #[.int .i64 15, .int .i64 (k : Int), .int .i64 0, .string { data := #[] }] 36)
  have kz := (Upd.refl (fun _ => False) v23).alloc (.cells #[.int .i64 15, .int .i64 (k : Int), .int .i64 0, .string { data := #[] }] 36)
  generalize v23.alloc (.cells #[.int .i64 15, .int .i64 (k : Int), .int .i64 0, .string { data := #[] }] 36) = vz at hz kz ⊢
  have e0 := keepsC (o := 0) (v := .int .i64 15) hz rfl
  have e1 := keepsC (o := 1) (v := .int .i64 (k : Int)) hz rfl
  have e2 := keepsC (o := 2) (v := .int .i64 0) hz rfl
  have e3 := keepsC (o := 3) (v := .string { data := #[] }) hz rfl
  have X00 := row_at kz x00
  have X01 := row_at kz x01
  have X02 := row_at kz x02
  have X03 := row_at kz x03
  have X10 := row_at kz x10
  have X11 := row_at kz x11
  have X12 := row_at kz x12
  have X13 := row_at kz x13
  have Y20 := row_at kz y20
  have Y21 := row_at kz y21
  have Y22 := row_at kz y22
  have Y23 := row_at kz y23
  simp only [exM, rejM, Nat.zero_mul, Nat.one_mul, show (2 : Nat) * 4 = 8 from rfl, Addr.add, show ((4 : Nat) = 0) = False by simp, show ((8 : Nat) = 0) = False by simp, ↓reduceIte] at X00 X01 X02 X03 X10 X11 X12 X13 Y20 Y21 Y22 Y23
  clear x00 x01 x02 x03 x10 x11 x12 x13 y20 y21 y22 y23 hz hax
  refine wp_region_held_drew (S := fun W => Upd (fun _ => False) vz W) (by kernel_rfl) (by exact (by repeat (first | assumption | with_reducible exact Upd.refl _ _ | with_reducible refine Upd.drewN ?_ _ | with_reducible refine Upd.drew ?_ | with_reducible refine Upd.alloc ?_ _ | with_reducible refine Upd.setAt ?_ ?_ | exact Or.inl rfl | exact Or.inr (by simp) | exact Or.inr (by omega)))) (fun hHeld => ?_)
  refine tk_ 0 ?_
  try simp only [Act.put, sl1_, sl2_, sl3_]
  refine tk_ 1 ?_
  try simp only [Act.put, sl1_, sl2_, sl3_]
  refine tk_ 2 ?_
  try simp only [Act.put, sl1_, sl2_, sl3_]
  refine tk_ 3 ?_
  try simp only [Act.put, sl1_, sl2_, sl3_]
  refine tk_ 4 ?_
  try simp only [Act.put, sl1_, sl2_, sl3_]
  refine tk_ 5 ?_
  try simp only [Act.put, sl1_, sl2_, sl3_]
  refine tk_ 6 ?_
  try simp only [Act.put, sl1_, sl2_, sl3_]
  refine tk_ 7 ?_
  try simp only [Act.put, sl1_, sl2_, sl3_]
  refine tk_ 8 ?_
  try simp only [Act.put, sl1_, sl2_, sl3_]
  refine tk_ 9 ?_
  try simp only [Act.put, sl1_, sl2_, sl3_]
  refine tk_ 10 ?_
  try simp only [Act.put, sl1_, sl2_, sl3_]
  refine tk_ 11 ?_
  try simp only [Act.put, sl1_, sl2_, sl3_]
  refine tk_ 12 ?_
  try simp only [Act.put, sl1_, sl2_, sl3_]
  refine tk_ 13 ?_
  try simp only [Act.put, sl1_, sl2_, sl3_]
  refine tk_ 14 ?_
  try simp only [Act.put, sl1_, sl2_, sl3_]
  refine tk_ 15 ?_
  try simp only [Act.put, sl1_, sl2_, sl3_]
  refine tk_ 16 ?_
  try simp only [Act.put, sl1_, sl2_, sl3_]
  refine tk_ 17 ?_
  try simp only [Act.put, sl1_, sl2_, sl3_]
  refine tk_ 18 ?_
  try simp only [Act.put, sl1_, sl2_, sl3_]
  refine tk_ 19 ?_
  try simp only [Act.put, sl1_, sl2_, sl3_]
  refine tk_ 20 ?_
  try simp only [Act.put, sl1_, sl2_, sl3_]
  refine tk_ 21 ?_
  try simp only [Act.put, sl1_, sl2_, sl3_]
  refine tk_ 22 ?_
  try simp only [Act.put, sl1_, sl2_, sl3_]
  refine tk_ 23 ?_
  try simp only [Act.put, sl1_, sl2_, sl3_]
  refine tk_ 24 ?_
  try simp only [Act.put, sl1_, sl2_, sl3_]
  refine tk_ 25 ?_
  try simp only [Act.put, sl1_, sl2_, sl3_]
  refine tk_ 26 ?_
  try simp only [Act.put, sl1_, sl2_, sl3_]
  refine tk_ 27 ?_
  try simp only [Act.put, sl1_, sl2_, sl3_]
  refine tk_ 28 ?_
  try simp only [Act.put, sl1_, sl2_, sl3_]
  refine tk_ 29 ?_
  try simp only [Act.put, sl1_, sl2_, sl3_]
  refine tk_ 30 ?_
  try simp only [Act.put, sl1_, sl2_, sl3_]
  refine tk_ 31 ?_
  try simp only [Act.put, sl1_, sl2_, sl3_]
  refine tk_ 32 ?_
  try simp only [Act.put, sl1_, sl2_, sl3_]
  refine tk_ 33 ?_
  try simp only [Act.put, sl1_, sl2_, sl3_]
  refine tk_ 34 ?_
  try simp only [Act.put, sl1_, sl2_, sl3_]
  refine tk_ 35 ?_
  try simp only [Act.put, sl1_, sl2_, sl3_]
  refine tk_ 36 ?_
  try simp only [Act.put, sl1_, sl2_, sl3_]
  refine wpAnyH_done (by kernel_rfl) ?_ _
  have hsz := Upd.refl (fun _ => False) vz.drew
  have U25 := Asd.mk (kz.drew)
  have H25 := Asd.mk (H23.out.upd kz.drew)
  have HO3 := Asd.mk (K.Own.upd HO2.out kz.drew (fun _ _ h => h))
  obtain ⟨A7, hcut, hown, _, _⟩ := cut_from' (P := Tryz.prog) 46 36 .i64 (sz := 4) Tryz.underlying46 (by kernel_rfl) (some ay) N c23 3 3 rfl (by omega) hcy
  obtain ⟨R, hR⟩ : ∃ R, R = N - 3 := ⟨_, rfl⟩
  have HO4 : Asd (OwnM vz.drew A7 (c23 - 3) rest G23) := ⟨by
    have h := hown vz.drew _ _ (by have h := HO3.out; rw [HNN.out.2] at h; exact h)
    have h3 : N - 3 = rest.length := by have := HNN.out.1; omega
    rw [h3] at h
    exact h⟩
  rw [← hR] at hcut
  have HRl : Asd (rest.length = R) := ⟨by have := HNN.out.1; omega⟩
  clear hR
  have HCV : ∀ W, Upd (fun _ => False) vz.drew W → (convert 31 9 (.slice A n cp)).run Tryz.prog W = .ok (.string (S l)) W := fun W k => run_str (P := Tryz.prog) (c := cp) Tryz.underlying31 Tryz.underlying5 Tryz.underlying9 (HRD.out.up (H25.out.up.trans k (fun _ _ h => h)))
  clear hown kz X00 X01 X02 X03 X10 X11 X12 X13 Y20 Y21 Y22 Y23 e0 e1 e2 e3 hHeld
  generalize vz.drew = v25 at hsz U25 H25 HO3 HO4 HCV ⊢
  have hz3 : ¬ 9223372036854775807 < 0 + l.length := by have := HLN.out; omega
  have hes : ({ data := #[] } : ByteArray) ++ S l = S l := by rw [show ({ data := #[] } : ByteArray) = S [] from rfl, S_append]; rfl
  by_cases h0 : l = []
  · have hre : rest = [] := by rw [HRE.out, if_pos h0]
    obtain rfl : R = 0 := by rw [← HRl.out, hre]; rfl
    subst h0
    go_wp2
    go_loopw [15, 142] (fun v15 v142 wr => v15 = .string { data := #[] } ∧ v142 = .int .i64 0 ∧ wr = v25) (fun _ _ _ => 0)
    case atStart => exact ⟨rfl, rfl, rfl⟩
    case round =>
      obtain ⟨rfl, rfl, rfl⟩ := hrel
      go_wp2
      go_ret
      exact ⟨rfl, H25.out.up⟩
  · have hre : rest = [⟨6, 0, 0, l⟩] := by rw [HRE.out, if_neg h0]
    obtain rfl : R = 1 := by rw [← HRl.out, hre]; rfl
    have hO := HO4.out
    rw [hre] at hO
    obtain ⟨az, rfl, _, z0, z1, z2, z3⟩ := one_msg hO
    have y0 : ∀ W, Upd (fun _ => False) v25 W → W.cell? az = some (.int .i64 6) := fun W k => k.cell z0 (fun h => h)
    have y1 : ∀ W, Upd (fun _ => False) v25 W → W.cell? ⟨az.block, az.off + 1, none⟩ = some (.int .i64 0) := fun W k => k.cell z1 (fun h => h)
    have y2 : ∀ W, Upd (fun _ => False) v25 W → W.cell? ⟨az.block, az.off + 2, none⟩ = some (.int .i64 0) := fun W k => k.cell z2 (fun h => h)
    have y3 : ∀ W, Upd (fun _ => False) v25 W → W.cell? ⟨az.block, az.off + 3, none⟩ = some (.string (S l)) := fun W k => k.cell z3 (fun h => h)
    clear hO z0 z1 z2 z3 hre
    go_wp2
    go_loopw [15, 142] (fun v15 v142 wr => ∃ i : Nat, Asd ((i = 0 ∧ v15 = .string { data := #[] }) ∨ (i = 1 ∧ v15 = .string (S l))) ∧ v142 = .int .i64 (i : Int) ∧ Asd (Upd (fun _ => False) v25 wr)) (fun _ v142 _ => 1 - (intOf v142).toNat)
    case atStart => exact ⟨0, ⟨.inl ⟨rfl, rfl⟩⟩, rfl, ⟨hsz⟩⟩
    case round =>
      obtain ⟨i, HC, rfl, HW⟩ := hrel
      have hsw := HW.out
      rcases HC.out with ⟨rfl, rfl⟩ | ⟨rfl, rfl⟩
      · have HX := Asd.mk (HW.out.alloc (.cells #[.int .i64 6, .int .i64 0, .int .i64 0, .string (S l)] 36))
        clear HC
        go_wp2
        go_roundw
        case rel => exact ⟨1, ⟨.inr ⟨rfl, rfl⟩⟩, rfl, HX⟩
        case measure => simp only [intOf]; omega
      · clear HC
        go_wp2
        go_ret
        exact ⟨rfl, H25.out.up.trans HW.out (fun _ _ h => h)⟩
end Go.Proofs.YteepkanbiefpjaaGreatDoor.Bk
