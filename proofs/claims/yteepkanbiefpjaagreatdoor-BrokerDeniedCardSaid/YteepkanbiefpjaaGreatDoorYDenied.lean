/- What these laws lean on, part YDenied: contracts of the given program's functions and plain lists. No condition. -/
import Derived.Test.YteepkanbiefpjaaGreatDoorXo
import Derived.Test.YteepkanbiefpjaaGreatDoorZa
set_option linter.unusedVariables false
set_option linter.unusedSimpArgs false
namespace Go.Proofs.YteepkanbiefpjaaGreatDoor.Bk
open Go.RowKit K
open MgRow (M mC Ms)
def roleB (a : Int) : List UInt8 := mb ⟨1, a, 0, [98]⟩
def floorL : List UInt8 := [29, 58, 102, 108, 111, 111, 114, 10]
def lineD (k n : Int) : List UInt8 := 29 :: 58 :: (Or.text k n ++ [10])
def dS (a : Int) : Br := (write (write (bytes (bytes (connect (bytes (connect (new dflt) 1).1 1 (helloB [97])).1 2).1 2 (roleB a)).1 1 (typedB 1 floorL)).1 1 5000).1 2 5000).1
def dW (a k n : Int) : Br × List UInt8 × Int := write (bytes (dS a) 2 (typedB 7 (lineD k n))).1 2 5000
def dV (a k n : Int) : Br × List UInt8 × Int := write (dW a k n).1 1 5000
def dOk (a : Int) (k n : Int) : Bool :=
  decide (msgs (dW a k n).2.1 = ([⟨11, 0, 0, Or.text k n⟩], true)) && (dV a k n).2.1.isEmpty && decide ((dV a k n).1.tab.holder = 1) && decide (Fl.rget (dV a k n).1.tab.roles 1 = some 2) && decide (Fl.rget (dV a k n).1.tab.roles 2 = some (a - 4)) && decide ((Fl.keys (dV a k n).1.tab).length = 2)
def kindD (i : Nat) : Int := [5, 6, 7, 8, 9, 11].getD i 0
def numD (i j : Nat) : Int := if i = 0 then 0 else 1 + (j : Int)
theorem denied_a : ∀ i < 6, ∀ j < 3, dOk 4 (kindD i) (numD i j) = true := by decide +kernel
theorem denied_b : ∀ i < 6, ∀ j < 3, dOk 5 (kindD i) (numD i j) = true := by decide +kernel
end Go.Proofs.YteepkanbiefpjaaGreatDoor.Bk
set_option linter.unusedVariables false
set_option linter.unusedSimpArgs false
namespace Go.Proofs.YteepkanbiefpjaaGreatDoor.Bk
open Go.RowKit K
open MgRow (M mC Ms)
theorem tn_cell {w w' : World} {F F' : Nat → Prop} (t : Tn w F w' F') {a : Addr} {v : Value} (hc : w.cell? a = some v) (hn : ¬ F a.block) : w'.cell? a = some v ∧ ¬ F' a.block := ⟨t.upd.cell hc hn, fun h => by
  rcases t.new _ h with h | h
  · exact hn h
  · have := World.block_lt_of_cell? w a hc; omega⟩
theorem tn_blk {w w' : World} {F F' : Nat → Prop} (t : Tn w F w' F') {g : Nat} {o : Obj} (hc : w.heap[g]? = some o) (hn : ¬ F g) : w'.heap[g]? = some o ∧ ¬ F' g := ⟨t.upd.blk hc hn, fun h => by
  rcases t.new _ h with h | h
  · exact hn h
  · have := blk_lt hc; omega⟩
theorem OwnM.cells {w : World} {A : Option Addr} {c : Nat} {L : List M} {G : Option Nat} (h : OwnM w A c L G) (hl : L.length ≤ 1000000) {i : Nat} {m : M} (hm : L[i]? = some m) : ∃ ad, A = some ad ∧ G = some ad.block ∧ w.cell? (ad.add (i * 4)) = some (.int .i64 m.k) ∧ w.cell? ⟨(ad.add (i * 4)).block, (ad.add (i * 4)).off + 1, none⟩ = some (.int .i64 m.a) ∧ w.cell? ⟨(ad.add (i * 4)).block, (ad.add (i * 4)).off + 2, none⟩ = some (.int .i64 m.b) ∧ w.cell? ⟨(ad.add (i * 4)).block, (ad.add (i * 4)).off + 3, none⟩ = some (.string (S m.t)) := by
  obtain ⟨hi, hmi⟩ := List.getElem?_eq_some_iff.1 hm
  have hms := h.ms (by omega)
  obtain ⟨ad, e, hc⟩ := hms.at_ i hi
  rw [hmi] at hc
  obtain ⟨A1, c1, he1, _, _, _, hA⟩ := K.Own.slice h
  obtain ⟨rfl, rfl⟩ : A = A1 ∧ c = c1 := by injection he1 with a b c; exact ⟨a, c⟩
  have hx : ∀ j, ad.add (i * 4 + (j + 1)) = ⟨(ad.add (i * 4)).block, (ad.add (i * 4)).off + (j + 1), none⟩ := fun j => by
    rw [← add_add]
    simp [Addr.add]
  exact ⟨ad, e, hA ad e, hc 0 _ rfl, by rw [← hx 0]; exact hc 1 _ rfl, by rw [← hx 1]; exact hc 2 _ rfl, by rw [← hx 2]; exact hc 3 _ rfl⟩
theorem one_msg {w : World} {A : Option Addr} {c : Nat} {m : M} {G : Option Nat} (h : OwnM w A c [m] G) : ∃ ad, A = some ad ∧ G = some ad.block ∧ w.cell? ad = some (.int .i64 m.k) ∧ w.cell? ⟨ad.block, ad.off + 1, none⟩ = some (.int .i64 m.a) ∧ w.cell? ⟨ad.block, ad.off + 2, none⟩ = some (.int .i64 m.b) ∧ w.cell? ⟨ad.block, ad.off + 3, none⟩ = some (.string (S m.t)) := by
  have hms := h.ms (by simp)
  obtain ⟨A1, c1, he1, _, _, _, hA⟩ := K.Own.slice h
  obtain ⟨rfl, rfl⟩ : A = A1 ∧ c = c1 := by injection he1 with a b c; exact ⟨a, c⟩
  obtain ⟨ad, e, hc⟩ := hms.at_ 0 (by simp)
  have h0 := hc 0 _ rfl
  have h1 := hc 1 _ rfl
  have h2 := hc 2 _ rfl
  have h3 := hc 3 _ rfl
  refine ⟨ad, e, hA ad e, ?_, ?_, ?_, ?_⟩
  · simpa [Addr.add] using h0
  · simpa [Addr.add] using h1
  · simpa [Addr.add] using h2
  · simpa [Addr.add] using h3
theorem msgsN_le : ∀ (n : Nat) (b : List UInt8), (msgsN n b).1.length ≤ b.length
  | 0, b => by simp [msgsN]
  | n + 1, b => by
    unfold msgsN
    split
    · simp
    · split
      · simp
      · rename_i h1 h2
        have h0 : (Fr.fget b).2.2.2 = 0 := by
          rcases Classical.em ((Fr.fget b).2.2.2 = 0) with e | e
          · exact e
          · exact absurd (.inl e) h2
        have := FdMath.drop_lt b h0
        have := msgsN_le n (b.drop (Fr.fget b).2.2.1)
        simp only [List.length_cons]
        omega
theorem msgs_le (b : List UInt8) : (msgs b).1.length ≤ b.length := msgsN_le _ b
end Go.Proofs.YteepkanbiefpjaaGreatDoor.Bk
set_option linter.unusedVariables false
set_option linter.unusedSimpArgs false
namespace Go.Proofs.YteepkanbiefpjaaGreatDoor.Bk
open Go.RowKit K
open MgRow (M mC Ms)
theorem rem_is (x : Int) (L : Nat) (h1 : 1 ≤ L) (h2 : L ≤ 1000) : ∃ a : Nat, wrap64 ((IntKind.u64.wrap x).tmod (L : Int)) = (a : Int) ∧ a < L := by
  have h0 : 0 ≤ IntKind.u64.wrap x := by simp only [IntKind.wrap, IntKind.signed, IntKind.bits]; simp; omega
  obtain ⟨m, hm⟩ : ∃ m : Nat, IntKind.u64.wrap x = (m : Int) := ⟨(IntKind.u64.wrap x).toNat, by omega⟩
  have h3 : (m : Int).tmod (L : Int) = ((m % L : Nat) : Int) := rfl
  have h4 : m % L < L := Nat.mod_lt _ (by omega)
  rw [hm, h3]
  exact ⟨m % L, by unfold wrap64; omega, h4⟩
theorem kind_cell (a : Nat) (ha : a < 6) : (#[.int .i64 5, .int .i64 6, .int .i64 7, .int .i64 8, .int .i64 9, .int .i64 11] : Array Value)[a]? = some (.int .i64 (kindD a)) := by
  have h : a = 0 ∨ a = 1 ∨ a = 2 ∨ a = 3 ∨ a = 4 ∨ a = 5 := by omega
  rcases h with rfl | rfl | rfl | rfl | rfl | rfl <;> rfl
theorem kind_five (a : Nat) (ha : a < 6) : (a = 0 ∧ kindD a = 5) ∨ (a ≠ 0 ∧ (kindD a == 5) = false ∧ kindD a ≠ 5) := by
  have h : a = 0 ∨ a = 1 ∨ a = 2 ∨ a = 3 ∨ a = 4 ∨ a = 5 := by omega
  rcases h with rfl | rfl | rfl | rfl | rfl | rfl
  · exact .inl ⟨rfl, rfl⟩
  all_goals exact .inr ⟨by decide, by decide, by decide⟩
theorem dOk_all (a j : Nat) (ha : a < 6) (hj : j < 3) (r : Int) (hr : r = 4 ∨ r = 5) : dOk r (kindD a) (numD a j) = true := by
  rcases hr with rfl | rfl
  · exact denied_a a ha j hj
  · exact denied_b a ha j hj
theorem dOk_is {r k n : Int} (h : dOk r k n = true) : msgs (dW r k n).2.1 = ([⟨11, 0, 0, Or.text k n⟩], true) ∧ (dV r k n).2.1 = [] ∧ (dV r k n).1.tab.holder = 1 ∧ Fl.rget (dV r k n).1.tab.roles 1 = some 2 ∧ Fl.rget (dV r k n).1.tab.roles 2 = some (r - 4) ∧ (Fl.keys (dV r k n).1.tab).length = 2 := by
  unfold dOk at h
  simp only [Bool.and_eq_true, decide_eq_true_eq, List.isEmpty_iff] at h
  obtain ⟨⟨⟨⟨⟨h1, h2⟩, h3⟩, h4⟩, h5⟩, h6⟩ := h
  exact ⟨h1, h2, h3, h4, h5, h6⟩
theorem text_len (a j : Nat) (ha : a < 6) (hj : j < 3) : (Or.text (kindD a) (numD a j)).length ≤ 20 := by
  have h : ∀ i < 6, ∀ j < 3, (Or.text (kindD i) (numD i j)).length ≤ 20 := by decide +kernel
  exact h a ha j hj
theorem role_put (r : Int) (w : World) : Calls Tryz.prog 21 #[.slice none 0 0, .agg #[.int .i64 1, .int .i64 r, .int .i64 0, .string (S [98])]] w (Fr.PutPost (roleB r) w) := by
  have h := mput_new ⟨1, r, 0, [98]⟩ w
  unfold Vw.msgV at h
  unfold roleB
  exact h
def DenPost (w : World) (q : Nat) (r : Int) (w' : World) : Prop := ∃ F, Sc w q (dS r) w' F
theorem gd_dS (r : Int) : Gd 40000 (dS r) := by
  unfold dS
  have h1 := (((Gd.new dflt dflt_ok).connect 1).bytes 1 (helloB [97]))
  have h2 := (h1.connect 2).bytes 2 (roleB r)
  have h3 := h2.bytes 1 (typedB 1 floorL)
  have h4 := (h3.write 1 5000).write 2 5000
  refine h4.mono ?_
  have a1 := helloB_len [97]
  have a2 : (roleB r).length ≤ 2053 := mb_len _
  have a3 := typedB_len 1 floorL
  omega
set_option maxHeartbeats 16000000 in
set_option maxRecDepth 100000 in
theorem denied_law (w : World) (henv : Or.Env w) (which : Int) (wl : (Lit.int .i64 which).wf = true) (nn : Int) (wn : (Lit.int .i64 nn).wf = true) (watch : Bool) : Calls Tryz.prog 3 #[.int .i64 which, .int .i64 nn, .bool watch] w fun e w' => e = .returned (.bool true) ∧ Upd (fun _ => False) w w' := by
  have HENV := Asd.mk henv
  obtain ⟨a, hae, ha⟩ := rem_is which 6 (by omega) (by omega)
  obtain ⟨j, hje, hj⟩ := rem_is nn 3 (by omega) (by omega)
  have hae2 : IntKind.i64.wrap ((IntKind.u64.wrap which).tmod 6) = (a : Int) := by rw [IntWalk.i64_left]; exact hae
  have hje2 : IntKind.i64.wrap ((IntKind.u64.wrap nn).tmod 3) = (j : Int) := by rw [IntWalk.i64_left]; exact hje
  have hki := kind_cell a ha
  obtain ⟨k, hk⟩ : ∃ k, k = kindD a := ⟨_, rfl⟩
  have hk5 := kind_five a ha
  rw [← hk] at hki hk5
  obtain ⟨m, hm⟩ : ∃ m, m = numD a j := ⟨_, rfl⟩
  obtain ⟨r, hr⟩ : ∃ r : Int, r = if watch then 4 else 5 := ⟨_, rfl⟩
  have hok := dOk_is (dOk_all a j ha hj r (by rw [hr]; cases watch; exact .inr rfl; exact .inl rfl))
  have htl := text_len a j ha hj
  rw [← hk, ← hm] at hok htl
  obtain ⟨s0, hs0⟩ : ∃ s, s = new dflt := ⟨_, rfl⟩
  obtain ⟨s1, hs1⟩ : ∃ s, s = (connect s0 1).1 := ⟨_, rfl⟩
  obtain ⟨s2, hs2⟩ : ∃ s, s = (bytes s1 1 (helloB [97])).1 := ⟨_, rfl⟩
  obtain ⟨s3, hs3⟩ : ∃ s, s = (connect s2 2).1 := ⟨_, rfl⟩
  obtain ⟨s4, hs4⟩ : ∃ s, s = (bytes s3 2 (roleB r)).1 := ⟨_, rfl⟩
  obtain ⟨s5, hs5⟩ : ∃ s, s = (bytes s4 1 (typedB 1 floorL)).1 := ⟨_, rfl⟩
  obtain ⟨s6, hs6⟩ : ∃ s, s = (write s5 1 5000).1 := ⟨_, rfl⟩
  obtain ⟨s7, hs7⟩ : ∃ s, s = (write s6 2 5000).1 := ⟨_, rfl⟩
  obtain ⟨s8, hs8⟩ : ∃ s, s = (bytes s7 2 (typedB 7 (lineD k m))).1 := ⟨_, rfl⟩
  obtain ⟨s9, hs9⟩ : ∃ s, s = (write s8 2 5000).1 := ⟨_, rfl⟩
  obtain ⟨sA, hsA⟩ : ∃ s, s = (write s9 1 5000).1 := ⟨_, rfl⟩
  obtain ⟨w9, hw9⟩ : ∃ l, l = (write s8 2 5000).2.1 := ⟨_, rfl⟩
  obtain ⟨wA, hwA⟩ : ∃ l, l = (write s9 1 5000).2.1 := ⟨_, rfl⟩
  have hD : dS r = s7 := by rw [hs7, hs6, hs5, hs4, hs3, hs2, hs1, hs0]; rfl
  have hW : (dW r k m).1 = s9 ∧ (dW r k m).2.1 = w9 := by unfold dW; rw [hD, ← hs8]; exact ⟨hs9.symm, hw9.symm⟩
  have hV : (dV r k m).1 = sA ∧ (dV r k m).2.1 = wA := by unfold dV; rw [hW.1]; exact ⟨hsA.symm, hwA.symm⟩
  rw [hW.2, hV.1, hV.2] at hok
  have HOK := Asd.mk hok
  have a1 := helloB_len [97]
  have a2 : (roleB r).length ≤ 2053 := mb_len _
  have a3 := typedB_len 1 floorL
  have a4 := typedB_len 7 (lineD k m)
  have HG0 : Asd (Gd 0 s0) := ⟨by rw [hs0]; exact Gd.new _ dflt_ok⟩
  have HG1 : Asd (Gd 0 s1) := ⟨by rw [hs1]; exact HG0.out.connect _⟩
  have HG2 : Asd (Gd 10000 s2) := ⟨by rw [hs2]; exact (HG1.out.bytes _ _).mono (by omega)⟩
  have HG3 : Asd (Gd 10000 s3) := ⟨by rw [hs3]; exact HG2.out.connect _⟩
  have HG4 : Asd (Gd 20000 s4) := ⟨by rw [hs4]; exact (HG3.out.bytes _ _).mono (by omega)⟩
  have HG5 : Asd (Gd 30000 s5) := ⟨by rw [hs5]; exact (HG4.out.bytes _ _).mono (by omega)⟩
  have HG6 : Asd (Gd 30000 s6) := ⟨by rw [hs6]; exact HG5.out.write _ _⟩
  have HG7 : Asd (Gd 30000 s7) := ⟨by rw [hs7]; exact HG6.out.write _ _⟩
  have HG8 : Asd (Gd 40000 s8) := ⟨by rw [hs8]; exact (HG7.out.bytes _ _).mono (by omega)⟩
  have HG9 : Asd (Gd 40000 s9) := ⟨by rw [hs9]; exact HG8.out.write _ _⟩
  have HGA : Asd (Gd 40000 sA) := ⟨by rw [hsA]; exact HG9.out.write _ _⟩
  have HS0 := Asd.mk hs0
  have HS1 := Asd.mk hs1
  have HS2 := Asd.mk hs2
  have HS3 := Asd.mk hs3
  have HS4 := Asd.mk hs4
  have HS5 := Asd.mk hs5
  have HS6 := Asd.mk hs6
  have HS7 := Asd.mk hs7
  have HS8 := Asd.mk hs8
  have HS9 := Asd.mk hs9
  have HSA := Asd.mk hsA
  have HW9 := Asd.mk hw9
  have HWA := Asd.mk hwA
  have HHE := Asd.mk (fun w h => head_calls w h)
  have HTH := Asd.mk (fun w => helloN_calls [97] w)
  have HTF := Asd.mk (fun w => typedN_calls 1 floorL w)
  have HTD := Asd.mk (fun w => typedN_calls 7 (lineD k m) w)
  have HPR : Asd (∀ w, Calls Tryz.prog 21 #[.slice none 0 0, .agg #[.int .i64 1, .int .i64 r, .int .i64 0, .string (S [98])]] w (Fr.PutPost (roleB r) w)) := ⟨fun w => role_put r w⟩
  have HDF := Asd.mk (fun w => default_calls w)
  have HA2 := Asd.mk a2
  obtain ⟨bR, hbR⟩ : ∃ b, b = roleB r := ⟨_, rfl⟩
  rw [← hbR] at HPR HA2 HS4
  clear hbR
  have HA3 := Asd.mk a3
  obtain ⟨bF, hbF⟩ : ∃ b, b = typedB 1 floorL := ⟨_, rfl⟩
  rw [← hbF] at HTF HA3 HS5
  clear hbF
  have HL := Asd.mk (show S (lineD k m) = ({ data := #[29, 58] } : ByteArray) ++ S (Or.text k m) ++ ({ data := #[10] } : ByteArray) from by
    have h1 : ({ data := #[29, 58] } : ByteArray) = S [29, 58] := rfl
    have h2 : ({ data := #[10] } : ByteArray) = S [10] := rfl
    rw [h1, h2, S_append, S_append]; rfl)
  have HM := Asd.mk hm
  obtain ⟨oT, hoT⟩ : ∃ t, t = Or.text k m := ⟨_, rfl⟩
  obtain ⟨tD, htD⟩ : ∃ t, t = lineD k m := ⟨_, rfl⟩
  have HST : Asd (∀ W, Or.Env W → Calls Tryz.prog 24 #[.agg #[.int .i64 k, .int .i64 m]] W fun e w' => e = .returned (.string (S oT)) ∧ Upd (fun _ => False) W w') := ⟨fun W h => by rw [hoT]; exact Or.string_calls h k m⟩
  have HA4 := Asd.mk a4
  have HOKx := Asd.mk HOK.out
  rw [← hoT] at HL HOKx htl
  obtain ⟨uT, huT⟩ : ∃ u, u = 29 :: 58 :: oT := ⟨_, rfl⟩
  have hul : uT.length = oT.length + 2 := by rw [huT]; rfl
  have e1 : ({ data := #[29, 58] } : ByteArray) ++ S oT = S uT := by rw [show ({ data := #[29, 58] } : ByteArray) = S [29, 58] from rfl, S_append, huT]; rfl
  have e2 : S uT ++ ({ data := #[10] } : ByteArray) = S (lineD k m) := by rw [HL.out, ← e1]
  have n1 : ¬ 9223372036854775807 < 2 + oT.length := by omega
  have n2 : ¬ 9223372036854775807 < uT.length + 1 := by omega
  clear hul huT htl
  rw [← htD] at HL HTD HA4 HS8 e2
  obtain ⟨bD, hbD⟩ : ∃ b, b = typedB 7 tD := ⟨_, rfl⟩
  rw [← hbD] at HTD HA4 HS8
  clear hbD htD hoT HOK
  unfold cfV dflt at HDF
  clear hae hje hok hD hW hV hs0 hs1 hs2 hs3 hs4 hs5 hs6 hs7 hs8 hs9 hsA hw9 hwA wl wn henv a1 a2 a3 a4 hk hm
  cases watch with
  | false =>
    obtain rfl : r = 5 := hr
    go_enter Tryz.func3, Tryz.ntmps3
    go_wp2_with fail
    refine (HHE.out w HENV.out).mono ?_
    rintro e w1 ⟨rfl, hu1⟩
    have HU1 := Asd.mk hu1
    clear hu1
    go_wp2_with fail
    refine (HDF.out w1).mono ?_
    rintro e w2 ⟨rfl, hu2⟩
    have HU2 := Asd.mk (HU1.out.trans hu2 (fun _ _ h => h))
    clear hu2 HU1
    go_wp2_with fail
    refine (scnew_calls HU2.out (env_upd HENV.out HU2.out (fun _ h => h.elim)) dflt dflt_ok).mono ?_
    rw [← HS0.out]
    rintro e v0 ⟨q, F0, rfl, h0, hl0, hu0⟩
    have H0 := Asd.mk h0
    clear h0 hl0 hu0 HU2
    go_wp2_with fail
    refine (H0.out.connect HG0.out 1 (by omega)).mono ?_
    rw [← HS1.out]
    rintro e v1 ⟨rfl, F1, h1, t1⟩
    have H1 := Asd.mk h1
    clear h1 t1
    go_wp2_with fail
    refine (HTH.out v1).mono ?_
    rintro e v2 ⟨A, c, G, rfl, ho, hg, hl, hm, hu⟩
    have H2 := Asd.mk (H1.out.upd hu)
    have P2 := Asd.mk (H1.out.fresh ho hg)
    clear ho hg hl hm hu
    go_wp2_with fail
    refine (H2.out.bytes HG1.out (by omega) 1 (by omega) A c (helloB [97]) P2.out.rd P2.out.ad (by have := helloB_len [97]; omega)).mono ?_
    rw [← HS2.out]
    rintro e v3 ⟨rfl, F3, h3, t3⟩
    have H3 := Asd.mk h3
    clear h3 t3 P2
    go_wp2_with fail
    refine (H3.out.connect HG2.out 2 (by omega)).mono ?_
    rw [← HS3.out]
    rintro e v4 ⟨rfl, F4, h4, t4⟩
    have H4 := Asd.mk h4
    clear h4 t4
    go_wp2_with fail
    refine (HPR.out v4).mono ?_
    rintro e v5 ⟨A, c, G, rfl, ho, hg, hl, hm, hu⟩
    have H5 := Asd.mk (H4.out.upd hu)
    have P5 := Asd.mk (H4.out.fresh ho hg)
    clear ho hg hl hm hu
    go_wp2_with fail
    refine (H5.out.bytes HG3.out (by omega) 2 (by omega) A c (bR) P5.out.rd P5.out.ad (by have := HA2.out; omega)).mono ?_
    rw [← HS4.out]
    rintro e v6 ⟨rfl, F6, h6, t6⟩
    have H6 := Asd.mk h6
    clear h6 t6 P5
    go_wp2_with fail
    refine (HTF.out v6).mono ?_
    rintro e v7 ⟨A, c, G, rfl, ho, hg, hl, hm, hu⟩
    have H7 := Asd.mk (H6.out.upd hu)
    have P7 := Asd.mk (H6.out.fresh ho hg)
    clear ho hg hl hm hu
    go_wp2_with fail
    refine (H7.out.bytes HG4.out (by omega) 1 (by omega) A c (bF) P7.out.rd P7.out.ad (by have := HA3.out; omega)).mono ?_
    rw [← HS5.out]
    rintro e v8 ⟨rfl, F8, h8, t8⟩
    have H8 := Asd.mk h8
    clear h8 t8 P7
    go_wp2_with fail
    refine (H8.out.write HG5.out (by omega) 1 5000 (by omega)).mono ?_
    unfold ScG
    rw [← HS6.out]
    rintro e v9 ⟨A9, c9, rfl, F9, h9, t9, p9⟩
    have H9 := Asd.mk h9
    have P9 := Asd.mk p9
    clear h9 t9 p9
    go_wp2_with fail
    refine (H9.out.write HG6.out (by omega) 2 5000 (by omega)).mono ?_
    unfold ScG
    rw [← HS7.out]
    rintro e v10 ⟨A10, c10, rfl, F10, h10, t10, p10⟩
    have H10 := Asd.mk h10
    have P10 := Asd.mk p10
    clear h10 t10 p10
    have hm16 := keepsC (o := a) (v := .int .i64 k) (heap_alloc_new v10 (.cells #[.int .i64 5, .int .i64 6, .int .i64 7, .int .i64 8, .int .i64 9, .int .i64 11] 40)) hki
    have hs10 := (Upd.refl (fun _ => False) v10).alloc (.cells #[.int .i64 5, .int .i64 6, .int .i64 7, .int .i64 8, .int .i64 9, .int .i64 11] 40)
    have hs16 := Upd.refl (fun _ => False) (v10.alloc (.cells #[.int .i64 5, .int .i64 6, .int .i64 7, .int .i64 8, .int .i64 9, .int .i64 11] 40))
    go_upto_region 17 with fail
    rcases hk5 with ⟨h0, rfl⟩ | ⟨h0, h5, h6⟩
    · have hm17 : m = 0 := by rw [HM.out]; unfold numD; rw [if_pos h0]
      clear hm16 hki
      subst hm17
      have hk11 : Upd (fun _ => False) v10 ((v10.alloc (.cells #[.int .i64 5, .int .i64 6, .int .i64 7, .int .i64 8, .int .i64 9, .int .i64 11] 40)).alloc (.cells #[.int .i64 5, .int .i64 0] 44)) := ((Upd.refl (fun _ => False) v10).alloc _).alloc _
      have H11 := Asd.mk (H10.out.upd hk11)
      have hs11 := Upd.refl (fun _ => False) ((v10.alloc (.cells #[.int .i64 5, .int .i64 6, .int .i64 7, .int .i64 8, .int .i64 9, .int .i64 11] 40)).alloc (.cells #[.int .i64 5, .int .i64 0] 44))
      have hb := heap_alloc_new (v10.alloc (.cells #[.int .i64 5, .int .i64 6, .int .i64 7, .int .i64 8, .int .i64 9, .int .i64 11] 40)) (.cells #[.int .i64 5, .int .i64 0] 44)
      have hgz : v10.heap.size + 1 = (v10.alloc (.cells #[.int .i64 5, .int .i64 6, .int .i64 7, .int .i64 8, .int .i64 9, .int .i64 11] 40)).heap.size := by rw [World.size_alloc]
      have HHB := Asd.mk hb
      have HGZ := Asd.mk hgz
      clear hb hgz
      go_wp2_with fail
      refine (HST.out _ H11.out.env).mono ?_
      rintro e v12 ⟨rfl, hu12⟩
      have H12 := Asd.mk (H11.out.upd hu12)
      have U12 := Asd.mk hu12
      clear hu12
      go_wp2_with fail
      refine (HTD.out _).mono ?_
      rintro e v13 ⟨A, c, G, rfl, ho, hg, hl, hm, hu⟩
      have H13 := Asd.mk (H12.out.upd hu)
      have P13 := Asd.mk (H12.out.fresh ho hg)
      have U13 := Asd.mk (U12.out.trans hu (fun _ _ h => h))
      clear ho hg hl hm hu
      go_wp2_with fail
      refine (H13.out.bytes HG7.out (by omega) 2 (by omega) A c bD P13.out.rd P13.out.ad (by have := HA4.out; omega)).mono ?_
      rw [← HS8.out]
      rintro e v14 ⟨rfl, F14, h14, t14⟩
      have H14 := Asd.mk h14
      have T14 := Asd.mk t14
      clear h14 t14 P13
      have HFW := H14.out.few HG8.out
      have HWL : Asd (w9.length ≤ 65536) := ⟨by rw [HW9.out]; exact write_len s8 2 5000 HG8.out (fun c hg => HFW 2 c hg)⟩
      clear HFW
      go_wp2_with fail
      refine (H14.out.write HG8.out (by omega) 2 5000 (by omega)).mono ?_
      unfold ScG
      rw [← HS9.out, ← HW9.out]
      rintro e v15 ⟨A15, c15, rfl, F15, h15, t15, p15⟩
      have H15 := Asd.mk h15
      have T15 := Asd.mk t15
      have P15 := Asd.mk p15
      clear h15 t15 p15
      go_wp2_with fail
      refine (messages_calls A15 w9.length c15 w9 v15 P15.out.rd P15.out.le.1 (by have := HWL.out; omega)).mono ?_
      rw [HOKx.out.1]
      rintro e v16 ⟨A16, c16, G16, rfl, ho16, hg16, hu16, hl16⟩
      have H16 := Asd.mk (H15.out.upd hu16)
      obtain ⟨ad, rfl, hG, x0, x1, x2, x3⟩ := one_msg ho16
      have hnx : ¬ F15 ad.block := fun hf => by have h1 := H15.out.lt _ hf; have h2 := hg16 _ hG; omega
      have HX := Asd.mk (And.intro hnx (And.intro x0 (And.intro x1 (And.intro x2 x3))))
      have U16 := Asd.mk hu16
      simp only [List.length_singleton]
      clear ho16 hg16 hu16 hl16 hG x0 x1 x2 x3 hnx P15
      go_wp2_with fail
      refine (H16.out.write HG9.out (by omega) 1 5000 (by omega)).mono ?_
      unfold ScG
      rw [← HSA.out, ← HWA.out, HOKx.out.2.1]
      rintro e v17 ⟨A17, c17, rfl, F17, h17, t17, p17⟩
      have H17 := Asd.mk h17
      have T17 := Asd.mk t17
      clear h17 t17 p17
      simp only [List.length_nil]
      go_wp2_with fail
      refine (H17.out.role 1 (by omega)).mono ?_
      rw [HOKx.out.2.2.2.1]
      rintro e w'' ⟨rfl, rfl⟩
      go_wp2_with fail
      refine (H17.out.role 2 (by omega)).mono ?_
      rw [HOKx.out.2.2.2.2.1]
      rintro e w'' ⟨rfl, rfl⟩
      go_upto_region 28 with fail
      have hnF : ¬ F10 (v10.heap.size + 1) := fun hf => by have := H10.out.lt _ hf; omega
      have hb := HHB.out
      rw [← HGZ.out] at hb
      obtain ⟨b14, n14⟩ := tn_blk T14.out (U13.out.blk hb (fun h => h)) hnF
      obtain ⟨b15, n15⟩ := tn_blk T15.out b14 n14
      obtain ⟨b17, n17⟩ := tn_blk T17.out (U16.out.blk b15 (fun h => h)) n15
      obtain ⟨nx, x0, x1, x2, x3⟩ := HX.out
      obtain ⟨y0, _⟩ := tn_cell T17.out x0 nx
      obtain ⟨y1, _⟩ := tn_cell T17.out x1 nx
      obtain ⟨y2, _⟩ := tn_cell T17.out x2 nx
      obtain ⟨y3, _⟩ := tn_cell T17.out x3 nx
      have m0 : ∀ W, Upd (fun _ => False) v17 W → W.cell? ad = some (.int .i64 11) := fun W k => k.cell y0 (fun h => h)
      have m1 : ∀ W, Upd (fun _ => False) v17 W → W.cell? ⟨ad.block, ad.off + 1, none⟩ = some (.int .i64 0) := fun W k => k.cell y1 (fun h => h)
      have m2 : ∀ W, Upd (fun _ => False) v17 W → W.cell? ⟨ad.block, ad.off + 2, none⟩ = some (.int .i64 0) := fun W k => k.cell y2 (fun h => h)
      have m3 : ∀ W, Upd (fun _ => False) v17 W → W.cell? ⟨ad.block, ad.off + 3, none⟩ = some (.string (S oT)) := fun W k => k.cell y3 (fun h => h)
      have o0 := keepsC (o := 0) (v := .int .i64 5) b17 rfl
      have o1 := keepsC (o := 1) (v := .int .i64 0) b17 rfl
      have HUS := Asd.mk (fun (w' : World) (F' : Nat → Prop) (h : Sc w q sA w' F') => h.users HGA.out.ok)
      have HHO := Asd.mk (fun (w' : World) (F' : Nat → Prop) (h : Sc w q sA w' F') => h.holder)
      unfold NewI at HUS
      rw [HOKx.out.2.2.1] at HHO
      rw [HOKx.out.2.2.2.2.2] at HUS
      clear hb b14 n14 b15 n15 b17 n17 nx x0 x1 x2 x3 y0 y1 y2 y3 hnF
      refine wp_region_held_drew (S := fun W => Upd (fun _ => False) v17 W) (by kernel_rfl) (by exact (by repeat (first | assumption | with_reducible exact Upd.refl _ _ | with_reducible refine Upd.drewN ?_ _ | with_reducible refine Upd.drew ?_ | with_reducible refine Upd.alloc ?_ _ | with_reducible refine Upd.setAt ?_ ?_ | exact Or.inl rfl | exact Or.inr (by simp) | exact Or.inr (by omega)))) (fun hHeld => ?_)
      refine tk_ 0 ?_
      try simp only [Act.put, sl1_, sl2_, sl3_]
      refine tk_ 1 ?_
      try simp only [Act.put, sl1_, sl2_, sl3_]
      refine tk_ 2 ?_
      try simp only [Act.put, sl1_, sl2_, sl3_]
      refine tk_ 3 ?_
      try simp only [Act.put, sl1_, sl2_, sl3_]
      refine tk_ 4 ?_
      try simp only [Act.put, sl1_, sl2_, sl3_]
      refine tk_ 5 ?_
      try simp only [Act.put, sl1_, sl2_, sl3_]
      refine tk_ 6 ?_
      try simp only [Act.put, sl1_, sl2_, sl3_]
      refine tk_ 7 ?_
      try simp only [Act.put, sl1_, sl2_, sl3_]
      refine tk_ 8 ?_
      try simp only [Act.put, sl1_, sl2_, sl3_]
      refine tk_ 9 ?_
      try simp only [Act.put, sl1_, sl2_, sl3_]
      refine tk_ 10 ?_
      try simp only [Act.put, sl1_, sl2_, sl3_]
      refine wpAnyH_ready (rs := [11]) (by kernel_rfl) (by simp) (AllReadyH.cons (o := ?_) ?_ (fun K hK => ?_) AllReadyH.nil)
      rotate_left 1
      · (simp only [List.getElem?_toArray, List.getElem?_cons_succ, List.getElem?_cons_zero]; exact rfl)
      (go_simp; (go_at_call 24; have hd := (show Upd (fun _ => False) v17 v17.drew from (by repeat (first | assumption | with_reducible exact Upd.refl _ _ | with_reducible refine Upd.drewN ?_ _ | with_reducible refine Upd.drew ?_ | with_reducible refine Upd.alloc ?_ _ | with_reducible refine Upd.setAt ?_ ?_ | exact Or.inl rfl | exact Or.inr (by simp) | exact Or.inr (by omega)))); refine (HST.out _ (H17.out.upd hd).env).mono ?_; rintro e w1 ⟨rfl, hu⟩; have u1 := hd.trans hu (fun _ _ h => h); clear hu))
      refine hK.out _ _ (by exact u1) (fun hHeld => ?_)
      clear hK K
      try simp only [Act.put, List.setIfInBounds_toArray, List.set_cons_zero, List.set_cons_succ]
      refine tk_ 12 ?_
      try simp only [Act.put, sl1_, sl2_, sl3_]
      refine tk_ 13 ?_
      try simp only [Act.put, sl1_, sl2_, sl3_]
      refine tk_ 14 ?_
      try simp only [Act.put, sl1_, sl2_, sl3_]
      refine tk_ 15 ?_
      try simp only [Act.put, sl1_, sl2_, sl3_]
      refine tk_ 16 ?_
      try simp only [Act.put, sl1_, sl2_, sl3_]
      refine tk_ 17 ?_
      try simp only [Act.put, sl1_, sl2_, sl3_]
      refine tk_ 18 ?_
      try simp only [Act.put, sl1_, sl2_, sl3_]
      refine tk_ 19 ?_
      try simp only [Act.put, sl1_, sl2_, sl3_]
      refine tk_ 20 ?_
      try simp only [Act.put, sl1_, sl2_, sl3_]
      refine tk_ 21 ?_
      try simp only [Act.put, sl1_, sl2_, sl3_]
      refine wpAnyH_ready (rs := [22]) (by kernel_rfl) (by simp) (AllReadyH.cons (o := ?_) ?_ (fun K hK => ?_) AllReadyH.nil)
      rotate_left 1
      · (simp only [List.getElem?_toArray, List.getElem?_cons_succ, List.getElem?_cons_zero]; exact rfl)
      (go_simp; (go_at_call 27; refine (HHO.out _ _ (H17.out.upd u1)).mono ?_; rintro e w2 ⟨rfl, rfl⟩))
      refine hK.out _ _ (by exact u1) (fun hHeld => ?_)
      clear hK K
      try simp only [Act.put, List.setIfInBounds_toArray, List.set_cons_zero, List.set_cons_succ]
      refine tk_ 23 ?_
      try simp only [Act.put, sl1_, sl2_, sl3_]
      refine tk_ 24 ?_
      try simp only [Act.put, sl1_, sl2_, sl3_]
      refine tk_ 25 ?_
      try simp only [Act.put, sl1_, sl2_, sl3_]
      refine tk_ 26 ?_
      try simp only [Act.put, sl1_, sl2_, sl3_]
      refine tk_ 27 ?_
      try simp only [Act.put, sl1_, sl2_, sl3_]
      refine tk_ 28 ?_
      try simp only [Act.put, sl1_, sl2_, sl3_]
      refine tk_ 29 ?_
      try simp only [Act.put, sl1_, sl2_, sl3_]
      refine tk_ 30 ?_
      try simp only [Act.put, sl1_, sl2_, sl3_]
      refine tk_ 31 ?_
      try simp only [Act.put, sl1_, sl2_, sl3_]
      refine tk_ 32 ?_
      try simp only [Act.put, sl1_, sl2_, sl3_]
      refine tk_ 33 ?_
      try simp only [Act.put, sl1_, sl2_, sl3_]
      refine tk_ 34 ?_
      try simp only [Act.put, sl1_, sl2_, sl3_]
      refine tk_ 35 ?_
      try simp only [Act.put, sl1_, sl2_, sl3_]
      refine wpAnyH_ready (rs := [36]) (by kernel_rfl) (by simp) (AllReadyH.cons (o := ?_) ?_ (fun K hK => ?_) AllReadyH.nil)
      rotate_left 1
      · (simp only [List.getElem?_toArray, List.getElem?_cons_succ, List.getElem?_cons_zero]; exact rfl)
      (go_simp; (go_at_call 28; refine (HUS.out _ _ (H17.out.upd u1)).mono ?_; rintro e w3 ⟨A, c, G, rfl, _, _, hu⟩; have u3 := u1.trans hu (fun _ _ h => h); clear hu))
      refine hK.out _ _ (by exact u3) (fun hHeld => ?_)
      clear hK K
      try simp only [Act.put, List.setIfInBounds_toArray, List.set_cons_zero, List.set_cons_succ]
      refine tk_ 37 ?_
      try simp only [Act.put, sl1_, sl2_, sl3_]
      refine tk_ 38 ?_
      try simp only [Act.put, sl1_, sl2_, sl3_]
      refine tk_ 39 ?_
      try simp only [Act.put, sl1_, sl2_, sl3_]
      refine tk_ 40 ?_
      try simp only [Act.put, sl1_, sl2_, sl3_]
      refine wpAnyH_done (by kernel_rfl) ?_ _
      go_wp2
      go_ret
      exact ⟨rfl, H17.out.up.trans u3 (fun _ _ h => h)⟩
    · have hm17 : m = 1 + (j : Int) := by rw [HM.out]; unfold numD; rw [if_neg h0]
      clear hm16 hki
      subst hm17
      have hk11 : Upd (fun _ => False) v10 ((v10.alloc (.cells #[.int .i64 5, .int .i64 6, .int .i64 7, .int .i64 8, .int .i64 9, .int .i64 11] 40)).alloc (.cells #[.int .i64 k, .int .i64 (1 + (j : Int))] 44)) := ((Upd.refl (fun _ => False) v10).alloc _).alloc _
      have H11 := Asd.mk (H10.out.upd hk11)
      have hs11 := Upd.refl (fun _ => False) ((v10.alloc (.cells #[.int .i64 5, .int .i64 6, .int .i64 7, .int .i64 8, .int .i64 9, .int .i64 11] 40)).alloc (.cells #[.int .i64 k, .int .i64 (1 + (j : Int))] 44))
      have hb := heap_alloc_new (v10.alloc (.cells #[.int .i64 5, .int .i64 6, .int .i64 7, .int .i64 8, .int .i64 9, .int .i64 11] 40)) (.cells #[.int .i64 k, .int .i64 (1 + (j : Int))] 44)
      have hgz : v10.heap.size + 1 = (v10.alloc (.cells #[.int .i64 5, .int .i64 6, .int .i64 7, .int .i64 8, .int .i64 9, .int .i64 11] 40)).heap.size := by rw [World.size_alloc]
      have HHB := Asd.mk hb
      have HGZ := Asd.mk hgz
      clear hb hgz
      go_wp2_with fail
      refine (HST.out _ H11.out.env).mono ?_
      rintro e v12 ⟨rfl, hu12⟩
      have H12 := Asd.mk (H11.out.upd hu12)
      have U12 := Asd.mk hu12
      clear hu12
      go_wp2_with fail
      refine (HTD.out _).mono ?_
      rintro e v13 ⟨A, c, G, rfl, ho, hg, hl, hm, hu⟩
      have H13 := Asd.mk (H12.out.upd hu)
      have P13 := Asd.mk (H12.out.fresh ho hg)
      have U13 := Asd.mk (U12.out.trans hu (fun _ _ h => h))
      clear ho hg hl hm hu
      go_wp2_with fail
      refine (H13.out.bytes HG7.out (by omega) 2 (by omega) A c bD P13.out.rd P13.out.ad (by have := HA4.out; omega)).mono ?_
      rw [← HS8.out]
      rintro e v14 ⟨rfl, F14, h14, t14⟩
      have H14 := Asd.mk h14
      have T14 := Asd.mk t14
      clear h14 t14 P13
      have HFW := H14.out.few HG8.out
      have HWL : Asd (w9.length ≤ 65536) := ⟨by rw [HW9.out]; exact write_len s8 2 5000 HG8.out (fun c hg => HFW 2 c hg)⟩
      clear HFW
      go_wp2_with fail
      refine (H14.out.write HG8.out (by omega) 2 5000 (by omega)).mono ?_
      unfold ScG
      rw [← HS9.out, ← HW9.out]
      rintro e v15 ⟨A15, c15, rfl, F15, h15, t15, p15⟩
      have H15 := Asd.mk h15
      have T15 := Asd.mk t15
      have P15 := Asd.mk p15
      clear h15 t15 p15
      go_wp2_with fail
      refine (messages_calls A15 w9.length c15 w9 v15 P15.out.rd P15.out.le.1 (by have := HWL.out; omega)).mono ?_
      rw [HOKx.out.1]
      rintro e v16 ⟨A16, c16, G16, rfl, ho16, hg16, hu16, hl16⟩
      have H16 := Asd.mk (H15.out.upd hu16)
      obtain ⟨ad, rfl, hG, x0, x1, x2, x3⟩ := one_msg ho16
      have hnx : ¬ F15 ad.block := fun hf => by have h1 := H15.out.lt _ hf; have h2 := hg16 _ hG; omega
      have HX := Asd.mk (And.intro hnx (And.intro x0 (And.intro x1 (And.intro x2 x3))))
      have U16 := Asd.mk hu16
      simp only [List.length_singleton]
      clear ho16 hg16 hu16 hl16 hG x0 x1 x2 x3 hnx P15
      go_wp2_with fail
      refine (H16.out.write HG9.out (by omega) 1 5000 (by omega)).mono ?_
      unfold ScG
      rw [← HSA.out, ← HWA.out, HOKx.out.2.1]
      rintro e v17 ⟨A17, c17, rfl, F17, h17, t17, p17⟩
      have H17 := Asd.mk h17
      have T17 := Asd.mk t17
      clear h17 t17 p17
      simp only [List.length_nil]
      go_wp2_with fail
      refine (H17.out.role 1 (by omega)).mono ?_
      rw [HOKx.out.2.2.2.1]
      rintro e w'' ⟨rfl, rfl⟩
      go_wp2_with fail
      refine (H17.out.role 2 (by omega)).mono ?_
      rw [HOKx.out.2.2.2.2.1]
      rintro e w'' ⟨rfl, rfl⟩
      go_upto_region 28 with fail
      have hnF : ¬ F10 (v10.heap.size + 1) := fun hf => by have := H10.out.lt _ hf; omega
      have hb := HHB.out
      rw [← HGZ.out] at hb
      obtain ⟨b14, n14⟩ := tn_blk T14.out (U13.out.blk hb (fun h => h)) hnF
      obtain ⟨b15, n15⟩ := tn_blk T15.out b14 n14
      obtain ⟨b17, n17⟩ := tn_blk T17.out (U16.out.blk b15 (fun h => h)) n15
      obtain ⟨nx, x0, x1, x2, x3⟩ := HX.out
      obtain ⟨y0, _⟩ := tn_cell T17.out x0 nx
      obtain ⟨y1, _⟩ := tn_cell T17.out x1 nx
      obtain ⟨y2, _⟩ := tn_cell T17.out x2 nx
      obtain ⟨y3, _⟩ := tn_cell T17.out x3 nx
      have m0 : ∀ W, Upd (fun _ => False) v17 W → W.cell? ad = some (.int .i64 11) := fun W k => k.cell y0 (fun h => h)
      have m1 : ∀ W, Upd (fun _ => False) v17 W → W.cell? ⟨ad.block, ad.off + 1, none⟩ = some (.int .i64 0) := fun W k => k.cell y1 (fun h => h)
      have m2 : ∀ W, Upd (fun _ => False) v17 W → W.cell? ⟨ad.block, ad.off + 2, none⟩ = some (.int .i64 0) := fun W k => k.cell y2 (fun h => h)
      have m3 : ∀ W, Upd (fun _ => False) v17 W → W.cell? ⟨ad.block, ad.off + 3, none⟩ = some (.string (S oT)) := fun W k => k.cell y3 (fun h => h)
      have o0 := keepsC (o := 0) (v := .int .i64 k) b17 rfl
      have o1 := keepsC (o := 1) (v := .int .i64 (1 + (j : Int))) b17 rfl
      have HUS := Asd.mk (fun (w' : World) (F' : Nat → Prop) (h : Sc w q sA w' F') => h.users HGA.out.ok)
      have HHO := Asd.mk (fun (w' : World) (F' : Nat → Prop) (h : Sc w q sA w' F') => h.holder)
      unfold NewI at HUS
      rw [HOKx.out.2.2.1] at HHO
      rw [HOKx.out.2.2.2.2.2] at HUS
      clear hb b14 n14 b15 n15 b17 n17 nx x0 x1 x2 x3 y0 y1 y2 y3 hnF
      refine wp_region_held_drew (S := fun W => Upd (fun _ => False) v17 W) (by kernel_rfl) (by exact (by repeat (first | assumption | with_reducible exact Upd.refl _ _ | with_reducible refine Upd.drewN ?_ _ | with_reducible refine Upd.drew ?_ | with_reducible refine Upd.alloc ?_ _ | with_reducible refine Upd.setAt ?_ ?_ | exact Or.inl rfl | exact Or.inr (by simp) | exact Or.inr (by omega)))) (fun hHeld => ?_)
      refine tk_ 0 ?_
      try simp only [Act.put, sl1_, sl2_, sl3_]
      refine tk_ 1 ?_
      try simp only [Act.put, sl1_, sl2_, sl3_]
      refine tk_ 2 ?_
      try simp only [Act.put, sl1_, sl2_, sl3_]
      refine tk_ 3 ?_
      try simp only [Act.put, sl1_, sl2_, sl3_]
      refine tk_ 4 ?_
      try simp only [Act.put, sl1_, sl2_, sl3_]
      refine tk_ 5 ?_
      try simp only [Act.put, sl1_, sl2_, sl3_]
      refine tk_ 6 ?_
      try simp only [Act.put, sl1_, sl2_, sl3_]
      refine tk_ 7 ?_
      try simp only [Act.put, sl1_, sl2_, sl3_]
      refine tk_ 8 ?_
      try simp only [Act.put, sl1_, sl2_, sl3_]
      refine tk_ 9 ?_
      try simp only [Act.put, sl1_, sl2_, sl3_]
      refine tk_ 10 ?_
      try simp only [Act.put, sl1_, sl2_, sl3_]
      refine wpAnyH_ready (rs := [11]) (by kernel_rfl) (by simp) (AllReadyH.cons (o := ?_) ?_ (fun K hK => ?_) AllReadyH.nil)
      rotate_left 1
      · (simp only [List.getElem?_toArray, List.getElem?_cons_succ, List.getElem?_cons_zero]; exact rfl)
      (go_simp; (go_at_call 24; have hd := (show Upd (fun _ => False) v17 v17.drew from (by repeat (first | assumption | with_reducible exact Upd.refl _ _ | with_reducible refine Upd.drewN ?_ _ | with_reducible refine Upd.drew ?_ | with_reducible refine Upd.alloc ?_ _ | with_reducible refine Upd.setAt ?_ ?_ | exact Or.inl rfl | exact Or.inr (by simp) | exact Or.inr (by omega)))); refine (HST.out _ (H17.out.upd hd).env).mono ?_; rintro e w1 ⟨rfl, hu⟩; have u1 := hd.trans hu (fun _ _ h => h); clear hu))
      refine hK.out _ _ (by exact u1) (fun hHeld => ?_)
      clear hK K
      try simp only [Act.put, List.setIfInBounds_toArray, List.set_cons_zero, List.set_cons_succ]
      refine tk_ 12 ?_
      try simp only [Act.put, sl1_, sl2_, sl3_]
      refine tk_ 13 ?_
      try simp only [Act.put, sl1_, sl2_, sl3_]
      refine tk_ 14 ?_
      try simp only [Act.put, sl1_, sl2_, sl3_]
      refine tk_ 15 ?_
      try simp only [Act.put, sl1_, sl2_, sl3_]
      refine tk_ 16 ?_
      try simp only [Act.put, sl1_, sl2_, sl3_]
      refine tk_ 17 ?_
      try simp only [Act.put, sl1_, sl2_, sl3_]
      refine tk_ 18 ?_
      try simp only [Act.put, sl1_, sl2_, sl3_]
      refine tk_ 19 ?_
      try simp only [Act.put, sl1_, sl2_, sl3_]
      refine tk_ 20 ?_
      try simp only [Act.put, sl1_, sl2_, sl3_]
      refine tk_ 21 ?_
      try simp only [Act.put, sl1_, sl2_, sl3_]
      refine wpAnyH_ready (rs := [22]) (by kernel_rfl) (by simp) (AllReadyH.cons (o := ?_) ?_ (fun K hK => ?_) AllReadyH.nil)
      rotate_left 1
      · (simp only [List.getElem?_toArray, List.getElem?_cons_succ, List.getElem?_cons_zero]; exact rfl)
      (go_simp; (go_at_call 27; refine (HHO.out _ _ (H17.out.upd u1)).mono ?_; rintro e w2 ⟨rfl, rfl⟩))
      refine hK.out _ _ (by exact u1) (fun hHeld => ?_)
      clear hK K
      try simp only [Act.put, List.setIfInBounds_toArray, List.set_cons_zero, List.set_cons_succ]
      refine tk_ 23 ?_
      try simp only [Act.put, sl1_, sl2_, sl3_]
      refine tk_ 24 ?_
      try simp only [Act.put, sl1_, sl2_, sl3_]
      refine tk_ 25 ?_
      try simp only [Act.put, sl1_, sl2_, sl3_]
      refine tk_ 26 ?_
      try simp only [Act.put, sl1_, sl2_, sl3_]
      refine tk_ 27 ?_
      try simp only [Act.put, sl1_, sl2_, sl3_]
      refine tk_ 28 ?_
      try simp only [Act.put, sl1_, sl2_, sl3_]
      refine tk_ 29 ?_
      try simp only [Act.put, sl1_, sl2_, sl3_]
      refine tk_ 30 ?_
      try simp only [Act.put, sl1_, sl2_, sl3_]
      refine tk_ 31 ?_
      try simp only [Act.put, sl1_, sl2_, sl3_]
      refine tk_ 32 ?_
      try simp only [Act.put, sl1_, sl2_, sl3_]
      refine tk_ 33 ?_
      try simp only [Act.put, sl1_, sl2_, sl3_]
      refine tk_ 34 ?_
      try simp only [Act.put, sl1_, sl2_, sl3_]
      refine tk_ 35 ?_
      try simp only [Act.put, sl1_, sl2_, sl3_]
      refine wpAnyH_ready (rs := [36]) (by kernel_rfl) (by simp) (AllReadyH.cons (o := ?_) ?_ (fun K hK => ?_) AllReadyH.nil)
      rotate_left 1
      · (simp only [List.getElem?_toArray, List.getElem?_cons_succ, List.getElem?_cons_zero]; exact rfl)
      (go_simp; (go_at_call 28; refine (HUS.out _ _ (H17.out.upd u1)).mono ?_; rintro e w3 ⟨A, c, G, rfl, _, _, hu⟩; have u3 := u1.trans hu (fun _ _ h => h); clear hu))
      refine hK.out _ _ (by exact u3) (fun hHeld => ?_)
      clear hK K
      try simp only [Act.put, List.setIfInBounds_toArray, List.set_cons_zero, List.set_cons_succ]
      refine tk_ 37 ?_
      try simp only [Act.put, sl1_, sl2_, sl3_]
      refine tk_ 38 ?_
      try simp only [Act.put, sl1_, sl2_, sl3_]
      refine tk_ 39 ?_
      try simp only [Act.put, sl1_, sl2_, sl3_]
      refine tk_ 40 ?_
      try simp only [Act.put, sl1_, sl2_, sl3_]
      refine wpAnyH_done (by kernel_rfl) ?_ _
      go_wp2
      go_ret
      exact ⟨rfl, H17.out.up.trans u3 (fun _ _ h => h)⟩
  | true =>
    obtain rfl : r = 4 := hr
    go_enter Tryz.func3, Tryz.ntmps3
    go_wp2_with fail
    refine (HHE.out w HENV.out).mono ?_
    rintro e w1 ⟨rfl, hu1⟩
    have HU1 := Asd.mk hu1
    clear hu1
    go_wp2_with fail
    refine (HDF.out w1).mono ?_
    rintro e w2 ⟨rfl, hu2⟩
    have HU2 := Asd.mk (HU1.out.trans hu2 (fun _ _ h => h))
    clear hu2 HU1
    go_wp2_with fail
    refine (scnew_calls HU2.out (env_upd HENV.out HU2.out (fun _ h => h.elim)) dflt dflt_ok).mono ?_
    rw [← HS0.out]
    rintro e v0 ⟨q, F0, rfl, h0, hl0, hu0⟩
    have H0 := Asd.mk h0
    clear h0 hl0 hu0 HU2
    go_wp2_with fail
    refine (H0.out.connect HG0.out 1 (by omega)).mono ?_
    rw [← HS1.out]
    rintro e v1 ⟨rfl, F1, h1, t1⟩
    have H1 := Asd.mk h1
    clear h1 t1
    go_wp2_with fail
    refine (HTH.out v1).mono ?_
    rintro e v2 ⟨A, c, G, rfl, ho, hg, hl, hm, hu⟩
    have H2 := Asd.mk (H1.out.upd hu)
    have P2 := Asd.mk (H1.out.fresh ho hg)
    clear ho hg hl hm hu
    go_wp2_with fail
    refine (H2.out.bytes HG1.out (by omega) 1 (by omega) A c (helloB [97]) P2.out.rd P2.out.ad (by have := helloB_len [97]; omega)).mono ?_
    rw [← HS2.out]
    rintro e v3 ⟨rfl, F3, h3, t3⟩
    have H3 := Asd.mk h3
    clear h3 t3 P2
    go_wp2_with fail
    refine (H3.out.connect HG2.out 2 (by omega)).mono ?_
    rw [← HS3.out]
    rintro e v4 ⟨rfl, F4, h4, t4⟩
    have H4 := Asd.mk h4
    clear h4 t4
    go_wp2_with fail
    refine (HPR.out v4).mono ?_
    rintro e v5 ⟨A, c, G, rfl, ho, hg, hl, hm, hu⟩
    have H5 := Asd.mk (H4.out.upd hu)
    have P5 := Asd.mk (H4.out.fresh ho hg)
    clear ho hg hl hm hu
    go_wp2_with fail
    refine (H5.out.bytes HG3.out (by omega) 2 (by omega) A c (bR) P5.out.rd P5.out.ad (by have := HA2.out; omega)).mono ?_
    rw [← HS4.out]
    rintro e v6 ⟨rfl, F6, h6, t6⟩
    have H6 := Asd.mk h6
    clear h6 t6 P5
    go_wp2_with fail
    refine (HTF.out v6).mono ?_
    rintro e v7 ⟨A, c, G, rfl, ho, hg, hl, hm, hu⟩
    have H7 := Asd.mk (H6.out.upd hu)
    have P7 := Asd.mk (H6.out.fresh ho hg)
    clear ho hg hl hm hu
    go_wp2_with fail
    refine (H7.out.bytes HG4.out (by omega) 1 (by omega) A c (bF) P7.out.rd P7.out.ad (by have := HA3.out; omega)).mono ?_
    rw [← HS5.out]
    rintro e v8 ⟨rfl, F8, h8, t8⟩
    have H8 := Asd.mk h8
    clear h8 t8 P7
    go_wp2_with fail
    refine (H8.out.write HG5.out (by omega) 1 5000 (by omega)).mono ?_
    unfold ScG
    rw [← HS6.out]
    rintro e v9 ⟨A9, c9, rfl, F9, h9, t9, p9⟩
    have H9 := Asd.mk h9
    have P9 := Asd.mk p9
    clear h9 t9 p9
    go_wp2_with fail
    refine (H9.out.write HG6.out (by omega) 2 5000 (by omega)).mono ?_
    unfold ScG
    rw [← HS7.out]
    rintro e v10 ⟨A10, c10, rfl, F10, h10, t10, p10⟩
    have H10 := Asd.mk h10
    have P10 := Asd.mk p10
    clear h10 t10 p10
    have hm16 := keepsC (o := a) (v := .int .i64 k) (heap_alloc_new v10 (.cells #[.int .i64 5, .int .i64 6, .int .i64 7, .int .i64 8, .int .i64 9, .int .i64 11] 40)) hki
    have hs10 := (Upd.refl (fun _ => False) v10).alloc (.cells #[.int .i64 5, .int .i64 6, .int .i64 7, .int .i64 8, .int .i64 9, .int .i64 11] 40)
    have hs16 := Upd.refl (fun _ => False) (v10.alloc (.cells #[.int .i64 5, .int .i64 6, .int .i64 7, .int .i64 8, .int .i64 9, .int .i64 11] 40))
    go_upto_region 17 with fail
    rcases hk5 with ⟨h0, rfl⟩ | ⟨h0, h5, h6⟩
    · have hm17 : m = 0 := by rw [HM.out]; unfold numD; rw [if_pos h0]
      clear hm16 hki
      subst hm17
      have hk11 : Upd (fun _ => False) v10 ((v10.alloc (.cells #[.int .i64 5, .int .i64 6, .int .i64 7, .int .i64 8, .int .i64 9, .int .i64 11] 40)).alloc (.cells #[.int .i64 5, .int .i64 0] 44)) := ((Upd.refl (fun _ => False) v10).alloc _).alloc _
      have H11 := Asd.mk (H10.out.upd hk11)
      have hs11 := Upd.refl (fun _ => False) ((v10.alloc (.cells #[.int .i64 5, .int .i64 6, .int .i64 7, .int .i64 8, .int .i64 9, .int .i64 11] 40)).alloc (.cells #[.int .i64 5, .int .i64 0] 44))
      have hb := heap_alloc_new (v10.alloc (.cells #[.int .i64 5, .int .i64 6, .int .i64 7, .int .i64 8, .int .i64 9, .int .i64 11] 40)) (.cells #[.int .i64 5, .int .i64 0] 44)
      have hgz : v10.heap.size + 1 = (v10.alloc (.cells #[.int .i64 5, .int .i64 6, .int .i64 7, .int .i64 8, .int .i64 9, .int .i64 11] 40)).heap.size := by rw [World.size_alloc]
      have HHB := Asd.mk hb
      have HGZ := Asd.mk hgz
      clear hb hgz
      go_wp2_with fail
      refine (HST.out _ H11.out.env).mono ?_
      rintro e v12 ⟨rfl, hu12⟩
      have H12 := Asd.mk (H11.out.upd hu12)
      have U12 := Asd.mk hu12
      clear hu12
      go_wp2_with fail
      refine (HTD.out _).mono ?_
      rintro e v13 ⟨A, c, G, rfl, ho, hg, hl, hm, hu⟩
      have H13 := Asd.mk (H12.out.upd hu)
      have P13 := Asd.mk (H12.out.fresh ho hg)
      have U13 := Asd.mk (U12.out.trans hu (fun _ _ h => h))
      clear ho hg hl hm hu
      go_wp2_with fail
      refine (H13.out.bytes HG7.out (by omega) 2 (by omega) A c bD P13.out.rd P13.out.ad (by have := HA4.out; omega)).mono ?_
      rw [← HS8.out]
      rintro e v14 ⟨rfl, F14, h14, t14⟩
      have H14 := Asd.mk h14
      have T14 := Asd.mk t14
      clear h14 t14 P13
      have HFW := H14.out.few HG8.out
      have HWL : Asd (w9.length ≤ 65536) := ⟨by rw [HW9.out]; exact write_len s8 2 5000 HG8.out (fun c hg => HFW 2 c hg)⟩
      clear HFW
      go_wp2_with fail
      refine (H14.out.write HG8.out (by omega) 2 5000 (by omega)).mono ?_
      unfold ScG
      rw [← HS9.out, ← HW9.out]
      rintro e v15 ⟨A15, c15, rfl, F15, h15, t15, p15⟩
      have H15 := Asd.mk h15
      have T15 := Asd.mk t15
      have P15 := Asd.mk p15
      clear h15 t15 p15
      go_wp2_with fail
      refine (messages_calls A15 w9.length c15 w9 v15 P15.out.rd P15.out.le.1 (by have := HWL.out; omega)).mono ?_
      rw [HOKx.out.1]
      rintro e v16 ⟨A16, c16, G16, rfl, ho16, hg16, hu16, hl16⟩
      have H16 := Asd.mk (H15.out.upd hu16)
      obtain ⟨ad, rfl, hG, x0, x1, x2, x3⟩ := one_msg ho16
      have hnx : ¬ F15 ad.block := fun hf => by have h1 := H15.out.lt _ hf; have h2 := hg16 _ hG; omega
      have HX := Asd.mk (And.intro hnx (And.intro x0 (And.intro x1 (And.intro x2 x3))))
      have U16 := Asd.mk hu16
      simp only [List.length_singleton]
      clear ho16 hg16 hu16 hl16 hG x0 x1 x2 x3 hnx P15
      go_wp2_with fail
      refine (H16.out.write HG9.out (by omega) 1 5000 (by omega)).mono ?_
      unfold ScG
      rw [← HSA.out, ← HWA.out, HOKx.out.2.1]
      rintro e v17 ⟨A17, c17, rfl, F17, h17, t17, p17⟩
      have H17 := Asd.mk h17
      have T17 := Asd.mk t17
      clear h17 t17 p17
      simp only [List.length_nil]
      go_wp2_with fail
      refine (H17.out.role 1 (by omega)).mono ?_
      rw [HOKx.out.2.2.2.1]
      rintro e w'' ⟨rfl, rfl⟩
      go_wp2_with fail
      refine (H17.out.role 2 (by omega)).mono ?_
      rw [HOKx.out.2.2.2.2.1]
      rintro e w'' ⟨rfl, rfl⟩
      go_upto_region 28 with fail
      have hnF : ¬ F10 (v10.heap.size + 1) := fun hf => by have := H10.out.lt _ hf; omega
      have hb := HHB.out
      rw [← HGZ.out] at hb
      obtain ⟨b14, n14⟩ := tn_blk T14.out (U13.out.blk hb (fun h => h)) hnF
      obtain ⟨b15, n15⟩ := tn_blk T15.out b14 n14
      obtain ⟨b17, n17⟩ := tn_blk T17.out (U16.out.blk b15 (fun h => h)) n15
      obtain ⟨nx, x0, x1, x2, x3⟩ := HX.out
      obtain ⟨y0, _⟩ := tn_cell T17.out x0 nx
      obtain ⟨y1, _⟩ := tn_cell T17.out x1 nx
      obtain ⟨y2, _⟩ := tn_cell T17.out x2 nx
      obtain ⟨y3, _⟩ := tn_cell T17.out x3 nx
      have m0 : ∀ W, Upd (fun _ => False) v17 W → W.cell? ad = some (.int .i64 11) := fun W k => k.cell y0 (fun h => h)
      have m1 : ∀ W, Upd (fun _ => False) v17 W → W.cell? ⟨ad.block, ad.off + 1, none⟩ = some (.int .i64 0) := fun W k => k.cell y1 (fun h => h)
      have m2 : ∀ W, Upd (fun _ => False) v17 W → W.cell? ⟨ad.block, ad.off + 2, none⟩ = some (.int .i64 0) := fun W k => k.cell y2 (fun h => h)
      have m3 : ∀ W, Upd (fun _ => False) v17 W → W.cell? ⟨ad.block, ad.off + 3, none⟩ = some (.string (S oT)) := fun W k => k.cell y3 (fun h => h)
      have o0 := keepsC (o := 0) (v := .int .i64 5) b17 rfl
      have o1 := keepsC (o := 1) (v := .int .i64 0) b17 rfl
      have HUS := Asd.mk (fun (w' : World) (F' : Nat → Prop) (h : Sc w q sA w' F') => h.users HGA.out.ok)
      have HHO := Asd.mk (fun (w' : World) (F' : Nat → Prop) (h : Sc w q sA w' F') => h.holder)
      unfold NewI at HUS
      rw [HOKx.out.2.2.1] at HHO
      rw [HOKx.out.2.2.2.2.2] at HUS
      clear hb b14 n14 b15 n15 b17 n17 nx x0 x1 x2 x3 y0 y1 y2 y3 hnF
      refine wp_region_held_drew (S := fun W => Upd (fun _ => False) v17 W) (by kernel_rfl) (by exact (by repeat (first | assumption | with_reducible exact Upd.refl _ _ | with_reducible refine Upd.drewN ?_ _ | with_reducible refine Upd.drew ?_ | with_reducible refine Upd.alloc ?_ _ | with_reducible refine Upd.setAt ?_ ?_ | exact Or.inl rfl | exact Or.inr (by simp) | exact Or.inr (by omega)))) (fun hHeld => ?_)
      refine tk_ 0 ?_
      try simp only [Act.put, sl1_, sl2_, sl3_]
      refine tk_ 1 ?_
      try simp only [Act.put, sl1_, sl2_, sl3_]
      refine tk_ 2 ?_
      try simp only [Act.put, sl1_, sl2_, sl3_]
      refine tk_ 3 ?_
      try simp only [Act.put, sl1_, sl2_, sl3_]
      refine tk_ 4 ?_
      try simp only [Act.put, sl1_, sl2_, sl3_]
      refine tk_ 5 ?_
      try simp only [Act.put, sl1_, sl2_, sl3_]
      refine tk_ 6 ?_
      try simp only [Act.put, sl1_, sl2_, sl3_]
      refine tk_ 7 ?_
      try simp only [Act.put, sl1_, sl2_, sl3_]
      refine tk_ 8 ?_
      try simp only [Act.put, sl1_, sl2_, sl3_]
      refine tk_ 9 ?_
      try simp only [Act.put, sl1_, sl2_, sl3_]
      refine tk_ 10 ?_
      try simp only [Act.put, sl1_, sl2_, sl3_]
      refine wpAnyH_ready (rs := [11]) (by kernel_rfl) (by simp) (AllReadyH.cons (o := ?_) ?_ (fun K hK => ?_) AllReadyH.nil)
      rotate_left 1
      · (simp only [List.getElem?_toArray, List.getElem?_cons_succ, List.getElem?_cons_zero]; exact rfl)
      (go_simp; (go_at_call 24; have hd := (show Upd (fun _ => False) v17 v17.drew from (by repeat (first | assumption | with_reducible exact Upd.refl _ _ | with_reducible refine Upd.drewN ?_ _ | with_reducible refine Upd.drew ?_ | with_reducible refine Upd.alloc ?_ _ | with_reducible refine Upd.setAt ?_ ?_ | exact Or.inl rfl | exact Or.inr (by simp) | exact Or.inr (by omega)))); refine (HST.out _ (H17.out.upd hd).env).mono ?_; rintro e w1 ⟨rfl, hu⟩; have u1 := hd.trans hu (fun _ _ h => h); clear hu))
      refine hK.out _ _ (by exact u1) (fun hHeld => ?_)
      clear hK K
      try simp only [Act.put, List.setIfInBounds_toArray, List.set_cons_zero, List.set_cons_succ]
      refine tk_ 12 ?_
      try simp only [Act.put, sl1_, sl2_, sl3_]
      refine tk_ 13 ?_
      try simp only [Act.put, sl1_, sl2_, sl3_]
      refine tk_ 14 ?_
      try simp only [Act.put, sl1_, sl2_, sl3_]
      refine tk_ 15 ?_
      try simp only [Act.put, sl1_, sl2_, sl3_]
      refine tk_ 16 ?_
      try simp only [Act.put, sl1_, sl2_, sl3_]
      refine tk_ 17 ?_
      try simp only [Act.put, sl1_, sl2_, sl3_]
      refine tk_ 18 ?_
      try simp only [Act.put, sl1_, sl2_, sl3_]
      refine tk_ 19 ?_
      try simp only [Act.put, sl1_, sl2_, sl3_]
      refine tk_ 20 ?_
      try simp only [Act.put, sl1_, sl2_, sl3_]
      refine tk_ 21 ?_
      try simp only [Act.put, sl1_, sl2_, sl3_]
      refine wpAnyH_ready (rs := [22]) (by kernel_rfl) (by simp) (AllReadyH.cons (o := ?_) ?_ (fun K hK => ?_) AllReadyH.nil)
      rotate_left 1
      · (simp only [List.getElem?_toArray, List.getElem?_cons_succ, List.getElem?_cons_zero]; exact rfl)
      (go_simp; (go_at_call 27; refine (HHO.out _ _ (H17.out.upd u1)).mono ?_; rintro e w2 ⟨rfl, rfl⟩))
      refine hK.out _ _ (by exact u1) (fun hHeld => ?_)
      clear hK K
      try simp only [Act.put, List.setIfInBounds_toArray, List.set_cons_zero, List.set_cons_succ]
      refine tk_ 23 ?_
      try simp only [Act.put, sl1_, sl2_, sl3_]
      refine tk_ 24 ?_
      try simp only [Act.put, sl1_, sl2_, sl3_]
      refine tk_ 25 ?_
      try simp only [Act.put, sl1_, sl2_, sl3_]
      refine tk_ 26 ?_
      try simp only [Act.put, sl1_, sl2_, sl3_]
      refine tk_ 27 ?_
      try simp only [Act.put, sl1_, sl2_, sl3_]
      refine tk_ 28 ?_
      try simp only [Act.put, sl1_, sl2_, sl3_]
      refine tk_ 29 ?_
      try simp only [Act.put, sl1_, sl2_, sl3_]
      refine tk_ 30 ?_
      try simp only [Act.put, sl1_, sl2_, sl3_]
      refine tk_ 31 ?_
      try simp only [Act.put, sl1_, sl2_, sl3_]
      refine tk_ 32 ?_
      try simp only [Act.put, sl1_, sl2_, sl3_]
      refine tk_ 33 ?_
      try simp only [Act.put, sl1_, sl2_, sl3_]
      refine tk_ 34 ?_
      try simp only [Act.put, sl1_, sl2_, sl3_]
      refine tk_ 35 ?_
      try simp only [Act.put, sl1_, sl2_, sl3_]
      refine wpAnyH_ready (rs := [36]) (by kernel_rfl) (by simp) (AllReadyH.cons (o := ?_) ?_ (fun K hK => ?_) AllReadyH.nil)
      rotate_left 1
      · (simp only [List.getElem?_toArray, List.getElem?_cons_succ, List.getElem?_cons_zero]; exact rfl)
      (go_simp; (go_at_call 28; refine (HUS.out _ _ (H17.out.upd u1)).mono ?_; rintro e w3 ⟨A, c, G, rfl, _, _, hu⟩; have u3 := u1.trans hu (fun _ _ h => h); clear hu))
      refine hK.out _ _ (by exact u3) (fun hHeld => ?_)
      clear hK K
      try simp only [Act.put, List.setIfInBounds_toArray, List.set_cons_zero, List.set_cons_succ]
      refine tk_ 37 ?_
      try simp only [Act.put, sl1_, sl2_, sl3_]
      refine tk_ 38 ?_
      try simp only [Act.put, sl1_, sl2_, sl3_]
      refine tk_ 39 ?_
      try simp only [Act.put, sl1_, sl2_, sl3_]
      refine tk_ 40 ?_
      try simp only [Act.put, sl1_, sl2_, sl3_]
      refine wpAnyH_done (by kernel_rfl) ?_ _
      go_wp2
      go_ret
      exact ⟨rfl, H17.out.up.trans u3 (fun _ _ h => h)⟩
    · have hm17 : m = 1 + (j : Int) := by rw [HM.out]; unfold numD; rw [if_neg h0]
      clear hm16 hki
      subst hm17
      have hk11 : Upd (fun _ => False) v10 ((v10.alloc (.cells #[.int .i64 5, .int .i64 6, .int .i64 7, .int .i64 8, .int .i64 9, .int .i64 11] 40)).alloc (.cells #[.int .i64 k, .int .i64 (1 + (j : Int))] 44)) := ((Upd.refl (fun _ => False) v10).alloc _).alloc _
      have H11 := Asd.mk (H10.out.upd hk11)
      have hs11 := Upd.refl (fun _ => False) ((v10.alloc (.cells #[.int .i64 5, .int .i64 6, .int .i64 7, .int .i64 8, .int .i64 9, .int .i64 11] 40)).alloc (.cells #[.int .i64 k, .int .i64 (1 + (j : Int))] 44))
      have hb := heap_alloc_new (v10.alloc (.cells #[.int .i64 5, .int .i64 6, .int .i64 7, .int .i64 8, .int .i64 9, .int .i64 11] 40)) (.cells #[.int .i64 k, .int .i64 (1 + (j : Int))] 44)
      have hgz : v10.heap.size + 1 = (v10.alloc (.cells #[.int .i64 5, .int .i64 6, .int .i64 7, .int .i64 8, .int .i64 9, .int .i64 11] 40)).heap.size := by rw [World.size_alloc]
      have HHB := Asd.mk hb
      have HGZ := Asd.mk hgz
      clear hb hgz
      go_wp2_with fail
      refine (HST.out _ H11.out.env).mono ?_
      rintro e v12 ⟨rfl, hu12⟩
      have H12 := Asd.mk (H11.out.upd hu12)
      have U12 := Asd.mk hu12
      clear hu12
      go_wp2_with fail
      refine (HTD.out _).mono ?_
      rintro e v13 ⟨A, c, G, rfl, ho, hg, hl, hm, hu⟩
      have H13 := Asd.mk (H12.out.upd hu)
      have P13 := Asd.mk (H12.out.fresh ho hg)
      have U13 := Asd.mk (U12.out.trans hu (fun _ _ h => h))
      clear ho hg hl hm hu
      go_wp2_with fail
      refine (H13.out.bytes HG7.out (by omega) 2 (by omega) A c bD P13.out.rd P13.out.ad (by have := HA4.out; omega)).mono ?_
      rw [← HS8.out]
      rintro e v14 ⟨rfl, F14, h14, t14⟩
      have H14 := Asd.mk h14
      have T14 := Asd.mk t14
      clear h14 t14 P13
      have HFW := H14.out.few HG8.out
      have HWL : Asd (w9.length ≤ 65536) := ⟨by rw [HW9.out]; exact write_len s8 2 5000 HG8.out (fun c hg => HFW 2 c hg)⟩
      clear HFW
      go_wp2_with fail
      refine (H14.out.write HG8.out (by omega) 2 5000 (by omega)).mono ?_
      unfold ScG
      rw [← HS9.out, ← HW9.out]
      rintro e v15 ⟨A15, c15, rfl, F15, h15, t15, p15⟩
      have H15 := Asd.mk h15
      have T15 := Asd.mk t15
      have P15 := Asd.mk p15
      clear h15 t15 p15
      go_wp2_with fail
      refine (messages_calls A15 w9.length c15 w9 v15 P15.out.rd P15.out.le.1 (by have := HWL.out; omega)).mono ?_
      rw [HOKx.out.1]
      rintro e v16 ⟨A16, c16, G16, rfl, ho16, hg16, hu16, hl16⟩
      have H16 := Asd.mk (H15.out.upd hu16)
      obtain ⟨ad, rfl, hG, x0, x1, x2, x3⟩ := one_msg ho16
      have hnx : ¬ F15 ad.block := fun hf => by have h1 := H15.out.lt _ hf; have h2 := hg16 _ hG; omega
      have HX := Asd.mk (And.intro hnx (And.intro x0 (And.intro x1 (And.intro x2 x3))))
      have U16 := Asd.mk hu16
      simp only [List.length_singleton]
      clear ho16 hg16 hu16 hl16 hG x0 x1 x2 x3 hnx P15
      go_wp2_with fail
      refine (H16.out.write HG9.out (by omega) 1 5000 (by omega)).mono ?_
      unfold ScG
      rw [← HSA.out, ← HWA.out, HOKx.out.2.1]
      rintro e v17 ⟨A17, c17, rfl, F17, h17, t17, p17⟩
      have H17 := Asd.mk h17
      have T17 := Asd.mk t17
      clear h17 t17 p17
      simp only [List.length_nil]
      go_wp2_with fail
      refine (H17.out.role 1 (by omega)).mono ?_
      rw [HOKx.out.2.2.2.1]
      rintro e w'' ⟨rfl, rfl⟩
      go_wp2_with fail
      refine (H17.out.role 2 (by omega)).mono ?_
      rw [HOKx.out.2.2.2.2.1]
      rintro e w'' ⟨rfl, rfl⟩
      go_upto_region 28 with fail
      have hnF : ¬ F10 (v10.heap.size + 1) := fun hf => by have := H10.out.lt _ hf; omega
      have hb := HHB.out
      rw [← HGZ.out] at hb
      obtain ⟨b14, n14⟩ := tn_blk T14.out (U13.out.blk hb (fun h => h)) hnF
      obtain ⟨b15, n15⟩ := tn_blk T15.out b14 n14
      obtain ⟨b17, n17⟩ := tn_blk T17.out (U16.out.blk b15 (fun h => h)) n15
      obtain ⟨nx, x0, x1, x2, x3⟩ := HX.out
      obtain ⟨y0, _⟩ := tn_cell T17.out x0 nx
      obtain ⟨y1, _⟩ := tn_cell T17.out x1 nx
      obtain ⟨y2, _⟩ := tn_cell T17.out x2 nx
      obtain ⟨y3, _⟩ := tn_cell T17.out x3 nx
      have m0 : ∀ W, Upd (fun _ => False) v17 W → W.cell? ad = some (.int .i64 11) := fun W k => k.cell y0 (fun h => h)
      have m1 : ∀ W, Upd (fun _ => False) v17 W → W.cell? ⟨ad.block, ad.off + 1, none⟩ = some (.int .i64 0) := fun W k => k.cell y1 (fun h => h)
      have m2 : ∀ W, Upd (fun _ => False) v17 W → W.cell? ⟨ad.block, ad.off + 2, none⟩ = some (.int .i64 0) := fun W k => k.cell y2 (fun h => h)
      have m3 : ∀ W, Upd (fun _ => False) v17 W → W.cell? ⟨ad.block, ad.off + 3, none⟩ = some (.string (S oT)) := fun W k => k.cell y3 (fun h => h)
      have o0 := keepsC (o := 0) (v := .int .i64 k) b17 rfl
      have o1 := keepsC (o := 1) (v := .int .i64 (1 + (j : Int))) b17 rfl
      have HUS := Asd.mk (fun (w' : World) (F' : Nat → Prop) (h : Sc w q sA w' F') => h.users HGA.out.ok)
      have HHO := Asd.mk (fun (w' : World) (F' : Nat → Prop) (h : Sc w q sA w' F') => h.holder)
      unfold NewI at HUS
      rw [HOKx.out.2.2.1] at HHO
      rw [HOKx.out.2.2.2.2.2] at HUS
      clear hb b14 n14 b15 n15 b17 n17 nx x0 x1 x2 x3 y0 y1 y2 y3 hnF
      refine wp_region_held_drew (S := fun W => Upd (fun _ => False) v17 W) (by kernel_rfl) (by exact (by repeat (first | assumption | with_reducible exact Upd.refl _ _ | with_reducible refine Upd.drewN ?_ _ | with_reducible refine Upd.drew ?_ | with_reducible refine Upd.alloc ?_ _ | with_reducible refine Upd.setAt ?_ ?_ | exact Or.inl rfl | exact Or.inr (by simp) | exact Or.inr (by omega)))) (fun hHeld => ?_)
      refine tk_ 0 ?_
      try simp only [Act.put, sl1_, sl2_, sl3_]
      refine tk_ 1 ?_
      try simp only [Act.put, sl1_, sl2_, sl3_]
      refine tk_ 2 ?_
      try simp only [Act.put, sl1_, sl2_, sl3_]
      refine tk_ 3 ?_
      try simp only [Act.put, sl1_, sl2_, sl3_]
      refine tk_ 4 ?_
      try simp only [Act.put, sl1_, sl2_, sl3_]
      refine tk_ 5 ?_
      try simp only [Act.put, sl1_, sl2_, sl3_]
      refine tk_ 6 ?_
      try simp only [Act.put, sl1_, sl2_, sl3_]
      refine tk_ 7 ?_
      try simp only [Act.put, sl1_, sl2_, sl3_]
      refine tk_ 8 ?_
      try simp only [Act.put, sl1_, sl2_, sl3_]
      refine tk_ 9 ?_
      try simp only [Act.put, sl1_, sl2_, sl3_]
      refine tk_ 10 ?_
      try simp only [Act.put, sl1_, sl2_, sl3_]
      refine wpAnyH_ready (rs := [11]) (by kernel_rfl) (by simp) (AllReadyH.cons (o := ?_) ?_ (fun K hK => ?_) AllReadyH.nil)
      rotate_left 1
      · (simp only [List.getElem?_toArray, List.getElem?_cons_succ, List.getElem?_cons_zero]; exact rfl)
      (go_simp; (go_at_call 24; have hd := (show Upd (fun _ => False) v17 v17.drew from (by repeat (first | assumption | with_reducible exact Upd.refl _ _ | with_reducible refine Upd.drewN ?_ _ | with_reducible refine Upd.drew ?_ | with_reducible refine Upd.alloc ?_ _ | with_reducible refine Upd.setAt ?_ ?_ | exact Or.inl rfl | exact Or.inr (by simp) | exact Or.inr (by omega)))); refine (HST.out _ (H17.out.upd hd).env).mono ?_; rintro e w1 ⟨rfl, hu⟩; have u1 := hd.trans hu (fun _ _ h => h); clear hu))
      refine hK.out _ _ (by exact u1) (fun hHeld => ?_)
      clear hK K
      try simp only [Act.put, List.setIfInBounds_toArray, List.set_cons_zero, List.set_cons_succ]
      refine tk_ 12 ?_
      try simp only [Act.put, sl1_, sl2_, sl3_]
      refine tk_ 13 ?_
      try simp only [Act.put, sl1_, sl2_, sl3_]
      refine tk_ 14 ?_
      try simp only [Act.put, sl1_, sl2_, sl3_]
      refine tk_ 15 ?_
      try simp only [Act.put, sl1_, sl2_, sl3_]
      refine tk_ 16 ?_
      try simp only [Act.put, sl1_, sl2_, sl3_]
      refine tk_ 17 ?_
      try simp only [Act.put, sl1_, sl2_, sl3_]
      refine tk_ 18 ?_
      try simp only [Act.put, sl1_, sl2_, sl3_]
      refine tk_ 19 ?_
      try simp only [Act.put, sl1_, sl2_, sl3_]
      refine tk_ 20 ?_
      try simp only [Act.put, sl1_, sl2_, sl3_]
      refine tk_ 21 ?_
      try simp only [Act.put, sl1_, sl2_, sl3_]
      refine wpAnyH_ready (rs := [22]) (by kernel_rfl) (by simp) (AllReadyH.cons (o := ?_) ?_ (fun K hK => ?_) AllReadyH.nil)
      rotate_left 1
      · (simp only [List.getElem?_toArray, List.getElem?_cons_succ, List.getElem?_cons_zero]; exact rfl)
      (go_simp; (go_at_call 27; refine (HHO.out _ _ (H17.out.upd u1)).mono ?_; rintro e w2 ⟨rfl, rfl⟩))
      refine hK.out _ _ (by exact u1) (fun hHeld => ?_)
      clear hK K
      try simp only [Act.put, List.setIfInBounds_toArray, List.set_cons_zero, List.set_cons_succ]
      refine tk_ 23 ?_
      try simp only [Act.put, sl1_, sl2_, sl3_]
      refine tk_ 24 ?_
      try simp only [Act.put, sl1_, sl2_, sl3_]
      refine tk_ 25 ?_
      try simp only [Act.put, sl1_, sl2_, sl3_]
      refine tk_ 26 ?_
      try simp only [Act.put, sl1_, sl2_, sl3_]
      refine tk_ 27 ?_
      try simp only [Act.put, sl1_, sl2_, sl3_]
      refine tk_ 28 ?_
      try simp only [Act.put, sl1_, sl2_, sl3_]
      refine tk_ 29 ?_
      try simp only [Act.put, sl1_, sl2_, sl3_]
      refine tk_ 30 ?_
      try simp only [Act.put, sl1_, sl2_, sl3_]
      refine tk_ 31 ?_
      try simp only [Act.put, sl1_, sl2_, sl3_]
      refine tk_ 32 ?_
      try simp only [Act.put, sl1_, sl2_, sl3_]
      refine tk_ 33 ?_
      try simp only [Act.put, sl1_, sl2_, sl3_]
      refine tk_ 34 ?_
      try simp only [Act.put, sl1_, sl2_, sl3_]
      refine tk_ 35 ?_
      try simp only [Act.put, sl1_, sl2_, sl3_]
      refine wpAnyH_ready (rs := [36]) (by kernel_rfl) (by simp) (AllReadyH.cons (o := ?_) ?_ (fun K hK => ?_) AllReadyH.nil)
      rotate_left 1
      · (simp only [List.getElem?_toArray, List.getElem?_cons_succ, List.getElem?_cons_zero]; exact rfl)
      (go_simp; (go_at_call 28; refine (HUS.out _ _ (H17.out.upd u1)).mono ?_; rintro e w3 ⟨A, c, G, rfl, _, _, hu⟩; have u3 := u1.trans hu (fun _ _ h => h); clear hu))
      refine hK.out _ _ (by exact u3) (fun hHeld => ?_)
      clear hK K
      try simp only [Act.put, List.setIfInBounds_toArray, List.set_cons_zero, List.set_cons_succ]
      refine tk_ 37 ?_
      try simp only [Act.put, sl1_, sl2_, sl3_]
      refine tk_ 38 ?_
      try simp only [Act.put, sl1_, sl2_, sl3_]
      refine tk_ 39 ?_
      try simp only [Act.put, sl1_, sl2_, sl3_]
      refine tk_ 40 ?_
      try simp only [Act.put, sl1_, sl2_, sl3_]
      refine wpAnyH_done (by kernel_rfl) ?_ _
      go_wp2
      go_ret
      exact ⟨rfl, H17.out.up.trans u3 (fun _ _ h => h)⟩
end Go.Proofs.YteepkanbiefpjaaGreatDoor.Bk
