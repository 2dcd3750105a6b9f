/- What these laws lean on, part YEvicts: contracts of the given program's functions and plain lists. No condition. -/
import Derived.Test.YteepkanbiefpjaaGreatDoorXo
import Derived.Test.YteepkanbiefpjaaGreatDoorZa
set_option linter.unusedVariables false
set_option linter.unusedSimpArgs false
namespace Go.Proofs.YteepkanbiefpjaaGreatDoor.Bk
open Go.RowKit K
open MgRow (M mC Ms)
def cfE (st sz : Nat) : Cf := ⟨(sz : Int), 8, 320, 9, (st : Int), 5, 0, 9⟩
def slowT : List UInt8 := [115, 108, 111, 119]
def eS (st sz : Nat) : Br := (bytes (connect (new (cfE st sz)) 1).1 1 (helloB slowT)).1
def pcE (n : Nat) : List UInt8 := List.replicate n 120
def there (s : Br) : Bool := (Fl.rget s.tab.roles 1).isSome
def kLast (l : List M) : Int := match l.getLast? with | some x => x.k | none => 0
def gapsOf (l : List M) : Nat := l.countP fun m => m.k == 7
def endE (st : Nat) (s : Br) : Bool := (msgs (write s 1 70000).2.1).2 && (ids (write s 1 70000).1).isEmpty && decide (gapsOf (msgs (write s 1 70000).2.1).1 ≤ st) && kLast (msgs (write s 1 70000).2.1).1 == 12
def chkE (st n : Nat) : Nat → Br → Bool
  | 0, s => !there s && endE st s
  | f + 1, s => if there s then chkE st n f (output s (pcE n)).1 else endE st s
def eOk (st sz : Nat) : Bool := chkE st (3 * sz + 1) 30 (eS st sz)
theorem evicts_a : ∀ st < 4, ∀ sz < 8, eOk st (sz + 1) = true := by decide +kernel
theorem evicts_b : ∀ st < 4, ∀ sz < 8, eOk st (sz + 8 + 1) = true := by decide +kernel
theorem evicts_c : ∀ st < 4, ∀ sz < 8, eOk st (sz + 16 + 1) = true := by decide +kernel
theorem evicts_d : ∀ st < 4, ∀ sz < 8, eOk st (sz + 24 + 1) = true := by decide +kernel
theorem evicts_all (st sz : Nat) (h1 : st < 4) (h2 : sz < 32) : eOk st (sz + 1) = true := by
  rcases Nat.lt_or_ge sz 8 with h | h
  · exact evicts_a st h1 sz h
  rcases Nat.lt_or_ge sz 16 with h | h
  · have := evicts_b st h1 (sz - 8) (by omega); rw [show sz - 8 + 8 = sz by omega] at this; exact this
  rcases Nat.lt_or_ge sz 24 with h | h
  · have := evicts_c st h1 (sz - 16) (by omega); rw [show sz - 16 + 16 = sz by omega] at this; exact this
  · have := evicts_d st h1 (sz - 24) (by omega); rw [show sz - 24 + 24 = sz by omega] at this; exact this
end Go.Proofs.YteepkanbiefpjaaGreatDoor.Bk
set_option linter.unusedVariables false
set_option linter.unusedSimpArgs false
namespace Go.Proofs.YteepkanbiefpjaaGreatDoor.Bk
open Go.RowKit K
open MgRow (M mC Ms)
theorem tn_cell {w w' : World} {F F' : Nat → Prop} (t : Tn w F w' F') {a : Addr} {v : Value} (hc : w.cell? a = some v) (hn : ¬ F a.block) : w'.cell? a = some v ∧ ¬ F' a.block := ⟨t.upd.cell hc hn, fun h => by
  rcases t.new _ h with h | h
  · exact hn h
  · have := World.block_lt_of_cell? w a hc; omega⟩
theorem tn_blk {w w' : World} {F F' : Nat → Prop} (t : Tn w F w' F') {g : Nat} {o : Obj} (hc : w.heap[g]? = some o) (hn : ¬ F g) : w'.heap[g]? = some o ∧ ¬ F' g := ⟨t.upd.blk hc hn, fun h => by
  rcases t.new _ h with h | h
  · exact hn h
  · have := blk_lt hc; omega⟩
theorem OwnM.cells {w : World} {A : Option Addr} {c : Nat} {L : List M} {G : Option Nat} (h : OwnM w A c L G) (hl : L.length ≤ 1000000) {i : Nat} {m : M} (hm : L[i]? = some m) : ∃ ad, A = some ad ∧ G = some ad.block ∧ w.cell? (ad.add (i * 4)) = some (.int .i64 m.k) ∧ w.cell? ⟨(ad.add (i * 4)).block, (ad.add (i * 4)).off + 1, none⟩ = some (.int .i64 m.a) ∧ w.cell? ⟨(ad.add (i * 4)).block, (ad.add (i * 4)).off + 2, none⟩ = some (.int .i64 m.b) ∧ w.cell? ⟨(ad.add (i * 4)).block, (ad.add (i * 4)).off + 3, none⟩ = some (.string (S m.t)) := by
  obtain ⟨hi, hmi⟩ := List.getElem?_eq_some_iff.1 hm
  have hms := h.ms (by omega)
  obtain ⟨ad, e, hc⟩ := hms.at_ i hi
  rw [hmi] at hc
  obtain ⟨A1, c1, he1, _, _, _, hA⟩ := K.Own.slice h
  obtain ⟨rfl, rfl⟩ : A = A1 ∧ c = c1 := by injection he1 with a b c; exact ⟨a, c⟩
  have hx : ∀ j, ad.add (i * 4 + (j + 1)) = ⟨(ad.add (i * 4)).block, (ad.add (i * 4)).off + (j + 1), none⟩ := fun j => by
    rw [← add_add]
    simp [Addr.add]
  exact ⟨ad, e, hA ad e, hc 0 _ rfl, by rw [← hx 0]; exact hc 1 _ rfl, by rw [← hx 1]; exact hc 2 _ rfl, by rw [← hx 2]; exact hc 3 _ rfl⟩
theorem one_msg {w : World} {A : Option Addr} {c : Nat} {m : M} {G : Option Nat} (h : OwnM w A c [m] G) : ∃ ad, A = some ad ∧ G = some ad.block ∧ w.cell? ad = some (.int .i64 m.k) ∧ w.cell? ⟨ad.block, ad.off + 1, none⟩ = some (.int .i64 m.a) ∧ w.cell? ⟨ad.block, ad.off + 2, none⟩ = some (.int .i64 m.b) ∧ w.cell? ⟨ad.block, ad.off + 3, none⟩ = some (.string (S m.t)) := by
  have hms := h.ms (by simp)
  obtain ⟨A1, c1, he1, _, _, _, hA⟩ := K.Own.slice h
  obtain ⟨rfl, rfl⟩ : A = A1 ∧ c = c1 := by injection he1 with a b c; exact ⟨a, c⟩
  obtain ⟨ad, e, hc⟩ := hms.at_ 0 (by simp)
  have h0 := hc 0 _ rfl
  have h1 := hc 1 _ rfl
  have h2 := hc 2 _ rfl
  have h3 := hc 3 _ rfl
  refine ⟨ad, e, hA ad e, ?_, ?_, ?_, ?_⟩
  · simpa [Addr.add] using h0
  · simpa [Addr.add] using h1
  · simpa [Addr.add] using h2
  · simpa [Addr.add] using h3
theorem msgsN_le : ∀ (n : Nat) (b : List UInt8), (msgsN n b).1.length ≤ b.length
  | 0, b => by simp [msgsN]
  | n + 1, b => by
    unfold msgsN
    split
    · simp
    · split
      · simp
      · rename_i h1 h2
        have h0 : (Fr.fget b).2.2.2 = 0 := by
          rcases Classical.em ((Fr.fget b).2.2.2 = 0) with e | e
          · exact e
          · exact absurd (.inl e) h2
        have := FdMath.drop_lt b h0
        have := msgsN_le n (b.drop (Fr.fget b).2.2.1)
        simp only [List.length_cons]
        omega
theorem msgs_le (b : List UInt8) : (msgs b).1.length ≤ b.length := msgsN_le _ b
end Go.Proofs.YteepkanbiefpjaaGreatDoor.Bk
set_option linter.unusedVariables false
set_option linter.unusedSimpArgs false
namespace Go.Proofs.YteepkanbiefpjaaGreatDoor.Bk
open Go.RowKit K
open MgRow (M mC Ms)
theorem chkE_go {st n f : Nat} {s : Br} (h : chkE st n f s = true) (ht : there s = true) : ∃ g, f = g + 1 ∧ chkE st n g (output s (pcE n)).1 = true := by
  cases f with
  | zero => unfold chkE at h; rw [ht] at h; cases h
  | succ g => unfold chkE at h; rw [if_pos ht] at h; exact ⟨g, rfl, h⟩
theorem chkE_end {st n f : Nat} {s : Br} (h : chkE st n f s = true) (ht : there s = false) : endE st s = true := by
  cases f with
  | zero => unfold chkE at h; rw [ht] at h; exact h
  | succ g => unfold chkE at h; rw [if_neg (by rw [ht]; decide)] at h; exact h
theorem endE_is {st : Nat} {s : Br} (h : endE st s = true) : (msgs (write s 1 70000).2.1).2 = true ∧ ids (write s 1 70000).1 = [] ∧ gapsOf (msgs (write s 1 70000).2.1).1 ≤ st ∧ ∃ l m, (msgs (write s 1 70000).2.1).1 = l ++ [m] ∧ m.k = 12 := by
  unfold endE at h
  simp only [Bool.and_eq_true, List.isEmpty_iff, decide_eq_true_eq, beq_iff_eq] at h
  obtain ⟨⟨⟨h1, h2⟩, h3⟩, h4⟩ := h
  refine ⟨h1, h2, h3, ?_⟩
  unfold kLast at h4
  split at h4
  · rename_i x hx
    obtain ⟨l, hl⟩ := List.getLast?_eq_some_iff.1 hx
    exact ⟨l, x, hl, h4⟩
  · cases h4
theorem gaps_take {L : List M} {i : Nat} {m : M} (h : L[i]? = some m) : gapsOf (L.take (i + 1)) = gapsOf (L.take i) + if m.k = 7 then 1 else 0 := by
  unfold gapsOf
  rw [List.take_add_one, h, List.countP_append]
  simp [List.countP_cons, beq_iff_eq]
set_option maxHeartbeats 16000000 in
set_option maxRecDepth 100000 in
theorem evicts_law (w : World) (henv : Or.Env w) (strikes : Int) (wl : (Lit.int .i64 strikes).wf = true) (size : Int) (wu : (Lit.int .i64 size).wf = true) : Calls Tryz.prog 10 #[.int .i64 strikes, .int .i64 size] w fun e w' => e = .returned (.bool true) ∧ Upd (fun _ => False) w w' := by
  have HENV := Asd.mk henv
  obtain ⟨st, hst, hb0⟩ := and_le strikes 3 (by omega)
  have hand0 : Go.bits .and .i64 strikes 3 = (st : Int) := hb0
  obtain ⟨z, hz, hb1⟩ := and_le size 31 (by omega)
  have hand1 : Go.bits .and .i64 size 31 = (z : Int) := hb1
  obtain ⟨L, hL⟩ : ∃ L, L = z + 1 := ⟨_, rfl⟩
  have hLi : (1 : Int) + (z : Int) = (L : Int) := by omega
  have hL2 : L ≤ 32 := by omega
  obtain ⟨N, hN⟩ : ∃ N, N = 3 * L + 1 := ⟨_, rfl⟩
  have hN2 : N ≤ 97 := by omega
  have hNi : (3 : Int) * (L : Int) + 1 = (N : Int) := by omega
  have hall : chkE st N 30 (eS st L) = true := by have := evicts_all st z (by omega) (by omega); unfold eOk at this; rw [hN, hL]; exact this
  have hrt : rightC (cfE st L) = true := by unfold rightC cfE; simp only [decide_eq_true_eq]; omega
  obtain ⟨s0, hs0⟩ : ∃ s0, s0 = new (cfE st L) := ⟨_, rfl⟩
  obtain ⟨s1, hs1⟩ : ∃ s1, s1 = (connect s0 1).1 := ⟨_, rfl⟩
  obtain ⟨s2, hs2⟩ : ∃ s2, s2 = (bytes s1 1 (helloB slowT)).1 := ⟨_, rfl⟩
  have hid : eS st L = s2 := by rw [hs2, hs1, hs0]; rfl
  rw [hid] at hall
  have HG0 : Asd (Gd 0 s0) := ⟨by rw [hs0]; exact Gd.new _ hrt⟩
  have HG1 : Asd (Gd 0 s1) := ⟨by rw [hs1]; exact HG0.out.connect _⟩
  have HG2 : Asd (Gd 6000 s2) := ⟨by rw [hs2]; exact (HG1.out.bytes _ _).mono (by have := helloB_len slowT; omega)⟩
  have HS0 := Asd.mk hs0
  have HS1 := Asd.mk hs1
  have HS2 := Asd.mk hs2
  have HALL := Asd.mk hall
  have HRT := Asd.mk hrt
  have HHE := Asd.mk (fun w h => head_calls w h)
  have HTL := Asd.mk (fun w => helloN_calls slowT w)
  have HBL := Asd.mk (helloB_len slowT)
  obtain ⟨bH, hbH⟩ : ∃ b, b = helloB slowT := ⟨_, rfl⟩
  rw [← hbH] at HTL HS2 HBL
  obtain ⟨pc, hpc⟩ : ∃ b, b = pcE N := ⟨_, rfl⟩
  have HPC : Asd (pc = List.replicate N 120) := ⟨hpc⟩
  have HPL : Asd (pc.length = N) := ⟨by rw [hpc]; unfold pcE; simp⟩
  have HPE := Asd.mk hpc
  clear hb0 hb1 hL hN wl wu henv hall hrt hs0 hs1 hs2 hid hbH hpc
  go_enter Tryz.func10, Tryz.ntmps10
  go_wp2_with fail
  refine (HHE.out w HENV.out).mono ?_
  rintro e w1 ⟨rfl, hu1⟩
  have HU1 := Asd.mk hu1
  clear hu1
  go_upto_region 6 with fail
  have HU3 := Asd.mk (HU1.out.alloc (.cells #[.int .i64 (L : Int), .int .i64 8, .int .i64 320, .int .i64 9, .int .i64 (st : Int), .int .i64 5, .int .i64 0, .int .i64 9] 26))
  go_wp2_with fail
  refine (scnew_calls HU3.out (env_upd HENV.out HU3.out (fun _ h => h.elim)) (cfE st L) HRT.out).mono ?_
  rw [← HS0.out]
  rintro e v0 ⟨q, F0, rfl, h0, hl0, hu0⟩
  have H0 := Asd.mk h0
  clear h0 hl0 hu0 HU3
  go_wp2_with fail
  refine (H0.out.connect HG0.out 1 (by omega)).mono ?_
  rw [← HS1.out]
  rintro e v1 ⟨rfl, F1, h1, t1⟩
  have H1 := Asd.mk h1
  clear h1 t1
  go_wp2_with fail
  refine (HTL.out v1).mono ?_
  rintro e v2 ⟨A, c, G, rfl, ho, hg, hl, hm, hu⟩
  have H2 := Asd.mk (H1.out.upd hu)
  have P2 := Asd.mk (H1.out.fresh ho hg)
  clear ho hg hl hm hu
  go_wp2_with fail
  refine (H2.out.bytes HG1.out (by omega) 1 (by omega) A c (bH) P2.out.rd P2.out.ad (by have := HBL.out; omega)).mono ?_
  rw [← HS2.out]
  rintro e v3 ⟨rfl, F3, h3, t3⟩
  have H3 := Asd.mk h3
  clear h3 t3 P2
  go_wp2
  go_loopw [7] (fun v7 wr => ∃ (i : Nat) (Ab : Option Addr) (cb : Nat) (Gb : Option Nat), v7 = .slice Ab i cb ∧ i ≤ N ∧ i ≤ cb ∧ cb ≤ maxLen ∧ Asd (K.Own wr 5 1 (.slice Ab i cb) i (B (List.replicate i 120)) Gb) ∧ Asd (∀ g, Gb = some g → v3.heap.size ≤ g) ∧ Asd (Upd (fun _ => False) v3 wr)) (fun v7 _ => N - (match v7 with | .slice _ n _ => n | _ => 0))
  case atStart => exact ⟨0, some ⟨v3.heap.size, 0, none⟩, 0, some v3.heap.size, rfl, by omega, by omega, by simp [maxLen], ⟨K.Own.lit v3 _ 1 0 #[] (by simp [maxLen]) rfl⟩, ⟨fun g e => by obtain rfl := Option.some.inj e; exact Nat.le_refl _⟩, ⟨(Upd.refl _ _).alloc _⟩⟩
  case round =>
    obtain ⟨i, Ab, cb, Gb, rfl, hi, hic, hcm, HO, HG, HW⟩ := hrel
    by_cases hlt : i < N
    · go_wp2_with (first | (with_reducible refine stop_append _ _ _ _ rfl ?_) | (with_reducible refine stop_copy _ _ _ _ rfl ?_) | (with_reducible refine stop_make _ _ _ rfl ?_) | (with_reducible refine stop_conv 31 9 _ rfl ?_))
      refine wp_appendF (S := fun _ => False) (w0 := v3) (by exact (by repeat (first | exact HW.out | refine Upd.drew ?_ | refine Upd.drewN ?_ _ | refine Upd.alloc ?_ _))) (i + 1) 5 (List.replicate i 120) [120] Gb Ab i cb (some ⟨wr.heap.size, 0, none⟩) 1 1 rfl _ _ 31 rfl Tryz.underlying31 (by kernel_rfl) rfl rfl (HO.out.upd ((Upd.refl (fun _ => False) _).alloc _) (fun _ _ h => h)) HG.out (Rd.lit wr _ _ _ 1 _ rfl rfl (by omega)) rfl (by omega) ?_
      intro A5 c5 w5 G5 hc5 hm5 hO5 hG5 hu5 _ _
      rw [← List.replicate_succ'] at hO5
      have HO5 := Asd.mk hO5
      have HG5 := Asd.mk hG5
      have HU5 := Asd.mk hu5
      clear hO5 hG5 hu5 HO HG HW
      go_wp2
      go_roundw
      case rel => exact ⟨i + 1, A5, c5, G5, rfl, by omega, hc5, hm5, HO5, HG5, HU5⟩
      case measure => show N - (i + 1) < N - i; omega
    · obtain rfl : i = N := by omega
      have H4 := Asd.mk (H3.out.upd HW.out)
      have P4 : Asd (Apart wr Ab cb pc v3.heap.size F3) := ⟨⟨Gb, by rw [HPL.out, HPC.out]; exact HO.out, fun g e => ⟨fun hf => by have := H3.out.lt g hf; have := HG.out g e; omega, HG.out g e⟩⟩⟩
      clear HO HG HW H3 HPC hlt
      go_wp2
      go_loopw [8] (fun v8 wr2 => ∃ (j f : Nat) (s : Br) (F : Nat → Prop), v8 = .int .i64 (j : Int) ∧ j + f = 30 ∧ Asd (Sc w q s wr2 F) ∧ Asd (Gd (6000 + 100 * j) s) ∧ Asd (chkE st i f s = true) ∧ Asd (Apart wr2 Ab cb pc v3.heap.size F)) (fun v8 _ => 30 - (intOf v8).toNat)
      case atStart => exact ⟨0, 30, s2, F3, rfl, rfl, H4, HG2, HALL, P4⟩
      case round =>
        obtain ⟨j, f, s, F, rfl, hjf, HS, HG, HC, HP⟩ := hrel
        have hj2 : j < 2000 := by omega
        obtain ⟨t, ht⟩ : ∃ t, t = there s := ⟨_, rfl⟩
        have hrole : (Fl.rget s.tab.roles 1).isSome = t := by rw [ht]; rfl
        have HTH := Asd.mk ht
        clear ht
        go_wp2_with fail
        refine (HS.out.role 1 (by omega)).mono ?_
        rw [hrole]
        rintro e w9 ⟨rfl, rfl⟩
        cases t with
        | true =>
          obtain ⟨g, hg, hc⟩ := chkE_go HC.out HTH.out.symm
          obtain ⟨s9, hs9⟩ : ∃ s9, s9 = (output s pc).1 := ⟨_, rfl⟩
          have HS9 := Asd.mk hs9
          have HC9 : Asd (chkE st i g s9 = true) := ⟨by rw [hs9, HPE.out]; exact hc⟩
          have HG9 : Asd (Gd (6000 + 100 * (j + 1)) s9) := ⟨by rw [hs9]; exact (HG.out.output pc).mono (by have := HPL.out; omega)⟩
          have HOU := Asd.mk (HS.out.output HG.out (by omega) Ab cb pc HP.out.rd HP.out.ad (by have := HPL.out; omega))
          rw [HPL.out, ← hs9] at HOU
          clear hc hs9
          go_wp2_with fail
          refine HOU.out.mono ?_
          rintro e w10 ⟨rfl, F10, h10, t10⟩
          have H10 := Asd.mk h10
          have P10 := Asd.mk (HP.out.tn t10)
          clear h10 t10 HOU
          go_wp2
          go_roundw
          case rel => exact ⟨j + 1, g, s9, F10, by go_num, by omega, H10, HG9, HC9, P10⟩
          case measure => simp only [intOf]; omega
        | false =>
          obtain ⟨h1, h2, h3, l, ml, h4, h5⟩ := endE_is (chkE_end HC.out HTH.out.symm)
          have HFW := HS.out.few HG.out
          have HWL := Asd.mk (write_len s 1 70000 HG.out (fun c hg => HFW 1 c hg))
          have HGE := Asd.mk (HG.out.write 1 70000)
          obtain ⟨wb, hwb⟩ : ∃ wb, wb = (write s 1 70000).2.1 := ⟨_, rfl⟩
          obtain ⟨t9, ht9⟩ : ∃ t9, t9 = (write s 1 70000).1 := ⟨_, rfl⟩
          rw [← hwb] at h1 h3 h4 HWL
          rw [← ht9] at h2 HGE
          have HML := Asd.mk (msgs_le wb)
          obtain ⟨ms, hms⟩ : ∃ ms, ms = (msgs wb).1 := ⟨_, rfl⟩
          rw [← hms] at h3 h4 HML
          have HE4 : Asd (msgs wb = (ms, true)) := ⟨by rw [hms, ← h1]⟩
          have HE2 := Asd.mk h2
          have HE3 := Asd.mk h3
          have HE5 := Asd.mk (And.intro h4 h5)
          have HWB := Asd.mk hwb
          have HT9 := Asd.mk ht9
          obtain ⟨n, hn⟩ : ∃ n, n = ms.length := ⟨_, rfl⟩
          have hn0 : 0 < n := by rw [hn, h4]; simp
          have hnn : n ≤ 65536 := by have := HML.out; have := HWL.out; omega
          have HN := Asd.mk hn
          have hn1 : ((n : Nat) : Int) - 1 = ((n - 1 : Nat) : Int) := by omega
          have hne : ((n : Int) == 0) = false := beq_eq_false_iff_ne.2 (by omega)
          have hlast : ms[n - 1]? = some ml := by rw [hn, h4]; simp
          have HLA := Asd.mk hlast
          clear h1 h2 h3 h4 h5 hms hwb ht9 HFW hn hlast
          go_wp2_with fail
          refine (HS.out.write HG.out (by omega) 1 70000 (by omega)).mono ?_
          unfold ScG
          rw [← HWB.out, ← HT9.out]
          rintro e w10 ⟨A10, c10, rfl, F10, h10, t10, p10⟩
          have H10 := Asd.mk h10
          have P10 := Asd.mk p10
          clear h10 t10 p10
          go_wp2_with fail
          refine (messages_calls A10 wb.length c10 wb w10 P10.out.rd P10.out.le.1 (by have := HWL.out; omega)).mono ?_
          rw [HE4.out]
          rintro e w11 ⟨A11, c11, G11, rfl, ho11, hg11, hu11, hl11⟩
          rw [← HN.out]
          have H11 := Asd.mk (H10.out.upd hu11)
          have HO11 := Asd.mk ho11
          obtain ⟨ad, rfl, _, z0, _, _, _⟩ := ho11.cells (by rw [← HN.out]; omega) HLA.out
          obtain ⟨hz5, hzl⟩ := HE5.out
          rw [hzl] at z0
          have d0 : ∀ W, Upd (fun _ => False) w11 W → W.cell? (ad.add ((n - 1) * 4)) = some (.int .i64 12) := fun W k => k.cell z0 (fun h => h)
          clear ho11 hg11 hu11 hl11 z0 hz5 hzl
          go_wp2_with fail
          refine (H11.out.conns HGE.out.ok).mono ?_
          rw [HE2.out]
          rintro e w12 ⟨A12, c12, G12, rfl, _, _, hu12⟩
          have H12 := Asd.mk (H11.out.upd hu12)
          have U12 := Asd.mk hu12
          clear hu12
          have hs12 := Upd.refl (fun _ => False) w12
          have hgap := HE3.out
          have hgb : decide (((gapsOf ms : Nat) : Int) ≤ (st : Int)) = true := decide_eq_true (by omega)
          go_wp2
          go_loopw [15, 90] (fun v15 v90 wr2 => ∃ k : Nat, v90 = .int .i64 (k : Int) ∧ v15 = .int .i64 ((gapsOf (ms.take k) : Nat) : Int) ∧ k ≤ n ∧ Asd (Upd (fun _ => False) w12 wr2)) (fun _ v90 _ => n - (intOf v90).toNat)
          case atStart => exact ⟨0, rfl, rfl, Nat.zero_le _, ⟨Upd.refl _ _⟩⟩
          case round =>
            obtain ⟨k, rfl, rfl, hk, HW⟩ := hrel
            by_cases hlt : k < n
            · obtain ⟨mk, hmk⟩ : ∃ mk, ms[k]? = some mk := ⟨_, List.getElem?_eq_getElem (by rw [← HN.out]; exact hlt)⟩
              obtain ⟨ad2, hae, _, z0, z1, z2, z3⟩ := HO11.out.cells (by rw [← HN.out]; omega) hmk
              obtain rfl := Option.some.inj hae
              have HWW := Asd.mk (U12.out.trans HW.out (fun _ _ h => h))
              have y0 : ∀ W, Upd (fun _ => False) wr W → W.cell? (ad.add (k * 4)) = some (.int .i64 mk.k) := fun W h => (HWW.out.trans h (fun _ _ h => h)).cell z0 (fun h => h)
              have y1 : ∀ W, Upd (fun _ => False) wr W → W.cell? ⟨(ad.add (k * 4)).block, (ad.add (k * 4)).off + 1, none⟩ = some (.int .i64 mk.a) := fun W h => (HWW.out.trans h (fun _ _ h => h)).cell z1 (fun h => h)
              have y2 : ∀ W, Upd (fun _ => False) wr W → W.cell? ⟨(ad.add (k * 4)).block, (ad.add (k * 4)).off + 2, none⟩ = some (.int .i64 mk.b) := fun W h => (HWW.out.trans h (fun _ _ h => h)).cell z2 (fun h => h)
              have y3 : ∀ W, Upd (fun _ => False) wr W → W.cell? ⟨(ad.add (k * 4)).block, (ad.add (k * 4)).off + 3, none⟩ = some (.string (S mk.t)) := fun W h => (HWW.out.trans h (fun _ _ h => h)).cell z3 (fun h => h)
              have hs2 := Upd.refl (fun _ => False) wr
              have HX := Asd.mk (HW.out.alloc (.cells #[.int .i64 mk.k, .int .i64 mk.a, .int .i64 mk.b, .string (S mk.t)] 36))
              have HT := Asd.mk (gaps_take hmk)
              have hgk : gapsOf (ms.take k) ≤ 65536 := by have h1 : gapsOf (ms.take k) ≤ (ms.take k).length := List.countP_le_length; rw [List.length_take] at h1; omega
              clear z0 z1 z2 z3 hae hmk
              by_cases h7 : mk.k = 7
              · have HT2 : Asd (gapsOf (ms.take (k + 1)) = gapsOf (ms.take k) + 1) := ⟨by rw [HT.out, if_pos h7]⟩
                obtain ⟨g, hg⟩ : ∃ g, g = gapsOf (ms.take k) := ⟨_, rfl⟩
                rw [← hg] at hgk HT2 ⊢
                rw [h7] at HX
                clear hg HT
                go_wp2
                go_roundw
                case rel => exact ⟨k + 1, by go_num, by rw [HT2.out]; go_num, by omega, HX⟩
                case measure => simp only [intOf]; omega
              · have h7b : (mk.k == 7) = false := beq_eq_false_iff_ne.2 h7
                have HT2 : Asd (gapsOf (ms.take (k + 1)) = gapsOf (ms.take k)) := ⟨by rw [HT.out, if_neg h7, Nat.add_zero]⟩
                obtain ⟨g, hg⟩ : ∃ g, g = gapsOf (ms.take k) := ⟨_, rfl⟩
                rw [← hg] at hgk HT2 ⊢
                clear hg HT h7
                go_wp2
                go_roundw
                case rel => exact ⟨k + 1, by go_num, by rw [HT2.out], by omega, HX⟩
                case measure => simp only [intOf]; omega
            · obtain rfl : k = n := by omega
              have htk : ms.take k = ms := by rw [HN.out]; exact List.take_length
              rw [htk]
              have e0 : ∀ W, Upd (fun _ => False) wr W → W.cell? (ad.add ((k - 1) * 4)) = some (.int .i64 12) := fun W h => d0 W ((U12.out.trans HW.out (fun _ _ h => h)).trans h (fun _ _ h => h))
              have hs2 := Upd.refl (fun _ => False) wr
              clear d0 htk
              go_wp2
              go_ret
              exact ⟨rfl, H12.out.up.trans HW.out (fun _ _ h => h)⟩
end Go.Proofs.YteepkanbiefpjaaGreatDoor.Bk
