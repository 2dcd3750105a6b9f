/- The law FeedPieces: what its call comes to, for every input. -/
import Derived.Test.YtahbcjgbhfkhbaaFeedLaws
set_option linter.unusedVariables false
set_option linter.unusedSimpArgs false
namespace Go.Proofs.Ytahbcjgbhfkhbaa.FdPieces
open Go.RowKit K Crc Sm Fr FrMath LGet FdMath Fee FdAll FdLaws

theorem flat_next (L : List (List UInt8)) (i : Nat) (h : i < L.length) : (L.take (i + 1)).flatten = (L.take i).flatten ++ L[i] := by
  rw [List.take_succ_eq_append_getElem h, List.flatten_append]
  simp
/-- Nothing is broken yet: the bytes so far, the frames so far, the feed. -/
structure Alive (w wr : World) (q : Nat) (p : List UInt8) (Aa : Option Addr) (ca : Nat) (Ag : Option Addr) (cg : Nat) (M : List FRec) (Ga Gg : Option Nat) (F : Nat → Prop) : Prop where
  own : Own wr 5 1 (.slice Aa p.length ca) p.length (B p) Ga
  ownF : OwnF wr Ag cg M Gg
  frs : Frs wr (fun k => k < wr.heap.size ∧ ¬ F k ∧ some k ≠ Ga ∧ some k ≠ Gg) M
  same : abs M = (all p).1
  feed : Feed wr q (all p).2.1 (all p).2.2 F
  a : ∀ g, Ga = some g → w.heap.size ≤ g ∧ ¬ F g ∧ Gg ≠ some g
  g : ∀ g, Gg = some g → w.heap.size ≤ g ∧ ¬ F g
  f : ∀ k, F k → w.heap.size ≤ k
  upd : Upd (fun _ => False) w wr
/-- It is broken, for ever. -/
structure Dead (w wr : World) (q : Nat) (e : Int) (F : Nat → Prop) : Prop where
  feed : Feed wr q [] e F
  no : e ≠ 0
  f : ∀ k, F k → w.heap.size ≤ k
  upd : Upd (fun _ => False) w wr
theorem Alive.step {w wr w5 w6 w7 w8 : World} {q : Nat} {p l : List UInt8} {Aa Ag A6 A7 : Option Addr} {ca cg c6 c7 : Nat} {M L5 : List FRec} {Ga Gg G6 G7 : Option Nat} {F F5 : Nat → Prop}
    (h : Alive w wr q p Aa ca Ag cg M Ga Gg F) (h0 : (all p).2.2 = 0) (hf5 : Frs w5 (fun k => wr.heap.size ≤ k ∧ k < w5.heap.size ∧ ¬ F5 k) L5) (ha : abs L5 = (all ((all p).2.1 ++ l)).1) (hq5 : Feed w5 q (all (p ++ l)).2.1 (all (p ++ l)).2.2 F5) (hu5 : Upd F wr w5) (hF5 : ∀ k, F5 k → F k ∨ wr.heap.size ≤ k)
    (ho6 : OwnF w6 A6 c6 (M ++ L5) G6) (hu6 : Upd (fun k => some k = Gg) w5 w6) (hg6 : G6 = Gg ∨ ∃ g, G6 = some g ∧ w5.heap.size ≤ g ∧ g < w6.heap.size)
    (ho7 : Own w7 5 1 (.slice A7 (p ++ l).length c7) (p ++ l).length (B (p ++ l)) G7) (hu7 : Upd (fun k => some k = Ga) w6 w7) (hg7 : G7 = Ga ∨ ∃ g, G7 = some g ∧ w6.heap.size ≤ g ∧ g < w7.heap.size)
    (hu8 : Upd (fun _ => False) w7 w8) : Alive w w8 q (p ++ l) A7 c7 A6 c6 (M ++ L5) G7 G6 F5 := by
  have s5 := hu5.size
  have s6 := hu6.size
  have s7 := hu7.size
  have s8 := hu8.size
  have sw := h.upd.size
  have la := h.own.lt
  have lg := Own.lt h.ownF
  have lf := hq5.lt
  have l6 := Own.lt ho6
  have f5 : ∀ k, k < wr.heap.size → ¬ F k → ¬ F5 k := fun k hk hn h5 => (hF5 k h5).elim hn (by omega)
  have n6 : ∀ g, G6 = some g → Gg = some g ∨ (w5.heap.size ≤ g ∧ g < w6.heap.size) := fun g e => by
    rcases hg6 with e2 | ⟨g', e2, h5, h6⟩
    · exact .inl (e2 ▸ e)
    · rw [e2] at e; obtain rfl := Option.some.inj e; exact .inr ⟨h5, h6⟩
  have n7 : ∀ g, G7 = some g → Ga = some g ∨ (w6.heap.size ≤ g ∧ g < w7.heap.size) := fun g e => by
    rcases hg7 with e2 | ⟨g', e2, h5, h6⟩
    · exact .inl (e2 ▸ e)
    · rw [e2] at e; obtain rfl := Option.some.inj e; exact .inr ⟨h5, h6⟩
  have hne : ∀ k, F5 k → ¬ some k = Gg := fun k hk e => by
    have := h.g k e.symm
    have := lg k e.symm
    exact f5 k (by omega) (h.g k e.symm).2 hk
  have hna : ∀ k, F5 k → ¬ some k = Ga := fun k hk e => by
    have := la k e.symm
    exact f5 k (by omega) (h.a k e.symm).2.1 hk
  have frM : Frs w7 (fun k => k < wr.heap.size ∧ ¬ F k ∧ some k ≠ Ga ∧ some k ≠ Gg) M := ((h.frs.upd hu5 (fun i a b => a.2.1 b)).upd hu6 (fun i a b => a.2.2.2 b)).upd hu7 (fun i a b => a.2.2.1 b)
  have frL : Frs w7 (fun k => wr.heap.size ≤ k ∧ k < w5.heap.size ∧ ¬ F5 k) L5 := (hf5.upd hu6 (fun i a b => by have := lg i b.symm; omega)).upd hu7 (fun i a b => by have := la i b.symm; omega)
  refine ⟨ho7.upd hu8 (fun _ _ h => h), Own.upd (Own.upd ho6 hu7 (fun g e e2 => ?_)) hu8 (fun _ _ h => h), ?_, ?_, ((hq5.upd hu6 hne).upd hu7 hna).up hu8, ?_, ?_, ?_, ?_⟩
  · rcases n6 g e with e | e
    · exact (h.a g e2.symm).2.2 e
    · have := la g e2.symm; omega
  · refine (Frs.append (frM.mono ?_) (frL.mono ?_)).up hu8
    · rintro k ⟨h1, h2, h3, h4⟩
      exact ⟨by omega, f5 k h1 h2, fun e => (n7 k e.symm).elim (fun e => h3 e.symm) (by omega), fun e => (n6 k e.symm).elim (fun e => h4 e.symm) (by omega)⟩
    · rintro k ⟨h1, h2, h3⟩
      exact ⟨by omega, h3, fun e => (n7 k e.symm).elim (fun e => by have := la k e; omega) (by omega), fun e => (n6 k e.symm).elim (fun e => by have := lg k e; omega) (by omega)⟩
  · rw [abs_append, h.same, ha, (all_push p l h0).2]
  · intro g e
    rcases n7 g e with e | e
    · have := la g e
      refine ⟨(h.a g e).1, f5 g this (h.a g e).2.1, fun e6 => ?_⟩
      rcases n6 g e6 with e6 | e6
      · exact (h.a g e).2.2 e6
      · omega
    · exact ⟨by omega, fun h5 => by have := lf g h5; omega, fun e6 => by have := l6 g e6; omega⟩
  · intro g e
    rcases n6 g e with e | e
    · have := lg g e
      exact ⟨(h.g g e).1, f5 g this (h.g g e).2⟩
    · exact ⟨by omega, fun h5 => by have := lf g h5; omega⟩
  · intro k hk
    exact (hF5 k hk).elim (h.f k) (by omega)
  · exact (((h.upd.trans hu5 (fun i hi a => by have := h.f i a; omega)).trans hu6 (fun i hi a => by have := (h.g i a.symm).1; omega)).trans hu7 (fun i hi a => by have := (h.a i a.symm).1; omega)).trans hu8 (fun _ _ h => h)
theorem Alive.up {w wr w1 : World} {q : Nat} {p : List UInt8} {Aa Ag : Option Addr} {ca cg : Nat} {M : List FRec} {Ga Gg : Option Nat} {F : Nat → Prop} (h : Alive w wr q p Aa ca Ag cg M Ga Gg F) (k : Upd (fun _ => False) wr w1) : Alive w w1 q p Aa ca Ag cg M Ga Gg F :=
  ⟨h.own.upd k (fun _ _ h => h), Own.upd h.ownF k (fun _ _ h => h), (h.frs.up k).mono (fun i a => ⟨Nat.lt_of_lt_of_le a.1 k.size, a.2⟩), h.same, h.feed.up k, h.a, h.g, h.f, h.upd.trans k (fun _ _ h => h)⟩
theorem flat_le (L : List (List UInt8)) (i : Nat) : (L.take i).flatten.length ≤ L.flatten.length := by
  have h := congrArg List.flatten (List.take_append_drop i L)
  rw [List.flatten_append] at h
  have := congrArg List.length h
  rw [List.length_append] at this
  omega
set_option maxHeartbeats 4000000 in
set_option maxRecDepth 100000 in
theorem pieces_walk (w : World) (A : Option Addr) (n c : Nat) (L : List (List UInt8)) (hL : RSlice RBytes 1 w [.slice A n c] L) :
    Calls Try.prog 10 #[.slice A n c] w fun e w' => e = .returned (.bool true) ∧ Upd (fun _ => False) w w' := by
  obtain ⟨A', c', he, hE, hc, hm, _⟩ := hL
  simp only [List.cons.injEq, Value.slice.injEq, and_true] at he
  obtain ⟨rfl, rfl, rfl⟩ := he
  have HE := Asd.mk hE
  have hlim := hE.lim
  clear hE hm
  go_enter Try.func10, Try.ntmps10
  go_wp2_with fail
  refine (FdLaws.head_calls _).mono ?_
  rintro e w1 ⟨rfl, hu⟩
  have HU := Asd.mk hu
  clear hu
  by_cases h3 : 60 < L.length
  · go_wp2
    go_ret
    exact ⟨rfl, HU.out⟩
  go_wp2
  go_loopw [3, 23] (fun v3 v23 wr => ∃ (i s : Nat), i ≤ L.length ∧ v23 = .int .i64 i ∧ v3 = .int .i64 s ∧ s ≤ i * 140737488351232 ∧ Asd (s = (L.take i).flatten.length) ∧ wr = w1) (fun _ v23 _ => L.length - (intOf v23).toNat)
  case atStart => exact ⟨0, 0, by omega, rfl, rfl, by omega, ⟨rfl⟩, rfl⟩
  case round =>
    obtain ⟨i, s, hi, rfl, rfl, hs, HS, rfl⟩ := hrel
    by_cases hlt : i < L.length
    · obtain ⟨ad, cs, e, hlen, hr, hcell⟩ := HE.out.at_ i hlt
      subst e
      obtain ⟨l, hx⟩ : ∃ x, x = L[i] := ⟨_, rfl⟩
      rw [← hx] at hr
      obtain ⟨a1, k1, rfl, hrd, hk1, hk2, hk3⟩ := hr
      have hk3' : l.length ≤ 140737488351232 := hk3
      have hc0 := HU.out.cell (hcell 0 _ rfl) (fun h => h)
      simp only [Nat.mul_one, Nat.add_zero] at hc0
      have HS2 : Asd (s + l.length = (L.take (i + 1)).flatten.length) := ⟨by rw [flat_next L i hlt, List.length_append, ← HS.out, hx]⟩
      have hw : IntKind.i64.wrap ((s : Int) + (l.length : Int)) = ((s + l.length : Nat) : Int) := by rw [w64i _ (by omega) (by omega)]; omega
      have hs2 : s + l.length ≤ (i + 1) * 140737488351232 := by omega
      clear hcell hlen hrd hx hk3
      go_wp2
      go_roundw
      case rel => exact ⟨i + 1, s + l.length, by omega, rfl, rfl, hs2, HS2, trivial⟩
      case measure => simp only [intOf]; omega
    · have hi : i = L.length := by omega
      subst hi
      rw [List.take_length] at HS
      have hs3 : (s : Int) ≤ 8444249301319680 := by omega
      by_cases hbig : 1000 < s
      · go_wp2
        go_ret
        exact ⟨rfl, HU.out⟩
      have HTot : Asd (L.flatten.length ≤ 1000) := ⟨by have := HS.out; omega⟩
      clear HS hs hs3
      go_wp2_with fail
      refine (new_calls _).mono ?_
      rintro e w2 ⟨q, F, rfl, hq, hu, hf⟩
      have HAl : Asd (Alive w ((w2.alloc (.cells #[] 5)).alloc (.cells #[] 32)) q [] (some ⟨w2.heap.size, 0, none⟩) 0 (some ⟨w2.heap.size + 1, 0, none⟩) 0 [] (some w2.heap.size) (some (w2.heap.size + 1)) F) := ⟨by
        have hs := HU.out.size
        have hs2 := hu.size
        have h1 := Own.lit w2 5 1 0 #[] (by simp [maxLen]) rfl
        have h2 := Own.litg (w2.alloc (.cells #[] 5)) (w2.heap.size + 1) (by simp) 32 2 0 #[] (by simp [maxLen]) rfl
        have hV := ((Upd.refl (fun _ => False) w2).alloc (.cells #[] 5)).alloc (.cells #[] 32)
        refine ⟨h1.upd ((Upd.refl (fun _ => False) _).alloc _) (fun _ _ h => h), h2, Frs.nil _ _, by rw [all_nil]; rfl, by rw [all_nil]; exact hq.up hV, fun g e => ?_, fun g e => ?_, fun k h => ?_, (HU.out.trans hu (fun _ _ h => h)).trans hV (fun _ _ h => h)⟩
        · obtain rfl := Option.some.inj e
          exact ⟨by omega, fun h => by have := hq.lt _ h; omega, fun e => by have := Option.some.inj e; omega⟩
        · obtain rfl := Option.some.inj e
          exact ⟨by omega, fun h => by have := hq.lt _ h; omega⟩
        · have := hf k h; omega⟩
      clear hq hu hf HU
      go_wp2
      go_loopw [7, 8, 9, 39] (fun v7 v8 v9 v39 wr => ∃ (i : Nat) (F : Nat → Prop), i ≤ L.length ∧ v39 = .int .i64 i ∧ ((∃ (Aa : Option Addr) (ca : Nat) (Ag : Option Addr) (cg : Nat) (M : List FRec) (Ga Gg : Option Nat) (pl : Nat), v7 = .slice Aa pl ca ∧ v8 = .slice Ag M.length cg ∧ v9 = .int .i64 0 ∧ pl ≤ 1000 ∧ Asd (pl = (L.take i).flatten.length) ∧ Asd (Alive w wr q (L.take i).flatten Aa ca Ag cg M Ga Gg F) ∧ Asd ((all (L.take i).flatten).2.2 = 0)) ∨ (∃ er : Int, v9 = .int .i64 er ∧ (er == 0) = false ∧ Asd (Dead w wr q er F)))) (fun _ _ _ v39 _ => L.length - (intOf v39).toNat)
      case atStart => exact ⟨0, F, by omega, rfl, .inl ⟨_, _, _, _, [], _, _, 0, rfl, rfl, rfl, by omega, ⟨rfl⟩, HAl, ⟨by rw [List.take_zero, List.flatten_nil, all_nil]⟩⟩⟩
      case round =>
        obtain ⟨i, F, hi, rfl, hrel⟩ := hrel
        by_cases hlt : i < L.length
        · obtain ⟨ad, cs, e, hlen, hr, hcell⟩ := HE.out.at_ i hlt
          subst e
          obtain ⟨l, hx⟩ : ∃ x, x = L[i] := ⟨_, rfl⟩
          rw [← hx] at hr
          obtain ⟨a1, k1, rfl, hrd, hk1, hk2, hk3⟩ := hr
          have hcw := hcell 0 _ rfl
          simp only [Nat.mul_one, Nat.add_zero] at hcw
          have HRw := Asd.mk hrd
          have HX := Asd.mk (by rw [hx]; exact flat_next L i hlt : (L.take (i + 1)).flatten = (L.take i).flatten ++ l)
          have HCW := Asd.mk hcw
          have hwi : IntKind.i64.wrap ((i : Int) + 1) = ((i + 1 : Nat) : Int) := by rw [w64i _ (by omega) (by omega)]; rfl
          clear hcell hlen hrd hx hk3 hcw
          rcases hrel with ⟨Aa, ca, Ag, cg, M, Ga, Gg, pl, rfl, rfl, rfl, hpl, HPL, HA, HO⟩ | ⟨er, rfl, her, HD⟩
          · have hc0 := HA.out.upd.cell HCW.out (fun h => h)
            obtain ⟨p, hp⟩ : ∃ p, p = (L.take i).flatten := ⟨_, rfl⟩
            rw [← hp] at HA HO HX HPL
            have hpl2 := HPL.out
            subst hpl2
            have hall := all_len p
            have hpl3 : p.length + l.length ≤ 1000 := by
              have h1 := flat_le L (i + 1)
              rw [HX.out, List.length_append] at h1
              have := HTot.out
              omega
            clear hp
            go_wp2_with fail
            refine (push_live (by have := HA.out.feed; rwa [HO.out] at this) a1 l.length k1 l (HRw.out.up HA.out.upd) (by omega)).mono ?_
            rintro e w5 ⟨A5, c5, L5, G5, F5, rfl, ha5, hc5, hm5, ho5, hf5, hq5, hu5, hF5, hG5⟩
            obtain ⟨p2, hp2⟩ : ∃ p2, p2 = p ++ l := ⟨_, rfl⟩
            have hpush := all_push p l HO.out
            rw [← hp2] at hpush HX
            rw [← hpush.1] at hq5
            obtain ⟨rowv, hrv⟩ : ∃ r, r = (all ((all p).2.1 ++ l)).1 := ⟨_, rfl⟩
            have hall2 := all_len p2
            have hl2 : p2.length = p.length + l.length := by rw [hp2, List.length_append]
            have hM : M.length ≤ 1000 := by rw [← abs_length, HA.out.same]; omega
            have hL5 : L5.length ≤ 1000 := by
              rw [← abs_length, ha5]
              have := congrArg List.length hpush.2
              rw [List.length_append] at this
              omega
            clear hrv
            have HPU := Asd.mk hpush
            have HP2 := Asd.mk hp2
            have HL2 := Asd.mk hl2
            have HFL5 := Asd.mk hf5
            have HAB5 := Asd.mk ha5
            have HQ5 := Asd.mk hq5
            have HU5 := Asd.mk hu5
            have HF5 := Asd.mk hF5
            have HOF5 := Asd.mk (Own.upd HA.out.ownF hu5 (fun g e => (HA.out.g g e).2))
            have HOA5 := Asd.mk (HA.out.own.upd hu5 (fun g e => (HA.out.a g e).2.1))
            have HW5 : Asd (Upd (fun _ => False) w w5) := ⟨HA.out.upd.trans hu5 (fun i hi a => by have := HA.out.f i a; omega)⟩
            obtain ⟨_, _, hv, _, _, hrow, hG⟩ := Own.slice ho5
            injection hv with e1 e2 e3
            subst e1
            clear e2 e3
            have HROW5 := Asd.mk hrow
            clear hpush hp2 hl2 hf5 ha5 hq5 hu5 hF5 ho5 hG5 hrow hG hall hall2
            go_wp2_with (first | (with_reducible refine stop_append _ _ _ _ rfl ?_) | (with_reducible refine stop_copy _ _ _ _ rfl ?_) | (with_reducible refine stop_make _ _ _ rfl ?_) | (with_reducible refine stop_conv 23 9 _ rfl ?_))
            refine wp_appendL M L5 Gg Ag cg A5 c5 rfl _ _ rfl rfl rfl HOF5.out HROW5.out (by omega) ?_
            intro A6 c6 w6 G6 hc6 hm6 hO6 hU6 hg6
            obtain ⟨M2, hM2⟩ : ∃ M2, M2 = M ++ L5 := ⟨_, rfl⟩
            rw [← hM2] at hc6 hO6
            rw [← hM2]
            have hM2l : M2.length ≤ 2000 := by rw [hM2, List.length_append]; omega
            have HM2 := Asd.mk hM2
            clear hM2
            have HO6 := Asd.mk hO6
            have HU6 := Asd.mk hU6
            have HG6 := Asd.mk hg6
            have hlg := Own.lt HA.out.ownF
            have hla := HA.out.own.lt
            have hs5 := HU5.out.size
            have HW6 : Asd (Upd (fun _ => False) w w6) := ⟨HW5.out.trans hU6 (fun i hi a => by have := (HA.out.g i a.symm).1; omega)⟩
            have HOA6 := Asd.mk (HOA5.out.upd hU6 (fun g e e2 => (HA.out.a g e).2.2 e2.symm))
            clear hO6 hU6 hg6 hlg hla hs5 HOF5 HROW5 HOA5
            go_wp2_with (first | (with_reducible refine stop_append _ _ _ _ rfl ?_) | (with_reducible refine stop_copy _ _ _ _ rfl ?_) | (with_reducible refine stop_make _ _ _ rfl ?_) | (with_reducible refine stop_conv 23 9 _ rfl ?_))
            refine wp_appendB (p.length + l.length) 5 p l Ga Aa p.length ca a1 l.length k1 rfl _ _ 23 rfl Try.underlying23 info8 rfl rfl HOA6.out (HRw.out.up HW6.out) rfl (by omega) ?_
            intro A7 c7 w7 G7 hc7 hm7 hO7 hU7 hg7
            rw [← HP2.out] at hO7
            have HO7 := Asd.mk hO7
            have HU7 := Asd.mk hU7
            have HG7 := Asd.mk hg7
            have HW7 : Asd (Upd (fun _ => False) w w7) := ⟨HW6.out.trans hU7 (fun i hi a => by have := (HA.out.a i a.symm).1; omega)⟩
            clear hO7 hU7 hg7 HOA6 HW5
            go_wp2_with fail
            refine (all_calls A7 (p.length + l.length) c7 p2 _ HO7.out.rd hc7 hm7 (by omega)).mono ?_
            rintro e w8 ⟨A8, c8, L8, G8, rfl, ha8, hc8, hm8, ho8, hf8, hg8, hu8⟩
            have hstep := HA.out.step HO.out HFL5.out HAB5.out (by rw [← HP2.out]; exact HQ5.out) HU5.out HF5.out (by rw [← HM2.out]; exact HO6.out) HU6.out HG6.out (by rw [← HP2.out, HL2.out]; exact HO7.out) HU7.out HG7.out hu8
            rw [← HP2.out, ← HM2.out] at hstep
            have HST := Asd.mk hstep
            obtain ⟨_, _, hv, _, _, hrow, _⟩ := Own.slice ho8
            injection hv with e1 e2 e3
            subst e1
            clear e2 e3
            obtain ⟨_, _, hv, _, _, hrow6, _⟩ := Own.slice hstep.ownF
            injection hv with e1 e2 e3
            subst e1
            clear e2 e3
            have HR8 := Asd.mk hrow
            have HR6 := Asd.mk hrow6
            have HF8 := Asd.mk hf8
            have hsame : decide (abs M2 = abs L8) = true := decide_eq_true (by rw [ha8, hstep.same])
            clear ha8 ho8 hf8 hg8 hu8 hstep hrow hrow6 HA HO HFL5 HAB5 HQ5 HU5 HF5 HO6 HU6 HG6 HO7 HU7 HG7 HW6 HW7
            go_wp2_with fail
            refine (same_calls _ c6 M2 _ c8 L8 _ HR6.out HST.out.frs HR8.out HF8.out (by omega)).mono ?_
            rw [hsame]
            rintro e w9 ⟨rfl, hu9⟩
            clear hsame HR6 HR8 HF8
            have HS9 := Asd.mk (HST.out.up hu9)
            have HQ9 := Asd.mk HS9.out.feed
            clear HST hu9
            go_wp2_with fail
            refine (err_calls HQ9.out).mono ?_
            rintro e w10 ⟨rfl, rfl⟩
            go_wp2_with fail
            refine (len_calls HQ9.out).mono ?_
            rintro e w10 ⟨rfl, rfl⟩
            go_wp2
            go_roundw
            case rel =>
              refine ⟨i + 1, F5, by omega, rfl, ?_⟩
              by_cases h0 : (all p2).2.2 = 0
              · have h1 := HL2.out
                exact .inl ⟨_, _, _, _, M2, _, _, _, rfl, rfl, by rw [h0], by omega, ⟨by rw [HX.out, h1]⟩, by rw [HX.out]; exact HS9, by rw [HX.out]; exact ⟨h0⟩⟩
              · exact .inr ⟨_, rfl, beq_eq_false_iff_ne.2 h0, ⟨by have := HQ9.out; rwa [all_left p2 h0] at this, h0, HS9.out.f, HS9.out.upd⟩⟩
            case measure => simp only [intOf]; omega
          · have hc0 := HD.out.upd.cell HCW.out (fun h => h)
            go_wp2_with fail
            refine (push_dead HD.out.feed HD.out.no a1 l.length k1).mono ?_
            rintro e w5 ⟨A5, c5, L5, G5, F5, rfl, ha5, hc5, hm5, ho5, hf5, hq5, hu5, hF5, hG5⟩
            have hl5 : L5 = [] := List.eq_nil_of_length_eq_zero (by rw [← abs_length, ha5]; rfl)
            subst hl5
            have HD5 : Asd (Dead w w5 q er F5) := ⟨hq5, HD.out.no, fun k hk => (hF5 k hk).elim (HD.out.f k) (fun h => by have := HD.out.upd.size; omega), HD.out.upd.trans hu5 (fun i hi a => by have := HD.out.f i a; omega)⟩
            have HQ5 := Asd.mk HD5.out.feed
            clear ha5 ho5 hf5 hq5 hu5 hF5 hG5 HD
            go_wp2_with fail
            refine (err_calls HQ5.out).mono ?_
            rintro e w10 ⟨rfl, rfl⟩
            go_wp2_with fail
            refine (len_calls HQ5.out).mono ?_
            rintro e w10 ⟨rfl, rfl⟩
            go_wp2
            go_roundw
            case rel => exact ⟨i + 1, F5, by omega, rfl, .inr ⟨er, rfl, her, HD5⟩⟩
            case measure => simp only [intOf]; omega
        · have hu : Asd (Upd (fun _ => False) w wr) := by
            rcases hrel with ⟨_, _, _, _, _, _, _, _, _, _, _, _, _, HA, _⟩ | ⟨_, _, _, HD⟩
            · exact ⟨HA.out.upd⟩
            · exact ⟨HD.out.upd⟩
          clear hrel
          go_wp2
          go_ret
          exact ⟨rfl, hu.out⟩
end Go.Proofs.Ytahbcjgbhfkhbaa.FdPieces
