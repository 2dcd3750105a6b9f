/- What these laws lean on, part Vk: contracts of the given program's functions and plain lists. No condition. -/
import Derived.Test.YteepkanbiefpjaaGreatDoorVg
import Derived.Test.YteepkanbiefpjaaGreatDoorVf
import Derived.Lib.ParseIntBTie
import Derived.Lib.IndexLaws
import Derived.Test.YteepkanbiefpjaaGreatDoorVj
import Derived.Test.YteepkanbiefpjaaGreatDoorVa
set_option linter.unusedVariables false
set_option linter.unusedSimpArgs false
namespace Go.Proofs.YteepkanbiefpjaaGreatDoor.Bk
open Go.RowKit K
def SV (l : List UInt8) : Value := .string (S l)
theorem info16 : (Tryz.prog.info? 9).map (fun i => (i.zero, i.size, i.bytes)) = some (some (.string { data := #[] }), 1, 16) := by kernel_rfl
theorem info1u : (Tryz.prog.info? 5).map (fun i => (i.zero, i.size, i.bytes)) = some (some (.int .u8 0), 1, 1) := by kernel_rfl
def OwnS (w : World) (A : Option Addr) (c : Nat) (L : List (List UInt8)) (G : Option Nat) : Prop := K.Own w 9 1 (.slice A L.length c) L.length (L.map SV) G
def begX (x : Lx) (c : UInt8) : Lx := if c = 58 then ⟨2, [], false⟩ else { x with st := 0 }
def begK (c : UInt8) : List UInt8 := if c = 29 then [29] else []
def moreX (x : Lx) (c : UInt8) : Lx := if c ≠ 10 then (if x.lg = true ∨ x.tx.length = 80 then { x with lg := true } else { x with tx := x.tx ++ [c] }) else { x with st := 0 }
def moreL (x : Lx) (c : UInt8) : List (List UInt8) := if c ≠ 10 then [] else [if x.lg then [] else x.tx]
theorem lxB_1 {x : Lx} (c : UInt8) (h : x.st = 1) : lxB x c = (begX x c, begK c, []) := by
  unfold lxB begX begK
  rw [if_pos h]
  by_cases h1 : c = 29
  · subst h1; rfl
  · rw [if_neg h1, if_neg h1]
    by_cases h2 : c = 58
    · subst h2; rfl
    · rw [if_neg h2, if_neg h2]
theorem lxB_2 {x : Lx} (c : UInt8) (h : x.st = 2) : lxB x c = (moreX x c, [], moreL x c) := by
  unfold lxB moreX moreL
  rw [if_neg (by rw [h]; decide), if_pos h]
  by_cases h1 : c = 10
  · subst h1; rfl
  · rw [if_pos h1, if_pos h1, if_pos h1]
    split <;> rfl
def lxStep (r : Lx × List UInt8 × List (List UInt8)) (c : UInt8) : Lx × List UInt8 × List (List UInt8) := ((lxB r.1 c).1, r.2.1 ++ (lxB r.1 c).2.1, r.2.2 ++ (lxB r.1 c).2.2)
theorem lxAll_eq (x : Lx) (b : List UInt8) : lxAll x b = b.foldl lxStep (x, [], []) := rfl
def LxOk (x : Lx) : Prop := 0 ≤ x.st ∧ x.st ≤ 2 ∧ x.tx.length ≤ 80
theorem lxOk_step {x : Lx} (h : LxOk x) (c : UInt8) : LxOk (lxB x c).1 := by
  obtain ⟨h1, h2, h3⟩ := h
  unfold lxB LxOk
  by_cases e1 : x.st = 1
  · rw [if_pos e1]
    split
    · exact ⟨by simp, by simp, h3⟩
    · split
      · exact ⟨by simp, by simp, by simp⟩
      · exact ⟨by simp, by simp, h3⟩
  · rw [if_neg e1]
    by_cases e2 : x.st = 2
    · rw [if_pos e2]
      split
      · split
        · exact ⟨h1, h2, h3⟩
        · rename_i hx
          refine ⟨h1, h2, ?_⟩
          simp only [List.length_append, List.length_cons, List.length_nil]
          have : x.tx.length ≠ 80 := fun e => hx (.inr e)
          omega
      · exact ⟨by simp, by simp, h3⟩
    · rw [if_neg e2]
      split
      · exact ⟨by simp, by simp, h3⟩
      · exact ⟨h1, h2, h3⟩
theorem lxLine_len {x : Lx} (h : LxOk x) (c : UInt8) : ∀ l ∈ (lxB x c).2.2, l.length ≤ 80 := by
  obtain ⟨h1, h2, h3⟩ := h
  unfold lxB
  by_cases e1 : x.st = 1
  · rw [if_pos e1]
    split
    · intro l hl; cases hl
    · split <;> (intro l hl; cases hl)
  · rw [if_neg e1]
    by_cases e2 : x.st = 2
    · rw [if_pos e2]
      split
      · split <;> (intro l hl; cases hl)
      · intro l hl
        simp only [List.mem_singleton] at hl
        subst hl
        split
        · simp
        · exact h3
    · rw [if_neg e2]
      split <;> (intro l hl; cases hl)
theorem lxFold_ok : ∀ (b : List UInt8) (r : Lx × List UInt8 × List (List UInt8)), LxOk r.1 → (∀ l ∈ r.2.2, l.length ≤ 80) → LxOk (b.foldl lxStep r).1 ∧ ∀ l ∈ (b.foldl lxStep r).2.2, l.length ≤ 80
  | [], r, h, k => ⟨h, k⟩
  | c :: b, r, h, k => by
    rw [List.foldl_cons]
    refine lxFold_ok b _ (lxOk_step h c) (fun l hl => ?_)
    rcases List.mem_append.1 hl with h1 | h1
    · exact k l h1
    · exact lxLine_len h c l h1
theorem lxAll_ok {x : Lx} (h : LxOk x) (b : List UInt8) : LxOk (lxAll x b).1 ∧ ∀ l ∈ (lxAll x b).2.2, l.length ≤ 80 := lxFold_ok b (x, [], []) h (fun l hl => by cases hl)
theorem lxB_len (x : Lx) (c : UInt8) : (lxB x c).2.1.length ≤ 1 ∧ (lxB x c).2.2.length ≤ 1 := by
  unfold lxB
  repeat' split
  all_goals simp
theorem lxFold_len : ∀ (b : List UInt8) (r : Lx × List UInt8 × List (List UInt8)), (b.foldl lxStep r).2.1.length ≤ r.2.1.length + b.length ∧ (b.foldl lxStep r).2.2.length ≤ r.2.2.length + b.length
  | [], r => ⟨by simp, by simp⟩
  | c :: b, r => by
    rw [List.foldl_cons]
    have h1 := lxFold_len b (lxStep r c)
    have h2 := lxB_len r.1 c
    simp only [lxStep, List.length_append, List.length_cons] at h1 ⊢
    omega
theorem lxAll_len (x : Lx) (b : List UInt8) : (lxAll x b).2.1.length ≤ b.length ∧ (lxAll x b).2.2.length ≤ b.length := by
  have := lxFold_len b (x, [], [])
  rw [← lxAll_eq] at this
  simpa using this
section
variable {w w1 : World} {p : Nat} {x : Lx} {F : Nat → Prop}
def LexTurn (p : Nat) (x2 : Lx) (F : Nat → Prop) (w w' : World) : Prop := ∃ F', LexAt w' p x2 F' ∧ Upd F w w' ∧ ∀ k, F' k → F k ∨ w.heap.size ≤ k
def BegPost (p : Nat) (x2 : Lx) (k : List UInt8) (F : Nat → Prop) (w : World) (e : Ending) (w' : World) : Prop := ∃ A c, e = .returned (.slice A k.length c) ∧ Rd w' A k.length k ∧ LexTurn p x2 F w w'
def MorePost (p : Nat) (x2 : Lx) (l : List (List UInt8)) (F : Nat → Prop) (w : World) (e : Ending) (w' : World) : Prop := e = .returned (.tuple #[.string (S (l.getD 0 [])), .bool (!l.isEmpty)]) ∧ LexTurn p x2 F w w'
set_option maxHeartbeats 2000000 in
theorem begin_calls (h : LexAt w p x F) (c : UInt8) : Calls Tryz.prog 123 #[ptr p, .int .u8 (c.toNat : Int)] w (BegPost p (begX x c) (begK c) F w) := by
  obtain ⟨A, cp, G, hb, ho, hne, hF⟩ := h
  have HB := Asd.mk hb
  have HO := Asd.mk ho
  have HN := Asd.mk hne
  have HF := Asd.mk hF
  have c0 := keepsC (o := 0) (v := .int .i64 x.st) hb rfl
  have c1 := keepsC (o := 1) (v := .slice A x.tx.length cp) hb rfl
  have c2 := keepsC (o := 2) (v := .bool x.lg) hb rfl
  have cf := fun o => keepsF (o := o) hb
  have hs := Upd.refl (fun _ => False) w
  have hfp : Asd (F p) := ⟨(hF p).2 (.inl rfl)⟩
  clear hb ho hne hF
  have hsc : ∀ o v, Upd F w (w.setCell ⟨p, o, none⟩ v) := fun o v => (Upd.refl F w).setCell (fun _ => hfp.out) v
  have HSC := Asd.mk hsc
  clear hsc
  by_cases h29 : c = 29
  · subst h29
    have E : Asd (begX x 29 = { x with st := 0 } ∧ begK 29 = [29]) := ⟨rfl, rfl⟩
    rw [E.out.1, E.out.2]
    show Calls Tryz.prog 123 #[ptr p, .int .u8 29] w _
    go_enter Tryz.func123, Tryz.ntmps123
    go_wp2
    go_ret
    have hu2 := (HSC.out 0 (.int .i64 0)).alloc (.cells #[.int .u8 29] 5)
    refine ⟨_, _, rfl, Rd.litg _ _ (by simp) #[.int .u8 29] _ _ _ [29] rfl rfl (by simp), F, ⟨A, cp, G, blk_past (blk_setCell (o := 0) HB.out _), ?_, HN.out, HF.out⟩, hu2, fun k hk => .inl hk⟩
    exact HO.out.upd (((Upd.refl (fun k => k = p) w).setCell (fun _ => rfl) _).alloc _) (fun g e e2 => HN.out (by rw [e, e2]))
  · by_cases h58 : c = 58
    · subst h58
      have E : Asd (begX x 58 = ⟨2, [], false⟩ ∧ begK 58 = []) := ⟨rfl, rfl⟩
      rw [E.out.1, E.out.2]
      show Calls Tryz.prog 123 #[ptr p, .int .u8 58] w _
      go_enter Tryz.func123, Tryz.ntmps123
      go_wp2
      go_ret
      refine ⟨_, _, rfl, Rd.nil _ _, fun k => k = p, ⟨none, 0, none, ?_, Own.nil _ _ _, by simp, by simp⟩, ?_, fun k hk => .inl (by rw [hk]; exact hfp.out)⟩
      · exact blk_setCell (o := 2) (blk_setCell (o := 1) (blk_setCell (o := 0) (blk_setCell (o := 0) HB.out _) _) _) _
      · exact ((((Upd.refl F w).setCell (fun _ => hfp.out) _).setCell (fun _ => hfp.out) _).setCell (fun _ => hfp.out) _).setCell (fun _ => hfp.out) _
    · have E : Asd (begX x c = { x with st := 0 } ∧ begK c = []) := ⟨by unfold begX; rw [if_neg h58], by unfold begK; rw [if_neg h29]⟩
      have n1 : ((c.toNat : Int) == 29) = false := beq_eq_false_iff_ne.2 (fun e => h29 (UInt8.toNat.inj (by simp; omega)))
      have n2 : ((c.toNat : Int) == 58) = false := beq_eq_false_iff_ne.2 (fun e => h58 (UInt8.toNat.inj (by simp; omega)))
      rw [E.out.1, E.out.2]
      clear h29 h58
      go_enter Tryz.func123, Tryz.ntmps123
      go_wp2
      go_ret
      refine ⟨_, _, rfl, Rd.nil _ _, F, ⟨A, cp, G, blk_setCell (o := 0) HB.out _, ?_, HN.out, HF.out⟩, HSC.out 0 _, fun k hk => .inl hk⟩
      exact HO.out.upd ((Upd.refl (fun k => k = p) w).setCell (fun _ => rfl) _) (fun g e e2 => HN.out (by rw [e, e2]))
set_option maxHeartbeats 2000000 in
theorem more_calls (h : LexAt w p x F) (hx : x.tx.length ≤ 80) (c : UInt8) : Calls Tryz.prog 124 #[ptr p, .int .u8 (c.toNat : Int)] w (MorePost p (moreX x c) (moreL x c) F w) := by
  obtain ⟨A, cp, G, hb, ho, hne, hF⟩ := h
  rcases x with ⟨xs, tx, lg⟩
  simp only at hb ho hx
  have HB := Asd.mk hb
  have HO := Asd.mk ho
  have HN := Asd.mk hne
  have HF := Asd.mk hF
  obtain ⟨n, hn⟩ : ∃ n, n = tx.length := ⟨_, rfl⟩
  have HNn := Asd.mk hn
  have c0 := keepsC (o := 0) (v := .int .i64 xs) hb rfl
  have c1 := keepsC (o := 1) (v := .slice A n cp) hb (by rw [hn]; rfl)
  have c2 := keepsC (o := 2) (v := .bool lg) hb rfl
  have cf := fun o => keepsF (o := o) hb
  have hs := Upd.refl (fun _ => False) w
  have hfp : Asd (F p) := ⟨(hF p).2 (.inl rfl)⟩
  rw [← hn] at hx
  clear hb ho hne hF hn
  have hsc : ∀ o v, Upd F w (w.setCell ⟨p, o, none⟩ v) := fun o v => (Upd.refl F w).setCell (fun _ => hfp.out) v
  have HSC := Asd.mk hsc
  clear hsc
  have hso : ∀ o v, K.Own (w.setCell ⟨p, o, none⟩ v) 5 1 (.slice A tx.length cp) tx.length (B tx) G := fun o v => HO.out.upd ((Upd.refl (fun k => k = p) w).setCell (fun _ => rfl) _) (fun g e e2 => HN.out (by rw [e, e2]))
  have HSO := Asd.mk hso
  clear hso
  by_cases h10 : c = 10
  · subst h10
    have E : Asd (moreX ⟨xs, tx, lg⟩ 10 = ⟨0, tx, lg⟩ ∧ moreL ⟨xs, tx, lg⟩ 10 = [if lg then [] else tx]) := ⟨rfl, rfl⟩
    rw [E.out.1, E.out.2]
    show Calls Tryz.prog 124 #[ptr p, .int .u8 10] w _
    cases lg with
    | true =>
      go_enter Tryz.func124, Tryz.ntmps124
      go_wp2
      go_ret2
      exact ⟨rfl, F, ⟨A, cp, G, blk_setCell (o := 0) HB.out _, HSO.out 0 _, HN.out, HF.out⟩, HSC.out 0 _, fun k hk => .inl hk⟩
    | false =>
      go_enter Tryz.func124, Tryz.ntmps124
      go_wp2_with (first | (with_reducible refine stop_append _ _ _ _ rfl ?_) | (with_reducible refine stop_copy _ _ _ _ rfl ?_) | (with_reducible refine stop_make _ _ _ rfl ?_) | (with_reducible refine stop_conv 31 9 _ rfl ?_))
      refine wp_str tx A n cp rfl 31 9 5 _ rfl Tryz.underlying31 Tryz.underlying5 Tryz.underlying9 rfl (by rw [HNn.out]; exact (HSO.out 0 _).rd) ?_
      go_wp2
      go_ret2
      exact ⟨rfl, F, ⟨A, cp, G, blk_setCell (o := 0) HB.out _, HSO.out 0 _, HN.out, HF.out⟩, HSC.out 0 _, fun k hk => .inl hk⟩
  · have n1 : ((c.toNat : Int) != 10) = true := bne_iff_ne.2 (fun e => h10 (UInt8.toNat.inj (by simp; omega)))
    have E2 : Asd (moreL ⟨xs, tx, lg⟩ c = []) := ⟨by unfold moreL; rw [if_pos h10]⟩
    rw [E2.out]
    by_cases hl : lg = true ∨ tx.length = 80
    · have E : Asd (moreX ⟨xs, tx, lg⟩ c = ⟨xs, tx, true⟩) := ⟨by unfold moreX; rw [if_pos h10, if_pos hl]⟩
      rw [E.out]
      cases lg with
      | true =>
        clear h10 hl
        go_enter Tryz.func124, Tryz.ntmps124
        go_wp2
        go_ret2
        exact ⟨rfl, F, ⟨A, cp, G, blk_setCell (o := 2) HB.out _, HSO.out 2 _, HN.out, HF.out⟩, HSC.out 2 _, fun k hk => .inl hk⟩
      | false =>
        have n2 : ((n : Int) == 80) = true := beq_iff_eq.2 (by
          rw [HNn.out]
          rcases hl with e | e
          · cases e
          · omega)
        clear h10 hl
        go_enter Tryz.func124, Tryz.ntmps124
        go_wp2
        go_ret2
        exact ⟨rfl, F, ⟨A, cp, G, blk_setCell (o := 2) HB.out _, HSO.out 2 _, HN.out, HF.out⟩, HSC.out 2 _, fun k hk => .inl hk⟩
    · have hlg : lg = false := by
        cases e : lg with
        | true => exact absurd (.inl e) hl
        | false => rfl
      subst hlg
      have hn80 : n ≠ 80 := fun e => hl (.inr (HNn.out ▸ e))
      have n2 : ((n : Int) == 80) = false := beq_eq_false_iff_ne.2 (by omega)
      have E : Asd (moreX ⟨xs, tx, false⟩ c = ⟨xs, tx ++ [c], false⟩) := ⟨by unfold moreX; rw [if_pos h10, if_neg hl]⟩
      rw [E.out]
      clear h10 hl hn80
      go_enter Tryz.func124, Tryz.ntmps124
      go_wp2_with (first | (with_reducible refine stop_append _ _ _ _ rfl ?_) | (with_reducible refine stop_copy _ _ _ _ rfl ?_) | (with_reducible refine stop_make _ _ _ rfl ?_) | (with_reducible refine stop_conv 31 9 _ rfl ?_))
      have HX := Asd.mk (Rd.litg ((w.setCell ⟨p, 2, none⟩ (.bool false))) w.heap.size (by simp) #[.int .u8 (c.toNat : Int)] 5 (0, 0) 1 [c] rfl rfl (by simp))
      refine wp_appendB (n + 1) 5 tx [c] G A n cp (some ⟨w.heap.size, 0, none⟩) 1 1 rfl _ _ 31 rfl Tryz.underlying31 info1u rfl rfl (by rw [HNn.out]; exact (HSO.out 2 _).upd ((Upd.refl (fun _ => False) _).alloc _) (fun _ _ h => h)) HX.out rfl (by omega) ?_
      intro A2 c2' w2 G2 hc2 hm2 hO hU hg
      have hb2 := hU.blk (blk_past (o' := .cells #[.int .u8 (c.toNat : Int)] 5) (blk_setCell (o := 2) HB.out (.bool false))) HN.out
      have d0 := keepsC (o := 0) (v := .int .i64 xs) hb2 rfl
      have d1 := keepsC (o := 1) (v := .slice A n cp) hb2 (by rw [HNn.out]; rfl)
      have d2 := keepsC (o := 2) (v := .bool false) hb2 rfl
      have df := fun o => keepsF (o := o) hb2
      have hs2 := Upd.refl (fun _ => False) w2
      have HB2 := Asd.mk hb2
      have HO2 := Asd.mk hO
      have HG2 := Asd.mk hg
      have HU2 := Asd.mk ((((HSC.out 2 (.bool false)).alloc (.cells #[.int .u8 (c.toNat : Int)] 5))).trans hU (fun i _ e => (HF.out i).2 (.inr e)))
      have HSZ := Asd.mk hU.size
      clear hb2 hO hg hU c0 c1 c2 cf hs
      go_wp2
      go_ret2
      have hnG : some p ≠ G2 := by
        rcases HG2.out with e | ⟨g, e, h5, _⟩
        · rw [e]; exact HN.out
        · rw [e]
          intro e2
          obtain rfl := Option.some.inj e2
          have := blk_lt HB.out
          simp at h5
          omega
      have hll : (tx ++ [c]).length = n + 1 := by rw [HNn.out]; simp
      refine ⟨rfl, fun k => k = p ∨ some k = G2, ⟨A2, c2', G2, ?_, ?_, hnG, fun k => Iff.rfl⟩, ?_, fun k hk => ?_⟩
      · have h1 := blk_setCell (o := 1) HB2.out (.slice A2 (n + 1) c2')
        show _ = some (Obj.cells #[.int .i64 xs, .slice A2 (tx ++ [c]).length c2', .bool false] _ _)
        rw [hll]
        exact h1
      · show K.Own _ _ 1 (.slice A2 (tx ++ [c]).length c2') (tx ++ [c]).length _ G2
        rw [hll]
        exact HO2.out.upd ((Upd.refl (fun k => k = p) w2).setCell (fun _ => rfl) _) (fun g e e2 => hnG (by rw [e, e2]))
      · exact HU2.out.setCell (fun _ => hfp.out) _
      · rcases hk with rfl | e
        · exact .inl hfp.out
        · rcases HG2.out with e2 | ⟨g, e2, h5, _⟩
          · exact .inl ((HF.out k).2 (.inr (e.trans e2)))
          · rw [e2] at e
            obtain rfl := Option.some.inj e
            simp at h5
            exact .inr (by omega)
end
structure PI (w0 : World) (p : Nat) (F : Nat → Prop) (w : World) (x : Lx) (ky : List UInt8) (Ak : Option Addr) (ck : Nat) (O : List (List UInt8)) (Ao : Option Addr) (co : Nat) : Prop where
  mk ::
  has : ∃ F1 Gk Go, LexAt w p x F1 ∧ Upd F w0 w ∧ (∀ k, F1 k → F k ∨ w0.heap.size ≤ k) ∧ K.Own w 5 1 (.slice Ak ky.length ck) ky.length (B ky) Gk ∧ OwnS w Ao co O Go ∧ (∀ g, Gk = some g → w0.heap.size ≤ g ∧ ¬ F1 g) ∧ (∀ g, Go = some g → w0.heap.size ≤ g ∧ ¬ F1 g ∧ Gk ≠ some g)
section
variable {w0 w w2 : World} {p : Nat} {F : Nat → Prop} {x x2 : Lx} {ky : List UInt8} {Ak Ao : Option Addr} {ck co : Nat} {O : List (List UInt8)}
theorem PI.upd (h : PI w0 p F w x ky Ak ck O Ao co) : Upd F w0 w := by obtain ⟨F1, Gk, Go, h1, h2, _⟩ := h.has; exact h2
theorem PI.up (h : PI w0 p F w x ky Ak ck O Ao co) (k : Upd (fun _ => False) w w2) : PI w0 p F w2 x ky Ak ck O Ao co := by
  obtain ⟨F1, Gk, Go, h1, h2, h3, h4, h5, h6, h7⟩ := h.has
  exact ⟨F1, Gk, Go, h1.upd k (fun _ _ h => h), h2.trans k (fun _ _ h => h.elim), h3, h4.upd k (fun _ _ h => h), Own.upd h5 k (fun _ _ h => h), h6, h7⟩
theorem PI.lex (h : PI w0 p F w x ky Ak ck O Ao co) : ∃ F1, LexAt w p x F1 ∧ ∀ w2 x2, LexTurn p x2 F1 w w2 → PI w0 p F w2 x2 ky Ak ck O Ao co := by
  obtain ⟨F1, Gk, Go, h1, h2, h3, h4, h5, h6, h7⟩ := h.has
  refine ⟨F1, h1, fun w2 x2 ⟨F2, k1, k2, k3⟩ => ⟨F2, Gk, Go, k1, h2.trans k2 (fun i hi hf => (h3 i hf).elim (fun h => h) (fun h => by omega)), fun k hk => ?_, h4.upd k2 (fun g e hf => (h6 g e).2 hf), Own.upd h5 k2 (fun g e hf => (h7 g e).2.1 hf), fun g e => ⟨(h6 g e).1, fun hf => ?_⟩, fun g e => ⟨(h7 g e).1, fun hf => ?_, (h7 g e).2.2⟩⟩⟩
  · rcases k3 k hk with h | h
    · exact h3 k h
    · have := h2.size; exact .inr (by omega)
  · rcases k3 g hf with h | h
    · exact (h6 g e).2 h
    · have := h4.lt g e; omega
  · rcases k3 g hf with h | h
    · exact (h7 g e).2.1 h
    · have := Own.lt h5 g e; omega
theorem PI.key (h : PI w0 p F w x ky Ak ck O Ao co) : ∃ Gk, K.Own w 5 1 (.slice Ak ky.length ck) ky.length (B ky) Gk ∧ ∀ w2 A2 c2 K2 G2, K.Own w2 5 1 (.slice A2 K2.length c2) K2.length (B K2) G2 → Upd (fun k => some k = Gk) w w2 → (G2 = Gk ∨ ∃ g, G2 = some g ∧ w.heap.size ≤ g ∧ g < w2.heap.size) → PI w0 p F w2 x K2 A2 c2 O Ao co := by
  obtain ⟨F1, Gk, Go, h1, h2, h3, h4, h5, h6, h7⟩ := h.has
  refine ⟨Gk, h4, fun w2 A2 c2 K2 G2 k1 k2 k3 => ⟨F1, G2, Go, h1.upd k2 (fun i hi e => (h6 i e.symm).2 hi), h2.trans k2 (fun i hi e => by have := (h6 i e.symm).1; omega), h3, k1, Own.upd h5 k2 (fun g e e2 => (h7 g e).2.2 e2.symm), fun g e => ?_, fun g e => ⟨(h7 g e).1, (h7 g e).2.1, fun e2 => ?_⟩⟩⟩
  · rcases k3 with h | ⟨g', h, h8, _⟩
    · exact h6 g (h ▸ e)
    · rw [h] at e
      obtain rfl := Option.some.inj e
      have := h2.size
      exact ⟨by omega, fun hf => by have := h1.lt g' hf; omega⟩
  · rcases k3 with h | ⟨g', h, h8, _⟩
    · exact (h7 g e).2.2 (h ▸ e2)
    · rw [h] at e2
      obtain rfl := Option.some.inj e2
      have := Own.lt h5 g' e
      omega
theorem PI.out (h : PI w0 p F w x ky Ak ck O Ao co) : ∃ Go, OwnS w Ao co O Go ∧ ∀ w2 A2 c2 O2 G2, OwnS w2 A2 c2 O2 G2 → Upd (fun k => some k = Go) w w2 → (G2 = Go ∨ ∃ g, G2 = some g ∧ w.heap.size ≤ g ∧ g < w2.heap.size) → PI w0 p F w2 x ky Ak ck O2 A2 c2 := by
  obtain ⟨F1, Gk, Go, h1, h2, h3, h4, h5, h6, h7⟩ := h.has
  refine ⟨Go, h5, fun w2 A2 c2 O2 G2 k1 k2 k3 => ⟨F1, Gk, G2, h1.upd k2 (fun i hi e => (h7 i e.symm).2.1 hi), h2.trans k2 (fun i hi e => by have := (h7 i e.symm).1; omega), h3, h4.upd k2 (fun g e e2 => (h7 g e2.symm).2.2 e), k1, h6, fun g e => ?_⟩⟩
  rcases k3 with h | ⟨g', h, h8, _⟩
  · exact h7 g (h ▸ e)
  · rw [h] at e
    obtain rfl := Option.some.inj e
    have := h2.size
    exact ⟨by omega, fun hf => by have := h1.lt g' hf; omega, fun e2 => by have := h4.lt g' e2; omega⟩
end
def LPush (p : Nat) (F : Nat → Prop) (r : Lx × List UInt8 × List (List UInt8)) (w : World) (e : Ending) (w' : World) : Prop := ∃ Ak ck Ao co, e = .returned (.tuple #[.slice Ak r.2.1.length ck, .slice Ao r.2.2.length co]) ∧ PI w p F w' r.1 r.2.1 Ak ck r.2.2 Ao co
section
variable {w : World} {p : Nat} {x : Lx} {F : Nat → Prop}
theorem lx_next {b : List UInt8} {c : UInt8} {i : Nat} (r : Lx × List UInt8 × List (List UInt8)) (h : b.drop i = c :: b.drop (i + 1)) : (b.drop i).foldl lxStep r = (b.drop (i + 1)).foldl lxStep (lxStep r c) := by rw [h, List.foldl_cons]
set_option maxHeartbeats 4000000 in
set_option maxRecDepth 100000 in
theorem lpush_calls (h : LexAt w p x F) (hx : LxOk x) (A : Option Addr) (n c : Nat) (b : List UInt8) (hr : Rd w A n b) (hA : ∀ ad, A = some ad → ¬ F ad.block) (hn : n ≤ 1000000) : Calls Tryz.prog 102 #[ptr p, .slice A n c] w (LPush p F (lxAll x b) w) := by
  have HR := Asd.mk hr
  have HA := Asd.mk hA
  have hP : PI w p F w x [] none 0 [] none 0 := ⟨F, none, none, h, Upd.refl _ _, fun k hk => .inl hk, Own.nil _ _ _, Own.nil _ _ _, fun g e => (by cases e), fun g e => (by cases e)⟩
  have HP := Asd.mk hP
  have HX := Asd.mk hx
  have HLN := Asd.mk hr.len
  clear hr hA hP h hx
  go_enter Tryz.func102, Tryz.ntmps102
  go_wp2
  go_loopw [6, 7, 14] (fun v6 v7 v14 wr => ∃ (i : Nat) (xi : Lx) (ky : List UInt8) (O : List (List UInt8)) (Ak Ao : Option Addr) (ck co : Nat), v6 = .slice Ak ky.length ck ∧ v7 = .slice Ao O.length co ∧ v14 = .int .i64 (i : Int) ∧ i ≤ n ∧ Asd (PI w p F wr xi ky Ak ck O Ao co) ∧ Asd (LxOk xi ∧ ky.length ≤ i ∧ O.length ≤ i) ∧ Asd (lxAll x b = (b.drop i).foldl lxStep (xi, ky, O))) (fun _ _ v14 _ => n - (intOf v14).toNat)
  case atStart => exact ⟨0, x, [], [], none, none, 0, 0, rfl, rfl, rfl, Nat.zero_le _, HP, ⟨HX.out, by simp, by simp⟩, ⟨rfl⟩⟩
  case round =>
    obtain ⟨i, xi, ky, O, Ak, Ao, ck, co, rfl, rfl, rfl, hi, HPI, HXI, HL⟩ := hrel
    by_cases hlt : i < n
    · obtain ⟨ad, rfl, hc⟩ := HR.out.at i hlt
      obtain ⟨cc, hcc⟩ : ∃ cc, cc = b[i]'(by rw [HLN.out]; exact hlt) := ⟨_, rfl⟩
      rw [← hcc] at hc
      have hdrop : b.drop i = cc :: b.drop (i + 1) := by rw [hcc]; exact List.drop_eq_getElem_cons (by rw [HLN.out]; exact hlt)
      have HST := Asd.mk (lx_next (xi, ky, O) hdrop)
      have hcw := HPI.out.upd.cell hc (by rw [add_block]; exact HA.out ad rfl)
      have hcell : ∀ W, Upd (fun _ => False) wr W → W.cell? (ad.add i) = some (.int .u8 (cc.toNat : Int)) := fun W k => k.cell hcw (fun h => h)
      have hs := Upd.refl (fun _ => False) wr
      obtain ⟨F1, hLx, hnext⟩ := HPI.out.lex
      have HLX := Asd.mk hLx
      obtain ⟨A0, c0, G0, hb0, _, _, _⟩ := hLx
      have l0 := keepsC (o := 0) (v := .int .i64 xi.st) hb0 rfl
      have lf := fun o => keepsF (o := o) hb0
      have HNX := Asd.mk hnext
      have HKO := Asd.mk (show ky.length ≤ 1000000 ∧ O.length ≤ 1000000 by have := HXI.out; omega)
      clear hcc hdrop hc hcw hnext
      by_cases e1 : xi.st = 1
      · have n1 : (xi.st == 1) = true := beq_iff_eq.2 e1
        have hB : lxStep (xi, ky, O) cc = (begX xi cc, ky ++ begK cc, O) := by unfold lxStep; rw [lxB_1 cc e1]; simp
        have HB := Asd.mk hB
        have hok := HXI.out
        have hok2 := lxOk_step hok.1 cc
        rw [lxB_1 cc e1] at hok2
        have HOK := Asd.mk hok2
        clear e1 hB hok hok2
        go_wp2_with (first | (with_reducible refine stop_append _ _ _ _ rfl ?_) | (with_reducible refine stop_copy _ _ _ _ rfl ?_) | (with_reducible refine stop_make _ _ _ rfl ?_) | (with_reducible refine stop_conv 31 9 _ rfl ?_))
        refine (begin_calls HLX.out cc).mono ?_
        rintro e w3 ⟨A3, c3, rfl, hrd3, ht3⟩
        have h3 := HNX.out w3 _ ht3
        obtain ⟨Gk, hk3, hkn⟩ := h3.key
        have HK3 := Asd.mk hk3
        have HKN := Asd.mk hkn
        have HRD := Asd.mk hrd3
        obtain ⟨kl, hkl⟩ : ∃ kl, kl = begK cc := ⟨_, rfl⟩
        have hkl1 : kl.length ≤ 1 := by rw [hkl]; unfold begK; split <;> simp
        have HKL := Asd.mk hkl
        rw [← hkl]
        rw [← hkl] at HRD
        clear hrd3 ht3 h3 hk3 hkn hkl hs l0 lf hcell
        go_wp2_with (first | (with_reducible refine stop_append _ _ _ _ rfl ?_) | (with_reducible refine stop_copy _ _ _ _ rfl ?_) | (with_reducible refine stop_make _ _ _ rfl ?_) | (with_reducible refine stop_conv 31 9 _ rfl ?_))
        refine wp_appendB (ky.length + kl.length) 5 ky kl Gk Ak ky.length ck A3 kl.length c3 rfl _ _ 31 rfl Tryz.underlying31 info1u rfl rfl HK3.out HRD.out rfl (by have := HKO.out; omega) ?_
        intro A4 c4 w4 G4 hc4 hm4 hO4 hU4 hg4
        rw [← List.length_append] at hO4 ⊢
        have h4 := Asd.mk (HKN.out w4 A4 c4 (ky ++ kl) G4 hO4 hU4 hg4)
        clear hO4 hU4 hg4
        go_wp2
        go_roundw
        case rel => exact ⟨i + 1, begX xi cc, ky ++ kl, O, A4, Ao, c4, co, by rw [List.length_append], rfl, by go_num, by omega, h4, ⟨HOK.out, by rw [List.length_append]; have := HXI.out; omega, by have := HXI.out; omega⟩, ⟨by rw [HL.out, HST.out, HB.out, HKL.out]⟩⟩
        case measure => simp only [intOf]; omega
      · have n1 : (xi.st == 1) = false := beq_eq_false_iff_ne.2 e1
        by_cases e2 : xi.st = 2
        · have n2 : (xi.st == 2) = true := beq_iff_eq.2 e2
          have hB : lxStep (xi, ky, O) cc = (moreX xi cc, ky, O ++ moreL xi cc) := by unfold lxStep; rw [lxB_2 cc e2]; simp
          have HB := Asd.mk hB
          have hok := HXI.out
          have hok2 := lxOk_step hok.1 cc
          rw [lxB_2 cc e2] at hok2
          have HOK := Asd.mk hok2
          clear e1 e2 hB hok hok2
          go_wp2_with (first | (with_reducible refine stop_append _ _ _ _ rfl ?_) | (with_reducible refine stop_copy _ _ _ _ rfl ?_) | (with_reducible refine stop_make _ _ _ rfl ?_) | (with_reducible refine stop_conv 31 9 _ rfl ?_))
          refine (more_calls HLX.out HXI.out.1.2.2 cc).mono ?_
          rintro e w3 ⟨rfl, ht3⟩
          have h3 := Asd.mk (HNX.out w3 _ ht3)
          obtain ⟨ml, hml⟩ : ∃ ml, ml = moreL xi cc := ⟨_, rfl⟩
          have HML := Asd.mk hml
          have hml1 : ml = [] ∨ ∃ l, ml = [l] := by rw [hml]; unfold moreL; split; · exact .inl rfl
                                                    · exact .inr ⟨_, rfl⟩
          rw [← hml]
          clear ht3 hml hs l0 lf hcell
          rcases hml1 with rfl | ⟨l, rfl⟩
          · have hb3 : (!([] : List (List UInt8)).isEmpty) = false := rfl
            go_wp2
            go_roundw
            case rel => exact ⟨i + 1, moreX xi cc, ky, O, Ak, Ao, ck, co, rfl, rfl, by go_num, by omega, h3, ⟨HOK.out, by have := HXI.out; omega, by have := HXI.out; omega⟩, ⟨by rw [HL.out, HST.out, HB.out, ← HML.out, List.append_nil]⟩⟩
            case measure => simp only [intOf]; omega
          · have hb3 : (!([l] : List (List UInt8)).isEmpty) = true := rfl
            have h3b := h3.out.up ((Upd.refl (fun _ => False) w3).alloc (.cells #[SV l] 9))
            obtain ⟨Go, ho3, hon⟩ := h3b.out
            have HO3 := Asd.mk ho3
            have HON := Asd.mk hon
            clear ho3 hon h3b
            go_wp2_with (first | (with_reducible refine stop_append _ _ _ _ rfl ?_) | (with_reducible refine stop_copy _ _ _ _ rfl ?_) | (with_reducible refine stop_make _ _ _ rfl ?_) | (with_reducible refine stop_conv 31 9 _ rfl ?_))
            refine wp_append rfl _ _ 112 9 (.string { data := #[] }) 1 16 rfl Tryz.underlying112 info16 rfl (by omega) _ O.length (O.map SV) Go (some ⟨w3.heap.size, 0, none⟩) 1 1 [SV l] rfl rfl HO3.out (Fee.Row.litg w3 _ rfl 9 #[SV l]) rfl (fun u hu => by simp at hu; subst hu; rfl) (by simp only [maxLen]; have := HKO.out; omega) (by have := HKO.out; omega) ?_
            intro v4 w4 G4 hO4 hU4 hg4
            obtain ⟨A4, c4, rfl, hc4, hm4, _, _⟩ := hO4.slice
            have hl4 : (O ++ [l]).length = O.length + 1 := by simp
            have hO5 : OwnS w4 A4 c4 (O ++ [l]) G4 := by unfold OwnS; rw [hl4, List.map_append]; exact hO4
            rw [← hl4] at hc4 ⊢
            have h4 := Asd.mk (HON.out w4 A4 c4 (O ++ [l]) G4 hO5 hU4 hg4)
            clear hO4 hU4 hg4 hO5
            go_wp2
            go_roundw
            case rel => exact ⟨i + 1, moreX xi cc, ky, O ++ [l], Ak, A4, ck, c4, rfl, by rw [hl4], by go_num, by omega, h4, ⟨HOK.out, by have := HXI.out; omega, by rw [hl4]; have := HXI.out; omega⟩, ⟨by rw [HL.out, HST.out, HB.out, ← HML.out]⟩⟩
            case measure => simp only [intOf]; omega
        · have n2 : (xi.st == 2) = false := beq_eq_false_iff_ne.2 e2
          by_cases e29 : cc = 29
          · have n3 : ((cc.toNat : Int) == 29) = true := by rw [e29]; rfl
            have hB : lxStep (xi, ky, O) cc = ({ xi with st := 1 }, ky, O) := by unfold lxStep lxB; rw [if_neg e1, if_neg e2, if_pos e29]; simp
            have HB := Asd.mk hB
            have hok := HXI.out
            have HOK : Asd (LxOk { xi with st := 1 }) := ⟨by simp, by simp, hok.1.2.2⟩
            obtain ⟨A0, c0, G0, hb0, ho0, hne0, hF0⟩ := HLX.out
            have ht3 : LexTurn p { xi with st := 1 } F1 wr (wr.setCell ⟨p, 0, none⟩ (.int .i64 1)) := ⟨F1, ⟨A0, c0, G0, blk_setCell (o := 0) hb0 _, ho0.upd ((Upd.refl (fun k => k = p) wr).setCell (fun _ => rfl) _) (fun g e e2 => hne0 (by rw [e, e2])), hne0, hF0⟩, (Upd.refl F1 wr).setCell (fun _ => (hF0 p).2 (.inl rfl)) _, fun k hk => .inl hk⟩
            have h3 := Asd.mk (HNX.out _ _ ht3)
            clear e1 e2 e29 hB hok ht3 hb0 ho0 hne0 hF0
            go_wp2
            go_roundw
            case rel => exact ⟨i + 1, { xi with st := 1 }, ky, O, Ak, Ao, ck, co, rfl, rfl, by go_num, by omega, h3, ⟨HOK.out, by have := HXI.out; omega, by have := HXI.out; omega⟩, ⟨by rw [HL.out, HST.out, HB.out]⟩⟩
            case measure => simp only [intOf]; omega
          · have n3 : ((cc.toNat : Int) == 29) = false := beq_eq_false_iff_ne.2 (fun e => e29 (UInt8.toNat.inj (by simp; omega)))
            have hB : lxStep (xi, ky, O) cc = (xi, ky ++ [cc], O) := by unfold lxStep lxB; rw [if_neg e1, if_neg e2, if_neg e29]; simp
            have HB := Asd.mk hB
            have h3b := HPI.out.up ((Upd.refl (fun _ => False) wr).alloc (.cells #[.int .u8 (cc.toNat : Int)] 5))
            obtain ⟨Gk, hk3, hkn⟩ := h3b.key
            have HK3 := Asd.mk hk3
            have HKN := Asd.mk hkn
            have HRD := Asd.mk (Rd.litg wr wr.heap.size rfl #[.int .u8 (cc.toNat : Int)] 5 (0, 0) 1 [cc] rfl rfl (by simp))
            clear e1 e2 e29 hB h3b hk3 hkn
            go_wp2_with (first | (with_reducible refine stop_append _ _ _ _ rfl ?_) | (with_reducible refine stop_copy _ _ _ _ rfl ?_) | (with_reducible refine stop_make _ _ _ rfl ?_) | (with_reducible refine stop_conv 31 9 _ rfl ?_))
            refine wp_appendB (ky.length + 1) 5 ky [cc] Gk Ak ky.length ck (some ⟨wr.heap.size, 0, none⟩) 1 1 rfl _ _ 31 rfl Tryz.underlying31 info1u rfl rfl HK3.out HRD.out rfl (by have := HKO.out; omega) ?_
            intro A4 c4 w4 G4 hc4 hm4 hO4 hU4 hg4
            have hl4 : (ky ++ [cc]).length = ky.length + 1 := by simp
            rw [← hl4] at hO4 ⊢
            have h4 := Asd.mk (HKN.out w4 A4 c4 (ky ++ [cc]) G4 hO4 hU4 hg4)
            clear hO4 hU4 hg4
            go_wp2
            go_roundw
            case rel => exact ⟨i + 1, xi, ky ++ [cc], O, A4, Ao, c4, co, by rw [hl4], rfl, by go_num, by omega, h4, ⟨HXI.out.1, by rw [hl4]; have := HXI.out; omega, by have := HXI.out; omega⟩, ⟨by rw [HL.out, HST.out, HB.out]⟩⟩
            case measure => simp only [intOf]; omega
    · have HE : Asd (lxAll x b = (xi, ky, O)) := ⟨by rw [HL.out, List.drop_eq_nil_of_le (by have := HLN.out; omega)]; rfl⟩
      go_wp2
      go_ret2
      refine ⟨Ak, ck, Ao, co, ?_, ?_⟩
      · rw [HE.out]; rfl
      · rw [HE.out]; exact HPI.out
end
end Go.Proofs.YteepkanbiefpjaaGreatDoor.Bk
set_option linter.unusedVariables false
set_option linter.unusedSimpArgs false
namespace Go.Proofs.YteepkanbiefpjaaGreatDoor.Or
open Go.RowKit K
open Go.Lib (decDigits)
theorem dd_small {u : Nat} (h : u < 10) : decDigits u = [UInt8.ofNat (48 + u)] := by rw [decDigits, dif_pos h]
theorem dd_big {u : Nat} (h : ¬ u < 10) : decDigits u = decDigits (u / 10) ++ [UInt8.ofNat (48 + u % 10)] := by rw [decDigits, dif_neg h]
theorem dd_ne (u : Nat) : decDigits u ≠ [] := by
  by_cases h : u < 10
  · rw [dd_small h]; simp
  · rw [dd_big h]; simp
theorem dig_toNat (d : Nat) (h : d < 10) : (UInt8.ofNat (48 + d)).toNat = 48 + d := by
  simp only [UInt8.toNat_ofNat']
  omega
theorem dd_digits : ∀ (u : Nat) (c : UInt8), c ∈ decDigits u → 48 ≤ c.toNat ∧ c.toNat ≤ 57 := by
  intro u
  induction u using Nat.strongRecOn with
  | ind u ih =>
    intro c hc
    by_cases h : u < 10
    · rw [dd_small h] at hc
      simp only [List.mem_singleton] at hc
      subst hc
      rw [dig_toNat _ h]
      omega
    · rw [dd_big h] at hc
      rcases List.mem_append.1 hc with hc | hc
      · exact ih (u / 10) (by omega) c hc
      · simp only [List.mem_singleton] at hc
        subst hc
        rw [dig_toNat _ (by omega)]
        omega
theorem pu_append (M : Nat) (c : UInt8) (a : Nat) : ∀ (l : List UInt8) (acc : Nat), Lib.parseUintM M acc l = .ok a → Lib.parseUintM M acc (l ++ [c]) = Lib.parseUintM M a [c]
  | [], acc, h => by cases h; rfl
  | x :: l, acc, h => by
    simp only [List.cons_append, Lib.parseUintM] at h ⊢
    split at h
    · rename_i h1
      rw [if_pos h1]
      split at h
      · cases h
      · rename_i h2
        rw [if_neg h2]
        split at h
        · cases h
        · rename_i h3
          rw [if_neg h3]
          exact pu_append M c a l _ h
    · cases h
theorem dd_parse : ∀ u : Nat, u ≤ 1152921504606846976 → Lib.parseUintM (2 ^ 64 - 1) 0 (decDigits u) = .ok u := by
  intro u
  induction u using Nat.strongRecOn with
  | ind u ih =>
    intro hu
    by_cases h : u < 10
    · rw [dd_small h]
      simp only [Lib.parseUintM]
      rw [dig_toNat _ h, if_pos (by omega), if_neg (by omega), if_neg (by omega)]
      congr 1
      omega
    · rw [dd_big h, pu_append _ _ _ _ _ (ih (u / 10) (by omega) (by omega))]
      simp only [Lib.parseUintM]
      rw [dig_toNat _ (by omega), if_pos (by omega), if_neg (by omega), if_neg (by omega)]
      congr 1
      omega
theorem itoa_nat {n : Int} (h : 0 ≤ n) : Lib.itoa n = decDigits n.toNat := by
  unfold Lib.itoa
  rw [if_neg (by omega)]
theorem itoa_parse {n : Int} (h0 : 0 ≤ n) (h1 : n ≤ 1099511627776) : Lib.parseIntB 64 (Lib.itoa n) = .ok n := by
  rw [itoa_nat h0]
  cases hd : decDigits n.toNat with
  | nil => exact absurd hd (dd_ne _)
  | cons c r =>
    have hc := dd_digits n.toNat c (by rw [hd]; exact List.mem_cons_self)
    rw [Lib.parseIntB_plain 64 c r (by omega) (by omega), ← hd]
    unfold Lib.parseUintB
    rw [if_neg (dd_ne _), dd_parse _ (by omega)]
    simp only [Lib.signlessC]
    rw [if_neg (by omega)]
    congr 1
    omega
theorem itoa_ne {n : Int} (h : 0 ≤ n) : Lib.itoa n ≠ [] := by rw [itoa_nat h]; exact dd_ne _
theorem occ32 (s : List UInt8) (i : Nat) : Lib.occAt s [32] i = (s[i]? == some 32) := by
  unfold Lib.occAt
  cases h : s.drop i with
  | nil =>
    have : s.length ≤ i := by simpa using h
    rw [List.getElem?_eq_none this]
    simp
  | cons c r =>
    have hi : s[i]? = some c := by
      have := congrArg (fun l => l[0]?) h
      simpa using this
    rw [hi]
    by_cases hc : c = 32
    · subst hc; rfl
    · have e1 : (some c == some (32 : UInt8)) = false := beq_eq_false_iff_ne.2 (fun e => hc (Option.some.inj e))
      rw [e1]
      have e2 : ((32 : UInt8) == c) = false := beq_eq_false_iff_ne.2 (fun e => hc e.symm)
      simp [List.isPrefixOf, e2]
theorem cut_at (w r : List UInt8) (hw : 32 ∉ w) : Lib.cut (w ++ 32 :: r) [32] = (w, r, true) := by
  have hi : Lib.index (w ++ 32 :: r) [32] = (w.length : Int) := by
    refine Lib.index_hit (fun j hj => ?_) (by simp) ?_
    · rw [occ32, List.getElem?_append_left hj]
      rw [beq_eq_false_iff_ne]
      intro h
      exact hw (List.mem_of_getElem? h)
    · rw [occ32, List.getElem?_append_right (Nat.le_refl _)]
      simp
  unfold Lib.cut
  rw [hi, if_pos (by omega)]
  simp
theorem cut_none (w : List UInt8) (hw : 32 ∉ w) : Lib.cut w [32] = (w, [], false) := by
  have hi : Lib.index w [32] = -1 := by
    refine Lib.index_past (i := w.length) (by simp) (fun j hj => ?_) (by simp)
    rw [occ32, beq_eq_false_iff_ne]
    intro h
    exact hw (List.mem_of_getElem? h)
  unfold Lib.cut
  rw [hi, if_neg (by omega)]
theorem word_ok (j : Nat) (h : j < 11) : 32 ∉ word (j + 1) ∧ word (j + 1) ≠ [] ∧ Lib.idxOfS wl (S (word (j + 1))) = (j : Int) := by
  rcases (by omega : j = 0 ∨ j = 1 ∨ j = 2 ∨ j = 3 ∨ j = 4 ∨ j = 5 ∨ j = 6 ∨ j = 7 ∨ j = 8 ∨ j = 9 ∨ j = 10) with rfl | rfl | rfl | rfl | rfl | rfl | rfl | rfl | rfl | rfl | rfl
  all_goals exact ⟨by decide, by decide, by decide +kernel⟩
theorem right_iff (k n : Int) : right k n = true ↔ 1 ≤ k ∧ k ≤ 11 ∧ 0 ≤ n ∧ n ≤ 1099511627776 ∧ (6 ≤ k ∨ n = 0) := by
  unfold right
  simp [Bool.and_eq_true]
theorem text_wrong {k n : Int} (h : right k n = false) : text k n = [] := by unfold text; rw [h]; rfl
theorem text_short {k n : Int} (h : right k n = true) (h6 : k < 6) : text k n = word k.toNat := by unfold text; rw [if_pos h, if_pos h6, List.append_nil]
theorem text_long {k n : Int} (h : right k n = true) (h6 : ¬ k < 6) : text k n = word k.toNat ++ 32 :: Lib.itoa n := by unfold text; rw [if_pos h, if_neg h6]
theorem word_int {k n : Int} (h : right k n = true) : 32 ∉ word k.toNat ∧ word k.toNat ≠ [] ∧ Lib.idxOfS wl (S (word k.toNat)) + 1 = k := by
  obtain ⟨h1, h2, h3, h4, h5⟩ := (right_iff k n).1 h
  obtain ⟨a, b, c⟩ := word_ok (k.toNat - 1) (by omega)
  rw [show k.toNat - 1 + 1 = k.toNat by omega] at a b c
  exact ⟨a, b, by rw [c]; omega⟩
theorem text_ne {k n : Int} (h : right k n = true) : text k n ≠ [] := by
  obtain ⟨a, b, c⟩ := word_int h
  unfold text
  rw [if_pos h]
  intro e
  exact b (List.append_eq_nil_iff.1 e).1
theorem parse_text {k n : Int} (h : right k n = true) : parse (text k n) = (k, n, 0) := by
  obtain ⟨a, b, c⟩ := word_int h
  obtain ⟨h1, h2, h3, h4, h5⟩ := (right_iff k n).1 h
  have hne := text_ne h
  by_cases h6 : k < 6
  · have hn : n = 0 := by omega
    have ht := text_short h h6
    have e1 : pw (text k n) = word k.toNat := by unfold pw; rw [ht, cut_none _ a]
    have e2 : pnum (text k n) = [] := by unfold pnum; rw [ht, cut_none _ a]
    have e3 : pk (text k n) = k := by unfold pk; rw [e1, c]
    have e4 : pval (text k n) = some 0 := by unfold pval; rw [if_pos e2]
    unfold parse
    rw [e4]
    simp only
    rw [e3, ← hn, if_neg (by simp [hne])]
  · have ht := text_long h h6
    have e1 : pw (text k n) = word k.toNat := by unfold pw; rw [ht, cut_at _ _ a]
    have e2 : pnum (text k n) = Lib.itoa n := by unfold pnum; rw [ht, cut_at _ _ a]
    have e3 : pk (text k n) = k := by unfold pk; rw [e1, c]
    have e4 : pval (text k n) = some n := by unfold pval; rw [if_neg (by rw [e2]; exact itoa_ne h3), e2, itoa_parse h3 h4]
    unfold parse
    rw [e4]
    simp only
    rw [e3, if_neg (by simp [hne])]
theorem parse_cases (l : List UInt8) : (parse l = (0, 0, 8) ∧ ∀ k n, right k n = true → text k n ≠ l) ∨ (∃ k n, right k n = true ∧ text k n = l ∧ parse l = (k, n, 0)) := by
  by_cases hx : ∃ k n, right k n = true ∧ text k n = l
  · obtain ⟨k, n, hr, ht⟩ := hx
    exact .inr ⟨k, n, hr, ht, by rw [← ht]; exact parse_text hr⟩
  · refine .inl ⟨?_, fun k n hr ht => hx ⟨k, n, hr, ht⟩⟩
    unfold parse
    split
    · rfl
    · rename_i v _
      by_cases hc : l = [] ∨ text (pk l) v ≠ l
      · rw [if_pos hc]
      · exfalso
        have h1 : l ≠ [] := fun e => hc (.inl e)
        have h2 : text (pk l) v = l := by
          by_cases h2 : text (pk l) v = l
          · exact h2
          · exact absurd (.inr h2) hc
        cases hr : right (pk l) v with
        | true => exact hx ⟨_, _, hr, h2⟩
        | false => exact h1 (by rw [← h2]; exact text_wrong hr)
end Go.Proofs.YteepkanbiefpjaaGreatDoor.Or
set_option linter.unusedVariables false
set_option linter.unusedSimpArgs false
namespace Go.Proofs.YteepkanbiefpjaaGreatDoor.Bk
open Go.RowKit K
open MgRow (M)
open Fl (rget)
theorem nodup_len : ∀ {l m : List Int}, l.Nodup → (∀ x ∈ l, x ∈ m) → l.length ≤ m.length
  | [], m, _, _ => by simp
  | x :: l, m, hn, hs => by
    obtain ⟨h1, h2⟩ := List.nodup_cons.1 hn
    have hx := hs x List.mem_cons_self
    have := nodup_len (m := m.erase x) h2 (fun y hy => (List.mem_erase_of_ne (fun e => h1 (by rw [← e]; exact hy))).2 (hs y (List.mem_cons_of_mem _ hy)))
    have h3 := List.length_erase_of_mem hx
    have h4 := List.length_pos_of_mem hx
    simp only [List.length_cons]
    omega
theorem G_few {t : Fl.T} {n : Nat} (h : Fl.G t n 0) (hr : t.roles.length ≤ 16) : Fl.G t 16 0 := by
  refine { h with lens := ⟨?_, hr⟩ }
  have := nodup_len (m := Fl.keys t) h.nodup (fun q hq => by
    obtain ⟨r, h1, _⟩ := h.wait q hq (fun e => by have := (h.qpos q hq).1; omega)
    exact List.mem_map.2 ⟨_, Fl.rget_mem h1, rfl⟩)
  simp only [Fl.keys, List.length_map] at this
  omega
theorem Ok.tab {s : Br} (h : Ok s) {t : Fl.T} {n : Nat} (hG : Fl.G t n 0) (hr : t.roles = s.tab.roles) : Ok (wTab s t) := by
  refine ⟨h.srt, h.rng, G_few hG (by show t.roles.length ≤ 16; rw [hr]; exact h.g.lens.2), ?_, fun id hid => ?_, fun id c hg hc => ?_, h.sts, fun p hp => ?_⟩
  · show (t.roles.map (·.1)).Pairwise _
    rw [hr]; exact h.krt
  · exact h.use id (by rw [← hr]; exact hid)
  · have := h.opn id c hg hc
    exact ⟨this.1, by show (rget t.roles id).isSome = true; rw [hr]; exact this.2⟩
  · exact h.rls p (by rw [← hr]; exact hp)
theorem pass_roles (t : Fl.T) : (Fl.pass t).roles = t.roles := by unfold Fl.pass; cases t.queue <;> rfl
theorem lose_roles (t : Fl.T) (id : Int) : (Fl.lose t id).roles = t.roles := by
  unfold Fl.lose
  split
  · rw [pass_roles]; rfl
  · rfl
theorem ask_roles (t : Fl.T) (id : Int) : (Fl.ask t id).roles = t.roles := by
  unfold Fl.ask
  split
  · rfl
  · split <;> rfl
theorem drop_roles (t : Fl.T) (id : Int) : (Fl.drop t id).roles = t.roles := by
  unfold Fl.drop
  split
  · exact lose_roles t id
  · rfl
theorem give_roles (t : Fl.T) (id : Int) : (Fl.give t id).roles = t.roles := by unfold Fl.give; split <;> rfl
theorem revoke_roles (t : Fl.T) : (Fl.revoke t).roles = t.roles := by
  unfold Fl.revoke
  split
  · rfl
  · exact pass_roles t
theorem tick_roles (t : Fl.T) : (Fl.tick t).roles = t.roles := by
  unfold Fl.tick
  split
  · rfl
  · split
    · rfl
    · split
      · rfl
      · rw [pass_roles]; rfl
theorem rdel_isSome (R : List (Int × Int)) (x y : Int) (h : y ≠ x) : rget (Fl.rdel R x) y = rget R y := by
  unfold rget Fl.rdel
  induction R with
  | nil => rfl
  | cons p r ih =>
    rw [List.filter_cons]
    by_cases hp : p.1 = x
    · have hp2 : ¬ p.1 = y := fun e => h (e.symm.trans hp)
      simp only [hp, decide_true, Bool.not_true, Bool.false_eq_true, if_false]
      rw [ih, List.find?_cons]
      have hp3 : ¬ x = y := fun e => h e.symm
      simp [hp, hp3]
    · simp only [hp, decide_false, Bool.not_false, if_true, List.find?_cons]
      split
      · rfl
      · exact ih
theorem rins_get (x r : Int) : ∀ (R : List (Int × Int)) (y : Int), y ≠ x → rget (Fl.rins (x, r) R) y = rget R y
  | [], y, h => by
    have : ¬ x = y := fun e => h e.symm
    simp [Fl.rins, rget, this]
  | p :: R, y, h => by
    have hx : ¬ x = y := fun e => h e.symm
    simp only [Fl.rins]
    split
    · simp [rget, List.find?_cons, hx]
    · unfold rget
      rw [List.find?_cons, List.find?_cons]
      split
      · rfl
      · have := rins_get x r R y h
        unfold rget at this
        exact this
theorem rput_other (R : List (Int × Int)) (x r y : Int) (h : y ≠ x) : rget (Fl.rput R x r) y = rget R y := by
  unfold Fl.rput
  rw [rins_get x r _ y h, rdel_isSome R x y h]
theorem rins_len (p : Int × Int) : ∀ R : List (Int × Int), (Fl.rins p R).length = R.length + 1
  | [] => rfl
  | y :: R => by
    simp only [Fl.rins]
    split
    · rfl
    · simp [rins_len p R]
theorem rdel_lt {R : List (Int × Int)} {x : Int} (h : (rget R x).isSome = true) : (Fl.rdel R x).length < R.length := by
  unfold rget at h
  simp only [Option.isSome_map] at h
  obtain ⟨p, hp⟩ := Option.isSome_iff_exists.1 h
  have h1 := List.find?_some hp
  have h2 := List.mem_of_find?_eq_some hp
  simp only [decide_eq_true_eq] at h1
  unfold Fl.rdel
  exact List.length_filter_lt_length_iff_exists.2 ⟨p, h2, by simp [h1]⟩
theorem rdel_none {R : List (Int × Int)} {x : Int} : x ∉ (Fl.rdel R x).map (·.1) := by
  intro h
  obtain ⟨p, hp, e⟩ := List.mem_map.1 h
  have := (List.mem_filter.1 hp).2
  simp [e] at this
theorem rdel_sorted {R : List (Int × Int)} (h : (R.map (·.1)).Pairwise (· < ·)) (x : Int) : ((Fl.rdel R x).map (·.1)).Pairwise (· < ·) := by
  unfold Fl.rdel
  exact List.Pairwise.sublist (List.Sublist.map _ List.filter_sublist) h
theorem Ok.role {s : Br} (h : Ok s) (id r : Int) (hr : 0 ≤ r ∧ r ≤ 2) : Ok (wTab s (Fl.setRole s.tab id r)) := by
  unfold Fl.setRole
  cases hs : Fl.sets s.tab id r with
  | false => exact h.tab (n := 16) h.g rfl
  | true =>
    have hG := h.g.setRole id r
    unfold Fl.setRole at hG
    rw [if_pos hs] at hG
    simp only [if_true]
    have hsome : (rget s.tab.roles id).isSome = true := by unfold Fl.sets at hs; simp only [Bool.and_eq_true] at hs; exact hs.1
    obtain ⟨t, ht⟩ : ∃ t, t = (if r = 0 then Fl.lose { s.tab with roles := Fl.rput s.tab.roles id r } id else { s.tab with roles := Fl.rput s.tab.roles id r }) := ⟨_, rfl⟩
    have hroles : t.roles = Fl.rput s.tab.roles id r := by
      rw [ht]
      split
      · exact lose_roles _ id
      · rfl
    rw [← ht] at hG ⊢
    have hlen : t.roles.length ≤ 16 := by
      rw [hroles]
      unfold Fl.rput
      rw [rins_len]
      have := rdel_lt hsome
      have := h.g.lens.2
      omega
    refine ⟨h.srt, h.rng, G_few hG hlen, ?_, fun j hj => ?_, fun j c hg hc => ?_, h.sts, fun p hp => ?_⟩
    · show (t.roles.map (·.1)).Pairwise _
      rw [hroles]
      exact rins_sorted (rdel_sorted h.krt id) rdel_none
    · by_cases e : j = id
      · subst e; exact h.use j hsome
      · refine h.use j ?_
        have : rget t.roles j = rget s.tab.roles j := by rw [hroles]; exact rput_other _ _ _ _ e
        rw [← this]; exact hj
    · have := h.opn j c hg hc
      refine ⟨this.1, ?_⟩
      show (rget t.roles j).isSome = true
      rw [hroles]
      by_cases e : j = id
      · subst e; rw [Fl.rget_put_same]; rfl
      · rw [rput_other _ _ _ _ e]; exact this.2
    · have hp' : p ∈ Fl.rput s.tab.roles id r := by rw [← hroles]; exact hp
      rcases Fl.rput_mem hp' with rfl | h1
      · exact hr
      · exact h.rls p h1
structure CnOk (n l : Nat) (c : Cn) : Prop where
  name : c.name.length ≤ 3000
  idle : 0 ≤ c.idle ∧ c.idle ≤ n
  lx : LxOk c.lx
  fb : c.fb.length ≤ 3000
  fe : c.fe ≠ 0 → c.fb = []
  vw : ∀ a b, c.vw = some (a, b) → a ≤ l ∧ b ≤ 9
structure Gd (n : Nat) (s : Br) : Prop where
  ok : Ok s
  cf : rightC s.cf = true
  log : s.log.length ≤ n
  tot : 0 ≤ s.inp.total ∧ s.inp.total ≤ n
  str : 0 ≤ s.strikes ∧ s.strikes ≤ 9
  spt : Sp.Okk s.cf.width.toNat n s.sp
  cns : ∀ id c, get s id = some c → CnOk n s.log.length c
theorem Gd.mono {n m : Nat} {s : Br} (h : Gd n s) (k : n ≤ m) : Gd m s := ⟨h.ok, h.cf, by have := h.log; omega, by have := h.tot; omega, h.str, h.spt.mono k, fun id c hg => { h.cns id c hg with idle := by have := (h.cns id c hg).idle; omega }⟩
theorem Gd.names {n : Nat} {s : Br} (h : Gd n s) : ∀ j x, get s j = some x → x.name.length ≤ 3000 := fun j x hx => (h.cns j x hx).name
theorem Sm.back {s s' : Br} (k : Sm s s') {id : Int} {c' : Cn} (h : get s' id = some c') : ∃ c, get s id = some c ∧ (c'.st = c.st ∨ c'.st = 2) ∧ c'.name = c.name ∧ c'.idle = c.idle ∧ c'.fb = c.fb ∧ c'.fe = c.fe ∧ c'.lx = c.lx ∧ c'.vw = c.vw := by
  obtain ⟨c, hc⟩ := ids_get (s := s) (id := id) (by rw [← k.ids]; exact get_ids h)
  obtain ⟨c2, h2, h3⟩ := k.cn id c hc
  rw [h] at h2
  cases h2
  exact ⟨c, hc, h3⟩
theorem Gd.sm {n : Nat} {s s' : Br} (h : Gd n s) (k : Sm s s') (ho : Ok s') : Gd n s' := by
  refine ⟨ho, by rw [k.cf]; exact h.cf, by rw [k.log]; exact h.log, by rw [k.inp]; exact h.tot, by rw [k.strikes]; exact h.str, by rw [k.cf, k.sp]; exact h.spt, fun id c' hc' => ?_⟩
  obtain ⟨c, hc, _, h2, h3, h4, h5, h6, h7⟩ := k.back hc'
  have := h.cns id c hc
  rw [k.log]
  exact ⟨by rw [h2]; exact this.name, by rw [h3]; exact this.idle, by rw [h6]; exact this.lx, by rw [h4]; exact this.fb, by rw [h5, h4]; exact this.fe, by rw [h7]; exact this.vw⟩
theorem Gd.set {n : Nat} {s : Br} {id : Int} {c c' : Cn} (h : Gd n s) (hg : get s id = some c) (h2 : c'.st = c.st) (h3 : c.st = 1 → c'.vw.isSome = c.vw.isSome) (hc : CnOk n s.log.length c') : Gd n (Bk.set s id c') := by
  refine ⟨h.ok.set hg h2 h3, h.cf, h.log, h.tot, h.str, h.spt, fun j x hx => ?_⟩
  by_cases e : j = id
  · subst e
    rw [get_set_same hg] at hx
    cases hx
    exact hc
  · rw [get_set_other e] at hx
    exact h.cns j x hx
theorem Gd.send {n : Nat} {s : Br} (h : Gd n s) (id : Int) (m : M) : Gd n (send s id m) := h.sm (sm_send' s id m) (ok_send' h.ok id m)
theorem Gd.leave {n : Nat} {s : Br} (h : Gd n s) (id : Int) : Gd n (leave s id) := h.sm (sm_leave' s id) (ok_leave' h.ok id)
theorem Gd.tell {n : Nat} {s : Br} (h : Gd n s) (m : M) : Gd n (tell s m) := h.sm (sm_tell' s m) (ok_tell' h.ok m)
theorem Gd.shut {n : Nat} {s : Br} (h : Gd n s) (id why : Int) : Gd n (shut s id why) := by
  unfold Bk.shut
  split
  · exact h.send _ _
  · exact (h.send _ _).leave _
theorem Gd.holder {n : Nat} {s : Br} (h : Gd n s) (x : Int) : Gd n (wHolder s x) := ⟨ok_holder h.ok x, h.cf, h.log, h.tot, h.str, h.spt, h.cns⟩
theorem Gd.turnedN {n : Nat} : ∀ (k : Nat) {s : Br}, Gd n s → Gd n (turnedN k s)
  | 0, s, h => h
  | k + 1, s, h => by
    unfold Bk.turnedN
    split
    · exact h
    · exact Gd.turnedN k ((h.holder _).tell _)
theorem Gd.turned {n : Nat} {s : Br} (h : Gd n s) : Gd n (turned s) := Gd.turnedN 40 h
theorem Gd.tab {n m : Nat} {s : Br} (h : Gd n s) {t : Fl.T} (hG : Fl.G t m 0) (hr : t.roles = s.tab.roles) : Gd n (wTab s t) := ⟨h.ok.tab hG hr, h.cf, h.log, h.tot, h.str, h.spt, h.cns⟩
theorem Gd.inp {n m : Nat} {s : Br} (h : Gd n s) (x : Iq.QS) (hx : 0 ≤ x.total ∧ x.total ≤ m) (hm : n ≤ m) : Gd m (wInp s x) := by
  have h := h.mono hm
  exact ⟨⟨h.ok.srt, h.ok.rng, h.ok.g, h.ok.krt, h.ok.use, h.ok.opn, h.ok.sts, h.ok.rls⟩, h.cf, h.log, hx, h.str, h.spt, h.cns⟩
theorem Gd.strikes {n : Nat} {s : Br} (h : Gd n s) (x : Int) (hx : 0 ≤ x ∧ x ≤ 9) : Gd n (wStrikes s x) := ⟨⟨h.ok.srt, h.ok.rng, h.ok.g, h.ok.krt, h.ok.use, h.ok.opn, h.ok.sts, h.ok.rls⟩, h.cf, h.log, h.tot, hx, h.spt, h.cns⟩
theorem Gd.list {n : Nat} {s : Br} (h : Gd n s) (id : Int) : Gd n (listN s id) := by
  have : ∀ (l : List Int) (t : Br), Gd n t → Gd n (l.foldl (fun s j => Bk.send s id (note (listT s j ((rget s.tab.roles j).getD 0)))) t) := by
    intro l
    induction l with
    | nil => exact fun t h => h
    | cons a l ih => exact fun t h => ih _ (h.send _ _)
  exact this _ s h
theorem lineFrom_le (l : List UInt8) (base : Nat) : ∀ k i, i + k = l.length → Rg.lineFrom l base k i ≤ l.length
  | 0, i, h => by simp only [Rg.lineFrom]; omega
  | k + 1, i, h => by
    simp only [Rg.lineFrom]
    split
    · omega
    · exact lineFrom_le l base k (i + 1) (by omega)
theorem lineOf_le (l : List UInt8) (base x : Nat) (h : base ≤ x ∧ x ≤ l.length) : Rg.lineOf l base (x : Int) ≤ l.length := by
  have e : mx (x : Int) (base : Int) = (x : Int) := by unfold mx; split <;> omega
  unfold Rg.lineOf
  rw [e]
  split
  · exact Nat.le_refl _
  · rw [Int.toNat_natCast]
    exact lineFrom_le l base _ _ (by omega)
theorem startN_le (l : List UInt8) (n : Nat) (back : Int) (line : Bool) : Vw.startN l n back line ≤ l.length := by
  unfold Vw.startN
  have h1 := Vw.startA_le l n back
  split
  · exact lineOf_le l _ _ ⟨h1.1, h1.2.1⟩
  · exact h1.2.1
theorem Gd.toOther {n : Nat} {s : Br} (h : Gd n s) (k x : Int) : Gd n (toOther s k x).1 := by
  unfold Bk.toOther
  cases userOf s x with
  | none => exact h
  | some c =>
    simp only
    split
    · exact h.tab (m := 16) (h.ok.g.give x) (give_roles _ _)
    · split
      · exact h.shut _ _
      · split
        · exact ⟨h.ok.role x 1 (by omega), h.cf, h.log, h.tot, h.str, h.spt, h.cns⟩
        · exact ⟨h.ok.role x 0 (by omega), h.cf, h.log, h.tot, h.str, h.spt, h.cns⟩
theorem Gd.does {n : Nat} {s : Br} (h : Gd n s) (id k x : Int) (hx : 0 ≤ x) : Gd n (does s id k x).1 := by
  unfold Bk.does
  split
  · exact h
  · split
    · exact h.tab (m := 17) (h.ok.g.ask id) (ask_roles _ _)
    · split
      · exact h.tab (m := 16) (h.ok.g.drop id) (drop_roles _ _)
      · split
        · exact h.list id
        · split
          · exact h.shut _ _
          · split
            · exact h.tab (m := 16) h.ok.g.revoke (revoke_roles _)
            · split
              · cases hg : get s id with
                | none => exact h
                | some c =>
                  simp only
                  have hc := h.cns id c hg
                  refine h.set hg rfl (fun h1 => ?_) { hc with vw := fun a b e => ?_ }
                  · have := (h.ok.opn id c hg h1).1
                    rw [this]; rfl
                  · simp only [cVw, Option.some.injEq, Prod.mk.injEq] at e
                    obtain ⟨rfl, rfl⟩ := e
                    refine ⟨startN_le _ _ _ _, ?_⟩
                    cases hv : c.vw with
                    | none => simp
                    | some q => exact (hc.vw q.1 q.2 hv).2
              · split
                · split
                  · exact h
                  · exact h.strikes x ⟨hx, by omega⟩
                · exact h.toOther k x
theorem parse_ok (l : List UInt8) (h : (Or.parse l).2.2 = 0) : 1 ≤ (Or.parse l).1 ∧ (Or.parse l).1 ≤ 11 ∧ 0 ≤ (Or.parse l).2.1 ∧ (Or.parse l).2.1 ≤ 1099511627776 := by
  rcases Or.parse_cases l with ⟨e, _⟩ | ⟨k, n, hr, _, e⟩
  · rw [e] at h; cases h
  · rw [e]
    have := (Or.right_iff k n).1 hr
    exact ⟨this.1, this.2.1, this.2.2.1, this.2.2.2.1⟩
theorem Gd.line {n : Nat} {s : Br} (h : Gd n s) (id : Int) (l : List UInt8) : Gd n (line id s l) := by
  unfold Bk.line
  split
  · simp only
    split
    · simp only [Bool.false_eq_true, if_false]
      exact (h.send _ _).turned
    · rename_i h0
      have h1 := h.does id (Or.parse l).1 (Or.parse l).2.1 (parse_ok l (Classical.not_not.1 h0)).2.2.1
      split
      · exact h1.turned
      · exact (h1.send _ _).turned
  · exact h
theorem Gd.lines {n : Nat} (id : Int) : ∀ (L : List (List UInt8)) {s : Br}, Gd n s → Gd n (L.foldl (Bk.line id) s)
  | [], s, h => h
  | l :: L, s, h => Gd.lines id L (h.line id l)
theorem offer_total (x : Iq.QS) (t : Fl.T) (id : Int) (l : List UInt8) : (Iq.offer x t id l).total = x.total ∨ (Iq.offer x t id l).total = x.total + l.length := by unfold Iq.offer; split <;> simp
theorem Gd.typed {n : Nat} {s : Br} (h : Gd n s) (id : Int) (m : M) : Gd (n + m.t.length) (Bk.typed s id m) := by
  unfold Bk.typed
  cases hg : get s id with
  | none => exact h.mono (by omega)
  | some c =>
    simp only
    have hc := h.cns id c hg
    have hlx := lxAll_ok hc.lx m.t
    have hll := lxAll_len c.lx m.t
    have h1 : Gd n (Bk.set s id { c with lx := (lxAll c.lx m.t).1 }) := h.set (c' := { c with lx := (lxAll c.lx m.t).1 }) hg rfl (fun _ => rfl) { hc with lx := hlx.1 }
    refine Gd.lines id _ ?_
    split
    · exact h1.mono (by omega)
    · have hi : Gd (n + m.t.length) (wInp (Bk.set s id { c with lx := (lxAll c.lx m.t).1 }) (Iq.offer (Bk.set s id { c with lx := (lxAll c.lx m.t).1 }).inp (Bk.set s id { c with lx := (lxAll c.lx m.t).1 }).tab id (lxAll c.lx m.t).2.1)) := by
        refine h1.inp _ ?_ (by omega)
        have := h1.tot
        rcases offer_total (Bk.set s id { c with lx := (lxAll c.lx m.t).1 }).inp (Bk.set s id { c with lx := (lxAll c.lx m.t).1 }).tab id (lxAll c.lx m.t).2.1 with e | e <;> rw [e] <;> omega
      split
      · exact hi
      · exact hi.send _ _
theorem Gd.hello {n : Nat} {s : Br} (h : Gd n s) (id : Int) (m : M) (hst : ∀ c, get s id = some c → c.st = 0) (hm : m.t.length ≤ 3000) : Gd n (Bk.hello s id m) := by
  unfold Bk.hello
  split
  · exact h.shut _ _
  · split
    · exact h.shut _ _
    · split
      · exact h.shut _ _
      · simp only
        have h1 := h.tell (note (joinT id m.t))
        cases hg : get (Bk.tell s (note (joinT id m.t))) id with
        | none => exact h1
        | some c =>
          simp only
          have hc := h1.cns id c hg
          have hst1 : c.st ≠ 1 := by
            obtain ⟨c0, hc0, h2, _⟩ := (sm_tell' s (note (joinT id m.t))).back hg
            have := hst c0 hc0
            rcases h2 with e | e <;> omega
          obtain ⟨s1, hs1⟩ : ∃ s1, s1 = Bk.tell s (note (joinT id m.t)) := ⟨_, rfl⟩
          rw [← hs1] at h1 hg hc ⊢
          obtain ⟨c2, hc2⟩ : ∃ c2 : Cn, c2 = { c with st := 1, name := m.t, vw := some (Vw.startN s1.log (Rg.roomN s1.cf.log) m.b (decide (m.a / 2 % 2 = 1)), 0) } := ⟨_, rfl⟩
          rw [← hc2]
          have hr := roleOf_range (Bk.set s1 id c2) (decide (m.a % 2 = 1))
          have h3 : Gd n (wTab (Bk.set s1 id c2) (Fl.join (Bk.set s1 id c2).tab id (roleOf (Bk.set s1 id c2) (decide (m.a % 2 = 1))))) := by
            refine ⟨h1.ok.joined hg hst1 (by rw [hc2]) (by rw [hc2]; rfl) _ (by omega), h1.cf, h1.log, h1.tot, h1.str, h1.spt, fun j x hx => ?_⟩
            have hx' : get (Bk.set s1 id c2) j = some x := hx
            by_cases e : j = id
            · subst e
              rw [get_set_same hg] at hx'
              cases hx'
              rw [hc2]
              exact ⟨hm, hc.idle, hc.lx, hc.fb, hc.fe, fun a b e => by
                simp only [Option.some.injEq, Prod.mk.injEq] at e
                obtain ⟨rfl, rfl⟩ := e
                exact ⟨startN_le _ _ _ _, by omega⟩⟩
            · rw [get_set_other e] at hx'
              exact h1.cns j x hx'
          split
          · exact ((h3.send _ _).send _ _).send _ _
          · exact (h3.send _ _).send _ _
theorem Gd.message {n : Nat} {s : Br} (h : Gd n s) (id : Int) (k : UInt8) (body : List UInt8) (hb : body.length ≤ 2048) : Gd (n + body.length) (Bk.message s id k body) := by
  unfold Bk.message
  simp only
  have hl : (body.drop (6 * Mg.nums (k.toNat : Int))).length ≤ body.length := by rw [List.length_drop]; omega
  have rest : Gd (n + body.length) (if (k.toNat : Int) = 2 then Bk.typed s id ⟨(k.toNat : Int), (MgOf.numA (Mg.nums (k.toNat : Int)) body : Int), (MgOf.numB (Mg.nums (k.toNat : Int)) body : Int), body.drop (6 * Mg.nums (k.toNat : Int))⟩ else if (k.toNat : Int) = 3 then Bk.send s id ⟨14, 0, 0, []⟩ else if (k.toNat : Int) = 4 then Bk.shut s id 0 else Bk.shut s id 4) := by
    split
    · exact Gd.mono (h.typed id _) (by simp only; omega)
    · split
      · exact Gd.mono (n := n) (h.send _ _) (by omega)
      · split
        · exact Gd.mono (n := n) (h.shut _ _) (by omega)
        · exact Gd.mono (n := n) (h.shut _ _) (by omega)
  split
  · exact Gd.mono (n := n) (h.shut _ _) (by omega)
  · cases hg : get s id with
    | none => exact rest
    | some c =>
      simp only
      by_cases h0 : c.st = 0
      · rw [if_pos (beq_iff_eq.2 h0)]
        exact Gd.mono (n := n) (h.hello id _ (fun c' hg' => by rw [hg] at hg'; cases hg'; exact h0) (by simp only; omega)) (by omega)
      · rw [if_neg (fun e => h0 (beq_iff_eq.1 e))]
        exact rest
end Go.Proofs.YteepkanbiefpjaaGreatDoor.Bk
