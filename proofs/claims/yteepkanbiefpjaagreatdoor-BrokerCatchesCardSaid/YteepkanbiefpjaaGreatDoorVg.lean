/- What these laws lean on, part Vg: contracts of the given program's functions and plain lists. No condition. -/
import Derived.Test.YteepkanbiefpjaaGreatDoorVf
import Derived.Test.YteepkanbiefpjaaGreatDoorVa
import Derived.WalkMore
import Derived.ScopeJumps
import Derived.Test.YteepkanbiefpjaaGreatDoorVb
import Derived.Shelf.SlIterI.Nil
import Derived.RangeFuncBound
import Derived.OwnWalkIn
import Derived.TacticsInMore
import Derived.LoopNIn
import Derived.LoopIn
import Derived.Test.YteepkanbiefpjaaGreatDoorVc
import Derived.Test.YteepkanbiefpjaaGreatDoorVe
import Derived.Deep.RegionHeld3
set_option linter.unusedVariables false
set_option linter.unusedSimpArgs false
namespace Go.Proofs.YteepkanbiefpjaaGreatDoor.Fee
open Go.RowKit K Crc Sm Fr FrMath LGet FdMath
theorem info32 : (Tryz.prog.info? 105).map (fun i => (i.zero, i.size, i.bytes)) = some (some (.agg #[.int .u8 0, .slice none 0 0]), 2, 32) := by kernel_rfl
structure FRec where
  kind : UInt8
  A : Option Addr
  c : Nat
  body : List UInt8
def cells (x : FRec) : List Value := [.int .u8 (x.kind.toNat : Int), .slice x.A x.body.length x.c]
def cellsL (L : List FRec) : List Value := L.flatMap cells
def abs (L : List FRec) : List (UInt8 × List UInt8) := L.map fun x => (x.kind, x.body)
def Frs (w : World) (T : Nat → Prop) (L : List FRec) : Prop := ∀ x ∈ L, Rd w x.A x.body.length x.body ∧ x.body.length ≤ x.c ∧ x.c ≤ maxLen ∧ ∀ ad, x.A = some ad → T ad.block
theorem cellsL_length (L : List FRec) : (cellsL L).length = L.length * 2 := by
  induction L with
  | nil => rfl
  | cons x L ih => simp only [cellsL, List.flatMap_cons, List.length_append, List.length_cons] at *; rw [ih]; simp [cells]; omega
theorem cellsL_append (L M : List FRec) : cellsL (L ++ M) = cellsL L ++ cellsL M := by simp [cellsL]
theorem cellsL_one (L : List FRec) : ∀ u ∈ cellsL L, u.oneCell' = true := by
  intro u hu
  simp only [cellsL, List.mem_flatMap] at hu
  obtain ⟨x, _, hx⟩ := hu
  simp only [cells, List.mem_cons, List.not_mem_nil, or_false] at hx
  rcases hx with rfl | rfl <;> rfl
theorem cellsL_at : ∀ (L : List FRec) (i : Nat) (h : i < L.length), (cellsL L)[i * 2]? = some (.int .u8 (L[i].kind.toNat : Int)) ∧ (cellsL L)[i * 2 + 1]? = some (.slice L[i].A L[i].body.length L[i].c)
  | x :: L, 0, _ => by simp [cellsL, cells]
  | x :: L, i + 1, h => by
    have := cellsL_at L i (by simpa using h)
    have e : cellsL (x :: L) = cells x ++ cellsL L := by simp [cellsL]
    rw [e, List.getElem?_append_right (by simp [cells]; omega), List.getElem?_append_right (by simp [cells]; omega)]
    have e1 : (i + 1) * 2 - (cells x).length = i * 2 := by simp [cells]; omega
    have e2 : (i + 1) * 2 + 1 - (cells x).length = i * 2 + 1 := by simp [cells]; omega
    rw [e1, e2]
    exact this
theorem abs_length (L : List FRec) : (abs L).length = L.length := by simp [abs]
theorem abs_append (L M : List FRec) : abs (L ++ M) = abs L ++ abs M := by simp [abs]
section
variable {w w1 : World} {T T1 S : Nat → Prop} {L M : List FRec}
theorem Frs.nil (w : World) (T : Nat → Prop) : Frs w T [] := fun _ h => by cases h
theorem Frs.upd (h : Frs w T L) (k : Upd S w w1) (hn : ∀ i, T i → ¬ S i) : Frs w1 T L := fun x hx => by
  obtain ⟨h1, h2, h3, h4⟩ := h x hx
  exact ⟨h1.upd k (fun ad e => hn _ (h4 ad e)), h2, h3, h4⟩
theorem Frs.up (h : Frs w T L) (k : Upd (fun _ => False) w w1) : Frs w1 T L := h.upd k (fun _ _ h => h)
theorem Frs.mono (h : Frs w T L) (hn : ∀ i, T i → T1 i) : Frs w T1 L := fun x hx => by
  obtain ⟨h1, h2, h3, h4⟩ := h x hx
  exact ⟨h1, h2, h3, fun ad e => hn _ (h4 ad e)⟩
theorem Frs.append (h : Frs w T L) (k : Frs w T M) : Frs w T (L ++ M) := fun x hx => (List.mem_append.1 hx).elim (h x) (k x)
end
def OwnF (w : World) (A : Option Addr) (c : Nat) (L : List FRec) (G : Option Nat) : Prop := K.Own w 105 2 (.slice A L.length c) L.length (cellsL L) G
section
variable {P : Program} {W : World} {o : Oper} {rest : List Oper} {ops : Array Oper} {Q : Exit → Act → World → Prop} {a : Act}
theorem wp_appendL (L M : List FRec) (G : Option Nat) (A0 : Option Addr) (c0 : Nat) (A : Option Addr) (c : Nat) (hgd : o.guard = none) (s x : Operand)
    (ho : o.op = .call { callee := .builtin .append, args := #[s, x], argTypes := #[102, 102] })
    (hs : a.eval s = .slice A0 L.length c0) (hx : a.eval x = .slice A M.length c) (HO : OwnF W A0 c0 L G) (HR : Row W A (cellsL M)) (hlim : L.length + M.length ≤ 4294967296)
    (h : ∀ A1 c1 w1 G1, (L ++ M).length ≤ c1 → c1 ≤ maxLen → OwnF w1 A1 c1 (L ++ M) G1 → Upd (fun k => some k = G) W w1 → (G1 = G ∨ ∃ g, G1 = some g ∧ W.heap.size ≤ g ∧ g < w1.heap.size) → wpList Tryz.prog ops Q rest (a.put o.dst (.slice A1 (L ++ M).length c1)) w1) :
    Stop (wpList Tryz.prog ops Q (o :: rest) a W) := by
  refine wp_append hgd s x 102 105 (.agg #[.int .u8 0, .slice none 0 0]) 2 32 ho Tryz.underlying102 info32 rfl (by omega) _ L.length (cellsL L) G A M.length c (cellsL M) hs hx HO HR (cellsL_length M) (cellsL_one M) (by simp only [maxLen]; omega) (by omega) ?_
  intro v1 w1 G1 hO hU hG
  rw [← cellsL_append, ← List.length_append] at hO
  obtain ⟨A1, c1, rfl, h1, h2, _, _⟩ := hO.slice
  exact h A1 c1 w1 G1 h1 h2 hO hU hG
end
def Feed (w : World) (q : Nat) (buf : List UInt8) (e : Int) (F : Nat → Prop) : Prop :=
  ∃ A c G, w.heap[q]? = some (.cells #[.slice A buf.length c, .int .i64 e] 143 (0, 0)) ∧ K.Own w 5 1 (.slice A buf.length c) buf.length (B buf) G ∧ some q ≠ G ∧ ∀ k, F k ↔ k = q ∨ some k = G
section
variable {w w1 : World} {q : Nat} {buf : List UInt8} {e : Int} {F S : Nat → Prop}
theorem Feed.upd (h : Feed w q buf e F) (k : Upd S w w1) (hn : ∀ i, F i → ¬ S i) : Feed w1 q buf e F := by
  obtain ⟨A, c, G, hb, ho, hne, hF⟩ := h
  exact ⟨A, c, G, k.blk hb (hn q ((hF q).2 (.inl rfl))), ho.upd k (fun g e => hn g ((hF g).2 (.inr e.symm))), hne, hF⟩
theorem Feed.up (h : Feed w q buf e F) (k : Upd (fun _ => False) w w1) : Feed w1 q buf e F := h.upd k (fun _ _ h => h)
theorem Feed.lt (h : Feed w q buf e F) : ∀ k, F k → k < w.heap.size := by
  obtain ⟨A, c, G, hb, ho, hne, hF⟩ := h
  intro k hk
  rcases (hF k).1 hk with rfl | e
  · exact blk_lt hb
  · exact ho.lt k e.symm
theorem Feed.cells (h : Feed w q buf e F) : ∃ A c, w.cell? ⟨q, 0, none⟩ = some (.slice A buf.length c) ∧ w.cell? ⟨q, 1, none⟩ = some (.int .i64 e) := by
  obtain ⟨A, c, G, hb, ho, hne, hF⟩ := h
  exact ⟨A, c, by simp [World.cell?, hb], by simp [World.cell?, hb]⟩
end
def NewPost (w : World) (e : Ending) (w' : World) : Prop := ∃ q F, e = .returned (.pointer (some ⟨q, 0, none⟩)) ∧ Feed w' q [] 0 F ∧ Upd (fun _ => False) w w' ∧ ∀ k, F k → w.heap.size ≤ k
set_option maxHeartbeats 400000 in
theorem new_calls (w : World) : Calls Tryz.prog 47 #[] w (NewPost w) := by
  go_enter Tryz.func47, Tryz.ntmps47
  go_wp2
  go_ret
  exact ⟨w.heap.size, fun k => k = w.heap.size, rfl, ⟨none, 0, none, heap_alloc_new w _, K.Own.nil _ _ _, by simp, by simp⟩, (Upd.refl _ _).alloc _, fun k hk => by rw [hk]; exact Nat.le_refl _⟩
section
variable {w : World} {q : Nat} {buf : List UInt8} {e : Int} {F : Nat → Prop}
set_option maxHeartbeats 400000 in
theorem err_calls (h : Feed w q buf e F) : Calls Tryz.prog 53 #[.pointer (some ⟨q, 0, none⟩)] w fun e' w' => e' = .returned (.int .i64 e) ∧ w = w' := by
  obtain ⟨A, c, h0, h1⟩ := h.cells
  clear h
  go_enter Tryz.func53, Tryz.ntmps53
  go_wp2
  go_ret
  exact ⟨rfl, rfl⟩
end
def PushPost (q : Nat) (r : List (UInt8 × List UInt8) × List UInt8 × Int) (F : Nat → Prop) (w : World) (e : Ending) (w' : World) : Prop :=
  ∃ A c L G F', e = .returned (.slice A L.length c) ∧ abs L = r.1 ∧ L.length ≤ c ∧ c ≤ maxLen ∧ OwnF w' A c L G ∧ Frs w' (fun k => w.heap.size ≤ k ∧ k < w'.heap.size ∧ ¬ F' k) L ∧ Feed w' q r.2.1 r.2.2 F' ∧ Upd F w w' ∧ (∀ k, F' k → F k ∨ w.heap.size ≤ k) ∧ (∀ g, G = some g → w.heap.size ≤ g ∧ ¬ F' g)
section
variable {w : World} {q : Nat} {buf : List UInt8} {e : Int} {F : Nat → Prop}
set_option maxHeartbeats 400000 in
theorem push_dead (h : Feed w q [] e F) (he : e ≠ 0) (A : Option Addr) (n c : Nat) :
    Calls Tryz.prog 50 #[.pointer (some ⟨q, 0, none⟩), .slice A n c] w (PushPost q ([], [], e) F w) := by
  have H := Asd.mk h
  obtain ⟨A0, c0, h0, h1⟩ := h.cells
  clear h
  have he2 : (e == 0) = false := beq_eq_false_iff_ne.2 he
  go_enter Tryz.func50, Tryz.ntmps50
  go_wp2
  go_step3
  go_wp2
  rw [Exit.noGoto_ret]
  go_ret
  exact ⟨none, 0, [], none, F, rfl, rfl, Nat.le_refl _, (by simp [maxLen]), K.Own.nil _ _ _, Frs.nil _ _, H.out, Upd.refl _ _, fun k h => .inl h, fun g e => by cases e⟩
end
def Inv (w : World) (q : Nat) (F : Nat → Prop) (V : Value) (target : List (UInt8 × List UInt8) × List UInt8 × Int) (N : Nat) (a' : Act) (w' : World) : Prop :=
  ∃ (A5 : Option Addr) (c5 : Nat) (L : List FRec) (G5 : Option Nat) (rest : List UInt8) (F' : Nat → Prop), (∃ u2 u3 u6 u7 u8 u9 u10 u11 u12 u13 u14 u15 u16 u17 u18 u19 u20 u21 u22 u23 u24 u25 u26 u27 u28 u29 u30 u31 u32 u33 u34 u35 u36 u37 u38 u39 u40 u41 u42 u43 u44 u45 u46 u47 u48 u49 u50 u51 u52 u53 u54 u55 u56 : Value, a' = { tmps := #[.pointer (some ⟨q, 0, none⟩), V, u2, u3, .slice none 0 0, .slice A5 L.length c5, u6, u7, u8, u9, u10, u11, u12, u13, u14, u15, u16, u17, u18, u19, u20, u21, u22, u23, u24, u25, u26, u27, u28, u29, u30, u31, u32, u33, u34, u35, u36, u37, u38, u39, u40, u41, u42, u43, u44, u45, u46, u47, u48, u49, u50, u51, u52, u53, u54, u55, u56], defers := [] }) ∧ L.length ≤ c5 ∧ c5 ≤ maxLen ∧ L.length + rest.length ≤ N ∧ OwnF w' A5 c5 L G5 ∧ Frs w' (fun k => w.heap.size ≤ k ∧ k < w'.heap.size ∧ ¬ F' k ∧ some k ≠ G5) L ∧ Feed w' q rest 0 F' ∧ (abs L ++ (all rest).1, (all rest).2) = target ∧ Upd F w w' ∧ (∀ k, F' k → F k ∨ w.heap.size ≤ k) ∧ (∀ g, G5 = some g → w.heap.size ≤ g ∧ ¬ F' g)
def left (q : Nat) (w : World) : Nat := match w.cell? ⟨q, 0, none⟩ with | some (.slice _ n _) => n | _ => 0
theorem Row.litg (w : World) (g : Nat) (hg : g = w.heap.size) (e : TypeId) (C : Array Value) : Row (w.alloc (.cells C e)) (some ⟨g, 0, none⟩) C.toList := by
  subst hg
  intro j u hj
  have hh := heap_alloc_new w (.cells C e)
  exact ⟨_, rfl, by rw [add_lit]; simp only [World.cell?, hh]; simpa using hj⟩
section
variable {w : World} {q : Nat} {buf : List UInt8} {F : Nat → Prop}
set_option maxHeartbeats 4000000 in
set_option maxRecDepth 100000 in
theorem push_live (h : Feed w q buf 0 F) (A : Option Addr) (n c : Nat) (b : List UInt8) (hr : Rd w A n b) (hN : buf.length + n ≤ 1073741824) :
    Calls Tryz.prog 50 #[.pointer (some ⟨q, 0, none⟩), .slice A n c] w (PushPost q (all (buf ++ b)) F w) := by
  have hF := h.lt
  have HFl := Asd.mk hF
  have H := Asd.mk h
  have HRb := Asd.mk hr
  clear h hr hF
  go_enter Tryz.func50, Tryz.ntmps50
  go_wp2
  refine wp_scope_jumps 0 (Inv w q F (.slice A n c) (all (buf ++ b)) (buf.length + n)) (fun _ w' => left q w') rfl ?_ ?_
  · obtain ⟨A0, c0, G, hb, ho, hne, hF⟩ := H.out
    have hq0 : w.cell? ⟨q, 0, none⟩ = some (.slice A0 buf.length c0) := by simp [World.cell?, hb]
    have hq1 : w.cell? ⟨q, 1, none⟩ = some (.int .i64 0) := by simp [World.cell?, hb]
    have HB := Asd.mk hb
    have HO := Asd.mk ho
    have HN := Asd.mk hne
    have HFi := Asd.mk hF
    clear hb ho hne hF
    go_wp2_with (first | (with_reducible refine stop_append _ _ _ _ rfl ?_) | (with_reducible refine stop_copy _ _ _ _ rfl ?_) | (with_reducible refine stop_make _ _ _ rfl ?_) | (with_reducible refine stop_conv 31 9 _ rfl ?_))
    refine wp_appendB (buf.length + n) 5 buf b G A0 buf.length c0 A n c rfl _ _ 31 rfl Tryz.underlying31 info8 rfl rfl HO.out HRb.out rfl (by omega) ?_
    intro A2 c2 w2 G2 hc2 hm2 hO hU hg
    have hb2 := hU.blk HB.out HN.out
    have hq0 : w2.cell? ⟨q, 0, none⟩ = some (.slice A0 buf.length c0) := by simp [World.cell?, hb2]
    have hfz : w2.frozen? ⟨q, 0, none⟩ = false := by simp [World.frozen?, hb2]
    have HB2 := Asd.mk hb2
    have HO2 := Asd.mk hO
    have HU2 := Asd.mk hU
    have HG2 := Asd.mk hg
    clear hb2 hO hU hg HO hq1
    go_wp2
    go_step3
    have hlen : (buf ++ b).length = buf.length + n := by rw [List.length_append, HRb.out.len]
    have hsc := (Upd.refl (fun k => k = q) w2).setCell (p := ⟨q, 0, none⟩) (fun _ => rfl) (.slice A2 (buf.length + n) c2)
    have hbq := blk_setCell (o := 0) HB2.out (.slice A2 (buf.length + n) c2)
    have hnG : some q ≠ G2 := by
      rcases HG2.out with e | ⟨g, e, h5, _⟩
      · rw [e]; exact HN.out
      · rw [e]
        intro e2
        obtain rfl := Option.some.inj e2
        have := blk_lt HB.out
        omega
    have HFd : Asd (Feed (w2.setCell ⟨q, 0, none⟩ (.slice A2 (buf.length + n) c2)) q (buf ++ b) 0 (fun k => k = q ∨ some k = G2)) := ⟨A2, c2, G2, by rw [hlen]; exact hbq, by rw [hlen]; exact HO2.out.upd hsc (fun g e e2 => hnG (by rw [e, e2])), hnG, fun k => Iff.rfl⟩
    have HU : Asd (Upd F w (w2.setCell ⟨q, 0, none⟩ (.slice A2 (buf.length + n) c2))) := ⟨(HU2.out.mono (T := F) (fun i _ e => (HFi.out i).2 (.inr e))).setCell (fun _ => (HFi.out q).2 (.inl rfl)) _⟩
    have HFold : Asd (∀ k, (k = q ∨ some k = G2) → F k ∨ w.heap.size ≤ k) := ⟨fun k hk => by
      rcases hk with rfl | e
      · exact .inl ((HFi.out k).2 (.inl rfl))
      · rcases HG2.out with e2 | ⟨g, e2, h5, _⟩
        · exact .inl ((HFi.out k).2 (.inr (e.trans e2)))
        · rw [e2] at e
          obtain rfl := Option.some.inj e
          exact .inr h5⟩
    obtain ⟨F', hF'⟩ : ∃ F' : Nat → Prop, F' = (fun k => k = q ∨ some k = G2) := ⟨_, rfl⟩
    have HF : Asd (∀ k, F' k → F k ∨ w.heap.size ≤ k) := ⟨by rw [hF']; exact HFold.out⟩
    rw [← hF'] at HFd
    clear hF' HFold hsc hbq hnG HB HFi HB2 HO2 HU2 HG2 HN hq0 hfz
    rw [← hlen] at HFd HU ⊢
    obtain ⟨rest, hrest⟩ : ∃ rest, rest = buf ++ b := ⟨_, rfl⟩
    rw [← hrest] at HFd HU hlen
    rw [show (buf ++ b).length = rest.length by rw [hrest]]
    obtain ⟨W, hW⟩ : ∃ W, W = w2.setCell ⟨q, 0, none⟩ (.slice A2 rest.length c2) := ⟨_, rfl⟩
    rw [← hW] at HFd HU ⊢
    clear hW
    have hlc : ([] : List FRec).length ≤ 0 := Nat.le_refl _
    have hm5 : 0 ≤ maxLen := Nat.zero_le _
    have hlen1 : ([] : List FRec).length + rest.length ≤ buf.length + n := by simp only [List.length_nil]; omega
    clear hlen
    have hlen := hlen1
    clear hlen1
    have HOL : Asd (OwnF W none 0 [] none) := ⟨K.Own.nil _ _ _⟩
    have HFr : Asd (Frs W (fun k => w.heap.size ≤ k ∧ k < W.heap.size ∧ ¬ F' k ∧ some k ≠ (none : Option Nat)) []) := ⟨Frs.nil _ _⟩
    have HT : Asd ((abs [] ++ (all rest).1, (all rest).2) = all (buf ++ b)) := ⟨by rw [hrest]; rfl⟩
    have HG : Asd (∀ g, (none : Option Nat) = some g → w.heap.size ≤ g ∧ ¬ F' g) := ⟨fun g e => by cases e⟩
    clear hrest
    obtain ⟨A0, c0, G, hb, ho, hne, hF⟩ := HFd.out
    have HLt := Asd.mk HFd.out.lt
    have hq0 : W.cell? ⟨q, 0, none⟩ = some (.slice A0 rest.length c0) := by simp [World.cell?, hb]
    have HQ0 := Asd.mk hq0
    obtain ⟨_, _, hv, hc0, hm0, _, _⟩ := ho.slice
    injection hv with e1 e2 e3
    subst e1; subst e3
    have HB := Asd.mk hb
    have HO := Asd.mk ho
    have HFq : Asd (F' q) := ⟨(hF q).2 (.inl rfl)⟩
    have HFG : Asd (∀ g, G = some g → F' g) := ⟨fun g e => (hF g).2 (.inr e.symm)⟩
    have HN := Asd.mk hne
    have HFi := Asd.mk hF
    clear hb ho hne hF
    go_wp2_with fail
    refine (get_calls A0 rest.length c0 rest _ HO.out.rd hc0).mono ?_
    have hcs := fget_cases rest
    have HAok := Asd.mk (fun h => all_ok rest h)
    have HA5 := Asd.mk (fun h => all_short rest h)
    have HAb := Asd.mk (fun h => all_bad rest h)
    have herr := fget_err rest
    obtain ⟨⟨kind, body, nn, er⟩, hr⟩ : ∃ r, r = fget rest := ⟨_, rfl⟩
    rw [← hr] at hcs herr HAok HA5 HAb
    rw [← hr]
    clear hr
    simp only at hcs herr HAok HA5 HAb
    rintro e w2 ⟨A2, c2, G2, rfl, ho2, hg2, hc2, hm2, hu2⟩
    simp only at ho2 hc2 hg2
    have hb2 := hu2.blk HB.out (fun h => h)
    have HB2 := Asd.mk hb2
    have HO2 := Asd.mk (HO.out.upd hu2 (fun _ _ h => h))
    have HX2 : Asd (Frs w2 (fun k => W.heap.size ≤ k ∧ k < w2.heap.size) [⟨kind, A2, c2, body⟩]) := ⟨fun x hx => by
      obtain rfl := List.mem_singleton.1 hx
      refine ⟨ho2.rd, hc2, hm2, fun ad e => ?_⟩
      obtain ⟨_, _, hv, _, _, _, hG⟩ := ho2.slice
      injection hv with e1 e2 e3
      subst e1
      have hG := hG ad e
      exact ⟨hg2 _ hG, ho2.lt _ hG⟩⟩
    have HU2 := Asd.mk hu2
    have HOL2 := Asd.mk (K.Own.upd HOL.out hu2 (fun _ _ h => h))
    have HGlt := Asd.mk (K.Own.lt HOL.out)
    clear hb2 ho2 hg2 hu2 HB HO hq0
    by_cases h0 : er = 0
    · subst h0
      have hnn : 5 ≤ nn ∧ nn ≤ rest.length := by
        rcases hcs with ⟨_, h1, h2, _⟩ | e | e | e
        · exact ⟨by omega, h2⟩
        all_goals (simp at e)
      obtain ⟨hn1, hn2⟩ := hnn
      have HA := Asd.mk (HAok.out rfl)
      clear HAok HA5 HAb hcs herr
      go_wp2_with (first | (with_reducible refine stop_append _ _ _ _ rfl ?_) | (with_reducible refine stop_copy _ _ _ _ rfl ?_) | (with_reducible refine stop_make _ _ _ rfl ?_) | (with_reducible refine stop_conv 31 9 _ rfl ?_))
      refine wp_appendL ([] : List FRec) [⟨kind, A2, c2, body⟩] none none 0 (some ⟨w2.heap.size + 1, 0, none⟩) 1 rfl _ _ rfl rfl rfl (K.Own.upd HOL2.out (((Upd.refl (fun _ => False) _).alloc _).alloc _) (fun _ _ h => h)) (Row.litg (w2.alloc _) _ (by simp) _ _) (by simp only [List.length_cons, List.length_nil]; omega) ?_
      intro A3 c3 w3 G3 hc3 hm3 hO3 hU3 hg3
      have hqG : ¬ some q = none := fun e => (HG.out q e.symm).2 HFq.out
      have hGG : ∀ g, G = some g → ¬ some g = none := fun g e e2 => (HG.out g e2.symm).2 (HFG.out g e)
      have hV := ((Upd.refl (fun _ => False) w2).alloc (.cells #[.int .u8 (kind.toNat : Int), .slice A2 body.length c2] 105)).alloc (.cells #[.int .u8 (kind.toNat : Int), .slice A2 body.length c2] 105)
      have hb3 := hU3.blk (hV.blk HB2.out (fun h => h)) hqG
      have hq3 : w3.cell? ⟨q, 0, none⟩ = some (.slice A0 rest.length c0) := by simp [World.cell?, hb3]
      have hz3 : w3.frozen? ⟨q, 0, none⟩ = false := by simp [World.frozen?, hb3]
      have HO3 := Asd.mk ((HO2.out.upd hV (fun _ _ h => h)).upd hU3 hGG)
      have HOL3 := Asd.mk hO3
      have HB3 := Asd.mk hb3
      obtain ⟨L3, hL3⟩ : ∃ L3, L3 = ([] : List FRec) ++ [⟨kind, A2, c2, body⟩] := ⟨_, rfl⟩
      rw [← hL3] at hc3 HOL3
      rw [← hL3]
      have hl3 := Asd.mk (show L3.length = ([] : List FRec).length + 1 by rw [hL3, List.length_append]; rfl)
      have hs2 := HU2.out.size
      have hs3 := hU3.size
      have hsV : w2.heap.size + 2 ≤ w3.heap.size := by simpa using hs3
      have HG3 : Asd (∀ g, G3 = some g → (none = some g ∨ (w2.heap.size ≤ g ∧ g < w3.heap.size))) := ⟨fun g e => by
        rcases hg3 with e2 | ⟨g', e2, h5, h6⟩
        · exact .inl (e2 ▸ e)
        · rw [e2] at e; obtain rfl := Option.some.inj e; exact .inr ⟨by simp at h5; omega, h6⟩⟩
      have HU3 : Asd (Upd (fun k => some k = none) W w3) := ⟨((HU2.out.trans hV (fun _ _ h => h)).mono (fun _ _ h => h.elim)).trans hU3 (fun _ _ h => h)⟩
      have HFr3 : Asd (Frs w3 (fun k => w.heap.size ≤ k ∧ k < w3.heap.size ∧ ¬ F' k ∧ some k ≠ G3) L3) := ⟨by
        rw [hL3]
        refine Frs.append (Frs.mono (T := fun k => w.heap.size ≤ k ∧ k < W.heap.size ∧ ¬ F' k ∧ some k ≠ none) (HFr.out.upd HU3.out (fun i h1 h2 => h1.2.2.2 h2)) ?_) (Frs.mono (T := fun k => W.heap.size ≤ k ∧ k < w2.heap.size) ((HX2.out.up hV).upd hU3 (fun i h1 h2 => by have := HGlt.out i h2.symm; omega)) ?_)
        · rintro k ⟨h1, h2, h3, h4⟩
          exact ⟨h1, by omega, h3, fun e => (HG3.out k e.symm).elim (fun e => h4 e.symm) (fun e => by omega)⟩
        · rintro k ⟨h1, h2⟩
          have := HU.out.size
          exact ⟨by omega, by omega, fun h => by have := HLt.out k h; omega, fun e => (HG3.out k e.symm).elim (fun e => by have := HGlt.out k e; omega) (fun e => by omega)⟩⟩
      have HT3 : Asd ((abs L3 ++ (all (rest.drop nn)).1, (all (rest.drop nn)).2) = all (buf ++ b)) := ⟨by rw [← HT.out, HA.out, hL3, abs_append, List.append_assoc]; rfl⟩
      clear hO3 hU3 hg3 hb3 hqG hGG hV hL3 HO2 HB2 HOL2 HX2 HU2 hs3 HT HA HFr
      obtain ⟨A6, hcut, hown, _, _⟩ := cut_from' (P := Tryz.prog) 31 5 .i64 (sz := 1) Tryz.underlying31 (by kernel_rfl) A0 rest.length c0 nn nn rfl hn2 hc0
      have ho6 := hown _ _ _ HO3.out
      rw [Nat.mul_one, ← B_drop] at ho6
      have HO6 := Asd.mk ho6
      clear ho6 hown HO3
      go_wp2
      go_step3
      have hsc := (Upd.refl (fun k => k = q) w3).setCell (p := ⟨q, 0, none⟩) (fun _ => rfl) (.slice A6 (rest.length - nn) (c0 - nn))
      have hbq := blk_setCell (o := 0) HB3.out (.slice A6 (rest.length - nn) (c0 - nn))
      have hq3G : ∀ g, G3 = some g → ¬ g = q := fun g e e2 => by
        subst e2
        rcases HG3.out g e with e | e
        · exact (HG.out g e).2 HFq.out
        · have := HLt.out g HFq.out; omega
      refine ⟨rfl, ⟨A3, c3, L3, G3, rest.drop nn, F', ⟨_, _, _, _, _, _, _, _, _, _, _, _, _, _, _, _, _, _, _, _, _, _, _, _, _, _, _, _, _, _, _, _, _, _, _, _, _, _, _, _, _, _, _, _, _, _, _, _, _, _, _, _, _, rfl⟩, hc3, hm3, by have := hl3.out; rw [List.length_drop]; omega, ?_, ?_, ?_, HT3.out, ?_, HF.out, ?_⟩⟩
      · exact K.Own.upd HOL3.out hsc hq3G
      · refine Frs.mono (HFr3.out.upd hsc (fun i h1 h2 => h1.2.2.1 (by rw [h2]; exact HFq.out))) ?_
        rintro k ⟨h1, h2, h3, h4⟩
        exact ⟨h1, Nat.lt_of_lt_of_le h2 hsc.size, h3, h4⟩
      · exact ⟨A6, c0 - nn, G, by rw [List.length_drop]; exact hbq, by rw [List.length_drop]; exact HO6.out.upd hsc (fun g e e2 => HN.out (by rw [e, e2])), HN.out, HFi.out⟩
      · refine (HU.out.trans HU3.out (fun i hi h => absurd ((HG.out i h.symm).1) (by omega))).setCell (fun h => (HF.out q HFq.out).resolve_right (by simp at h; omega)) _
      · intro g e
        have := HU.out.size
        rcases HG3.out g e with e | e
        · exact HG.out g e
        · exact ⟨by omega, fun h => by have := HLt.out g h; omega⟩
      skip
    · have h0b : (er == 0) = false := beq_eq_false_iff_ne.2 h0
      by_cases h5 : er = 5
      · subst h5
        have HA := Asd.mk (HA5.out rfl)
        clear HAok HA5 HAb hcs herr
        go_wp2
        simp only [Exit.jump]
        go_ret
        have hV := (Upd.refl (fun _ => False) w2).alloc (.cells #[.int .u8 (kind.toNat : Int), .slice A2 body.length c2] 105)
        have hU := HU2.out.trans hV (fun _ _ h => h)
        have hs := hU.size
        have hT := HT.out
        rw [HA.out] at hT
        rw [← hT]
        refine ⟨none, 0, ([] : List FRec), none, F', rfl, (List.append_nil _).symm, hlc, hm5, K.Own.upd HOL2.out hV (fun _ _ h => h), Frs.mono (HFr.out.up hU) ?_, HFd.out.up hU, HU.out.trans (hU.mono (T := F) (fun _ _ h => h.elim)) (fun _ _ h => h), HF.out, HG.out⟩
        rintro k ⟨h1, h2, h3, h4⟩
        exact ⟨h1, by omega, h3⟩
      · have h5b : (er == 5) = false := beq_eq_false_iff_ne.2 h5
        have HA := Asd.mk (HAb.out h0 h5)
        clear HAok HA5 HAb hcs herr
        have hV := (Upd.refl (fun _ => False) w2).alloc (.cells #[.int .u8 (kind.toNat : Int), .slice A2 body.length c2] 105)
        have hb3 := hV.blk HB2.out (fun h => h)
        have hq3 : (w2.alloc (.cells #[.int .u8 (kind.toNat : Int), .slice A2 body.length c2] 105)).cell? ⟨q, 1, none⟩ = some (.int .i64 0) := by simp [World.cell?, hb3]
        have hz3 : (w2.alloc (.cells #[.int .u8 (kind.toNat : Int), .slice A2 body.length c2] 105)).frozen? ⟨q, 1, none⟩ = false := by simp [World.frozen?, hb3]
        have hb4 := blk_setCell (o := 1) hb3 (.int .i64 er)
        have hq4 : ((w2.alloc (.cells #[.int .u8 (kind.toNat : Int), .slice A2 body.length c2] 105)).setCell ⟨q, 1, none⟩ (.int .i64 er)).cell? ⟨q, 0, none⟩ = some (.slice A0 rest.length c0) := by simp [World.cell?, hb4]
        have hz4 : ((w2.alloc (.cells #[.int .u8 (kind.toNat : Int), .slice A2 body.length c2] 105)).setCell ⟨q, 1, none⟩ (.int .i64 er)).frozen? ⟨q, 0, none⟩ = false := by simp [World.frozen?, hb4]
        have HB4 := Asd.mk hb4
        clear hb3 hb4
        go_wp2
        simp only [Exit.jump]
        go_ret
        have hb5 := blk_setCell (o := 0) HB4.out (.slice none 0 0)
        have hU : Upd (fun k => k = q) W (((w2.alloc (.cells #[.int .u8 (kind.toNat : Int), .slice A2 body.length c2] 105)).setCell ⟨q, 1, none⟩ (.int .i64 er)).setCell ⟨q, 0, none⟩ (.slice none 0 0)) := (((HU2.out.trans hV (fun _ _ h => h)).mono (T := fun k => k = q) (fun _ _ h => h.elim)).setCell (p := ⟨q, 1, none⟩) (fun _ => rfl) _).setCell (p := ⟨q, 0, none⟩) (fun _ => rfl) _
        have hs := hU.size
        have hT := HT.out
        rw [HA.out] at hT
        rw [← hT]
        refine ⟨none, 0, ([] : List FRec), none, fun k => k = q, rfl, (List.append_nil _).symm, hlc, hm5, K.Own.upd HOL.out hU (fun g e e2 => (HG.out g e).2 (by rw [e2]; exact HFq.out)), Frs.mono (HFr.out.upd hU (fun i h1 h2 => h1.2.2.1 (by rw [h2]; exact HFq.out))) ?_, ⟨none, 0, none, hb5, K.Own.nil _ _ _, by simp, by simp⟩, HU.out.trans hU (fun i hi h => (HF.out i (by rw [h]; exact HFq.out)).resolve_right (by omega)), ?_, ?_⟩
        · rintro k ⟨h1, h2, h3, h4⟩
          exact ⟨h1, by omega, fun e => h3 (by rw [e]; exact HFq.out)⟩
        · rintro k rfl
          exact HF.out k HFq.out
        · intro g e
          exact ⟨(HG.out g e).1, fun h => (HG.out g e).2 (by rw [h]; exact HFq.out)⟩
  · rintro a' W ⟨A5, c5, L, G5, rest, F', ⟨u2, u3, u6, u7, u8, u9, u10, u11, u12, u13, u14, u15, u16, u17, u18, u19, u20, u21, u22, u23, u24, u25, u26, u27, u28, u29, u30, u31, u32, u33, u34, u35, u36, u37, u38, u39, u40, u41, u42, u43, u44, u45, u46, u47, u48, u49, u50, u51, u52, u53, u54, u55, u56, rfl⟩, hlc, hm5, hlen, hol, hfr, hfd, htg, hu, hf, hg⟩
    have HOL := Asd.mk hol
    have HFr := Asd.mk hfr
    have HFd := Asd.mk hfd
    have HT := Asd.mk htg
    have HU := Asd.mk hu
    have HF := Asd.mk hf
    have HG := Asd.mk hg
    clear hol hfr hfd htg hu hf hg
    obtain ⟨A0, c0, G, hb, ho, hne, hF⟩ := HFd.out
    have HLt := Asd.mk HFd.out.lt
    have hq0 : W.cell? ⟨q, 0, none⟩ = some (.slice A0 rest.length c0) := by simp [World.cell?, hb]
    have HQ0 := Asd.mk hq0
    obtain ⟨_, _, hv, hc0, hm0, _, _⟩ := ho.slice
    injection hv with e1 e2 e3
    subst e1; subst e3
    have HB := Asd.mk hb
    have HO := Asd.mk ho
    have HFq : Asd (F' q) := ⟨(hF q).2 (.inl rfl)⟩
    have HFG : Asd (∀ g, G = some g → F' g) := ⟨fun g e => (hF g).2 (.inr e.symm)⟩
    have HN := Asd.mk hne
    have HFi := Asd.mk hF
    clear hb ho hne hF
    go_wp2_with fail
    refine (get_calls A0 rest.length c0 rest _ HO.out.rd hc0).mono ?_
    have hcs := fget_cases rest
    have HAok := Asd.mk (fun h => all_ok rest h)
    have HA5 := Asd.mk (fun h => all_short rest h)
    have HAb := Asd.mk (fun h => all_bad rest h)
    have herr := fget_err rest
    obtain ⟨⟨kind, body, nn, er⟩, hr⟩ : ∃ r, r = fget rest := ⟨_, rfl⟩
    rw [← hr] at hcs herr HAok HA5 HAb
    rw [← hr]
    clear hr
    simp only at hcs herr HAok HA5 HAb
    rintro e w2 ⟨A2, c2, G2, rfl, ho2, hg2, hc2, hm2, hu2⟩
    simp only at ho2 hc2 hg2
    have hb2 := hu2.blk HB.out (fun h => h)
    have HB2 := Asd.mk hb2
    have HO2 := Asd.mk (HO.out.upd hu2 (fun _ _ h => h))
    have HX2 : Asd (Frs w2 (fun k => W.heap.size ≤ k ∧ k < w2.heap.size) [⟨kind, A2, c2, body⟩]) := ⟨fun x hx => by
      obtain rfl := List.mem_singleton.1 hx
      refine ⟨ho2.rd, hc2, hm2, fun ad e => ?_⟩
      obtain ⟨_, _, hv, _, _, _, hG⟩ := ho2.slice
      injection hv with e1 e2 e3
      subst e1
      have hG := hG ad e
      exact ⟨hg2 _ hG, ho2.lt _ hG⟩⟩
    have HU2 := Asd.mk hu2
    have HOL2 := Asd.mk (K.Own.upd HOL.out hu2 (fun _ _ h => h))
    have HGlt := Asd.mk (K.Own.lt HOL.out)
    clear hb2 ho2 hg2 hu2 HB HO hq0
    by_cases h0 : er = 0
    · subst h0
      have hnn : 5 ≤ nn ∧ nn ≤ rest.length := by
        rcases hcs with ⟨_, h1, h2, _⟩ | e | e | e
        · exact ⟨by omega, h2⟩
        all_goals (simp at e)
      obtain ⟨hn1, hn2⟩ := hnn
      have HA := Asd.mk (HAok.out rfl)
      clear HAok HA5 HAb hcs herr
      go_wp2_with (first | (with_reducible refine stop_append _ _ _ _ rfl ?_) | (with_reducible refine stop_copy _ _ _ _ rfl ?_) | (with_reducible refine stop_make _ _ _ rfl ?_) | (with_reducible refine stop_conv 31 9 _ rfl ?_))
      refine wp_appendL L [⟨kind, A2, c2, body⟩] G5 A5 c5 (some ⟨w2.heap.size + 1, 0, none⟩) 1 rfl _ _ rfl rfl rfl (K.Own.upd HOL2.out (((Upd.refl (fun _ => False) _).alloc _).alloc _) (fun _ _ h => h)) (Row.litg (w2.alloc _) _ (by simp) _ _) (by simp only [List.length_cons, List.length_nil]; omega) ?_
      intro A3 c3 w3 G3 hc3 hm3 hO3 hU3 hg3
      have hqG : ¬ some q = G5 := fun e => (HG.out q e.symm).2 HFq.out
      have hGG : ∀ g, G = some g → ¬ some g = G5 := fun g e e2 => (HG.out g e2.symm).2 (HFG.out g e)
      have hV := ((Upd.refl (fun _ => False) w2).alloc (.cells #[.int .u8 (kind.toNat : Int), .slice A2 body.length c2] 105)).alloc (.cells #[.int .u8 (kind.toNat : Int), .slice A2 body.length c2] 105)
      have hb3 := hU3.blk (hV.blk HB2.out (fun h => h)) hqG
      have hq3 : w3.cell? ⟨q, 0, none⟩ = some (.slice A0 rest.length c0) := by simp [World.cell?, hb3]
      have hz3 : w3.frozen? ⟨q, 0, none⟩ = false := by simp [World.frozen?, hb3]
      have HO3 := Asd.mk ((HO2.out.upd hV (fun _ _ h => h)).upd hU3 hGG)
      have HOL3 := Asd.mk hO3
      have HB3 := Asd.mk hb3
      obtain ⟨L3, hL3⟩ : ∃ L3, L3 = L ++ [⟨kind, A2, c2, body⟩] := ⟨_, rfl⟩
      rw [← hL3] at hc3 HOL3
      rw [← hL3]
      have hl3 := Asd.mk (show L3.length = L.length + 1 by rw [hL3, List.length_append]; rfl)
      have hs2 := HU2.out.size
      have hs3 := hU3.size
      have hsV : w2.heap.size + 2 ≤ w3.heap.size := by simpa using hs3
      have HG3 : Asd (∀ g, G3 = some g → (G5 = some g ∨ (w2.heap.size ≤ g ∧ g < w3.heap.size))) := ⟨fun g e => by
        rcases hg3 with e2 | ⟨g', e2, h5, h6⟩
        · exact .inl (e2 ▸ e)
        · rw [e2] at e; obtain rfl := Option.some.inj e; exact .inr ⟨by simp at h5; omega, h6⟩⟩
      have HU3 : Asd (Upd (fun k => some k = G5) W w3) := ⟨((HU2.out.trans hV (fun _ _ h => h)).mono (fun _ _ h => h.elim)).trans hU3 (fun _ _ h => h)⟩
      have HFr3 : Asd (Frs w3 (fun k => w.heap.size ≤ k ∧ k < w3.heap.size ∧ ¬ F' k ∧ some k ≠ G3) L3) := ⟨by
        rw [hL3]
        refine Frs.append (Frs.mono (T := fun k => w.heap.size ≤ k ∧ k < W.heap.size ∧ ¬ F' k ∧ some k ≠ G5) (HFr.out.upd HU3.out (fun i h1 h2 => h1.2.2.2 h2)) ?_) (Frs.mono (T := fun k => W.heap.size ≤ k ∧ k < w2.heap.size) ((HX2.out.up hV).upd hU3 (fun i h1 h2 => by have := HGlt.out i h2.symm; omega)) ?_)
        · rintro k ⟨h1, h2, h3, h4⟩
          exact ⟨h1, by omega, h3, fun e => (HG3.out k e.symm).elim (fun e => h4 e.symm) (fun e => by omega)⟩
        · rintro k ⟨h1, h2⟩
          have := HU.out.size
          exact ⟨by omega, by omega, fun h => by have := HLt.out k h; omega, fun e => (HG3.out k e.symm).elim (fun e => by have := HGlt.out k e; omega) (fun e => by omega)⟩⟩
      have HT3 : Asd ((abs L3 ++ (all (rest.drop nn)).1, (all (rest.drop nn)).2) = all (buf ++ b)) := ⟨by rw [← HT.out, HA.out, hL3, abs_append, List.append_assoc]; rfl⟩
      clear hO3 hU3 hg3 hb3 hqG hGG hV hL3 HO2 HB2 HOL2 HX2 HU2 hs3 HT HA HFr
      obtain ⟨A6, hcut, hown, _, _⟩ := cut_from' (P := Tryz.prog) 31 5 .i64 (sz := 1) Tryz.underlying31 (by kernel_rfl) A0 rest.length c0 nn nn rfl hn2 hc0
      have ho6 := hown _ _ _ HO3.out
      rw [Nat.mul_one, ← B_drop] at ho6
      have HO6 := Asd.mk ho6
      clear ho6 hown HO3
      go_wp2
      go_step3
      have hsc := (Upd.refl (fun k => k = q) w3).setCell (p := ⟨q, 0, none⟩) (fun _ => rfl) (.slice A6 (rest.length - nn) (c0 - nn))
      have hbq := blk_setCell (o := 0) HB3.out (.slice A6 (rest.length - nn) (c0 - nn))
      have hq3G : ∀ g, G3 = some g → ¬ g = q := fun g e e2 => by
        subst e2
        rcases HG3.out g e with e | e
        · exact (HG.out g e).2 HFq.out
        · have := HLt.out g HFq.out; omega
      refine ⟨rfl, ⟨A3, c3, L3, G3, rest.drop nn, F', ⟨_, _, _, _, _, _, _, _, _, _, _, _, _, _, _, _, _, _, _, _, _, _, _, _, _, _, _, _, _, _, _, _, _, _, _, _, _, _, _, _, _, _, _, _, _, _, _, _, _, _, _, _, _, rfl⟩, hc3, hm3, by have := hl3.out; rw [List.length_drop]; omega, ?_, ?_, ?_, HT3.out, ?_, HF.out, ?_⟩, ?_⟩
      · exact K.Own.upd HOL3.out hsc hq3G
      · refine Frs.mono (HFr3.out.upd hsc (fun i h1 h2 => h1.2.2.1 (by rw [h2]; exact HFq.out))) ?_
        rintro k ⟨h1, h2, h3, h4⟩
        exact ⟨h1, Nat.lt_of_lt_of_le h2 hsc.size, h3, h4⟩
      · exact ⟨A6, c0 - nn, G, by rw [List.length_drop]; exact hbq, by rw [List.length_drop]; exact HO6.out.upd hsc (fun g e e2 => HN.out (by rw [e, e2])), HN.out, HFi.out⟩
      · refine (HU.out.trans HU3.out (fun i hi h => absurd ((HG.out i h.symm).1) (by omega))).setCell (fun h => (HF.out q HFq.out).resolve_right (by simp at h; omega)) _
      · intro g e
        have := HU.out.size
        rcases HG3.out g e with e | e
        · exact HG.out g e
        · exact ⟨by omega, fun h => by have := HLt.out g h; omega⟩
      · show left q _ < left q W
        have e1 : left q W = rest.length := by unfold left; rw [HQ0.out]
        have e2 : (w3.setCell ⟨q, 0, none⟩ (.slice A6 (rest.length - nn) (c0 - nn))).cell? ⟨q, 0, none⟩ = some (.slice A6 (rest.length - nn) (c0 - nn)) := by simp [World.cell?, hbq]
        unfold left
        rw [e2, HQ0.out]
        show rest.length - nn < rest.length
        omega
    · have h0b : (er == 0) = false := beq_eq_false_iff_ne.2 h0
      by_cases h5 : er = 5
      · subst h5
        have HA := Asd.mk (HA5.out rfl)
        clear HAok HA5 HAb hcs herr
        go_wp2
        simp only [Exit.jump]
        go_ret
        have hV := (Upd.refl (fun _ => False) w2).alloc (.cells #[.int .u8 (kind.toNat : Int), .slice A2 body.length c2] 105)
        have hU := HU2.out.trans hV (fun _ _ h => h)
        have hs := hU.size
        have hT := HT.out
        rw [HA.out] at hT
        rw [← hT]
        refine ⟨A5, c5, L, G5, F', rfl, (List.append_nil _).symm, hlc, hm5, K.Own.upd HOL2.out hV (fun _ _ h => h), Frs.mono (HFr.out.up hU) ?_, HFd.out.up hU, HU.out.trans (hU.mono (T := F) (fun _ _ h => h.elim)) (fun _ _ h => h), HF.out, HG.out⟩
        rintro k ⟨h1, h2, h3, h4⟩
        exact ⟨h1, by omega, h3⟩
      · have h5b : (er == 5) = false := beq_eq_false_iff_ne.2 h5
        have HA := Asd.mk (HAb.out h0 h5)
        clear HAok HA5 HAb hcs herr
        have hV := (Upd.refl (fun _ => False) w2).alloc (.cells #[.int .u8 (kind.toNat : Int), .slice A2 body.length c2] 105)
        have hb3 := hV.blk HB2.out (fun h => h)
        have hq3 : (w2.alloc (.cells #[.int .u8 (kind.toNat : Int), .slice A2 body.length c2] 105)).cell? ⟨q, 1, none⟩ = some (.int .i64 0) := by simp [World.cell?, hb3]
        have hz3 : (w2.alloc (.cells #[.int .u8 (kind.toNat : Int), .slice A2 body.length c2] 105)).frozen? ⟨q, 1, none⟩ = false := by simp [World.frozen?, hb3]
        have hb4 := blk_setCell (o := 1) hb3 (.int .i64 er)
        have hq4 : ((w2.alloc (.cells #[.int .u8 (kind.toNat : Int), .slice A2 body.length c2] 105)).setCell ⟨q, 1, none⟩ (.int .i64 er)).cell? ⟨q, 0, none⟩ = some (.slice A0 rest.length c0) := by simp [World.cell?, hb4]
        have hz4 : ((w2.alloc (.cells #[.int .u8 (kind.toNat : Int), .slice A2 body.length c2] 105)).setCell ⟨q, 1, none⟩ (.int .i64 er)).frozen? ⟨q, 0, none⟩ = false := by simp [World.frozen?, hb4]
        have HB4 := Asd.mk hb4
        clear hb3 hb4
        go_wp2
        simp only [Exit.jump]
        go_ret
        have hb5 := blk_setCell (o := 0) HB4.out (.slice none 0 0)
        have hU : Upd (fun k => k = q) W (((w2.alloc (.cells #[.int .u8 (kind.toNat : Int), .slice A2 body.length c2] 105)).setCell ⟨q, 1, none⟩ (.int .i64 er)).setCell ⟨q, 0, none⟩ (.slice none 0 0)) := (((HU2.out.trans hV (fun _ _ h => h)).mono (T := fun k => k = q) (fun _ _ h => h.elim)).setCell (p := ⟨q, 1, none⟩) (fun _ => rfl) _).setCell (p := ⟨q, 0, none⟩) (fun _ => rfl) _
        have hs := hU.size
        have hT := HT.out
        rw [HA.out] at hT
        rw [← hT]
        refine ⟨A5, c5, L, G5, fun k => k = q, rfl, (List.append_nil _).symm, hlc, hm5, K.Own.upd HOL.out hU (fun g e e2 => (HG.out g e).2 (by rw [e2]; exact HFq.out)), Frs.mono (HFr.out.upd hU (fun i h1 h2 => h1.2.2.1 (by rw [h2]; exact HFq.out))) ?_, ⟨none, 0, none, hb5, K.Own.nil _ _ _, by simp, by simp⟩, HU.out.trans hU (fun i hi h => (HF.out i (by rw [h]; exact HFq.out)).resolve_right (by omega)), ?_, ?_⟩
        · rintro k ⟨h1, h2, h3, h4⟩
          exact ⟨h1, by omega, fun e => h3 (by rw [e]; exact HFq.out)⟩
        · rintro k rfl
          exact HF.out k HFq.out
        · intro g e
          exact ⟨(HG.out g e).1, fun h => (HG.out g e).2 (by rw [h]; exact HFq.out)⟩
end
end Go.Proofs.YteepkanbiefpjaaGreatDoor.Fee
set_option linter.unusedVariables false
set_option linter.unusedSimpArgs false
namespace Go.Proofs.YteepkanbiefpjaaGreatDoor.Bk
open Go.RowKit K
structure CP where
  p : Nat
  pf : Nat
  pl : Nat
  po : Nat
structure Lay where
  q : Nat
  lg : Nat
  sp : Nat
  tb : Nat
  ip : Nat
  m : Nat
  cn : Int → CP
inductive Part where
  | own | ring | spot | table | input | map
  | conn (id : Int) | feed (id : Int) | lex (id : Int) | out (id : Int)
abbrev ptr (p : Nat) : Value := .pointer (some ⟨p, 0, none⟩)
def bcells (L : Lay) (s : Br) : Array Value := #[.int .i64 s.cf.log, .int .i64 s.cf.data, .int .i64 s.cf.queue, .int .i64 s.cf.input, .int .i64 s.cf.strikes, .int .i64 s.cf.lease, .int .i64 s.cf.idle, .int .i64 s.cf.width, ptr L.lg, ptr L.sp, ptr L.tb, ptr L.ip, .map (some L.m), .int .i64 s.strikes, .bool s.ended, .int .i64 s.code, .int .i64 s.holder]
def ccells (c : CP) (id : Int) (x : Cn) (v : Value) : Array Value := #[.int .i64 id, .int .i64 x.st, .string (S x.name), .int .i64 x.idle, ptr c.pf, ptr c.pl, ptr c.po, v]
def ents (L : Lay) (s : Br) : List Ent := s.cs.map fun p => (p.1, ptr (L.cn p.1).p)
def LexAt (w : World) (p : Nat) (x : Lx) (F : Nat → Prop) : Prop := ∃ A c G, w.heap[p]? = some (.cells #[.int .i64 x.st, .slice A x.tx.length c, .bool x.lg] 145 (0, 0)) ∧ K.Own w 5 1 (.slice A x.tx.length c) x.tx.length (B x.tx) G ∧ some p ≠ G ∧ ∀ k, F k ↔ k = p ∨ some k = G
def ConnAt (w : World) (c : CP) (id : Int) (x : Cn) (F : Nat → Prop) : Prop := match x.vw with
  | none => w.heap[c.p]? = some (.cells (ccells c id x (.pointer none)) 101 (0, 0)) ∧ ∀ k, F k ↔ k = c.p
  | some (at_, st) => ∃ v, w.heap[c.p]? = some (.cells (ccells c id x (ptr v)) 101 (0, 0)) ∧ Vw.V w v at_ st ∧ v ≠ c.p ∧ ∀ k, F k ↔ k = c.p ∨ k = v
def none_ (F : Nat → Prop) : Prop := ∀ k, ¬ F k
def PartAt (L : Lay) (s : Br) (i : Part) (w : World) (F : Nat → Prop) : Prop := match i with
  | .own => w.heap[L.q]? = some (.cells (bcells L s) 91 (0, 0)) ∧ ∀ k, F k ↔ k = L.q
  | .ring => ∃ g, Rg.Ring w L.lg g (Rg.roomN s.cf.log) s.log ∧ ∀ k, F k ↔ Rg.Its L.lg g k
  | .spot => w.heap[L.sp]? = some (.cells (Sp.cells s.cf.width.toNat s.sp) 138 (0, 0)) ∧ ∀ k, F k ↔ k = L.sp
  | .table => Fl.TB w L.tb F s.tab
  | .input => Iq.QI w L.ip F s.inp
  | .map => mapV w Tryz.prog 3 L.m (ents L s) ∧ ∀ k, F k ↔ k = L.m
  | .conn id => (match get s id with | none => none_ F | some x => ConnAt w (L.cn id) id x F)
  | .feed id => (match get s id with | none => none_ F | some x => Fee.Feed w (L.cn id).pf x.fb x.fe F)
  | .lex id => (match get s id with | none => none_ F | some x => LexAt w (L.cn id).pl x.lx F)
  | .out id => (match get s id with | none => none_ F | some x => Oq.Que w (L.cn id).po x.out s.cf.queue F)
section
variable {w w1 : World} {L : Lay} {s : Br} {i : Part} {F S : Nat → Prop}
theorem LexAt.upd {p : Nat} {x : Lx} (h : LexAt w p x F) (k : Upd S w w1) (hn : ∀ i, F i → ¬ S i) : LexAt w1 p x F := by
  obtain ⟨A, c, G, hb, ho, hne, hF⟩ := h
  exact ⟨A, c, G, k.blk hb (hn p ((hF p).2 (.inl rfl))), ho.upd k (fun g e => hn g ((hF g).2 (.inr e.symm))), hne, hF⟩
theorem LexAt.lt {p : Nat} {x : Lx} (h : LexAt w p x F) : ∀ k, F k → k < w.heap.size := by
  obtain ⟨A, c, G, hb, ho, hne, hF⟩ := h
  intro k hk
  rcases (hF k).1 hk with rfl | e
  · exact blk_lt hb
  · exact ho.lt k e.symm
theorem PartAt.upd (h : PartAt L s i w F) (k : Upd S w w1) (hn : ∀ i, F i → ¬ S i) : PartAt L s i w1 F := by
  cases i with
  | own => exact ⟨k.blk h.1 (hn _ ((h.2 _).2 rfl)), h.2⟩
  | ring =>
    obtain ⟨g, hr, hF⟩ := h
    exact ⟨g, hr.upd k (fun i hi => hn i ((hF i).2 hi)), hF⟩
  | spot =>
    exact ⟨k.blk h.1 (hn _ ((h.2 _).2 rfl)), h.2⟩
  | table => exact Fl.TB.upd h k hn
  | input => exact Iq.QI.upd h k hn
  | map => exact ⟨h.1.upd k (hn _ ((h.2 _).2 rfl)), h.2⟩
  | conn id =>
    simp only [PartAt] at h ⊢
    cases hg : get s id with
    | none => rw [hg] at h; exact h
    | some x =>
      rw [hg] at h
      simp only [ConnAt] at h ⊢
      cases hv : x.vw with
      | none => rw [hv] at h; exact ⟨k.blk h.1 (hn _ ((h.2 _).2 rfl)), h.2⟩
      | some p =>
        rw [hv] at h
        obtain ⟨v, h1, h2, h3, h4⟩ := h
        exact ⟨v, k.blk h1 (hn _ ((h4 _).2 (.inl rfl))), k.blk h2 (hn _ ((h4 _).2 (.inr rfl))), h3, h4⟩
  | feed id =>
    simp only [PartAt] at h ⊢
    cases hg : get s id with
    | none => rw [hg] at h; exact h
    | some x => rw [hg] at h; exact Fee.Feed.upd h k hn
  | lex id =>
    simp only [PartAt] at h ⊢
    cases hg : get s id with
    | none => rw [hg] at h; exact h
    | some x => rw [hg] at h; exact LexAt.upd h k hn
  | out id =>
    simp only [PartAt] at h ⊢
    cases hg : get s id with
    | none => rw [hg] at h; exact h
    | some x => rw [hg] at h; exact Oq.Que.upd h k hn
theorem PartAt.lt (h : PartAt L s i w F) : ∀ k, F k → k < w.heap.size := by
  intro k hk
  cases i with
  | own => have := (h.2 k).1 hk; subst this; exact blk_lt h.1
  | ring =>
    obtain ⟨g, hr, hF⟩ := h
    exact Rg.Bare.lt hr k ((hF k).1 hk)
  | spot =>
    have := (h.2 k).1 hk; subst this; exact blk_lt h.1
  | table => exact Fl.TB.lt h k hk
  | input => exact Iq.QI.lt h k hk
  | map => have := (h.2 k).1 hk; subst this; exact h.1.lt
  | conn id =>
    simp only [PartAt] at h
    cases hg : get s id with
    | none => rw [hg] at h; exact absurd hk (h k)
    | some x =>
      rw [hg] at h
      simp only [ConnAt] at h
      cases hv : x.vw with
      | none => rw [hv] at h; have := (h.2 k).1 hk; subst this; exact blk_lt h.1
      | some p =>
        rw [hv] at h
        obtain ⟨v, h1, h2, h3, h4⟩ := h
        rcases (h4 k).1 hk with rfl | rfl
        · exact blk_lt h1
        · exact blk_lt h2
  | feed id =>
    simp only [PartAt] at h
    cases hg : get s id with
    | none => rw [hg] at h; exact absurd hk (h k)
    | some x => rw [hg] at h; exact Fee.Feed.lt h k hk
  | lex id =>
    simp only [PartAt] at h
    cases hg : get s id with
    | none => rw [hg] at h; exact absurd hk (h k)
    | some x => rw [hg] at h; exact LexAt.lt h k hk
  | out id =>
    simp only [PartAt] at h
    cases hg : get s id with
    | none => rw [hg] at h; exact absurd hk (h k)
    | some x => rw [hg] at h; exact Oq.Que.lt h k hk
end
structure BkAt (L : Lay) (w : World) (s : Br) (F : Nat → Prop) : Prop where
  mk ::
  has : ∃ Fm : Part → Nat → Prop, (∀ i, PartAt L s i w (Fm i)) ∧ (∀ i j k, i ≠ j → Fm i k → ¬ Fm j k) ∧ ∀ k, F k ↔ ∃ i, Fm i k
section
variable {w w1 : World} {L : Lay} {s : Br} {F S : Nat → Prop}
theorem BkAt.upd (h : BkAt L w s F) (k : Upd S w w1) (hn : ∀ i, F i → ¬ S i) : BkAt L w1 s F := by
  obtain ⟨Fm, h1, h2, h3⟩ := h.has
  exact ⟨Fm, fun i => (h1 i).upd k (fun j hj => hn j ((h3 j).2 ⟨i, hj⟩)), h2, h3⟩
theorem BkAt.up (h : BkAt L w s F) (k : Upd (fun _ => False) w w1) : BkAt L w1 s F := h.upd k (fun _ _ h => h)
theorem BkAt.lt (h : BkAt L w s F) : ∀ k, F k → k < w.heap.size := by
  obtain ⟨Fm, h1, h2, h3⟩ := h.has
  intro k hk
  obtain ⟨i, hi⟩ := (h3 k).1 hk
  exact (h1 i).lt k hi
theorem BkAt.turns (h : BkAt L w s F) (I : Part → Prop) : ∃ Fm : Part → Nat → Prop, (∀ i, PartAt L s i w (Fm i)) ∧ (∀ i j k, i ≠ j → Fm i k → ¬ Fm j k) ∧ (∀ i k, Fm i k → F k) ∧
    ∀ (w' : World) (L' : Lay) (s' : Br) (Fn : Part → Nat → Prop), (∀ i, I i → PartAt L' s' i w' (Fn i)) → (∀ i j k, I i → I j → i ≠ j → Fn i k → ¬ Fn j k) →
      (∀ i, I i → ∀ k, Fn i k → (∃ j, I j ∧ Fm j k) ∨ w.heap.size ≤ k) → (∀ j, ¬ I j → ∀ W Fj, PartAt L s j W Fj → PartAt L' s' j W Fj) → Upd (fun k => ∃ i, I i ∧ Fm i k) w w' →
      ∃ F', BkAt L' w' s' F' ∧ Tn w F w' F' := by
  classical
  obtain ⟨Fm, h1, h2, h3⟩ := h.has
  refine ⟨Fm, h1, h2, fun i k hk => (h3 k).2 ⟨i, hk⟩, fun w' L' s' Fn a1 a2 a3 a4 a5 => ?_⟩
  refine ⟨fun k => ∃ i, (if I i then Fn i k else Fm i k), ⟨fun i k => if I i then Fn i k else Fm i k, fun i => ?_, fun i j k hij hi hj => ?_, fun k => Iff.rfl⟩, ⟨?_, fun k hk => ?_⟩⟩
  · by_cases hi : I i
    · simp only [hi, if_true]; exact a1 i hi
    · simp only [hi, if_false]
      exact a4 i hi w' (Fm i) ((h1 i).upd a5 (fun k hk ⟨j, hj, hk2⟩ => h2 i j k (fun e => hi (e ▸ hj)) hk hk2))
  · by_cases hi' : I i <;> by_cases hj' : I j <;> simp only [hi', hj', if_true, if_false] at hi hj
    · exact a2 i j k hi' hj' hij hi hj
    · rcases a3 i hi' k hi with ⟨j2, b1, b2⟩ | b
      · exact h2 j2 j k (fun e => hj' (e ▸ b1)) b2 hj
      · have := (h1 j).lt k hj; omega
    · rcases a3 j hj' k hj with ⟨j2, b1, b2⟩ | b
      · exact h2 j2 i k (fun e => hi' (e ▸ b1)) b2 hi
      · have := (h1 i).lt k hi; omega
    · exact h2 i j k hij hi hj
  · exact a5.mono (fun k _ ⟨i, _, hk⟩ => (h3 k).2 ⟨i, hk⟩)
  · obtain ⟨i, hi⟩ := hk
    by_cases hi' : I i <;> simp only [hi', if_true, if_false] at hi
    · rcases a3 i hi' k hi with ⟨j2, b1, b2⟩ | b
      · exact .inl ((h3 k).2 ⟨j2, b2⟩)
      · exact .inr b
    · exact .inl ((h3 k).2 ⟨i, hi⟩)
theorem BkAt.turn (h : BkAt L w s F) (i : Part) : ∃ Fi, PartAt L s i w Fi ∧ (∀ k, Fi k → F k) ∧ (∀ j, j ≠ i → ∃ Fj, PartAt L s j w Fj ∧ ∀ k, Fi k → ¬ Fj k) ∧
    ∀ (w' : World) (L' : Lay) (s' : Br) (Fi' : Nat → Prop), PartAt L' s' i w' Fi' → (∀ j, j ≠ i → ∀ W Fj, PartAt L s j W Fj → PartAt L' s' j W Fj) → Tn w Fi w' Fi' → ∃ F', BkAt L' w' s' F' ∧ Tn w F w' F' := by
  obtain ⟨Fm, h1, h2, h3, h4⟩ := h.turns (fun j => j = i)
  refine ⟨Fm i, h1 i, h3 i, fun j hj => ⟨Fm j, h1 j, fun k hk => h2 i j k (fun e => hj e.symm) hk⟩, fun w' L' s' Fi' a1 a2 a3 => ?_⟩
  refine h4 w' L' s' (fun _ => Fi') (fun j hj => by subst hj; exact a1) (fun a b k ha hb hne => by subst ha; subst hb; exact absurd rfl hne) (fun j hj k hk => ?_) a2 (a3.upd.mono (fun k _ hk => ⟨i, rfl, hk⟩))
  rcases a3.new k hk with h | h
  · exact .inl ⟨i, rfl, h⟩
  · exact .inr h
theorem BkAt.part (h : BkAt L w s F) (i : Part) : ∃ Fi, PartAt L s i w Fi ∧ ∀ k, Fi k → F k := by
  obtain ⟨Fi, a, b, _⟩ := h.turn i
  exact ⟨Fi, a, b⟩
end
def hiB : Nat := max (max 0 3) (max 4 5) + 1
theorem var_updF {P : Program} {w w1 : World} {S : Nat → Prop} {name : String} {cs : Array Value} {g : Nat} (hg : P.globalNamed name = some g) (h : w.var? P name = some cs) (k : Upd S w w1) (hn : ¬ S g) : w1.var? P name = some cs := by
  unfold World.var? at h ⊢
  rw [hg] at h ⊢
  simp only [Option.bind_some] at h ⊢
  split at h
  · rename_i c t f hb
    rw [k.blk hb hn]
    exact h
  · cases h
theorem var_lt {P : Program} {w : World} {name : String} {cs : Array Value} {g : Nat} (hg : P.globalNamed name = some g) (h : w.var? P name = some cs) : g < w.heap.size := by
  unfold World.var? at h
  rw [hg] at h
  simp only [Option.bind_some] at h
  split at h
  · rename_i c t f hb
    exact blk_lt hb
  · cases h
theorem env_size {w : World} (h : Or.Env w) : hiB ≤ w.heap.size := by
  obtain ⟨m, hm⟩ := h.cut
  obtain ⟨t1, p1, h1⟩ := h.syn
  obtain ⟨t2, p2, h2⟩ := h.rng
  have a1 := var_lt (g := 0) (by kernel_rfl) h.tab
  have a2 := World.block_lt_of_cell? w _ hm
  have a3 := var_lt (g := 4) (by kernel_rfl) h1
  have a4 := var_lt (g := 5) (by kernel_rfl) h2
  simp only at a2
  unfold hiB
  omega
theorem env_upd {w w1 : World} {S : Nat → Prop} (h : Or.Env w) (k : Upd S w w1) (hS : ∀ i, S i → hiB ≤ i) : Or.Env w1 := by
  obtain ⟨m, hm⟩ := h.cut
  obtain ⟨t1, p1, h1⟩ := h.syn
  obtain ⟨t2, p2, h2⟩ := h.rng
  have hlt : ∀ i, i < hiB → ¬ S i := fun i hi hs => by have := hS i hs; omega
  exact ⟨var_updF (g := 0) (by kernel_rfl) h.tab k (hlt _ (by decide)), ⟨m, k.cell hm (hlt _ (by decide))⟩, ⟨t1, p1, var_updF (g := 4) (by kernel_rfl) h1 k (hlt _ (by decide))⟩, ⟨t2, p2, var_updF (g := 5) (by kernel_rfl) h2 k (hlt _ (by decide))⟩⟩
structure Bt (L : Lay) (w : World) (s : Br) (F : Nat → Prop) : Prop where
  bk : BkAt L w s F
  hi : ∀ k, F k → hiB ≤ k
  env : Or.Env w
section
variable {w w1 : World} {L L' : Lay} {s s' : Br} {F F' S : Nat → Prop}
theorem Bt.upd (h : Bt L w s F) (k : Upd S w w1) (hn : ∀ i, F i → ¬ S i) (hS : ∀ i, S i → hiB ≤ i) : Bt L w1 s F := ⟨h.bk.upd k hn, h.hi, env_upd h.env k hS⟩
theorem Bt.up (h : Bt L w s F) (k : Upd (fun _ => False) w w1) : Bt L w1 s F := h.upd k (fun _ _ h => h) (fun _ h => h.elim)
theorem Bt.go (h : Bt L w s F) (k : BkAt L' w1 s' F') (t : Tn w F w1 F') : Bt L' w1 s' F' := ⟨k, fun i hi => by
  rcases t.new i hi with h1 | h1
  · exact h.hi i h1
  · have := env_size h.env; omega, env_upd h.env t.upd h.hi⟩
theorem Tn.grow {w w1 : World} (F : Nat → Prop) (k : Upd (fun _ => False) w w1) : Tn w F w1 F := ⟨k.mono (fun _ _ h => h.elim), fun _ h => .inl h⟩
end
end Go.Proofs.YteepkanbiefpjaaGreatDoor.Bk
set_option linter.unusedVariables false
set_option linter.unusedSimpArgs false
namespace Go.Proofs.YteepkanbiefpjaaGreatDoor.Bk
open Go.RowKit K Go.Sort Go.Lib Go.Shelf Go.Maps
theorem keys_of (L : List Ent) : intKeys (DataW.map (coded L)) = L.map (·.1) := by
  unfold intKeys coded
  simp only [List.map_map]
  rfl
theorem own_of_row {w : World} {base n : Nat} {e : TypeId} {v : Value} {xs : List Value} (h : w.ownsRow base e 1 v n xs) : ∃ A c G, v = .slice A n c ∧ K.Own w e 1 v n xs G ∧ ∀ g, G = some g → base ≤ g := by
  obtain ⟨h1, h2⟩ := h
  rcases h2 with ⟨rfl, rfl⟩ | ⟨g, cap, cur, rfl, hb, hg, hn, hm, hs, ht⟩
  · obtain rfl : xs = [] := List.eq_nil_of_length_eq_zero (by simpa using h1)
    exact ⟨none, 0, none, rfl, K.Own.nil _ _ _, fun g h => by cases h⟩
  · refine ⟨some ⟨g, 0, none⟩, cap, some g, rfl, ⟨h1, .inr ⟨g, 0, cap, cur, rfl, rfl, hg, hn, hm, by omega, fun j u hj => ?_⟩⟩, fun g' e => by cases e; exact hb⟩
    rw [← ht] at hj
    rw [List.getElem?_take] at hj
    split at hj
    · rw [Nat.zero_add, ← Array.getElem?_toList]; exact hj
    · cases hj
theorem sorts (m : Nat) : AnyZI.SortsIn Tryz.prog Tryz.sortedA_ren Fence.wide m :=
  ⟨fun blk off cap ss W hH hblk hsz => callsIn_wide.2 (Tryz.slices_Sort_int blk off cap ss W hH hblk hsz),
   fun p cap W => callsIn_wide.2 (Tryz.slices_Sort_int_none p cap W)⟩
section
variable {w : World} {L : Lay} {s : Br} {F : Nat → Prop}
set_option maxHeartbeats 2000000 in
theorem ids_calls (h : BkAt L w s F) (hn : s.cs.length ≤ 1000) : Calls Tryz.prog 68 #[ptr L.q] w (NewI (ids s) w) := by
  obtain ⟨Fo, ho, _⟩ := h.part .own
  obtain ⟨Fm, hm, _⟩ := h.part .map
  have hmap : mapV w Tryz.prog 3 L.m (ents L s) := hm.1
  have b5 : ∀ W, Upd (fun _ => False) w W → W.cell? ⟨L.q, 12, none⟩ = some (.map (some L.m)) := keepsC (o := 12) ho.1 rfl
  have hlen : (ents L s).length = s.cs.length := by simp [ents]
  have hinc := hmap.inc Tryz.underlying3
  have hkeys : (ents L s).map (·.1) = ids s := by simp [ents, ids, Function.comp_def]
  have hbl := hmap.lt
  have hseq : SeqGives Fence.wide 2 Tryz.prog 117 #[.pointer (some ⟨w.heap.size, 0, none⟩)] encZ (fun ss => ss.Perm (intKeys (DataW.map (coded (ents L s))))) (Maps.size (DataW.map (coded (ents L s)))) (w.alloc (.cells #[.map (some L.m)] 89)) :=
    AnyZI.keys_gives (ρ := Tryz.keysA_ren) { Tryz.keysA with } Fence.wide _ trivial rfl (by omega) w.heap.size L.m (ents L s).length _ _ (by simp) (by simp) (by
      obtain ⟨es, clock, hb, Ft, hs, hD⟩ := hmap
      exact ⟨es, clock, (Below.heap_alloc _ _ L.m hbl).trans hb, Ft, hs, hD⟩)
  have cK : ∀ mb W, CallsIn Fence.wide 5 Tryz.prog 90 #[.map mb] W fun e w' => e = .returned (.func (.func 117) #[] #[.pointer (some ⟨W.heap.size, 0, none⟩)]) ∧ w' = W.alloc (.cells #[.map mb] 89) := fun mb W => AnyZI.keys_in Tryz.keysA Fence.wide 5 trivial rfl mb W
  have cS := AnyZI.sorted_in Tryz.sortedA Fence.wide 5 trivial trivial trivial trivial rfl (by omega) (sorts _) (enters_of Tryz.func88 (by kernel_rfl) rfl) 117 #[.pointer (some ⟨w.heap.size, 0, none⟩)] trivial (enters_of Tryz.func117 (by kernel_rfl) rfl) _ _ (by rw [Maps.size_eq]; simp only [coded, List.length_map, hlen, maxLen]; omega) (by rw [Maps.size_eq]; simp only [coded, List.length_map, hlen]; omega) _ hseq
  change CallsIn _ _ Tryz.prog 89 _ _ _ at cS
  go_enter Tryz.func68, Tryz.ntmps68
  go_wp2_with fail
  refine (callsIn_wide.1 (cK _ _)).mono ?_
  rintro e w1 ⟨rfl, rfl⟩
  go_wp2_with fail
  refine (callsIn_wide.1 cS).mono ?_
  rintro e w2 ⟨v, ss, rfl, hS, hrow, hnil, hb⟩
  rw [keys_of, hkeys] at hS
  have hss : (ss.mergeSort fun x y => decide (x ≤ y)) = ids s := Fl.sorted_is hS (by rw [← hkeys]; exact List.pairwise_map.2 hinc)
  rw [hss] at hrow
  have hsl : ss.length = (ids s).length := hS.length_eq
  rw [hsl] at hrow
  obtain ⟨A, c, G, rfl, hO, hG⟩ := own_of_row hrow
  go_wp2
  go_ret
  exact ⟨A, c, G, rfl, hO, fun g hg => by have := hG g hg; simp at this; omega, ((Upd.refl (fun _ => False) w).alloc _).trans (Upd.ofBelow hb _) (fun _ _ h => h)⟩
end
end Go.Proofs.YteepkanbiefpjaaGreatDoor.Bk
set_option linter.unusedVariables false
set_option linter.unusedSimpArgs false
namespace Go.Proofs.YteepkanbiefpjaaGreatDoor.Bk
open Go.RowKit K
open MgRow (M)
open Fl (rget)
theorem cget_set_same {cs : List (Int × Cn)} {id : Int} {c c' : Cn} (h : cget cs id = some c) : cget (cset cs id c') id = some c' := by
  unfold cget cset at *
  induction cs with
  | nil => simp at h
  | cons p r ih =>
    rw [List.map_cons, List.find?_cons]
    by_cases hp : p.1 = id
    · simp [hp]
    · rw [if_neg hp]
      simp only [List.find?_cons, hp, decide_false] at h ⊢
      exact ih h
theorem cget_set_other (cs : List (Int × Cn)) {id j : Int} (c' : Cn) (h : j ≠ id) : cget (cset cs id c') j = cget cs j := by
  unfold cget cset
  induction cs with
  | nil => rfl
  | cons p r ih =>
    rw [List.map_cons, List.find?_cons, List.find?_cons]
    by_cases hp : p.1 = id
    · rw [if_pos hp]
      have h1 : ¬ id = j := fun e => h e.symm
      have h2 : ¬ p.1 = j := fun e => h (by rw [← e, hp])
      simp only [h1, h2, decide_false]
      exact ih
    · rw [if_neg hp]
      by_cases hj : p.1 = j
      · simp [hj]
      · simp only [hj, decide_false]
        exact ih
section
variable {s s' : Br} {id j : Int} {c c' : Cn}
theorem get_set_same (h : get s id = some c) : get (set s id c') id = some c' := cget_set_same h
theorem get_set_other (h : j ≠ id) : get (set s id c') j = get s j := cget_set_other _ _ h
theorem ids_set (s : Br) (id : Int) (c' : Cn) : ids (set s id c') = ids s := by
  unfold ids set cset
  simp only [List.map_map]
  refine List.map_congr_left (fun p _ => ?_)
  simp only [Function.comp]
  split
  · rename_i h; exact h.symm
  · rfl
theorem get_mem (h : get s id = some c) : (id, c) ∈ s.cs := by
  unfold get cget at h
  obtain ⟨p, hp, rfl⟩ := Option.map_eq_some_iff.1 h
  have h1 := List.find?_some hp
  have h2 := List.mem_of_find?_eq_some hp
  simp only [decide_eq_true_eq] at h1
  subst h1
  exact h2
theorem get_ids (h : get s id = some c) : id ∈ ids s := List.mem_map.2 ⟨_, get_mem h, rfl⟩
theorem ids_get (h : id ∈ ids s) : ∃ c, get s id = some c := by
  obtain ⟨p, hp, rfl⟩ := List.mem_map.1 h
  unfold get cget
  cases hf : s.cs.find? (fun q => decide (q.1 = p.1)) with
  | some q => exact ⟨q.2, rfl⟩
  | none => have := List.find?_eq_none.1 hf p hp; simp at this
end
structure Sm (s s' : Br) : Prop where
  cf : s'.cf = s.cf
  log : s'.log = s.log
  inp : s'.inp = s.inp
  strikes : s'.strikes = s.strikes
  ended : s'.ended = s.ended
  code : s'.code = s.code
  holder : s'.holder = s.holder
  sp : s'.sp = s.sp
  ids : ids s' = ids s
  cn : ∀ id c, get s id = some c → ∃ c', get s' id = some c' ∧ (c'.st = c.st ∨ c'.st = 2) ∧ c'.name = c.name ∧ c'.idle = c.idle ∧ c'.fb = c.fb ∧ c'.fe = c.fe ∧ c'.lx = c.lx ∧ c'.vw = c.vw
theorem Sm.refl (s : Br) : Sm s s := ⟨rfl, rfl, rfl, rfl, rfl, rfl, rfl, rfl, rfl, fun _ c h => ⟨c, h, .inl rfl, rfl, rfl, rfl, rfl, rfl, rfl⟩⟩
theorem Sm.trans {a b c : Br} (h : Sm a b) (k : Sm b c) : Sm a c :=
  ⟨k.cf.trans h.cf, k.log.trans h.log, k.inp.trans h.inp, k.strikes.trans h.strikes, k.ended.trans h.ended, k.code.trans h.code, k.holder.trans h.holder, k.sp.trans h.sp, k.ids.trans h.ids, fun id x hx => by
    obtain ⟨y, h1, h2, h3, h4, h5, h6, h7, h8⟩ := h.cn id x hx
    obtain ⟨z, k1, k2, k3, k4, k5, k6, k7, k8⟩ := k.cn id y h1
    refine ⟨z, k1, ?_, k3.trans h3, k4.trans h4, k5.trans h5, k6.trans h6, k7.trans h7, k8.trans h8⟩
    rcases k2 with e | e
    · rcases h2 with e2 | e2
      · exact .inl (e.trans e2)
      · exact .inr (e.trans e2)
    · exact .inr e⟩
theorem Sm.set {s : Br} {id : Int} {c c' : Cn} (h : get s id = some c) (h2 : c'.st = c.st ∨ c'.st = 2) (h3 : c'.name = c.name) (h4 : c'.idle = c.idle) (h5 : c'.fb = c.fb) (h6 : c'.fe = c.fe) (h7 : c'.lx = c.lx) (h8 : c'.vw = c.vw) (t : Fl.T) : Sm s (wTab (set s id c') t) :=
  ⟨rfl, rfl, rfl, rfl, rfl, rfl, rfl, rfl, ids_set s id c', fun j x hx => by
    by_cases e : j = id
    · subst e
      rw [h] at hx
      cases hx
      exact ⟨c', get_set_same h, h2, h3, h4, h5, h6, h7, h8⟩
    · exact ⟨x, (get_set_other e).trans hx, .inl rfl, rfl, rfl, rfl, rfl, rfl, rfl⟩⟩
theorem sm_fold (f : Br → Int → Br) (h : ∀ s id, Sm s (f s id)) : ∀ (l : List Int) (s : Br), Sm s (runAll f l s)
  | [], s => Sm.refl s
  | a :: l, s => by
    unfold runAll
    rw [List.foldl_cons]
    have h2 := sm_fold f h l (if openS s a then f s a else s)
    unfold runAll at h2
    refine Sm.trans ?_ h2
    split
    · exact h s a
    · exact Sm.refl s
theorem sm_send (lv : Br → Int → Br) (h : ∀ s id, Sm s (lv s id)) (s : Br) (id : Int) (m : M) : Sm s (sendW lv s id m) := by
  unfold sendW
  cases hg : get s id with
  | none => exact Sm.refl s
  | some c =>
    simp only
    split
    · exact Sm.refl s
    · split
      · exact Sm.set (c' := cOut c (c.out ++ mb m)) hg (.inl rfl) rfl rfl rfl rfl rfl rfl s.tab
      · exact h s id
theorem sm_tell (lv : Br → Int → Br) (h : ∀ s id, Sm s (lv s id)) (s : Br) (m : M) : Sm s (tellW lv s m) := sm_fold _ (fun s id => sm_send lv h s id m) _ s
theorem sm_leave : ∀ (f : Nat) (s : Br) (id : Int), Sm s (leaveN f s id)
  | 0, s, id => by
    unfold leaveN
    cases hg : get s id with
    | none => exact Sm.refl s
    | some c => exact Sm.set (c' := cSt c 2) hg (.inr rfl) rfl rfl rfl rfl rfl rfl _
  | f + 1, s, id => by
    unfold leaveN
    cases hg : get s id with
    | none => exact Sm.refl s
    | some c =>
      simp only
      split
      · refine Sm.trans ?_ (sm_tell (leaveN f) (sm_leave f) _ _)
        exact Sm.set (c' := cSt c 2) hg (.inr rfl) rfl rfl rfl rfl rfl rfl _
      · exact Sm.set (c' := cSt c 2) hg (.inr rfl) rfl rfl rfl rfl rfl rfl s.tab
def cnt (s : Br) : Nat := (ids s).countP (fun id => !closed s id)
theorem Sm.closed {s s' : Br} (h : Sm s s') {id : Int} (hc : Bk.closed s id = true) (hi : id ∈ Bk.ids s) : Bk.closed s' id = true := by
  obtain ⟨c, hg⟩ := ids_get hi
  obtain ⟨c', h1, h2, _⟩ := h.cn id c hg
  unfold Bk.closed at hc ⊢
  rw [hg] at hc
  rw [h1]
  simp only [beq_iff_eq] at hc ⊢
  rcases h2 with e | e
  · exact e.trans hc
  · exact e
theorem countP_le {l : List Int} {p q : Int → Bool} (h : ∀ x ∈ l, q x = true → p x = true) : l.countP q ≤ l.countP p := List.countP_mono_left h
theorem Sm.cnt {s s' : Br} (h : Sm s s') : Bk.cnt s' ≤ Bk.cnt s := by
  unfold Bk.cnt
  rw [h.ids]
  refine countP_le (fun x hx hq => ?_)
  cases hc : Bk.closed s x with
  | false => rfl
  | true => rw [h.closed hc hx] at hq; cases hq
theorem countP_lt {p q : Int → Bool} : ∀ {l : List Int} (_ : ∀ x ∈ l, q x = true → p x = true) {a : Int} (_ : a ∈ l) (_ : p a = true) (_ : q a = false), l.countP q < l.countP p
  | [], _, _, ha, _, _ => absurd ha (by simp)
  | x :: l, h, a, ha, hp, hq => by
    rw [List.countP_cons, List.countP_cons]
    have hl := countP_le (l := l) (p := p) (q := q) (fun y hy => h y (List.mem_cons_of_mem _ hy))
    by_cases e : a = x
    · subst e
      rw [if_neg (by rw [hq]; simp), if_pos hp]
      omega
    · have h1 := countP_lt (l := l) (fun y hy => h y (List.mem_cons_of_mem _ hy)) (by simpa [e] using ha) hp hq
      by_cases hx : q x = true
      · rw [if_pos hx, if_pos (h x List.mem_cons_self hx)]
        omega
      · rw [if_neg hx]
        omega
theorem cnt_lost {s : Br} {id : Int} {c : Cn} (hg : get s id = some c) (h2 : c.st ≠ 2) (t : Fl.T) : cnt (wTab (set s id (cSt c 2)) t) < cnt s := by
  have hsm := Sm.set (c' := cSt c 2) hg (.inr rfl) rfl rfl rfl rfl rfl rfl t
  unfold cnt
  rw [hsm.ids]
  refine countP_lt (fun x hx hq => ?_) (get_ids hg) ?_ ?_
  · cases hc : closed s x with
    | false => rfl
    | true => rw [hsm.closed hc hx] at hq; cases hq
  · unfold closed; rw [hg]; simpa using h2
  · unfold closed
    rw [show get (wTab (set s id (cSt c 2)) t) id = some (cSt c 2) from get_set_same hg]
    rfl
structure Ok (s : Br) : Prop where
  srt : (ids s).Pairwise (· < ·)
  rng : ∀ id ∈ ids s, 1 ≤ id ∧ id ≤ 16
  g : Fl.G s.tab 16 0
  krt : (Fl.keys s.tab).Pairwise (· < ·)
  use : ∀ id, (rget s.tab.roles id).isSome = true → ∃ c, get s id = some c ∧ c.st = 1
  opn : ∀ id c, get s id = some c → c.st = 1 → c.vw.isSome = true ∧ (rget s.tab.roles id).isSome = true
  sts : ∀ id c, get s id = some c → c.st = 0 ∨ c.st = 1 ∨ c.st = 2
  rls : ∀ p ∈ s.tab.roles, 0 ≤ p.2 ∧ p.2 ≤ 2
theorem seq_len : ∀ {l : List Int} {a b : Int}, l.Pairwise (· < ·) → (∀ x ∈ l, a ≤ x ∧ x ≤ b) → a ≤ b + 1 → (l.length : Int) ≤ b + 1 - a
  | [], a, b, _, _, h => by simp; omega
  | x :: l, a, b, hp, hr, h => by
    have h1 := hr x List.mem_cons_self
    have h2 := seq_len (l := l) (a := x + 1) (b := b) (List.pairwise_cons.1 hp).2 (fun y hy => ⟨by have := (List.pairwise_cons.1 hp).1 y hy; omega, (hr y (List.mem_cons_of_mem _ hy)).2⟩) (by omega)
    simp only [List.length_cons]
    omega
theorem Ok.few {s : Br} (h : Ok s) : s.cs.length ≤ 16 := by
  have := seq_len h.srt h.rng (by omega)
  simp only [ids, List.length_map] at this
  omega
theorem Ok.cnt {s : Br} (h : Ok s) : Bk.cnt s ≤ 16 := by
  have := h.few
  have h2 : Bk.cnt s ≤ (ids s).length := List.countP_le_length
  simp only [ids, List.length_map] at h2
  omega
theorem Ok.set {s : Br} {id : Int} {c c' : Cn} (h : Ok s) (hg : get s id = some c) (h2 : c'.st = c.st) (h3 : c.st = 1 → c'.vw.isSome = c.vw.isSome) : Ok (Bk.set s id c') := by
  refine ⟨by rw [ids_set]; exact h.srt, by rw [ids_set]; exact h.rng, h.g, h.krt, fun j hj => ?_, fun j x hx h1 => ?_, fun j x hx => ?_, h.rls⟩
  · obtain ⟨x, h4, h5⟩ := h.use j hj
    by_cases e : j = id
    · subst e
      rw [hg] at h4
      cases h4
      exact ⟨c', get_set_same hg, h2.trans h5⟩
    · exact ⟨x, (get_set_other e).trans h4, h5⟩
  · by_cases e : j = id
    · subst e
      rw [get_set_same hg] at hx
      cases hx
      have := h.opn j c hg (h2 ▸ h1)
      exact ⟨(h3 (h2 ▸ h1)).trans this.1, this.2⟩
    · rw [get_set_other e] at hx
      exact h.opn j x hx h1
  · by_cases e : j = id
    · subst e
      rw [get_set_same hg] at hx
      cases hx
      rw [h2]
      exact h.sts j c hg
    · rw [get_set_other e] at hx
      exact h.sts j x hx
theorem rget_del (R : List (Int × Int)) (x y : Int) : rget (Fl.rdel R x) y = if y = x then none else rget R y := by
  unfold rget Fl.rdel
  rw [List.find?_filter]
  by_cases e : y = x
  · subst e
    rw [if_pos rfl]
    rw [Option.map_eq_none_iff, List.find?_eq_none]
    intro p _
    by_cases hp : p.1 = y <;> simp [hp]
  · rw [if_neg e]
    congr 2
    funext p
    by_cases hp : p.1 = y
    · subst hp; simp [e]
    · simp [hp]
theorem Ok.lost {s : Br} {id : Int} {c : Cn} (h : Ok s) (hg : get s id = some c) : Ok (wTab (Bk.set s id (cSt c 2)) (if c.st = 1 then Fl.leave s.tab id else s.tab)) := by
  have hroles : ∀ j, rget (if c.st = 1 then Fl.leave s.tab id else s.tab).roles j = if j = id then none else rget s.tab.roles j := fun j => by
    by_cases h1 : c.st = 1
    · rw [if_pos h1]
      have hs : (rget s.tab.roles id).isSome = true := (h.opn id c hg h1).2
      unfold Fl.leave Fl.leaves
      rw [if_pos hs]
      exact rget_del _ _ _
    · rw [if_neg h1]
      by_cases e : j = id
      · subst e
        rw [if_pos rfl]
        cases hr : rget s.tab.roles j with
        | none => rfl
        | some r =>
          obtain ⟨x, h4, h5⟩ := h.use j (by rw [hr]; rfl)
          rw [hg] at h4
          cases h4
          exact absurd h5 h1
      · rw [if_neg e]
  refine ⟨by rw [show ids (wTab (Bk.set s id (cSt c 2)) (if c.st = 1 then Fl.leave s.tab id else s.tab)) = ids s from ids_set _ _ _]; exact h.srt, by rw [show ids (wTab (Bk.set s id (cSt c 2)) (if c.st = 1 then Fl.leave s.tab id else s.tab)) = ids s from ids_set _ _ _]; exact h.rng, ?_, ?_, fun j hj => ?_, fun j x hx h1 => ?_, fun j x hx => ?_, fun p hp => ?_⟩
  · show Fl.G (if c.st = 1 then Fl.leave s.tab id else s.tab) 16 0
    split
    · exact h.g.leave id
    · exact h.g
  · show (Fl.keys (if c.st = 1 then Fl.leave s.tab id else s.tab)).Pairwise (· < ·)
    split
    · unfold Fl.leave
      split
      · exact List.Pairwise.sublist (List.Sublist.map _ List.filter_sublist) h.krt
      · exact h.krt
    · exact h.krt
  · have hj' : (rget (if c.st = 1 then Fl.leave s.tab id else s.tab).roles j).isSome = true := hj
    rw [hroles] at hj'
    by_cases e : j = id
    · rw [if_pos e] at hj'; cases hj'
    · rw [if_neg e] at hj'
      obtain ⟨x, h4, h5⟩ := h.use j hj'
      exact ⟨x, (get_set_other e).trans h4, h5⟩
  · have hx' : get (Bk.set s id (cSt c 2)) j = some x := hx
    by_cases e : j = id
    · subst e
      rw [get_set_same hg] at hx'
      cases hx'
      cases h1
    · rw [get_set_other e] at hx'
      have := h.opn j x hx' h1
      refine ⟨this.1, ?_⟩
      show (rget (if c.st = 1 then Fl.leave s.tab id else s.tab).roles j).isSome = true
      rw [hroles, if_neg e]
      exact this.2
  · have hx' : get (Bk.set s id (cSt c 2)) j = some x := hx
    by_cases e : j = id
    · subst e
      rw [get_set_same hg] at hx'
      cases hx'
      exact .inr (.inr rfl)
    · rw [get_set_other e] at hx'
      exact h.sts j x hx'
  · have hp' : p ∈ (if c.st = 1 then Fl.leave s.tab id else s.tab).roles := hp
    split at hp'
    · unfold Fl.leave at hp'
      split at hp'
      · exact h.rls p (List.mem_filter.1 hp').1
      · exact h.rls p hp'
    · exact h.rls p hp'
theorem ok_send (lv : Br → Int → Br) (h : ∀ s id, Ok s → Ok (lv s id)) {s : Br} (hs : Ok s) (id : Int) (m : M) : Ok (sendW lv s id m) := by
  unfold sendW
  cases hg : get s id with
  | none => exact hs
  | some c =>
    simp only
    split
    · exact hs
    · split
      · exact hs.set hg rfl (fun _ => rfl)
      · exact h s id hs
theorem ok_fold (f : Br → Int → Br) (h : ∀ s id, Ok s → Ok (f s id)) : ∀ (l : List Int) (s : Br), Ok s → Ok (runAll f l s)
  | [], s, hs => hs
  | a :: l, s, hs => by
    unfold runAll
    rw [List.foldl_cons]
    have h2 := ok_fold f h l (if openS s a then f s a else s) (by split; exact h s a hs; exact hs)
    exact h2
theorem ok_tell (lv : Br → Int → Br) (h : ∀ s id, Ok s → Ok (lv s id)) {s : Br} (hs : Ok s) (m : M) : Ok (tellW lv s m) := ok_fold _ (fun s id hs => ok_send lv h hs id m) _ s hs
theorem ok_leave : ∀ (f : Nat) (s : Br) (id : Int), Ok s → Ok (leaveN f s id)
  | 0, s, id, hs => by
    unfold leaveN
    cases hg : get s id with
    | none => exact hs
    | some c => exact hs.lost hg
  | f + 1, s, id, hs => by
    unfold leaveN
    cases hg : get s id with
    | none => exact hs
    | some c =>
      simp only
      have hl := hs.lost hg
      split
      · rename_i h1
        rw [if_pos h1] at hl
        exact ok_tell (leaveN f) (ok_leave f) hl _
      · rename_i h1
        rw [if_neg h1] at hl
        exact hl
end Go.Proofs.YteepkanbiefpjaaGreatDoor.Bk
set_option linter.unusedVariables false
set_option linter.unusedSimpArgs false
namespace Go.Proofs.YteepkanbiefpjaaGreatDoor.Bk
open Go.RowKit K
open MgRow (M)
theorem set_part {L : Lay} {s : Br} {id : Int} {c c' : Cn} (hg : get s id = some c) {j : Part} {W : World} {Fj : Nat → Prop} (h : PartAt L s j W Fj) (hc : j = .conn id → c'.st = c.st ∧ c'.name = c.name ∧ c'.idle = c.idle ∧ c'.vw = c.vw) (hf : j = .feed id → c'.fb = c.fb ∧ c'.fe = c.fe) (hl : j = .lex id → c'.lx = c.lx) (ho : j = .out id → c'.out = c.out) : PartAt L (set s id c') j W Fj := by
  have he : ents L (set s id c') = ents L s := by
    unfold ents set cset
    simp only [List.map_map]
    refine List.map_congr_left (fun p _ => ?_)
    simp only [Function.comp]
    split
    · rename_i h; subst h; rfl
    · rfl
  cases j with
  | own => exact h
  | ring => exact h
  | spot => exact h
  | table => exact h
  | input => exact h
  | map => exact ⟨by rw [he]; exact h.1, h.2⟩
  | conn i =>
    simp only [PartAt] at h ⊢
    by_cases e : i = id
    · subst e
      obtain ⟨h1, h2, h3, h4⟩ := hc rfl
      rw [hg] at h
      rw [get_set_same hg]
      simp only [ConnAt, ccells] at h ⊢
      rw [h1, h2, h3, h4]
      exact h
    · rw [get_set_other e]; exact h
  | feed i =>
    simp only [PartAt] at h ⊢
    by_cases e : i = id
    · subst e
      obtain ⟨h1, h2⟩ := hf rfl
      rw [hg] at h
      rw [get_set_same hg]
      simp only
      rw [h1, h2]
      exact h
    · rw [get_set_other e]; exact h
  | lex i =>
    simp only [PartAt] at h ⊢
    by_cases e : i = id
    · subst e
      rw [hg] at h
      rw [get_set_same hg]
      simp only
      rw [hl rfl]
      exact h
    · rw [get_set_other e]; exact h
  | out i =>
    simp only [PartAt] at h ⊢
    by_cases e : i = id
    · subst e
      rw [hg] at h
      rw [get_set_same hg]
      simp only
      rw [ho rfl]
      exact h
    · rw [get_set_other e]; exact h
section
variable {w w' : World} {L : Lay} {s : Br} {F : Nat → Prop} {id : Int} {c c' : Cn}
theorem Bt.own (h : Bt L w s F) : w.heap[L.q]? = some (.cells (bcells L s) 91 (0, 0)) := by
  obtain ⟨Fo, ho, _⟩ := h.bk.part .own
  exact ho.1
theorem Bt.conn (h : Bt L w s F) (hg : get s id = some c) : ∃ v, w.heap[(L.cn id).p]? = some (.cells (ccells (L.cn id) id c v) 101 (0, 0)) := by
  obtain ⟨Fo, ho, _⟩ := h.bk.part (.conn id)
  simp only [PartAt] at ho
  rw [hg] at ho
  simp only [ConnAt] at ho
  cases hv : c.vw with
  | none => rw [hv] at ho; exact ⟨_, ho.1⟩
  | some p => rw [hv] at ho; obtain ⟨v, h1, _⟩ := ho; exact ⟨_, h1⟩
theorem Bt.setConn (h : Bt L w s F) (hg : get s id = some c) (h1 : c'.vw = c.vw) (h2 : c'.fb = c.fb ∧ c'.fe = c.fe) (h3 : c'.lx = c.lx) (h4 : c'.out = c.out) (hu : Upd (fun k => k = (L.cn id).p) w w')
    (hb : ∀ v, w.heap[(L.cn id).p]? = some (.cells (ccells (L.cn id) id c v) 101 (0, 0)) → w'.heap[(L.cn id).p]? = some (.cells (ccells (L.cn id) id c' v) 101 (0, 0))) : ∃ F', Bt L w' (set s id c') F' ∧ Tn w F w' F' := by
  obtain ⟨Fi, hp, hF, _, hput⟩ := h.bk.turn (.conn id)
  simp only [PartAt] at hp
  rw [hg] at hp
  have hpart : PartAt L (set s id c') (.conn id) w' Fi ∧ Fi (L.cn id).p := by
    simp only [PartAt]
    rw [get_set_same hg]
    simp only [ConnAt] at hp ⊢
    rw [h1]
    cases hv : c.vw with
    | none =>
      rw [hv] at hp
      exact ⟨⟨hb _ hp.1, hp.2⟩, (hp.2 _).2 rfl⟩
    | some q =>
      rw [hv] at hp
      obtain ⟨v, a1, a2, a3, a4⟩ := hp
      exact ⟨⟨v, hb _ a1, hu.blk a2 a3, a3, a4⟩, (a4 _).2 (.inl rfl)⟩
  obtain ⟨F', hbk, ht⟩ := hput w' L (set s id c') Fi hpart.1 (fun j hj W Fj hw => set_part hg hw (fun e => absurd e hj) (fun _ => h2) (fun _ => h3) (fun _ => h4)) ⟨hu.mono (fun k _ e => by subst e; exact hpart.2), fun k hk => .inl hk⟩
  exact ⟨F', h.go hbk ht, ht⟩
theorem Bt.table (h : Bt L w s F) : ∃ Ft, Fl.TB w L.tb Ft s.tab ∧ (∀ k, Ft k → F k) ∧ ∀ (w' : World) (t' : Fl.T) (Ft' : Nat → Prop), Fl.TB w' L.tb Ft' t' → Upd Ft w w' → (∀ k, Ft' k → Ft k ∨ w.heap.size ≤ k) → ∃ F', Bt L w' (wTab s t') F' ∧ Tn w F w' F' := by
  obtain ⟨Fi, hp, hF, _, hput⟩ := h.bk.turn .table
  refine ⟨Fi, hp, hF, fun w' t' Ft' a1 a2 a3 => ?_⟩
  obtain ⟨F', hbk, ht⟩ := hput w' L (wTab s t') Ft' a1 (fun j hj W Fj hw => by cases j <;> first | exact hw | exact absurd rfl hj) ⟨a2, a3⟩
  exact ⟨F', h.go hbk ht, ht⟩
theorem Bt.out (h : Bt L w s F) (hg : get s id = some c) : ∃ Fo, Oq.Que w (L.cn id).po c.out s.cf.queue Fo ∧ (∀ k, Fo k → F k) ∧ ∀ (w' : World) (b : List UInt8) (Fo' : Nat → Prop), Oq.Que w' (L.cn id).po b s.cf.queue Fo' → Upd Fo w w' → (∀ k, Fo' k → Fo k ∨ w.heap.size ≤ k) → ∃ F', Bt L w' (set s id (cOut c b)) F' ∧ Tn w F w' F' := by
  obtain ⟨Fi, hp, hF, _, hput⟩ := h.bk.turn (.out id)
  simp only [PartAt] at hp
  rw [hg] at hp
  refine ⟨Fi, hp, hF, fun w' b Fo' a1 a2 a3 => ?_⟩
  obtain ⟨F', hbk, ht⟩ := hput w' L (set s id (cOut c b)) Fo' (by simp only [PartAt]; rw [get_set_same hg]; exact a1) (fun j hj W Fj hw => set_part hg hw (fun _ => ⟨rfl, rfl, rfl, rfl⟩) (fun _ => ⟨rfl, rfl⟩) (fun _ => rfl) (fun e => absurd e hj)) ⟨a2, a3⟩
  exact ⟨F', h.go hbk ht, ht⟩
end
def Goes (L : Lay) (s : Br) (F : Nat → Prop) (w : World) (v : Value) (e : Ending) (w' : World) : Prop := e = .returned v ∧ ∃ F', Bt L w' s F' ∧ Tn w F w' F'
def SendC (f : Nat) (lv : Br → Int → Br) : Prop := ∀ (w : World) (L : Lay) (s : Br) (F : Nat → Prop) (id : Int) (c : Cn) (m : M), Bt L w s F → Ok s → cnt s ≤ f → get s id = some c → Calls Tryz.prog 82 #[ptr L.q, ptr (L.cn id).p, Vw.msgV m] w (Goes L (sendW lv s id m) F w (.tuple #[]))
def TellC (f : Nat) (lv : Br → Int → Br) : Prop := ∀ (w : World) (L : Lay) (s : Br) (F : Nat → Prop) (m : M), Bt L w s F → Ok s → cnt s ≤ f → Calls Tryz.prog 75 #[ptr L.q, Vw.msgV m] w (Goes L (tellW lv s m) F w (.tuple #[]))
def LeaveC (f : Nat) (lv : Br → Int → Br) : Prop := ∀ (w : World) (L : Lay) (s : Br) (F : Nat → Prop) (id : Int) (c : Cn), Bt L w s F → Ok s → cnt s ≤ f → get s id = some c → Calls Tryz.prog 69 #[ptr L.q, ptr (L.cn id).p] w (Goes L (lv s id) F w (.tuple #[]))
end Go.Proofs.YteepkanbiefpjaaGreatDoor.Bk
set_option linter.unusedVariables false
set_option linter.unusedSimpArgs false
namespace Go.Proofs.YteepkanbiefpjaaGreatDoor.Bk
open Go.RowKit K
open MgRow (M)
theorem id_nat {s : Br} (ho : Ok s) {id : Int} {c : Cn} (hg : get s id = some c) : ∃ i : Nat, id = (i : Int) ∧ 1 ≤ i ∧ i ≤ 16 := by
  have := ho.rng id (get_ids hg)
  exact ⟨id.toNat, by omega, by omega, by omega⟩
set_option maxHeartbeats 4000000 in
set_option maxRecDepth 100000 in
theorem leave_gen (lv : Br → Int → Br) (f : Nat) (hlv : ∀ s id c, get s id = some c → (c.st ≠ 1 → lv s id = set s id (cSt c 2)) ∧ (c.st = 1 → f ≠ 0 → lv s id = tellW (leaveN (f - 1)) (wTab (set s id (cSt c 2)) (Fl.leave s.tab id)) (note (leftT id))))
    (ht : f ≠ 0 → TellC (f - 1) (leaveN (f - 1))) : LeaveC f lv := by
  intro w L s F id c h ho hcnt hg
  have hlv := hlv s id c hg
  obtain ⟨v, hb⟩ := h.conn hg
  have hlost := ho.lost hg
  have HT := Asd.mk ht
  have HO := Asd.mk ho
  have HG := Asd.mk hg
  have HB := Asd.mk hb
  have H := Asd.mk h
  have b0 := keepsC (o := 0) (v := .int .i64 id) hb rfl
  have b1 := keepsC (o := 1) (v := .int .i64 c.st) hb rfl
  have bf := fun o => keepsF (o := o) hb
  have hs0 : Upd (fun _ => False) w w := Upd.refl _ _
  obtain ⟨F1, h1, t1⟩ := h.setConn (w' := w.setCell ⟨(L.cn id).p, 1, none⟩ (.int .i64 2)) (c' := cSt c 2) hg rfl ⟨rfl, rfl⟩ rfl rfl ((Upd.refl (fun k => k = (L.cn id).p) w).setCell (fun _ => rfl) _) (fun v hv => blk_setCell (o := 1) hv (.int .i64 2))
  have H1 := Asd.mk h1
  have T1 := Asd.mk t1
  obtain ⟨p, hp⟩ : ∃ p, p = (L.cn id).p := ⟨_, rfl⟩
  by_cases hst : c.st = 1
  · rw [if_pos hst] at hlost
    have hcn2 := cnt_lost hg (by omega) (Fl.leave s.tab id)
    rw [hlv.2 hst (by omega)]
    clear hlv
    have HL := Asd.mk hlost
    have HC := Asd.mk hcn2
    have HCN := Asd.mk hcnt
    clear hlost hcn2 ht hp h1 t1
    have hb2 := blk_setCell (o := 1) hb (.int .i64 2)
    have hst1 : (c.st == 1) = true := beq_iff_eq.2 hst
    obtain ⟨i, hi, hi1, hi16⟩ := id_nat HO.out HG.out
    have HI := Asd.mk hi
    clear h ho hg hi hcnt
    go_enter Tryz.func69, Tryz.ntmps69
    go_wp2
    clear b0 b1 bf hs0
    generalize hw1 : w.setCell ⟨(L.cn id).p, 1, none⟩ (.int .i64 2) = w1 at H1 T1 hb2 ⊢
    have q10 := keepsC (o := 10) (v := .pointer (some ⟨L.tb, 0, none⟩)) H1.out.own rfl
    have b0 := keepsC (o := 0) (v := .int .i64 id) hb2 rfl
    refine wp_region_held_drew (S := fun W => W.cell? ⟨L.q, 10, none⟩ = some (.pointer (some ⟨L.tb, 0, none⟩)) ∧ W.cell? ⟨(L.cn id).p, 0, none⟩ = some (.int .i64 id)) (by kernel_rfl) (by exact ⟨q10 _ (by repeat (first | assumption | with_reducible exact Upd.refl _ _ | with_reducible refine Upd.drewN ?_ _ | with_reducible refine Upd.drew ?_ | with_reducible refine Upd.alloc ?_ _ | with_reducible refine Upd.setAt ?_ ?_ | exact Or.inl rfl | exact Or.inr (by simp) | exact Or.inr (by omega))), b0 _ (by repeat (first | assumption | with_reducible exact Upd.refl _ _ | with_reducible refine Upd.drewN ?_ _ | with_reducible refine Upd.drew ?_ | with_reducible refine Upd.alloc ?_ _ | with_reducible refine Upd.setAt ?_ ?_ | exact Or.inl rfl | exact Or.inr (by simp) | exact Or.inr (by omega)))⟩) (fun hHeld => ?_)
    refine tk_ 0 ?_
    try simp only [Act.put, sl1_, sl2_, sl3_]
    refine tk_ 1 ?_
    try simp only [Act.put, sl1_, sl2_, sl3_]
    refine tk_ 2 ?_
    try simp only [Act.put, sl1_, sl2_, sl3_]
    refine tk_ 3 ?_
    try simp only [Act.put, sl1_, sl2_, sl3_]
    refine tk_ 4 ?_
    try simp only [Act.put, sl1_, sl2_, sl3_]
    refine tk_ 5 ?_
    try simp only [Act.put, sl1_, sl2_, sl3_]
    refine tk_ 6 ?_
    try simp only [Act.put, sl1_, sl2_, sl3_]
    refine tk_ 7 ?_
    try simp only [Act.put, sl1_, sl2_, sl3_]
    refine wpAnyH_ready (rs := [8]) (by kernel_rfl) (by simp) (AllReadyH.cons (o := ?_) ?_ (fun K hK => ?_) AllReadyH.nil)
    rotate_left 1
    · (simp only [List.getElem?_toArray, List.getElem?_cons_succ, List.getElem?_cons_zero]; exact rfl)
    (go_simp; (go_at_call 91; obtain ⟨Ft, hT, _, hput⟩ := (H1.out.up (show Upd (fun _ => False) w1 w1.drew from (by repeat (first | assumption | with_reducible exact Upd.refl _ _ | with_reducible refine Upd.drewN ?_ _ | with_reducible refine Upd.drew ?_ | with_reducible refine Upd.alloc ?_ _ | with_reducible refine Upd.setAt ?_ ?_ | exact Or.inl rfl | exact Or.inr (by simp) | exact Or.inr (by omega))))).table; refine (Fl.leave_calls hT id ⟨by have := HI.out; omega, by have := HI.out; omega⟩ (by have := HO.out.g.lens; show s.tab.queue.length ≤ _; omega)).mono ?_; rintro e w2 ⟨rfl, Ft', hT2, hu2, hn2⟩; obtain ⟨F2, h2, t2⟩ := hput w2 _ Ft' hT2 hu2 hn2; have H2 := Asd.mk h2; have T2 := Asd.mk ((Tn.grow F1 (show Upd (fun _ => False) w1 w1.drew from (by repeat (first | assumption | with_reducible exact Upd.refl _ _ | with_reducible refine Upd.drewN ?_ _ | with_reducible refine Upd.drew ?_ | with_reducible refine Upd.alloc ?_ _ | with_reducible refine Upd.setAt ?_ ?_ | exact Or.inl rfl | exact Or.inr (by simp) | exact Or.inr (by omega))))).trans t2); have hg2 : get (wTab (Bk.set s id (cSt c 2)) (Fl.leave s.tab id)) id = some (cSt c 2) := get_set_same HG.out; obtain ⟨v2, hb3⟩ := h2.conn hg2; have HC2 := Asd.mk (And.intro (keepsC (o := 10) (v := .pointer (some ⟨L.tb, 0, none⟩)) h2.own rfl _ (Upd.refl _ _)) (keepsC (o := 0) (v := .int .i64 id) hb3 rfl _ (Upd.refl _ _))); clear hT hput hT2 hu2 hn2 h2 t2))
    refine hK.out _ _ (by exact HC2.out) (fun hHeld => ?_)
    clear hK K
    try simp only [Act.put, List.setIfInBounds_toArray, List.set_cons_zero, List.set_cons_succ]
    refine wpAnyH_done (by kernel_rfl) ?_ _
    have c0 := keepsC (o := 0) (v := .int .i64 id) hb3 rfl
    have hs2 : Upd (fun _ => False) w2 w2 := Upd.refl _ _
    have hit : Calls Tryz.prog 35 #[.int .i64 id] w2 (fun e w' => e = .returned (.string (S (Lib.itoa id))) ∧ w2 = w') := by
      rw [HI.out]
      exact (Tryz.strconv_Itoa_small i (by omega) w2).mono fun e w' ⟨he, hw⟩ => ⟨by rw [he]; unfold Lib.itoa; rw [if_neg (by omega)]; rfl, hw.symm⟩
    have HIT := Asd.mk hit
    have hlen : ¬ 9223372036854775807 < 5 + (Lib.itoa id).length := by
      have := Lib.itoa_length_le id (by have := HI.out; omega) (by have := HI.out; omega)
      omega
    have hcat : ({ data := #[108, 101, 102, 116, 32] } : ByteArray) ++ S (Lib.itoa id) = S (leftT id) := by
      show S [108, 101, 102, 116, 32] ++ S (Lib.itoa id) = _
      rw [S_append]
      rfl
    clear hb hb2 q10 b0 hb3 hit
    go_wp2_with fail
    refine HIT.out.mono ?_
    rintro e w' ⟨rfl, rfl⟩
    go_wp2_with fail
    refine (HT.out (fun e => ?_) w2 L _ F2 (note (leftT id)) H2.out HL.out ?_).mono ?_
    · have := HCN.out; have := HC.out; omega
    · have := HCN.out; have := HC.out
      show cnt (wTab (set s id (cSt c 2)) (Fl.leave s.tab id)) ≤ _
      omega
    rintro e w3 ⟨rfl, F3, h3, t3⟩
    go_wp2
    go_end0
    exact ⟨rfl, F3, h3, (T1.out.trans T2.out).trans t3⟩
  · rw [hlv.1 hst]
    clear hlv
    have hst1 : (c.st == 1) = false := beq_eq_false_iff_ne.2 hst
    clear hlost hcnt h ho hg h1 t1 ht hp
    go_enter Tryz.func69, Tryz.ntmps69
    go_wp2
    go_end0
    exact ⟨rfl, F1, H1.out, T1.out⟩
def MPost (m : M) (w : World) (e : Ending) (w' : World) : Prop := ∃ A c, e = .returned (.slice A (mb m).length c) ∧ Rd w' A (mb m).length (mb m) ∧ (mb m).length ≤ c ∧ c ≤ maxLen ∧ Upd (fun _ => False) w w'
theorem mput_calls (m : M) (w : World) : Calls Tryz.prog 21 #[.slice none 0 0, Vw.msgV m] w (MPost m w) := by
  cases hr : Mg.right m.k m.a m.b m.t.length with
  | true =>
    refine (MgPut.put_calls none 0 [] m.k m.a m.b m.t w hr (Rd.nil w _) (by simp)).mono fun e w' h => ?_
    have hm : mb m = MgPut.mbytes (UInt8.ofNat m.k.toNat) m.a.toNat m.b.toNat m.t := by unfold mb; rw [hr]; rfl
    rw [List.nil_append, ← hm] at h
    obtain ⟨A, c, G, he, ho, _, h1, h2, h3⟩ := h
    exact ⟨A, c, he, ho.rd, h1, h2, h3⟩
  | false =>
    have hm : mb m = [] := by unfold mb; rw [hr]; rfl
    refine (MgTwo.put_no (.slice none 0 0) m.k m.a m.b m.t w hr).mono fun e w' ⟨he, hu⟩ => ?_
    exact ⟨none, 0, by rw [hm]; exact he, by rw [hm]; exact Rd.nil _ _, by rw [hm]; exact Nat.le_refl _, by simp [maxLen], hu⟩
theorem mb_len (m : M) : (mb m).length ≤ 2053 := by
  unfold mb
  split
  · rename_i hr
    obtain ⟨hkn, htl, _⟩ := MgFr.right_nat m.k m.a m.b m.t.length hr
    have h1 := MgPut.room_for m.k
    obtain ⟨kind, hk⟩ := MgPut.kind_exists m.k hkn
    rw [hk] at h1 htl ⊢
    unfold MgPut.mbytes
    rw [show UInt8.ofNat ((kind.toNat : Int)).toNat = kind by simp, Fr.fbytes_length]
    have h2 : (MgNum.mbody (kind.toNat : Int) m.a.toNat m.b.toNat m.t).length ≤ 6 * Mg.nums (kind.toNat : Int) + m.t.length := by
      unfold MgNum.mbody
      rw [List.length_append, List.length_take]
      omega
    omega
  · simp
set_option maxHeartbeats 8000000 in
set_option maxRecDepth 100000 in
theorem send_gen (f : Nat) (lv : Br → Int → Br) (hl : LeaveC f lv) : SendC f lv := by
  intro w L s F id c m h ho hcnt hg
  unfold Vw.msgV
  obtain ⟨v, hb⟩ := h.conn hg
  have hplt : (L.cn id).p < w.heap.size := blk_lt hb
  have H := Asd.mk h
  have HO := Asd.mk ho
  have HC := Asd.mk hcnt
  have HG := Asd.mk hg
  have hk1 := (Upd.refl (fun _ => False) w).alloc (.cells #[.int .i64 m.k, .int .i64 m.a, .int .i64 m.b, .string (S m.t)] 36)
  have hm1 := heap_alloc_new w (.cells #[.int .i64 m.k, .int .i64 m.a, .int .i64 m.b, .string (S m.t)] 36)
  have hb1 := hk1.blk hb (fun h => h)
  have hs1 := Upd.refl (fun _ => False) (w.alloc (.cells #[.int .i64 m.k, .int .i64 m.a, .int .i64 m.b, .string (S m.t)] 36))
  have b1 := keepsC (o := 1) (v := .int .i64 c.st) hb1 rfl
  have b6 := keepsC (o := 6) (v := .pointer (some ⟨(L.cn id).po, 0, none⟩)) hb1 rfl
  have m0 := keepsC (o := 0) (v := .int .i64 m.k) hm1 rfl
  have m1 := keepsC (o := 1) (v := .int .i64 m.a) hm1 rfl
  have m2 := keepsC (o := 2) (v := .int .i64 m.b) hm1 rfl
  have m3 := keepsC (o := 3) (v := .string (S m.t)) hm1 rfl
  have HB1 := Asd.mk hb1
  have HM1 := Asd.mk hm1
  by_cases hst : c.st = 2
  · have hs : Asd (sendW lv s id m = s) := ⟨by unfold sendW; rw [hg]; simp only; rw [if_pos hst]⟩
    have hstb : (c.st != 2) = false := by rw [hst]; rfl
    rw [hs.out]
    clear h ho hcnt hg hb hb1 hm1 hst hl
    go_enter Tryz.func82, Tryz.ntmps82
    go_wp2
    refine wp_region_held_drew (S := fun W => Upd (fun _ => False) (w.alloc (.cells #[.int .i64 m.k, .int .i64 m.a, .int .i64 m.b, .string (S m.t)] 36)) W) (by kernel_rfl) (by exact (by repeat (first | assumption | with_reducible exact Upd.refl _ _ | with_reducible refine Upd.drewN ?_ _ | with_reducible refine Upd.drew ?_ | with_reducible refine Upd.alloc ?_ _ | with_reducible refine Upd.setAt ?_ ?_ | exact Or.inl rfl | exact Or.inr (by simp) | exact Or.inr (by omega)))) (fun hHeld => ?_)
    refine tk_ 0 ?_
    try simp only [Act.put, sl1_, sl2_, sl3_]
    refine tk_ 1 ?_
    try simp only [Act.put, sl1_, sl2_, sl3_]
    refine tk_ 2 ?_
    try simp only [Act.put, sl1_, sl2_, sl3_]
    refine tk_ 3 ?_
    try simp only [Act.put, sl1_, sl2_, sl3_]
    refine tk_ 4 ?_
    try simp only [Act.put, sl1_, sl2_, sl3_]
    refine tk_ 5 ?_
    try simp only [Act.put, sl1_, sl2_, sl3_]
    refine tu_ 6 ?_
    try simp only [Act.put, sl1_, sl2_, sl3_]
    refine tu_ 7 ?_
    try simp only [Act.put, sl1_, sl2_, sl3_]
    refine tu_ 8 ?_
    try simp only [Act.put, sl1_, sl2_, sl3_]
    refine tu_ 9 ?_
    try simp only [Act.put, sl1_, sl2_, sl3_]
    refine tu_ 10 ?_
    try simp only [Act.put, sl1_, sl2_, sl3_]
    refine tu_ 11 ?_
    try simp only [Act.put, sl1_, sl2_, sl3_]
    refine tu_ 12 ?_
    try simp only [Act.put, sl1_, sl2_, sl3_]
    refine tu_ 13 ?_
    try simp only [Act.put, sl1_, sl2_, sl3_]
    refine tk_ 14 ?_
    try simp only [Act.put, sl1_, sl2_, sl3_]
    refine wpAnyH_done (by kernel_rfl) ?_ _
    go_wp2
    go_end0
    exact ⟨rfl, F, H.out.up (hk1.drew), Tn.grow F hk1.drew⟩
  · have hstb : (c.st != 2) = true := bne_iff_ne.2 hst
    have hml := mb_len m
    clear h ho hcnt hg hb hb1 hm1
    generalize hw1 : w.alloc (.cells #[.int .i64 m.k, .int .i64 m.a, .int .i64 m.b, .string (S m.t)] 36) = w1 at hk1 hs1 b1 b6 m0 m1 m2 m3 HB1 HM1
    by_cases hfit : (c.out.length : Int) + (mb m).length ≤ s.cf.queue
    · have hs : Asd (sendW lv s id m = set s id (cOut c (c.out ++ mb m))) := ⟨by unfold sendW; rw [HG.out]; simp only; rw [if_neg hst, if_pos hfit]⟩
      rw [hs.out]
      clear hst hl hs
      go_enter Tryz.func82, Tryz.ntmps82
      go_wp2
      refine wp_region_held_drew (S := fun W => W.cell? ⟨(L.cn id).p, 1, none⟩ = some (.int .i64 c.st) ∧ W.cell? ⟨(L.cn id).p, 6, none⟩ = some (.pointer (some ⟨(L.cn id).po, 0, none⟩)) ∧ W.cell? ⟨w.heap.size, 0, none⟩ = some (.int .i64 m.k) ∧ W.cell? ⟨w.heap.size, 1, none⟩ = some (.int .i64 m.a) ∧ W.cell? ⟨w.heap.size, 2, none⟩ = some (.int .i64 m.b) ∧ W.cell? ⟨w.heap.size, 3, none⟩ = some (.string (S m.t))) (by kernel_rfl) (by exact ⟨b1 _ (by repeat (first | assumption | with_reducible exact Upd.refl _ _ | with_reducible refine Upd.drewN ?_ _ | with_reducible refine Upd.drew ?_ | with_reducible refine Upd.alloc ?_ _ | with_reducible refine Upd.setAt ?_ ?_ | exact Or.inl rfl | exact Or.inr (by simp) | exact Or.inr (by omega))), b6 _ (by repeat (first | assumption | with_reducible exact Upd.refl _ _ | with_reducible refine Upd.drewN ?_ _ | with_reducible refine Upd.drew ?_ | with_reducible refine Upd.alloc ?_ _ | with_reducible refine Upd.setAt ?_ ?_ | exact Or.inl rfl | exact Or.inr (by simp) | exact Or.inr (by omega))), m0 _ (by repeat (first | assumption | with_reducible exact Upd.refl _ _ | with_reducible refine Upd.drewN ?_ _ | with_reducible refine Upd.drew ?_ | with_reducible refine Upd.alloc ?_ _ | with_reducible refine Upd.setAt ?_ ?_ | exact Or.inl rfl | exact Or.inr (by simp) | exact Or.inr (by omega))), m1 _ (by repeat (first | assumption | with_reducible exact Upd.refl _ _ | with_reducible refine Upd.drewN ?_ _ | with_reducible refine Upd.drew ?_ | with_reducible refine Upd.alloc ?_ _ | with_reducible refine Upd.setAt ?_ ?_ | exact Or.inl rfl | exact Or.inr (by simp) | exact Or.inr (by omega))), m2 _ (by repeat (first | assumption | with_reducible exact Upd.refl _ _ | with_reducible refine Upd.drewN ?_ _ | with_reducible refine Upd.drew ?_ | with_reducible refine Upd.alloc ?_ _ | with_reducible refine Upd.setAt ?_ ?_ | exact Or.inl rfl | exact Or.inr (by simp) | exact Or.inr (by omega))), m3 _ (by repeat (first | assumption | with_reducible exact Upd.refl _ _ | with_reducible refine Upd.drewN ?_ _ | with_reducible refine Upd.drew ?_ | with_reducible refine Upd.alloc ?_ _ | with_reducible refine Upd.setAt ?_ ?_ | exact Or.inl rfl | exact Or.inr (by simp) | exact Or.inr (by omega)))⟩) (fun hHeld => ?_)
      refine tk_ 0 ?_
      try simp only [Act.put, sl1_, sl2_, sl3_]
      refine tk_ 1 ?_
      try simp only [Act.put, sl1_, sl2_, sl3_]
      refine tk_ 2 ?_
      try simp only [Act.put, sl1_, sl2_, sl3_]
      refine tk_ 3 ?_
      try simp only [Act.put, sl1_, sl2_, sl3_]
      refine tk_ 4 ?_
      try simp only [Act.put, sl1_, sl2_, sl3_]
      refine tk_ 5 ?_
      try simp only [Act.put, sl1_, sl2_, sl3_]
      refine tk_ 6 ?_
      try simp only [Act.put, sl1_, sl2_, sl3_]
      refine tk_ 7 ?_
      try simp only [Act.put, sl1_, sl2_, sl3_]
      refine tk_ 8 ?_
      try simp only [Act.put, sl1_, sl2_, sl3_]
      refine tk_ 9 ?_
      try simp only [Act.put, sl1_, sl2_, sl3_]
      refine tk_ 10 ?_
      try simp only [Act.put, sl1_, sl2_, sl3_]
      refine wpAnyH_ready (rs := [11]) (by kernel_rfl) (by simp) (AllReadyH.cons (o := ?_) ?_ (fun K hK => ?_) AllReadyH.nil)
      rotate_left 1
      · (simp only [List.getElem?_toArray, List.getElem?_cons_succ, List.getElem?_cons_zero]; exact rfl)
      (go_simp; (go_at_call 21; refine (mput_calls m _).mono ?_; rintro e w2 ⟨A, cp, rfl, hrd, hc1, hc2, hu2⟩; have h12 := (show Upd (fun _ => False) w1 w1.drew from (by repeat (first | assumption | with_reducible exact Upd.refl _ _ | with_reducible refine Upd.drewN ?_ _ | with_reducible refine Upd.drew ?_ | with_reducible refine Upd.alloc ?_ _ | with_reducible refine Upd.setAt ?_ ?_ | exact Or.inl rfl | exact Or.inr (by simp) | exact Or.inr (by omega)))).trans hu2 (fun _ _ h => h); have h02 := hk1.trans h12 (fun _ _ h => h); have HR := Asd.mk hrd; have HC1 := Asd.mk hc1; clear hrd hc1 hc2 hu2))
      refine hK.out _ _ (by exact ⟨b1 _ h12, b6 _ h12, m0 _ h12, m1 _ h12, m2 _ h12, m3 _ h12⟩) (fun hHeld => ?_)
      clear hK K
      try simp only [Act.put, List.setIfInBounds_toArray, List.set_cons_zero, List.set_cons_succ]
      refine wpAnyH_ready (rs := [12]) (by kernel_rfl) (by simp) (AllReadyH.cons (o := ?_) ?_ (fun K hK => ?_) AllReadyH.nil)
      rotate_left 1
      · (simp only [List.getElem?_toArray, List.getElem?_cons_succ, List.getElem?_cons_zero]; exact rfl)
      (go_simp; (go_at_call 106; obtain ⟨Fo, hq, hFo, hput⟩ := (H.out.up h02).out HG.out; refine (Oq.put_yes hq A (mb m).length cp (mb m) HR.out (by omega)).mono ?_; rintro e w3 ⟨rfl, Fo', hq', hu3, hn3⟩; obtain ⟨F3, h3, t3⟩ := hput w3 _ Fo' hq' hu3 hn3; have H3 := Asd.mk h3; have T3 := Asd.mk ((Tn.grow F h02).trans t3); obtain ⟨v3, hb3⟩ := h3.conn (get_set_same HG.out); have hm3 := hu3.blk (h12.blk HM1.out (fun h => h)) (fun hf => by have := H.out.bk.lt _ (hFo _ hf); omega); have HC3 := Asd.mk (And.intro (keepsC (o := 1) (v := .int .i64 c.st) hb3 rfl _ (Upd.refl _ _)) (And.intro (keepsC (o := 6) (v := .pointer (some ⟨(L.cn id).po, 0, none⟩)) hb3 rfl _ (Upd.refl _ _)) (And.intro (keepsC (o := 0) (v := .int .i64 m.k) hm3 rfl _ (Upd.refl _ _)) (And.intro (keepsC (o := 1) (v := .int .i64 m.a) hm3 rfl _ (Upd.refl _ _)) (And.intro (keepsC (o := 2) (v := .int .i64 m.b) hm3 rfl _ (Upd.refl _ _)) (keepsC (o := 3) (v := .string (S m.t)) hm3 rfl _ (Upd.refl _ _))))))); clear hq hFo hput hq' hu3 hn3 h3 t3 hb3 hm3))
      refine hK.out _ _ (by exact HC3.out) (fun hHeld => ?_)
      clear hK K
      try simp only [Act.put, List.setIfInBounds_toArray, List.set_cons_zero, List.set_cons_succ]
      refine tk_ 13 ?_
      try simp only [Act.put, sl1_, sl2_, sl3_]
      refine tk_ 14 ?_
      try simp only [Act.put, sl1_, sl2_, sl3_]
      refine wpAnyH_done (by kernel_rfl) ?_ _
      go_wp2
      go_end0
      exact ⟨rfl, F3, H3.out, T3.out⟩
    · have hs : Asd (sendW lv s id m = lv s id) := ⟨by unfold sendW; rw [HG.out]; simp only; rw [if_neg hst, if_neg hfit]⟩
      rw [hs.out]
      have HL := Asd.mk hl
      clear hst hl hs
      go_enter Tryz.func82, Tryz.ntmps82
      go_wp2
      refine wp_region_held_drew (S := fun W => W.cell? ⟨(L.cn id).p, 1, none⟩ = some (.int .i64 c.st) ∧ W.cell? ⟨(L.cn id).p, 6, none⟩ = some (.pointer (some ⟨(L.cn id).po, 0, none⟩)) ∧ W.cell? ⟨w.heap.size, 0, none⟩ = some (.int .i64 m.k) ∧ W.cell? ⟨w.heap.size, 1, none⟩ = some (.int .i64 m.a) ∧ W.cell? ⟨w.heap.size, 2, none⟩ = some (.int .i64 m.b) ∧ W.cell? ⟨w.heap.size, 3, none⟩ = some (.string (S m.t))) (by kernel_rfl) (by exact ⟨b1 _ (by repeat (first | assumption | with_reducible exact Upd.refl _ _ | with_reducible refine Upd.drewN ?_ _ | with_reducible refine Upd.drew ?_ | with_reducible refine Upd.alloc ?_ _ | with_reducible refine Upd.setAt ?_ ?_ | exact Or.inl rfl | exact Or.inr (by simp) | exact Or.inr (by omega))), b6 _ (by repeat (first | assumption | with_reducible exact Upd.refl _ _ | with_reducible refine Upd.drewN ?_ _ | with_reducible refine Upd.drew ?_ | with_reducible refine Upd.alloc ?_ _ | with_reducible refine Upd.setAt ?_ ?_ | exact Or.inl rfl | exact Or.inr (by simp) | exact Or.inr (by omega))), m0 _ (by repeat (first | assumption | with_reducible exact Upd.refl _ _ | with_reducible refine Upd.drewN ?_ _ | with_reducible refine Upd.drew ?_ | with_reducible refine Upd.alloc ?_ _ | with_reducible refine Upd.setAt ?_ ?_ | exact Or.inl rfl | exact Or.inr (by simp) | exact Or.inr (by omega))), m1 _ (by repeat (first | assumption | with_reducible exact Upd.refl _ _ | with_reducible refine Upd.drewN ?_ _ | with_reducible refine Upd.drew ?_ | with_reducible refine Upd.alloc ?_ _ | with_reducible refine Upd.setAt ?_ ?_ | exact Or.inl rfl | exact Or.inr (by simp) | exact Or.inr (by omega))), m2 _ (by repeat (first | assumption | with_reducible exact Upd.refl _ _ | with_reducible refine Upd.drewN ?_ _ | with_reducible refine Upd.drew ?_ | with_reducible refine Upd.alloc ?_ _ | with_reducible refine Upd.setAt ?_ ?_ | exact Or.inl rfl | exact Or.inr (by simp) | exact Or.inr (by omega))), m3 _ (by repeat (first | assumption | with_reducible exact Upd.refl _ _ | with_reducible refine Upd.drewN ?_ _ | with_reducible refine Upd.drew ?_ | with_reducible refine Upd.alloc ?_ _ | with_reducible refine Upd.setAt ?_ ?_ | exact Or.inl rfl | exact Or.inr (by simp) | exact Or.inr (by omega)))⟩) (fun hHeld => ?_)
      refine tk_ 0 ?_
      try simp only [Act.put, sl1_, sl2_, sl3_]
      refine tk_ 1 ?_
      try simp only [Act.put, sl1_, sl2_, sl3_]
      refine tk_ 2 ?_
      try simp only [Act.put, sl1_, sl2_, sl3_]
      refine tk_ 3 ?_
      try simp only [Act.put, sl1_, sl2_, sl3_]
      refine tk_ 4 ?_
      try simp only [Act.put, sl1_, sl2_, sl3_]
      refine tk_ 5 ?_
      try simp only [Act.put, sl1_, sl2_, sl3_]
      refine tk_ 6 ?_
      try simp only [Act.put, sl1_, sl2_, sl3_]
      refine tk_ 7 ?_
      try simp only [Act.put, sl1_, sl2_, sl3_]
      refine tk_ 8 ?_
      try simp only [Act.put, sl1_, sl2_, sl3_]
      refine tk_ 9 ?_
      try simp only [Act.put, sl1_, sl2_, sl3_]
      refine tk_ 10 ?_
      try simp only [Act.put, sl1_, sl2_, sl3_]
      refine wpAnyH_ready (rs := [11]) (by kernel_rfl) (by simp) (AllReadyH.cons (o := ?_) ?_ (fun K hK => ?_) AllReadyH.nil)
      rotate_left 1
      · (simp only [List.getElem?_toArray, List.getElem?_cons_succ, List.getElem?_cons_zero]; exact rfl)
      (go_simp; (go_at_call 21; refine (mput_calls m _).mono ?_; rintro e w2 ⟨A, cp, rfl, hrd, hc1, hc2, hu2⟩; have h12 := (show Upd (fun _ => False) w1 w1.drew from (by repeat (first | assumption | with_reducible exact Upd.refl _ _ | with_reducible refine Upd.drewN ?_ _ | with_reducible refine Upd.drew ?_ | with_reducible refine Upd.alloc ?_ _ | with_reducible refine Upd.setAt ?_ ?_ | exact Or.inl rfl | exact Or.inr (by simp) | exact Or.inr (by omega)))).trans hu2 (fun _ _ h => h); have h02 := hk1.trans h12 (fun _ _ h => h); have HR := Asd.mk hrd; have HC1 := Asd.mk hc1; clear hrd hc1 hc2 hu2))
      refine hK.out _ _ (by exact ⟨b1 _ h12, b6 _ h12, m0 _ h12, m1 _ h12, m2 _ h12, m3 _ h12⟩) (fun hHeld => ?_)
      clear hK K
      try simp only [Act.put, List.setIfInBounds_toArray, List.set_cons_zero, List.set_cons_succ]
      refine wpAnyH_ready (rs := [12]) (by kernel_rfl) (by simp) (AllReadyH.cons (o := ?_) ?_ (fun K hK => ?_) AllReadyH.nil)
      rotate_left 1
      · (simp only [List.getElem?_toArray, List.getElem?_cons_succ, List.getElem?_cons_zero]; exact rfl)
      (go_simp; (go_at_call 106; obtain ⟨Fo, hq, hFo, hput⟩ := (H.out.up h02).out HG.out; refine (Oq.put_no hq A (mb m).length cp (by omega)).mono ?_; rintro e w3 ⟨rfl, hd3⟩; have h13 := h12.trans (hd3.upd (fun _ => False)) (fun _ _ h => h); have h03 := hk1.trans h13 (fun _ _ h => h); clear hq hFo hput hd3))
      refine hK.out _ _ (by exact ⟨b1 _ h13, b6 _ h13, m0 _ h13, m1 _ h13, m2 _ h13, m3 _ h13⟩) (fun hHeld => ?_)
      clear hK K
      try simp only [Act.put, List.setIfInBounds_toArray, List.set_cons_zero, List.set_cons_succ]
      refine tk_ 13 ?_
      try simp only [Act.put, sl1_, sl2_, sl3_]
      refine tk_ 14 ?_
      try simp only [Act.put, sl1_, sl2_, sl3_]
      refine wpAnyH_done (by kernel_rfl) ?_ _
      go_wp2_with fail
      refine (HL.out w3 L s F id c (H.out.up h03) HO.out HC.out HG.out).mono ?_
      rintro e w4 ⟨rfl, F4, h4, t4⟩
      go_wp2
      go_end0
      exact ⟨rfl, F4, h4, (Tn.grow F h03).trans t4⟩
end Go.Proofs.YteepkanbiefpjaaGreatDoor.Bk
