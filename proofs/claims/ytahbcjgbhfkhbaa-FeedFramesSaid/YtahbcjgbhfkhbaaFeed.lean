/- Frames out of bytes that come by and by (package feed): what each of its functions comes to. -/
import Derived.Test.YtahbcjgbhfkhbaaFdMath
import Derived.Test.YtahbcjgbhfkhbaaK3
import Derived.WalkMore
import Derived.ScopeJumps
set_option linter.unusedVariables false
set_option linter.unusedSimpArgs false
namespace Go.Proofs.Ytahbcjgbhfkhbaa.Fee
open Go.RowKit K Crc Sm Fr FrMath LGet FdMath

theorem info32 : (Try.prog.info? 32).map (fun i => (i.zero, i.size, i.bytes)) = some (some (.agg #[.int .u8 0, .slice none 0 0]), 2, 32) := by kernel_rfl
/-- A frame as it lies in memory. -/
structure FRec where
  kind : UInt8
  A : Option Addr
  c : Nat
  body : List UInt8
def cells (x : FRec) : List Value := [.int .u8 (x.kind.toNat : Int), .slice x.A x.body.length x.c]
def cellsL (L : List FRec) : List Value := L.flatMap cells
def abs (L : List FRec) : List (UInt8 × List UInt8) := L.map fun x => (x.kind, x.body)
/-- Each body is there, in blocks of T. -/
def Frs (w : World) (T : Nat → Prop) (L : List FRec) : Prop := ∀ x ∈ L, Rd w x.A x.body.length x.body ∧ x.body.length ≤ x.c ∧ x.c ≤ maxLen ∧ ∀ ad, x.A = some ad → T ad.block
theorem cellsL_length (L : List FRec) : (cellsL L).length = L.length * 2 := by
  induction L with
  | nil => rfl
  | cons x L ih => simp only [cellsL, List.flatMap_cons, List.length_append, List.length_cons] at *; rw [ih]; simp [cells]; omega
theorem cellsL_append (L M : List FRec) : cellsL (L ++ M) = cellsL L ++ cellsL M := by simp [cellsL]
theorem cellsL_one (L : List FRec) : ∀ u ∈ cellsL L, u.oneCell' = true := by
  intro u hu
  simp only [cellsL, List.mem_flatMap] at hu
  obtain ⟨x, _, hx⟩ := hu
  simp only [cells, List.mem_cons, List.not_mem_nil, or_false] at hx
  rcases hx with rfl | rfl <;> rfl
theorem cellsL_at : ∀ (L : List FRec) (i : Nat) (h : i < L.length), (cellsL L)[i * 2]? = some (.int .u8 (L[i].kind.toNat : Int)) ∧ (cellsL L)[i * 2 + 1]? = some (.slice L[i].A L[i].body.length L[i].c)
  | x :: L, 0, _ => by simp [cellsL, cells]
  | x :: L, i + 1, h => by
    have := cellsL_at L i (by simpa using h)
    have e : cellsL (x :: L) = cells x ++ cellsL L := by simp [cellsL]
    rw [e, List.getElem?_append_right (by simp [cells]; omega), List.getElem?_append_right (by simp [cells]; omega)]
    have e1 : (i + 1) * 2 - (cells x).length = i * 2 := by simp [cells]; omega
    have e2 : (i + 1) * 2 + 1 - (cells x).length = i * 2 + 1 := by simp [cells]; omega
    rw [e1, e2]
    exact this
theorem abs_length (L : List FRec) : (abs L).length = L.length := by simp [abs]
theorem abs_append (L M : List FRec) : abs (L ++ M) = abs L ++ abs M := by simp [abs]
section
variable {w w1 : World} {T T1 S : Nat → Prop} {L M : List FRec}
theorem Frs.nil (w : World) (T : Nat → Prop) : Frs w T [] := fun _ h => by cases h
theorem Frs.upd (h : Frs w T L) (k : Upd S w w1) (hn : ∀ i, T i → ¬ S i) : Frs w1 T L := fun x hx => by
  obtain ⟨h1, h2, h3, h4⟩ := h x hx
  exact ⟨h1.upd k (fun ad e => hn _ (h4 ad e)), h2, h3, h4⟩
theorem Frs.up (h : Frs w T L) (k : Upd (fun _ => False) w w1) : Frs w1 T L := h.upd k (fun _ _ h => h)
theorem Frs.mono (h : Frs w T L) (hn : ∀ i, T i → T1 i) : Frs w T1 L := fun x hx => by
  obtain ⟨h1, h2, h3, h4⟩ := h x hx
  exact ⟨h1, h2, h3, fun ad e => hn _ (h4 ad e)⟩
theorem Frs.append (h : Frs w T L) (k : Frs w T M) : Frs w T (L ++ M) := fun x hx => (List.mem_append.1 hx).elim (h x) (k x)
end
/-- A row of frames that one owns. -/
def OwnF (w : World) (A : Option Addr) (c : Nat) (L : List FRec) (G : Option Nat) : Prop := Own w 32 2 (.slice A L.length c) L.length (cellsL L) G
section
variable {P : Program} {W : World} {o : Oper} {rest : List Oper} {ops : Array Oper} {Q : Exit → Act → World → Prop} {a : Act}
theorem wp_appendL (L M : List FRec) (G : Option Nat) (A0 : Option Addr) (c0 : Nat) (A : Option Addr) (c : Nat) (hgd : o.guard = none) (s x : Operand)
    (ho : o.op = .call { callee := .builtin .append, args := #[s, x], argTypes := #[47, 47] })
    (hs : a.eval s = .slice A0 L.length c0) (hx : a.eval x = .slice A M.length c) (HO : OwnF W A0 c0 L G) (HR : Row W A (cellsL M)) (hlim : L.length + M.length ≤ 4294967296)
    (h : ∀ A1 c1 w1 G1, (L ++ M).length ≤ c1 → c1 ≤ maxLen → OwnF w1 A1 c1 (L ++ M) G1 → Upd (fun k => some k = G) W w1 → (G1 = G ∨ ∃ g, G1 = some g ∧ W.heap.size ≤ g ∧ g < w1.heap.size) → wpList Try.prog ops Q rest (a.put o.dst (.slice A1 (L ++ M).length c1)) w1) :
    Stop (wpList Try.prog ops Q (o :: rest) a W) := by
  refine wp_append hgd s x 47 32 (.agg #[.int .u8 0, .slice none 0 0]) 2 32 ho Try.underlying47 info32 rfl (by omega) _ L.length (cellsL L) G A M.length c (cellsL M) hs hx HO HR (cellsL_length M) (cellsL_one M) (by simp only [maxLen]; omega) (by omega) ?_
  intro v1 w1 G1 hO hU hG
  rw [← cellsL_append, ← List.length_append] at hO
  obtain ⟨A1, c1, rfl, h1, h2, _, _⟩ := hO.slice
  exact h A1 c1 w1 G1 h1 h2 hO hU hG
end

/-- A feed at block q: the bytes that are no whole frame yet, and by what it is broken; F: the blocks that are its own. -/
def Feed (w : World) (q : Nat) (buf : List UInt8) (e : Int) (F : Nat → Prop) : Prop :=
  ∃ A c G, w.heap[q]? = some (.cells #[.slice A buf.length c, .int .i64 e] 67 (0, 0)) ∧ Own w 5 1 (.slice A buf.length c) buf.length (B buf) G ∧ some q ≠ G ∧ ∀ k, F k ↔ k = q ∨ some k = G
section
variable {w w1 : World} {q : Nat} {buf : List UInt8} {e : Int} {F S : Nat → Prop}
theorem Feed.upd (h : Feed w q buf e F) (k : Upd S w w1) (hn : ∀ i, F i → ¬ S i) : Feed w1 q buf e F := by
  obtain ⟨A, c, G, hb, ho, hne, hF⟩ := h
  exact ⟨A, c, G, k.blk hb (hn q ((hF q).2 (.inl rfl))), ho.upd k (fun g e => hn g ((hF g).2 (.inr e.symm))), hne, hF⟩
theorem Feed.up (h : Feed w q buf e F) (k : Upd (fun _ => False) w w1) : Feed w1 q buf e F := h.upd k (fun _ _ h => h)
theorem Feed.lt (h : Feed w q buf e F) : ∀ k, F k → k < w.heap.size := by
  obtain ⟨A, c, G, hb, ho, hne, hF⟩ := h
  intro k hk
  rcases (hF k).1 hk with rfl | e
  · exact blk_lt hb
  · exact ho.lt k e.symm
theorem Feed.cells (h : Feed w q buf e F) : ∃ A c, w.cell? ⟨q, 0, none⟩ = some (.slice A buf.length c) ∧ w.cell? ⟨q, 1, none⟩ = some (.int .i64 e) := by
  obtain ⟨A, c, G, hb, ho, hne, hF⟩ := h
  exact ⟨A, c, by simp [World.cell?, hb], by simp [World.cell?, hb]⟩
end
def NewPost (w : World) (e : Ending) (w' : World) : Prop := ∃ q F, e = .returned (.pointer (some ⟨q, 0, none⟩)) ∧ Feed w' q [] 0 F ∧ Upd (fun _ => False) w w' ∧ ∀ k, F k → w.heap.size ≤ k
set_option maxHeartbeats 400000 in
theorem new_calls (w : World) : Calls Try.prog 26 #[] w (NewPost w) := by
  go_enter Try.func26, Try.ntmps26
  go_wp2
  go_ret
  exact ⟨w.heap.size, fun k => k = w.heap.size, rfl, ⟨none, 0, none, heap_alloc_new w _, Own.nil _ _ _, by simp, by simp⟩, (Upd.refl _ _).alloc _, fun k hk => by rw [hk]; exact Nat.le_refl _⟩
section
variable {w : World} {q : Nat} {buf : List UInt8} {e : Int} {F : Nat → Prop}
set_option maxHeartbeats 400000 in
theorem len_calls (h : Feed w q buf e F) : Calls Try.prog 29 #[.pointer (some ⟨q, 0, none⟩)] w fun e w' => e = .returned (.int .i64 (buf.length : Int)) ∧ w = w' := by
  obtain ⟨A, c, h0, h1⟩ := h.cells
  clear h
  go_enter Try.func29, Try.ntmps29
  go_wp2
  go_ret
  exact ⟨rfl, rfl⟩
set_option maxHeartbeats 400000 in
theorem err_calls (h : Feed w q buf e F) : Calls Try.prog 28 #[.pointer (some ⟨q, 0, none⟩)] w fun e' w' => e' = .returned (.int .i64 e) ∧ w = w' := by
  obtain ⟨A, c, h0, h1⟩ := h.cells
  clear h
  go_enter Try.func28, Try.ntmps28
  go_wp2
  go_ret
  exact ⟨rfl, rfl⟩
end
/-- What is told of bytes that come: the frames that are whole then, new memory; the feed has what is left. -/
def PushPost (q : Nat) (r : List (UInt8 × List UInt8) × List UInt8 × Int) (F : Nat → Prop) (w : World) (e : Ending) (w' : World) : Prop :=
  ∃ A c L G F', e = .returned (.slice A L.length c) ∧ abs L = r.1 ∧ L.length ≤ c ∧ c ≤ maxLen ∧ OwnF w' A c L G ∧ Frs w' (fun k => w.heap.size ≤ k ∧ k < w'.heap.size ∧ ¬ F' k) L ∧ Feed w' q r.2.1 r.2.2 F' ∧ Upd F w w' ∧ (∀ k, F' k → F k ∨ w.heap.size ≤ k) ∧ (∀ g, G = some g → w.heap.size ≤ g ∧ ¬ F' g)
section
variable {w : World} {q : Nat} {buf : List UInt8} {e : Int} {F : Nat → Prop}
set_option maxHeartbeats 400000 in
theorem push_dead (h : Feed w q [] e F) (he : e ≠ 0) (A : Option Addr) (n c : Nat) :
    Calls Try.prog 27 #[.pointer (some ⟨q, 0, none⟩), .slice A n c] w (PushPost q ([], [], e) F w) := by
  have H := Asd.mk h
  obtain ⟨A0, c0, h0, h1⟩ := h.cells
  clear h
  have he2 : (e == 0) = false := beq_eq_false_iff_ne.2 he
  go_enter Try.func27, Try.ntmps27
  go_wp2
  go_step3
  go_wp2
  rw [Exit.noGoto_ret]
  go_ret
  exact ⟨none, 0, [], none, F, rfl, rfl, Nat.le_refl _, (by simp [maxLen]), Own.nil _ _ _, Frs.nil _ _, H.out, Upd.refl _ _, fun k h => .inl h, fun g e => by cases e⟩
end
/-- What holds at the label: the frames told so far lie in the row, the feed has what is left. -/
def Inv (w : World) (q : Nat) (F : Nat → Prop) (V : Value) (target : List (UInt8 × List UInt8) × List UInt8 × Int) (N : Nat) (a' : Act) (w' : World) : Prop :=
  ∃ (A5 : Option Addr) (c5 : Nat) (L : List FRec) (G5 : Option Nat) (rest : List UInt8) (F' : Nat → Prop), (∃ u2 u3 u6 u7 u8 u9 u10 u11 u12 u13 u14 u15 u16 u17 u18 u19 u20 u21 u22 u23 u24 u25 u26 u27 u28 u29 u30 u31 u32 u33 u34 u35 u36 u37 u38 u39 u40 u41 u42 u43 u44 u45 u46 u47 u48 u49 u50 u51 u52 u53 u54 u55 u56 : Value, a' = { tmps := #[.pointer (some ⟨q, 0, none⟩), V, u2, u3, .slice none 0 0, .slice A5 L.length c5, u6, u7, u8, u9, u10, u11, u12, u13, u14, u15, u16, u17, u18, u19, u20, u21, u22, u23, u24, u25, u26, u27, u28, u29, u30, u31, u32, u33, u34, u35, u36, u37, u38, u39, u40, u41, u42, u43, u44, u45, u46, u47, u48, u49, u50, u51, u52, u53, u54, u55, u56], defers := [] }) ∧ L.length ≤ c5 ∧ c5 ≤ maxLen ∧ L.length + rest.length ≤ N ∧ OwnF w' A5 c5 L G5 ∧ Frs w' (fun k => w.heap.size ≤ k ∧ k < w'.heap.size ∧ ¬ F' k ∧ some k ≠ G5) L ∧ Feed w' q rest 0 F' ∧ (abs L ++ (all rest).1, (all rest).2) = target ∧ Upd F w w' ∧ (∀ k, F' k → F k ∨ w.heap.size ≤ k) ∧ (∀ g, G5 = some g → w.heap.size ≤ g ∧ ¬ F' g)
def left (q : Nat) (w : World) : Nat := match w.cell? ⟨q, 0, none⟩ with | some (.slice _ n _) => n | _ => 0
theorem Row.litg (w : World) (g : Nat) (hg : g = w.heap.size) (e : TypeId) (C : Array Value) : Row (w.alloc (.cells C e)) (some ⟨g, 0, none⟩) C.toList := by
  subst hg
  intro j u hj
  have hh := heap_alloc_new w (.cells C e)
  exact ⟨_, rfl, by rw [add_lit]; simp only [World.cell?, hh]; simpa using hj⟩
section
variable {w : World} {q : Nat} {buf : List UInt8} {F : Nat → Prop}
set_option maxHeartbeats 4000000 in
set_option maxRecDepth 100000 in
theorem push_live (h : Feed w q buf 0 F) (A : Option Addr) (n c : Nat) (b : List UInt8) (hr : Rd w A n b) (hN : buf.length + n ≤ 1073741824) :
    Calls Try.prog 27 #[.pointer (some ⟨q, 0, none⟩), .slice A n c] w (PushPost q (all (buf ++ b)) F w) := by
  have hF := h.lt
  have HFl := Asd.mk hF
  have H := Asd.mk h
  have HRb := Asd.mk hr
  clear h hr hF
  go_enter Try.func27, Try.ntmps27
  go_wp2
  refine wp_scope_jumps 0 (Inv w q F (.slice A n c) (all (buf ++ b)) (buf.length + n)) (fun _ w' => left q w') rfl ?_ ?_
  · obtain ⟨A0, c0, G, hb, ho, hne, hF⟩ := H.out
    have hq0 : w.cell? ⟨q, 0, none⟩ = some (.slice A0 buf.length c0) := by simp [World.cell?, hb]
    have hq1 : w.cell? ⟨q, 1, none⟩ = some (.int .i64 0) := by simp [World.cell?, hb]
    have HB := Asd.mk hb
    have HO := Asd.mk ho
    have HN := Asd.mk hne
    have HFi := Asd.mk hF
    clear hb ho hne hF
    go_wp2_with (first | (with_reducible refine stop_append _ _ _ _ rfl ?_) | (with_reducible refine stop_copy _ _ _ _ rfl ?_) | (with_reducible refine stop_make _ _ _ rfl ?_) | (with_reducible refine stop_conv 23 9 _ rfl ?_))
    refine wp_appendB (buf.length + n) 5 buf b G A0 buf.length c0 A n c rfl _ _ 23 rfl Try.underlying23 info8 rfl rfl HO.out HRb.out rfl (by omega) ?_
    intro A2 c2 w2 G2 hc2 hm2 hO hU hg
    have hb2 := hU.blk HB.out HN.out
    have hq0 : w2.cell? ⟨q, 0, none⟩ = some (.slice A0 buf.length c0) := by simp [World.cell?, hb2]
    have hfz : w2.frozen? ⟨q, 0, none⟩ = false := by simp [World.frozen?, hb2]
    have HB2 := Asd.mk hb2
    have HO2 := Asd.mk hO
    have HU2 := Asd.mk hU
    have HG2 := Asd.mk hg
    clear hb2 hO hU hg HO hq1
    go_wp2
    go_step3
    have hlen : (buf ++ b).length = buf.length + n := by rw [List.length_append, HRb.out.len]
    have hsc := (Upd.refl (fun k => k = q) w2).setCell (p := ⟨q, 0, none⟩) (fun _ => rfl) (.slice A2 (buf.length + n) c2)
    have hbq := blk_setCell (o := 0) HB2.out (.slice A2 (buf.length + n) c2)
    have hnG : some q ≠ G2 := by
      rcases HG2.out with e | ⟨g, e, h5, _⟩
      · rw [e]; exact HN.out
      · rw [e]
        intro e2
        obtain rfl := Option.some.inj e2
        have := blk_lt HB.out
        omega
    have HFd : Asd (Feed (w2.setCell ⟨q, 0, none⟩ (.slice A2 (buf.length + n) c2)) q (buf ++ b) 0 (fun k => k = q ∨ some k = G2)) := ⟨A2, c2, G2, by rw [hlen]; exact hbq, by rw [hlen]; exact HO2.out.upd hsc (fun g e e2 => hnG (by rw [e, e2])), hnG, fun k => Iff.rfl⟩
    have HU : Asd (Upd F w (w2.setCell ⟨q, 0, none⟩ (.slice A2 (buf.length + n) c2))) := ⟨(HU2.out.mono (T := F) (fun i _ e => (HFi.out i).2 (.inr e))).setCell (fun _ => (HFi.out q).2 (.inl rfl)) _⟩
    have HFold : Asd (∀ k, (k = q ∨ some k = G2) → F k ∨ w.heap.size ≤ k) := ⟨fun k hk => by
      rcases hk with rfl | e
      · exact .inl ((HFi.out k).2 (.inl rfl))
      · rcases HG2.out with e2 | ⟨g, e2, h5, _⟩
        · exact .inl ((HFi.out k).2 (.inr (e.trans e2)))
        · rw [e2] at e
          obtain rfl := Option.some.inj e
          exact .inr h5⟩
    obtain ⟨F', hF'⟩ : ∃ F' : Nat → Prop, F' = (fun k => k = q ∨ some k = G2) := ⟨_, rfl⟩
    have HF : Asd (∀ k, F' k → F k ∨ w.heap.size ≤ k) := ⟨by rw [hF']; exact HFold.out⟩
    rw [← hF'] at HFd
    clear hF' HFold hsc hbq hnG HB HFi HB2 HO2 HU2 HG2 HN hq0 hfz
    rw [← hlen] at HFd HU ⊢
    obtain ⟨rest, hrest⟩ : ∃ rest, rest = buf ++ b := ⟨_, rfl⟩
    rw [← hrest] at HFd HU hlen
    rw [show (buf ++ b).length = rest.length by rw [hrest]]
    obtain ⟨W, hW⟩ : ∃ W, W = w2.setCell ⟨q, 0, none⟩ (.slice A2 rest.length c2) := ⟨_, rfl⟩
    rw [← hW] at HFd HU ⊢
    clear hW
    have hlc : ([] : List FRec).length ≤ 0 := Nat.le_refl _
    have hm5 : 0 ≤ maxLen := Nat.zero_le _
    have hlen1 : ([] : List FRec).length + rest.length ≤ buf.length + n := by simp only [List.length_nil]; omega
    clear hlen
    have hlen := hlen1
    clear hlen1
    have HOL : Asd (OwnF W none 0 [] none) := ⟨Own.nil _ _ _⟩
    have HFr : Asd (Frs W (fun k => w.heap.size ≤ k ∧ k < W.heap.size ∧ ¬ F' k ∧ some k ≠ (none : Option Nat)) []) := ⟨Frs.nil _ _⟩
    have HT : Asd ((abs [] ++ (all rest).1, (all rest).2) = all (buf ++ b)) := ⟨by rw [hrest]; rfl⟩
    have HG : Asd (∀ g, (none : Option Nat) = some g → w.heap.size ≤ g ∧ ¬ F' g) := ⟨fun g e => by cases e⟩
    clear hrest
    obtain ⟨A0, c0, G, hb, ho, hne, hF⟩ := HFd.out
    have HLt := Asd.mk HFd.out.lt
    have hq0 : W.cell? ⟨q, 0, none⟩ = some (.slice A0 rest.length c0) := by simp [World.cell?, hb]
    have HQ0 := Asd.mk hq0
    obtain ⟨_, _, hv, hc0, hm0, _, _⟩ := ho.slice
    injection hv with e1 e2 e3
    subst e1; subst e3
    have HB := Asd.mk hb
    have HO := Asd.mk ho
    have HFq : Asd (F' q) := ⟨(hF q).2 (.inl rfl)⟩
    have HFG : Asd (∀ g, G = some g → F' g) := ⟨fun g e => (hF g).2 (.inr e.symm)⟩
    have HN := Asd.mk hne
    have HFi := Asd.mk hF
    clear hb ho hne hF
    go_wp2_with fail
    refine (get_calls A0 rest.length c0 rest _ HO.out.rd hc0).mono ?_
    have hcs := fget_cases rest
    have HAok := Asd.mk (fun h => all_ok rest h)
    have HA5 := Asd.mk (fun h => all_short rest h)
    have HAb := Asd.mk (fun h => all_bad rest h)
    have herr := fget_err rest
    obtain ⟨⟨kind, body, nn, er⟩, hr⟩ : ∃ r, r = fget rest := ⟨_, rfl⟩
    rw [← hr] at hcs herr HAok HA5 HAb
    rw [← hr]
    clear hr
    simp only at hcs herr HAok HA5 HAb
    rintro e w2 ⟨A2, c2, G2, rfl, ho2, hg2, hc2, hm2, hu2⟩
    simp only at ho2 hc2 hg2
    have hb2 := hu2.blk HB.out (fun h => h)
    have HB2 := Asd.mk hb2
    have HO2 := Asd.mk (HO.out.upd hu2 (fun _ _ h => h))
    have HX2 : Asd (Frs w2 (fun k => W.heap.size ≤ k ∧ k < w2.heap.size) [⟨kind, A2, c2, body⟩]) := ⟨fun x hx => by
      obtain rfl := List.mem_singleton.1 hx
      refine ⟨ho2.rd, hc2, hm2, fun ad e => ?_⟩
      obtain ⟨_, _, hv, _, _, _, hG⟩ := ho2.slice
      injection hv with e1 e2 e3
      subst e1
      have hG := hG ad e
      exact ⟨hg2 _ hG, ho2.lt _ hG⟩⟩
    have HU2 := Asd.mk hu2
    have HOL2 := Asd.mk (Own.upd HOL.out hu2 (fun _ _ h => h))
    have HGlt := Asd.mk (Own.lt HOL.out)
    clear hb2 ho2 hg2 hu2 HB HO hq0
    by_cases h0 : er = 0
    · subst h0
      have hnn : 5 ≤ nn ∧ nn ≤ rest.length := by
        rcases hcs with ⟨_, h1, h2, _⟩ | e | e | e
        · exact ⟨by omega, h2⟩
        all_goals (simp at e)
      obtain ⟨hn1, hn2⟩ := hnn
      have HA := Asd.mk (HAok.out rfl)
      clear HAok HA5 HAb hcs herr
      go_wp2_with (first | (with_reducible refine stop_append _ _ _ _ rfl ?_) | (with_reducible refine stop_copy _ _ _ _ rfl ?_) | (with_reducible refine stop_make _ _ _ rfl ?_) | (with_reducible refine stop_conv 23 9 _ rfl ?_))
      refine wp_appendL ([] : List FRec) [⟨kind, A2, c2, body⟩] none none 0 (some ⟨w2.heap.size + 1, 0, none⟩) 1 rfl _ _ rfl rfl rfl (Own.upd HOL2.out (((Upd.refl (fun _ => False) _).alloc _).alloc _) (fun _ _ h => h)) (Row.litg (w2.alloc _) _ (by simp) _ _) (by simp only [List.length_cons, List.length_nil]; omega) ?_
      intro A3 c3 w3 G3 hc3 hm3 hO3 hU3 hg3
      have hqG : ¬ some q = none := fun e => (HG.out q e.symm).2 HFq.out
      have hGG : ∀ g, G = some g → ¬ some g = none := fun g e e2 => (HG.out g e2.symm).2 (HFG.out g e)
      have hV := ((Upd.refl (fun _ => False) w2).alloc (.cells #[.int .u8 (kind.toNat : Int), .slice A2 body.length c2] 32)).alloc (.cells #[.int .u8 (kind.toNat : Int), .slice A2 body.length c2] 32)
      have hb3 := hU3.blk (hV.blk HB2.out (fun h => h)) hqG
      have hq3 : w3.cell? ⟨q, 0, none⟩ = some (.slice A0 rest.length c0) := by simp [World.cell?, hb3]
      have hz3 : w3.frozen? ⟨q, 0, none⟩ = false := by simp [World.frozen?, hb3]
      have HO3 := Asd.mk ((HO2.out.upd hV (fun _ _ h => h)).upd hU3 hGG)
      have HOL3 := Asd.mk hO3
      have HB3 := Asd.mk hb3
      obtain ⟨L3, hL3⟩ : ∃ L3, L3 = ([] : List FRec) ++ [⟨kind, A2, c2, body⟩] := ⟨_, rfl⟩
      rw [← hL3] at hc3 HOL3
      rw [← hL3]
      have hl3 := Asd.mk (show L3.length = ([] : List FRec).length + 1 by rw [hL3, List.length_append]; rfl)
      have hs2 := HU2.out.size
      have hs3 := hU3.size
      have hsV : w2.heap.size + 2 ≤ w3.heap.size := by simpa using hs3
      have HG3 : Asd (∀ g, G3 = some g → (none = some g ∨ (w2.heap.size ≤ g ∧ g < w3.heap.size))) := ⟨fun g e => by
        rcases hg3 with e2 | ⟨g', e2, h5, h6⟩
        · exact .inl (e2 ▸ e)
        · rw [e2] at e; obtain rfl := Option.some.inj e; exact .inr ⟨by simp at h5; omega, h6⟩⟩
      have HU3 : Asd (Upd (fun k => some k = none) W w3) := ⟨((HU2.out.trans hV (fun _ _ h => h)).mono (fun _ _ h => h.elim)).trans hU3 (fun _ _ h => h)⟩
      have HFr3 : Asd (Frs w3 (fun k => w.heap.size ≤ k ∧ k < w3.heap.size ∧ ¬ F' k ∧ some k ≠ G3) L3) := ⟨by
        rw [hL3]
        refine Frs.append (Frs.mono (T := fun k => w.heap.size ≤ k ∧ k < W.heap.size ∧ ¬ F' k ∧ some k ≠ none) (HFr.out.upd HU3.out (fun i h1 h2 => h1.2.2.2 h2)) ?_) (Frs.mono (T := fun k => W.heap.size ≤ k ∧ k < w2.heap.size) ((HX2.out.up hV).upd hU3 (fun i h1 h2 => by have := HGlt.out i h2.symm; omega)) ?_)
        · rintro k ⟨h1, h2, h3, h4⟩
          exact ⟨h1, by omega, h3, fun e => (HG3.out k e.symm).elim (fun e => h4 e.symm) (fun e => by omega)⟩
        · rintro k ⟨h1, h2⟩
          have := HU.out.size
          exact ⟨by omega, by omega, fun h => by have := HLt.out k h; omega, fun e => (HG3.out k e.symm).elim (fun e => by have := HGlt.out k e; omega) (fun e => by omega)⟩⟩
      have HT3 : Asd ((abs L3 ++ (all (rest.drop nn)).1, (all (rest.drop nn)).2) = all (buf ++ b)) := ⟨by rw [← HT.out, HA.out, hL3, abs_append, List.append_assoc]; rfl⟩
      clear hO3 hU3 hg3 hb3 hqG hGG hV hL3 HO2 HB2 HOL2 HX2 HU2 hs3 HT HA HFr
      obtain ⟨A6, hcut, hown, _, _⟩ := cut_from' (P := Try.prog) 23 5 .i64 (sz := 1) Try.underlying23 (by kernel_rfl) A0 rest.length c0 nn nn rfl hn2 hc0
      have ho6 := hown _ _ _ HO3.out
      rw [Nat.mul_one, ← B_drop] at ho6
      have HO6 := Asd.mk ho6
      clear ho6 hown HO3
      go_wp2
      go_step3
      have hsc := (Upd.refl (fun k => k = q) w3).setCell (p := ⟨q, 0, none⟩) (fun _ => rfl) (.slice A6 (rest.length - nn) (c0 - nn))
      have hbq := blk_setCell (o := 0) HB3.out (.slice A6 (rest.length - nn) (c0 - nn))
      have hq3G : ∀ g, G3 = some g → ¬ g = q := fun g e e2 => by
        subst e2
        rcases HG3.out g e with e | e
        · exact (HG.out g e).2 HFq.out
        · have := HLt.out g HFq.out; omega
      refine ⟨rfl, ⟨A3, c3, L3, G3, rest.drop nn, F', ⟨_, _, _, _, _, _, _, _, _, _, _, _, _, _, _, _, _, _, _, _, _, _, _, _, _, _, _, _, _, _, _, _, _, _, _, _, _, _, _, _, _, _, _, _, _, _, _, _, _, _, _, _, _, rfl⟩, hc3, hm3, by have := hl3.out; rw [List.length_drop]; omega, ?_, ?_, ?_, HT3.out, ?_, HF.out, ?_⟩⟩
      · exact Own.upd HOL3.out hsc hq3G
      · refine Frs.mono (HFr3.out.upd hsc (fun i h1 h2 => h1.2.2.1 (by rw [h2]; exact HFq.out))) ?_
        rintro k ⟨h1, h2, h3, h4⟩
        exact ⟨h1, Nat.lt_of_lt_of_le h2 hsc.size, h3, h4⟩
      · exact ⟨A6, c0 - nn, G, by rw [List.length_drop]; exact hbq, by rw [List.length_drop]; exact HO6.out.upd hsc (fun g e e2 => HN.out (by rw [e, e2])), HN.out, HFi.out⟩
      · refine (HU.out.trans HU3.out (fun i hi h => absurd ((HG.out i h.symm).1) (by omega))).setCell (fun h => (HF.out q HFq.out).resolve_right (by simp at h; omega)) _
      · intro g e
        have := HU.out.size
        rcases HG3.out g e with e | e
        · exact HG.out g e
        · exact ⟨by omega, fun h => by have := HLt.out g h; omega⟩
      skip
    · have h0b : (er == 0) = false := beq_eq_false_iff_ne.2 h0
      by_cases h5 : er = 5
      · subst h5
        have HA := Asd.mk (HA5.out rfl)
        clear HAok HA5 HAb hcs herr
        go_wp2
        simp only [Exit.jump]
        go_ret
        have hV := (Upd.refl (fun _ => False) w2).alloc (.cells #[.int .u8 (kind.toNat : Int), .slice A2 body.length c2] 32)
        have hU := HU2.out.trans hV (fun _ _ h => h)
        have hs := hU.size
        have hT := HT.out
        rw [HA.out] at hT
        rw [← hT]
        refine ⟨none, 0, ([] : List FRec), none, F', rfl, (List.append_nil _).symm, hlc, hm5, Own.upd HOL2.out hV (fun _ _ h => h), Frs.mono (HFr.out.up hU) ?_, HFd.out.up hU, HU.out.trans (hU.mono (T := F) (fun _ _ h => h.elim)) (fun _ _ h => h), HF.out, HG.out⟩
        rintro k ⟨h1, h2, h3, h4⟩
        exact ⟨h1, by omega, h3⟩
      · have h5b : (er == 5) = false := beq_eq_false_iff_ne.2 h5
        have HA := Asd.mk (HAb.out h0 h5)
        clear HAok HA5 HAb hcs herr
        have hV := (Upd.refl (fun _ => False) w2).alloc (.cells #[.int .u8 (kind.toNat : Int), .slice A2 body.length c2] 32)
        have hb3 := hV.blk HB2.out (fun h => h)
        have hq3 : (w2.alloc (.cells #[.int .u8 (kind.toNat : Int), .slice A2 body.length c2] 32)).cell? ⟨q, 1, none⟩ = some (.int .i64 0) := by simp [World.cell?, hb3]
        have hz3 : (w2.alloc (.cells #[.int .u8 (kind.toNat : Int), .slice A2 body.length c2] 32)).frozen? ⟨q, 1, none⟩ = false := by simp [World.frozen?, hb3]
        have hb4 := blk_setCell (o := 1) hb3 (.int .i64 er)
        have hq4 : ((w2.alloc (.cells #[.int .u8 (kind.toNat : Int), .slice A2 body.length c2] 32)).setCell ⟨q, 1, none⟩ (.int .i64 er)).cell? ⟨q, 0, none⟩ = some (.slice A0 rest.length c0) := by simp [World.cell?, hb4]
        have hz4 : ((w2.alloc (.cells #[.int .u8 (kind.toNat : Int), .slice A2 body.length c2] 32)).setCell ⟨q, 1, none⟩ (.int .i64 er)).frozen? ⟨q, 0, none⟩ = false := by simp [World.frozen?, hb4]
        have HB4 := Asd.mk hb4
        clear hb3 hb4
        go_wp2
        simp only [Exit.jump]
        go_ret
        have hb5 := blk_setCell (o := 0) HB4.out (.slice none 0 0)
        have hU : Upd (fun k => k = q) W (((w2.alloc (.cells #[.int .u8 (kind.toNat : Int), .slice A2 body.length c2] 32)).setCell ⟨q, 1, none⟩ (.int .i64 er)).setCell ⟨q, 0, none⟩ (.slice none 0 0)) := (((HU2.out.trans hV (fun _ _ h => h)).mono (T := fun k => k = q) (fun _ _ h => h.elim)).setCell (p := ⟨q, 1, none⟩) (fun _ => rfl) _).setCell (p := ⟨q, 0, none⟩) (fun _ => rfl) _
        have hs := hU.size
        have hT := HT.out
        rw [HA.out] at hT
        rw [← hT]
        refine ⟨none, 0, ([] : List FRec), none, fun k => k = q, rfl, (List.append_nil _).symm, hlc, hm5, Own.upd HOL.out hU (fun g e e2 => (HG.out g e).2 (by rw [e2]; exact HFq.out)), Frs.mono (HFr.out.upd hU (fun i h1 h2 => h1.2.2.1 (by rw [h2]; exact HFq.out))) ?_, ⟨none, 0, none, hb5, Own.nil _ _ _, by simp, by simp⟩, HU.out.trans hU (fun i hi h => (HF.out i (by rw [h]; exact HFq.out)).resolve_right (by omega)), ?_, ?_⟩
        · rintro k ⟨h1, h2, h3, h4⟩
          exact ⟨h1, by omega, fun e => h3 (by rw [e]; exact HFq.out)⟩
        · rintro k rfl
          exact HF.out k HFq.out
        · intro g e
          exact ⟨(HG.out g e).1, fun h => (HG.out g e).2 (by rw [h]; exact HFq.out)⟩
  · rintro a' W ⟨A5, c5, L, G5, rest, F', ⟨u2, u3, u6, u7, u8, u9, u10, u11, u12, u13, u14, u15, u16, u17, u18, u19, u20, u21, u22, u23, u24, u25, u26, u27, u28, u29, u30, u31, u32, u33, u34, u35, u36, u37, u38, u39, u40, u41, u42, u43, u44, u45, u46, u47, u48, u49, u50, u51, u52, u53, u54, u55, u56, rfl⟩, hlc, hm5, hlen, hol, hfr, hfd, htg, hu, hf, hg⟩
    have HOL := Asd.mk hol
    have HFr := Asd.mk hfr
    have HFd := Asd.mk hfd
    have HT := Asd.mk htg
    have HU := Asd.mk hu
    have HF := Asd.mk hf
    have HG := Asd.mk hg
    clear hol hfr hfd htg hu hf hg
    obtain ⟨A0, c0, G, hb, ho, hne, hF⟩ := HFd.out
    have HLt := Asd.mk HFd.out.lt
    have hq0 : W.cell? ⟨q, 0, none⟩ = some (.slice A0 rest.length c0) := by simp [World.cell?, hb]
    have HQ0 := Asd.mk hq0
    obtain ⟨_, _, hv, hc0, hm0, _, _⟩ := ho.slice
    injection hv with e1 e2 e3
    subst e1; subst e3
    have HB := Asd.mk hb
    have HO := Asd.mk ho
    have HFq : Asd (F' q) := ⟨(hF q).2 (.inl rfl)⟩
    have HFG : Asd (∀ g, G = some g → F' g) := ⟨fun g e => (hF g).2 (.inr e.symm)⟩
    have HN := Asd.mk hne
    have HFi := Asd.mk hF
    clear hb ho hne hF
    go_wp2_with fail
    refine (get_calls A0 rest.length c0 rest _ HO.out.rd hc0).mono ?_
    have hcs := fget_cases rest
    have HAok := Asd.mk (fun h => all_ok rest h)
    have HA5 := Asd.mk (fun h => all_short rest h)
    have HAb := Asd.mk (fun h => all_bad rest h)
    have herr := fget_err rest
    obtain ⟨⟨kind, body, nn, er⟩, hr⟩ : ∃ r, r = fget rest := ⟨_, rfl⟩
    rw [← hr] at hcs herr HAok HA5 HAb
    rw [← hr]
    clear hr
    simp only at hcs herr HAok HA5 HAb
    rintro e w2 ⟨A2, c2, G2, rfl, ho2, hg2, hc2, hm2, hu2⟩
    simp only at ho2 hc2 hg2
    have hb2 := hu2.blk HB.out (fun h => h)
    have HB2 := Asd.mk hb2
    have HO2 := Asd.mk (HO.out.upd hu2 (fun _ _ h => h))
    have HX2 : Asd (Frs w2 (fun k => W.heap.size ≤ k ∧ k < w2.heap.size) [⟨kind, A2, c2, body⟩]) := ⟨fun x hx => by
      obtain rfl := List.mem_singleton.1 hx
      refine ⟨ho2.rd, hc2, hm2, fun ad e => ?_⟩
      obtain ⟨_, _, hv, _, _, _, hG⟩ := ho2.slice
      injection hv with e1 e2 e3
      subst e1
      have hG := hG ad e
      exact ⟨hg2 _ hG, ho2.lt _ hG⟩⟩
    have HU2 := Asd.mk hu2
    have HOL2 := Asd.mk (Own.upd HOL.out hu2 (fun _ _ h => h))
    have HGlt := Asd.mk (Own.lt HOL.out)
    clear hb2 ho2 hg2 hu2 HB HO hq0
    by_cases h0 : er = 0
    · subst h0
      have hnn : 5 ≤ nn ∧ nn ≤ rest.length := by
        rcases hcs with ⟨_, h1, h2, _⟩ | e | e | e
        · exact ⟨by omega, h2⟩
        all_goals (simp at e)
      obtain ⟨hn1, hn2⟩ := hnn
      have HA := Asd.mk (HAok.out rfl)
      clear HAok HA5 HAb hcs herr
      go_wp2_with (first | (with_reducible refine stop_append _ _ _ _ rfl ?_) | (with_reducible refine stop_copy _ _ _ _ rfl ?_) | (with_reducible refine stop_make _ _ _ rfl ?_) | (with_reducible refine stop_conv 23 9 _ rfl ?_))
      refine wp_appendL L [⟨kind, A2, c2, body⟩] G5 A5 c5 (some ⟨w2.heap.size + 1, 0, none⟩) 1 rfl _ _ rfl rfl rfl (Own.upd HOL2.out (((Upd.refl (fun _ => False) _).alloc _).alloc _) (fun _ _ h => h)) (Row.litg (w2.alloc _) _ (by simp) _ _) (by simp only [List.length_cons, List.length_nil]; omega) ?_
      intro A3 c3 w3 G3 hc3 hm3 hO3 hU3 hg3
      have hqG : ¬ some q = G5 := fun e => (HG.out q e.symm).2 HFq.out
      have hGG : ∀ g, G = some g → ¬ some g = G5 := fun g e e2 => (HG.out g e2.symm).2 (HFG.out g e)
      have hV := ((Upd.refl (fun _ => False) w2).alloc (.cells #[.int .u8 (kind.toNat : Int), .slice A2 body.length c2] 32)).alloc (.cells #[.int .u8 (kind.toNat : Int), .slice A2 body.length c2] 32)
      have hb3 := hU3.blk (hV.blk HB2.out (fun h => h)) hqG
      have hq3 : w3.cell? ⟨q, 0, none⟩ = some (.slice A0 rest.length c0) := by simp [World.cell?, hb3]
      have hz3 : w3.frozen? ⟨q, 0, none⟩ = false := by simp [World.frozen?, hb3]
      have HO3 := Asd.mk ((HO2.out.upd hV (fun _ _ h => h)).upd hU3 hGG)
      have HOL3 := Asd.mk hO3
      have HB3 := Asd.mk hb3
      obtain ⟨L3, hL3⟩ : ∃ L3, L3 = L ++ [⟨kind, A2, c2, body⟩] := ⟨_, rfl⟩
      rw [← hL3] at hc3 HOL3
      rw [← hL3]
      have hl3 := Asd.mk (show L3.length = L.length + 1 by rw [hL3, List.length_append]; rfl)
      have hs2 := HU2.out.size
      have hs3 := hU3.size
      have hsV : w2.heap.size + 2 ≤ w3.heap.size := by simpa using hs3
      have HG3 : Asd (∀ g, G3 = some g → (G5 = some g ∨ (w2.heap.size ≤ g ∧ g < w3.heap.size))) := ⟨fun g e => by
        rcases hg3 with e2 | ⟨g', e2, h5, h6⟩
        · exact .inl (e2 ▸ e)
        · rw [e2] at e; obtain rfl := Option.some.inj e; exact .inr ⟨by simp at h5; omega, h6⟩⟩
      have HU3 : Asd (Upd (fun k => some k = G5) W w3) := ⟨((HU2.out.trans hV (fun _ _ h => h)).mono (fun _ _ h => h.elim)).trans hU3 (fun _ _ h => h)⟩
      have HFr3 : Asd (Frs w3 (fun k => w.heap.size ≤ k ∧ k < w3.heap.size ∧ ¬ F' k ∧ some k ≠ G3) L3) := ⟨by
        rw [hL3]
        refine Frs.append (Frs.mono (T := fun k => w.heap.size ≤ k ∧ k < W.heap.size ∧ ¬ F' k ∧ some k ≠ G5) (HFr.out.upd HU3.out (fun i h1 h2 => h1.2.2.2 h2)) ?_) (Frs.mono (T := fun k => W.heap.size ≤ k ∧ k < w2.heap.size) ((HX2.out.up hV).upd hU3 (fun i h1 h2 => by have := HGlt.out i h2.symm; omega)) ?_)
        · rintro k ⟨h1, h2, h3, h4⟩
          exact ⟨h1, by omega, h3, fun e => (HG3.out k e.symm).elim (fun e => h4 e.symm) (fun e => by omega)⟩
        · rintro k ⟨h1, h2⟩
          have := HU.out.size
          exact ⟨by omega, by omega, fun h => by have := HLt.out k h; omega, fun e => (HG3.out k e.symm).elim (fun e => by have := HGlt.out k e; omega) (fun e => by omega)⟩⟩
      have HT3 : Asd ((abs L3 ++ (all (rest.drop nn)).1, (all (rest.drop nn)).2) = all (buf ++ b)) := ⟨by rw [← HT.out, HA.out, hL3, abs_append, List.append_assoc]; rfl⟩
      clear hO3 hU3 hg3 hb3 hqG hGG hV hL3 HO2 HB2 HOL2 HX2 HU2 hs3 HT HA HFr
      obtain ⟨A6, hcut, hown, _, _⟩ := cut_from' (P := Try.prog) 23 5 .i64 (sz := 1) Try.underlying23 (by kernel_rfl) A0 rest.length c0 nn nn rfl hn2 hc0
      have ho6 := hown _ _ _ HO3.out
      rw [Nat.mul_one, ← B_drop] at ho6
      have HO6 := Asd.mk ho6
      clear ho6 hown HO3
      go_wp2
      go_step3
      have hsc := (Upd.refl (fun k => k = q) w3).setCell (p := ⟨q, 0, none⟩) (fun _ => rfl) (.slice A6 (rest.length - nn) (c0 - nn))
      have hbq := blk_setCell (o := 0) HB3.out (.slice A6 (rest.length - nn) (c0 - nn))
      have hq3G : ∀ g, G3 = some g → ¬ g = q := fun g e e2 => by
        subst e2
        rcases HG3.out g e with e | e
        · exact (HG.out g e).2 HFq.out
        · have := HLt.out g HFq.out; omega
      refine ⟨rfl, ⟨A3, c3, L3, G3, rest.drop nn, F', ⟨_, _, _, _, _, _, _, _, _, _, _, _, _, _, _, _, _, _, _, _, _, _, _, _, _, _, _, _, _, _, _, _, _, _, _, _, _, _, _, _, _, _, _, _, _, _, _, _, _, _, _, _, _, rfl⟩, hc3, hm3, by have := hl3.out; rw [List.length_drop]; omega, ?_, ?_, ?_, HT3.out, ?_, HF.out, ?_⟩, ?_⟩
      · exact Own.upd HOL3.out hsc hq3G
      · refine Frs.mono (HFr3.out.upd hsc (fun i h1 h2 => h1.2.2.1 (by rw [h2]; exact HFq.out))) ?_
        rintro k ⟨h1, h2, h3, h4⟩
        exact ⟨h1, Nat.lt_of_lt_of_le h2 hsc.size, h3, h4⟩
      · exact ⟨A6, c0 - nn, G, by rw [List.length_drop]; exact hbq, by rw [List.length_drop]; exact HO6.out.upd hsc (fun g e e2 => HN.out (by rw [e, e2])), HN.out, HFi.out⟩
      · refine (HU.out.trans HU3.out (fun i hi h => absurd ((HG.out i h.symm).1) (by omega))).setCell (fun h => (HF.out q HFq.out).resolve_right (by simp at h; omega)) _
      · intro g e
        have := HU.out.size
        rcases HG3.out g e with e | e
        · exact HG.out g e
        · exact ⟨by omega, fun h => by have := HLt.out g h; omega⟩
      · show left q _ < left q W
        have e1 : left q W = rest.length := by unfold left; rw [HQ0.out]
        have e2 : (w3.setCell ⟨q, 0, none⟩ (.slice A6 (rest.length - nn) (c0 - nn))).cell? ⟨q, 0, none⟩ = some (.slice A6 (rest.length - nn) (c0 - nn)) := by simp [World.cell?, hbq]
        unfold left
        rw [e2, HQ0.out]
        show rest.length - nn < rest.length
        omega
    · have h0b : (er == 0) = false := beq_eq_false_iff_ne.2 h0
      by_cases h5 : er = 5
      · subst h5
        have HA := Asd.mk (HA5.out rfl)
        clear HAok HA5 HAb hcs herr
        go_wp2
        simp only [Exit.jump]
        go_ret
        have hV := (Upd.refl (fun _ => False) w2).alloc (.cells #[.int .u8 (kind.toNat : Int), .slice A2 body.length c2] 32)
        have hU := HU2.out.trans hV (fun _ _ h => h)
        have hs := hU.size
        have hT := HT.out
        rw [HA.out] at hT
        rw [← hT]
        refine ⟨A5, c5, L, G5, F', rfl, (List.append_nil _).symm, hlc, hm5, Own.upd HOL2.out hV (fun _ _ h => h), Frs.mono (HFr.out.up hU) ?_, HFd.out.up hU, HU.out.trans (hU.mono (T := F) (fun _ _ h => h.elim)) (fun _ _ h => h), HF.out, HG.out⟩
        rintro k ⟨h1, h2, h3, h4⟩
        exact ⟨h1, by omega, h3⟩
      · have h5b : (er == 5) = false := beq_eq_false_iff_ne.2 h5
        have HA := Asd.mk (HAb.out h0 h5)
        clear HAok HA5 HAb hcs herr
        have hV := (Upd.refl (fun _ => False) w2).alloc (.cells #[.int .u8 (kind.toNat : Int), .slice A2 body.length c2] 32)
        have hb3 := hV.blk HB2.out (fun h => h)
        have hq3 : (w2.alloc (.cells #[.int .u8 (kind.toNat : Int), .slice A2 body.length c2] 32)).cell? ⟨q, 1, none⟩ = some (.int .i64 0) := by simp [World.cell?, hb3]
        have hz3 : (w2.alloc (.cells #[.int .u8 (kind.toNat : Int), .slice A2 body.length c2] 32)).frozen? ⟨q, 1, none⟩ = false := by simp [World.frozen?, hb3]
        have hb4 := blk_setCell (o := 1) hb3 (.int .i64 er)
        have hq4 : ((w2.alloc (.cells #[.int .u8 (kind.toNat : Int), .slice A2 body.length c2] 32)).setCell ⟨q, 1, none⟩ (.int .i64 er)).cell? ⟨q, 0, none⟩ = some (.slice A0 rest.length c0) := by simp [World.cell?, hb4]
        have hz4 : ((w2.alloc (.cells #[.int .u8 (kind.toNat : Int), .slice A2 body.length c2] 32)).setCell ⟨q, 1, none⟩ (.int .i64 er)).frozen? ⟨q, 0, none⟩ = false := by simp [World.frozen?, hb4]
        have HB4 := Asd.mk hb4
        clear hb3 hb4
        go_wp2
        simp only [Exit.jump]
        go_ret
        have hb5 := blk_setCell (o := 0) HB4.out (.slice none 0 0)
        have hU : Upd (fun k => k = q) W (((w2.alloc (.cells #[.int .u8 (kind.toNat : Int), .slice A2 body.length c2] 32)).setCell ⟨q, 1, none⟩ (.int .i64 er)).setCell ⟨q, 0, none⟩ (.slice none 0 0)) := (((HU2.out.trans hV (fun _ _ h => h)).mono (T := fun k => k = q) (fun _ _ h => h.elim)).setCell (p := ⟨q, 1, none⟩) (fun _ => rfl) _).setCell (p := ⟨q, 0, none⟩) (fun _ => rfl) _
        have hs := hU.size
        have hT := HT.out
        rw [HA.out] at hT
        rw [← hT]
        refine ⟨A5, c5, L, G5, fun k => k = q, rfl, (List.append_nil _).symm, hlc, hm5, Own.upd HOL.out hU (fun g e e2 => (HG.out g e).2 (by rw [e2]; exact HFq.out)), Frs.mono (HFr.out.upd hU (fun i h1 h2 => h1.2.2.1 (by rw [h2]; exact HFq.out))) ?_, ⟨none, 0, none, hb5, Own.nil _ _ _, by simp, by simp⟩, HU.out.trans hU (fun i hi h => (HF.out i (by rw [h]; exact HFq.out)).resolve_right (by omega)), ?_, ?_⟩
        · rintro k ⟨h1, h2, h3, h4⟩
          exact ⟨h1, by omega, fun e => h3 (by rw [e]; exact HFq.out)⟩
        · rintro k rfl
          exact HF.out k HFq.out
        · intro g e
          exact ⟨(HG.out g e).1, fun h => (HG.out g e).2 (by rw [h]; exact HFq.out)⟩
end
end Go.Proofs.Ytahbcjgbhfkhbaa.Fee
