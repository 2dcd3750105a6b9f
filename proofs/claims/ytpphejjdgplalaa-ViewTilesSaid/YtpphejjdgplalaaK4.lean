/- append of a string's bytes to a row that one owns. -/
import Derived.Test.YtpphejjdgplalaaK3
import Derived.Lib.AppendStr
set_option linter.unusedVariables false
set_option linter.unusedSimpArgs false
namespace Go.Proofs.Ytpphejjdgplalaa.K
open Go.RowKit

theorem strCells_S (l : List UInt8) : Lib.strCells (S l) = B l := by
  simp [Lib.strCells, S, B]
section
variable {P : Program} {w : World} {t u ty e : TypeId} {v : Value} {n : Nat} {l tl : List UInt8} {G : Option Nat}
theorem run_appendS (ht : P.underlying t = some (.slice e)) (hu : P.underlying u = some .string) (hinfo : (P.info? e).map (fun i => (i.zero, i.size, i.bytes)) = some (some (.int .u8 0), 1, 1))
    (HO : Own w e 1 v n (B l) G) (hlim : n + tl.length ≤ 140737488355328) :
    ∃ v' w' G', (Builtin.append_ #[t, u] ty #[v, .string (S tl)]).run P w = .ok v' w' ∧ Own w' e 1 v' (n + tl.length) (B (l ++ tl)) G' ∧ Upd (fun k => some k = G) w w' ∧ (G' = G ∨ ∃ g, G' = some g ∧ w.heap.size ≤ g ∧ g < w'.heap.size) := by
  obtain ⟨i0, hi, hzz⟩ := Option.map_eq_some_iff.1 hinfo
  simp only [Prod.mk.injEq] at hzz
  obtain ⟨hz0, hz1, hz2⟩ := hzz
  have hnl : l.length = n := HO.llen
  have hml : n + (S tl).size ≤ maxLen := by rw [S_size]; simp only [maxLen]; omega
  rcases HO.form with ⟨rfl, rfl, hG⟩ | ⟨g, o, c', cur, rfl, hG, hb, hc, hm, hs, hcell⟩
  · obtain rfl : l = [] := List.eq_nil_of_length_eq_zero hnl
    obtain ⟨v', w', hr, ho, hg, hiff⟩ := Lib.run_append_own_string (P := P) w w.heap.size t u ty e i0 ht hu hi hz0 hz1 hz2 (.slice none 0 0) 0 [] (World.ownsRow_nil w _ e 1) (S tl) hml (by rw [S_size]; omega) (Nat.le_refl _)
    rw [strCells_S, List.nil_append, S_size] at ho
    obtain ⟨G', hO, _, hbG⟩ := Own.ofRow ho
    refine ⟨v', w', G', hr, hO, ⟨hg.os, hg.tape, hg.output, hg.size, fun i hi _ => hg.block i hi (by simp [Value.ownBlock])⟩, ?_⟩
    rcases hO.form with ⟨_, _, h0⟩ | ⟨g, o, c, cur, hv, hG', hbk, r⟩
    · exact .inl (by rw [h0, hG])
    · exact .inr ⟨g, hG', hbG g hG', blk_lt hbk⟩
  · by_cases hroom : n + tl.length ≤ c'
    · have hfc := Lib.run_firstCells_string (P := P) w 1 (S tl)
      rw [strCells_S, S_size] at hfc
      have hst := run_storeCells_cells (P := P) g (o + n * 1) (B tl) 0 w (fun j hj => by rw [B_length] at hj; simp [World.cell?, hb]; omega) (fun j hj => by simp [World.frozen?, hb]) (B_one tl)
      simp only [Nat.add_zero] at hst
      have hr : (Builtin.append_ #[t, u] ty #[.slice (some ⟨g, o, none⟩) n c', .string (S tl)]).run P w = .ok (.slice (some ⟨g, o, none⟩) (n + tl.length) c') (w.setCells g (o + n * 1) (B tl)) := by
        simp only [Nat.mul_one] at hst ⊢
        simp [Builtin.append_, run_underlying ht, run_underlying hu, sizeOf, typeInfo, hi, hz1, Builtin.lenOf, S_size, hroom, hfc, Addr.add_lit, hst]
      obtain ⟨cur', hb', hsz', ha', hm', hz'⟩ := blk_setCells (B tl) g (o + n * 1) w cur e (0, 0) hb (by rw [B_length]; omega)
      refine ⟨_, _, some g, hr, ⟨by rw [B_length, List.length_append, hnl, Nat.mul_one], .inr ⟨g, o, c', cur', rfl, rfl, hb', hroom, hm, by rw [hsz']; exact hs, fun j u hj => ?_⟩⟩, ?_, .inl hG.symm⟩
      · rw [B_append] at hj
        have hcl : (B l).length = n := by rw [B_length, hnl]
        rcases Nat.lt_or_ge j (B l).length with hj1 | hj1
        · rw [List.getElem?_append_left hj1] at hj
          rw [ha' _ (by omega)]
          exact hcell j u hj
        · rw [List.getElem?_append_right hj1] at hj
          have := hm' _ u hj
          rwa [show o + n * 1 + (j - (B l).length) = o + j by omega] at this
      · subst hG
        exact Upd.setCells w g (o + n * 1) (B tl)
    · have holds : ∀ j u, (B l)[j]? = some u → w.cell? ((⟨g, o, none⟩ : Addr).add j) = some u := fun j u hj => by
        rw [add_lit]
        simp [World.cell?, hb, hcell j u hj]
      have hr := Lib.run_append_grow_string (P := P) w t u ty e i0 (.int .u8 0) ht hu hi hz0 ⟨g, o, none⟩ n c' (B l) (by rw [B_length, hnl, hz1, Nat.mul_one]) holds (S tl) (by rw [S_size]; omega) (by rw [S_size]; omega) (by rw [hz2]; exact growslice_fits (by rw [S_size]; omega) (by rw [S_size]; omega))
      rw [strCells_S, S_size] at hr
      have hge := grownCap_ge w (n + tl.length) c' e
      have hcm : grownCap w (n + tl.length) c' e ≤ maxLen := grownCap_le_maxLen w (n + tl.length) c' e (by rw [S_size] at hml; exact hml)
      refine ⟨_, _, some w.heap.size, hr, ⟨by rw [B_length, List.length_append, hnl, Nat.mul_one], .inr ⟨w.heap.size, 0, _, _, rfl, rfl, heap_alloc_new w.drew _, hge, hcm, ?_, fun j u hj => ?_⟩⟩, ((Upd.refl _ _).drew).alloc _, .inr ⟨w.heap.size, rfl, Nat.le_refl _, by simp [World.alloc]⟩⟩
      · have hz1 : (Value.int IntKind.u8 0).cells.size = 1 := rfl
        simp only [Array.size_append, List.size_toArray, size_zeroCells, hz1, B_length, hnl]
        omega
      · rw [B_append] at hj
        rw [Nat.zero_add, ← Array.getElem?_toList, Array.toList_append, Array.toList_append]
        rw [List.getElem?_append_left]
        · exact hj
        · rcases Nat.lt_or_ge j (B l ++ B tl).length with h | h
          · simpa using h
          · rw [List.getElem?_eq_none h] at hj; cases hj
end
section
variable {P : Program} {ops : Array Oper} {rest : List Oper} {o : Oper} {a : Act} {Q : Exit → Act → World → Prop} {K : Act → World → Prop} {W : World} {E : Prop}
theorem wp_appendS {S' : Nat → Prop} {w0 : World} (HU : Upd S' w0 W) (N : Nat) (e : TypeId) (l tl : List UInt8) (G : Option Nat) (A0 : Option Addr) (n c0 : Nat) (hgd : o.guard = none) (s x : Operand) (t u : TypeId)
    (ho : o.op = .call { callee := .builtin .append, args := #[s, x], argTypes := #[t, u] })
    (ht : P.underlying t = some (.slice e)) (hu : P.underlying u = some .string) (hinfo : (P.info? e).map (fun i => (i.zero, i.size, i.bytes)) = some (some (.int .u8 0), 1, 1))
    (hs : a.eval s = .slice A0 n c0) (hx : a.eval x = .string (S tl)) (HO : Own W e 1 (.slice A0 n c0) n (B l) G) (hG : ∀ g, G = some g → w0.heap.size ≤ g) (hN : N = n + tl.length) (hlim : N ≤ 140737488355328)
    (h : ∀ A1 c1 w1 G1, N ≤ c1 → c1 ≤ maxLen → Own w1 e 1 (.slice A1 N c1) N (B (l ++ tl)) G1 → (∀ g, G1 = some g → w0.heap.size ≤ g) → Upd S' w0 w1 → wpList P ops Q rest (a.put o.dst (.slice A1 N c1)) w1) :
    Stop (wpList P ops Q (o :: rest) a W) := by
  constructor
  subst hN
  obtain ⟨v', w', G', hr, hO, hU, hg⟩ := run_appendS (P := P) (ty := o.type) ht hu hinfo HO hlim
  obtain ⟨A1, c1, rfl, h1, h2, _, _⟩ := hO.slice
  refine wpList_plain hgd fun K hK => ?_
  unfold Oper.wp execOp
  simp only [ho, resolve, invoke, builtin, Sem.run_bind, Sem.run_pure, Result.andThen_ok, List.map_toArray, List.map_cons, List.map_nil, hs, hx, hr]
  refine hK _ _ (h A1 c1 w' G' h1 h2 hO ?_ (HU.trans hU fun i hi e => ?_))
  · intro g e
    rcases hg with rfl | ⟨g', rfl, h3, _⟩
    · exact hG g e
    · obtain rfl := Option.some.inj e
      exact Nat.le_trans HU.size h3
  · have := hG i e.symm
    omega
theorem gate_appS (s x : Operand) (t u : TypeId) (_ho : o.op = .call { callee := .builtin .append, args := #[s, x], argTypes := #[t, u] }) (h : if Region.wanted o (yielded ops a.tmps) = true then Oper.wp P o a W K Q else E) : if Region.wanted o (yielded ops a.tmps) = true then Oper.wp P o a W K Q else E := h
theorem step_appendS {S' : Nat → Prop} {w0 : World} (HU : Upd S' w0 W) (N : Nat) (e : TypeId) (l tl : List UInt8) (G : Option Nat) (A0 : Option Addr) (n c0 : Nat) (hgd : o.guard = none) (s x : Operand) (t u : TypeId)
    (ho : o.op = .call { callee := .builtin .append, args := #[s, x], argTypes := #[t, u] })
    (ht : P.underlying t = some (.slice e)) (hu : P.underlying u = some .string) (hinfo : (P.info? e).map (fun i => (i.zero, i.size, i.bytes)) = some (some (.int .u8 0), 1, 1))
    (hs : a.eval s = .slice A0 n c0) (hx : a.eval x = .string (S tl)) (HO : Own W e 1 (.slice A0 n c0) n (B l) G) (hG : ∀ g, G = some g → w0.heap.size ≤ g) (hN : N = n + tl.length) (hlim : N ≤ 140737488355328)
    (h : ∀ A1 c1 w1 G1, N ≤ c1 → c1 ≤ maxLen → Own w1 e 1 (.slice A1 N c1) N (B (l ++ tl)) G1 → (∀ g, G1 = some g → w0.heap.size ≤ g) → Upd S' w0 w1 → K (a.put o.dst (.slice A1 N c1)) w1) :
    if Region.wanted o (yielded ops a.tmps) = true then Oper.wp P o a W K Q else E := by
  have hw : Region.wanted o (yielded ops a.tmps) = true := by simp [Region.wanted, hgd]
  rw [if_pos hw]
  subst hN
  obtain ⟨v', w', G', hr, hO, hU, hg⟩ := run_appendS (P := P) (ty := o.type) ht hu hinfo HO hlim
  obtain ⟨A1, c1, rfl, h1, h2, _, _⟩ := hO.slice
  unfold Oper.wp execOp
  simp only [ho, resolve, invoke, builtin, Sem.run_bind, Sem.run_pure, Result.andThen_ok, List.map_toArray, List.map_cons, List.map_nil, hs, hx, hr]
  refine h A1 c1 w' G' h1 h2 hO ?_ (HU.trans hU fun i hi e => ?_)
  · intro g e
    rcases hg with rfl | ⟨g', rfl, h3, _⟩
    · exact hG g e
    · obtain rfl := Option.some.inj e
      exact Nat.le_trans HU.size h3
  · have := hG i e.symm
    omega
end
end Go.Proofs.Ytpphejjdgplalaa.K
