/- Maps with whole numbers as keys: what a map's block holds, as a list of keys and values that rises; lookups, stores, deletes, ranges. -/
import Derived.Test.YtaeafnpldlcdnaaK8
import Derived.Maps.RangeWalk
set_option linter.unusedVariables false
set_option linter.unusedSimpArgs false
namespace Go.Proofs.Ytaeafnpldlcdnaa.K
open Go.RowKit Go.Maps
abbrev Ent := Int × Value
abbrev coded (L : List Ent) : List (Lit × DataW Value) := L.map fun p => (.int .i64 p.1, .held p.2)
abbrev anyR : Value → Option (DataW Value × List MemPlace) := fun v => some (.held v, [])
/-- Block b is a map that holds L, in the order of the keys. -/
def mapV (w : World) (P : Program) (k : TypeId) (b : Nat) (L : List Ent) : Prop := w.ownsMap P k anyR b L.length (.map (coded L))
def mget (L : List Ent) (x : Int) : Option Value := (L.find? fun p => decide (p.1 = x)).map (·.2)
def ins (p : Ent) : List Ent → List Ent
  | [] => [p]
  | y :: r => if p.1 < y.1 then p :: y :: r else y :: ins p r
def mdel (L : List Ent) (x : Int) : List Ent := L.filter fun p => !decide (p.1 = x)
def mput (L : List Ent) (x : Int) (v : Value) : List Ent := ins (x, v) (mdel L x)
theorem same_lit (x y : Int) : (Lit.int .i64 x).sameKey (.int .i64 y) = decide (x = y) := by simp [Lit.sameKey]
theorem coded_find (L : List Ent) (x : Int) : (coded L).find? (fun p => p.1.sameKey (.int .i64 x)) = (L.find? fun p => decide (p.1 = x)).map fun p => (.int .i64 p.1, .held p.2) := by
  simp only [coded, List.find?_map]
  congr 1
  congr 1
  funext p
  simp [same_lit]
theorem coded_has (L : List Ent) (x : Int) : Maps.has (.map (coded L)) (.int .i64 x) = (mget L x).isSome := by
  rw [Maps.has_eq, List.any_map]
  unfold mget
  rw [Option.isSome_map, List.isSome_find?]
  congr 1
  funext p
  simp [same_lit]
theorem coded_at (L : List Ent) (x : Int) (z : Value) : (DataW.map (coded L)).atKey (.int .i64 x) (.held z) = .held ((mget L x).getD z) := by
  unfold DataW.atKey mget
  simp only [coded_find]
  cases L.find? fun p => decide (p.1 = x) <;> rfl
theorem coded_filter (L : List Ent) (x : Int) : (coded L).filter (fun p => !p.1.sameKey (.int .i64 x)) = coded (mdel L x) := by
  simp only [coded, mdel, List.filter_map]
  congr 1
  congr 1
  funext p
  simp [same_lit]
theorem coded_insert (x : Int) (v : Value) : ∀ L : List Ent, DataW.insert (.int .i64 x, .held v) (coded L) = coded (ins (x, v) L)
  | [] => rfl
  | y :: r => by
    simp only [coded, List.map_cons, DataW.insert, ins, Lit.before, decide_eq_true_eq]
    split
    · rfl
    · rw [List.map_cons]
      exact congrArg _ (coded_insert x v r)
theorem coded_put (L : List Ent) (x : Int) (v : Value) : (DataW.map (coded L)).put (.int .i64 x) (.held v) = .map (coded (mput L x v)) := by
  unfold DataW.put mput
  simp only [coded_filter, coded_insert]
theorem coded_del (L : List Ent) (x : Int) : (DataW.map (coded L)).del (.int .i64 x) = .map (coded (mdel L x)) := by
  unfold DataW.del
  simp only [coded_filter]
theorem ins_length (p : Ent) : ∀ L, (ins p L).length = L.length + 1
  | [] => rfl
  | y :: r => by
    simp only [ins]
    split
    · rfl
    · simp [ins_length p r]
section
variable {P : Program} {k t e : TypeId} {w w1 : World} {b : Nat} {L : List Ent} {S : Nat → Prop}
theorem owns_exact {n : Nat} (h : w.ownsMap P k anyR b n (.map (coded L))) : mapV w P k b L := by
  obtain ⟨es, clock, hb, F, hs, hD⟩ := h
  refine ⟨es, clock, hb, F, ?_, hD⟩
  have h1 := congrArg (fun D => Maps.size D) hD
  simp only [Maps.size_eq, length_sorted, List.length_map, coded] at h1
  rw [h1]
  simp
theorem mapV.upd (h : mapV w P k b L) (hu : Upd S w w1) (hn : ¬ S b) : mapV w1 P k b L := by
  obtain ⟨es, clock, hb, F, hs, hD⟩ := h
  exact ⟨es, clock, hu.blk hb hn, F, hs, hD⟩
theorem mapV.lt (h : mapV w P k b L) : b < w.heap.size := World.ownsMap.lt h
theorem mapV.made (w : World) (P : Program) (k : TypeId) : mapV (w.alloc (.map #[] 0)) P k w.heap.size [] := World.ownsMap_made w P k anyR
theorem mapV.inc (h : mapV w P k b L) (hk : P.underlying k = some (.int .i64)) : L.Pairwise (fun p q => p.1 < q.1) := by
  obtain ⟨es, clock, hb, F, hs, hD⟩ := h
  have hr := Maps.fit_rising (int_keyed hk) F
  have hD2 : coded L = (es.toList.map (Go.WideElems.rg P k anyR)).foldr DataW.insert [] := by injection hD
  rw [← hD2] at hr
  have gen : ∀ L : List Ent, DataW.rising (coded L) = true → L.Pairwise (fun p q => p.1 < q.1) := by
    intro L
    induction L with
    | nil => intro _; exact List.Pairwise.nil
    | cons a L ih =>
      intro h
      cases L with
      | nil => simp
      | cons c L =>
        simp only [coded, List.map_cons, DataW.rising, Bool.and_eq_true, Lit.before, decide_eq_true_eq] at h
        have h2 := ih h.2
        refine List.pairwise_cons.2 ⟨fun q hq => ?_, h2⟩
        rcases List.mem_cons.1 hq with rfl | hq
        · exact h.1
        · exact Int.lt_trans h.1 ((List.pairwise_cons.1 h2).1 q hq)
  exact gen L hr
theorem wfI (x : Int) (h : -9223372036854775808 ≤ x ∧ x ≤ 9223372036854775807) : (Lit.int .i64 x).wf = true := by
  simp only [Lit.wf, Bool.and_eq_true, decide_eq_true_eq]
  exact h
theorem mapV.look (h : mapV w P k b L) (hk : P.underlying k = some (.int .i64)) (ht : P.underlying t = some (.map k e)) {z : Value} (hz : ∀ w, (zeroValue e).run P w = .ok z w) (x : Int) (hx : -9223372036854775808 ≤ x ∧ x ≤ 9223372036854775807) :
    (Instr.lookup t (.map (some b)) (.int .i64 x) true).run P w = .ok (.tuple #[(mget L x).getD z, .bool (mget L x).isSome]) w := by
  obtain ⟨v, ps, hr, hv⟩ := World.ownsMap.look_ok h (int_keyed hk) ht (hz w) (zd := .held z) (zp := []) rfl (keyOf_int_mk hk (wfI x hx))
  rw [hr, coded_has]
  rw [coded_at] at hv
  simp only [anyR, Option.some.injEq, Prod.mk.injEq, DataW.held.injEq] at hv
  rw [hv.1]
theorem mapV.look1 (h : mapV w P k b L) (hk : P.underlying k = some (.int .i64)) (ht : P.underlying t = some (.map k e)) {z : Value} (hz : ∀ w, (zeroValue e).run P w = .ok z w) (x : Int) (hx : -9223372036854775808 ≤ x ∧ x ≤ 9223372036854775807) :
    (Instr.lookup t (.map (some b)) (.int .i64 x) false).run P w = .ok ((mget L x).getD z) w := by
  obtain ⟨v, ps, hr, hv⟩ := World.ownsMap.lookup h (int_keyed hk) ht (hz w) (zd := .held z) (zp := []) rfl (keyOf_int_mk hk (wfI x hx))
  rw [hr]
  rw [coded_at] at hv
  simp only [anyR, Option.some.injEq, Prod.mk.injEq, DataW.held.injEq] at hv
  rw [hv.1]
theorem mapV.len (h : mapV w P k b L) (ht : P.underlying t = some (.map k e)) (ty : TypeId) : (Builtin.len_ #[t] ty #[.map (some b)]).run P w = .ok (.int .i64 (L.length : Int)) w := by
  have := World.ownsMap.len h ht ty
  rw [this, Maps.size_eq, List.length_map]
theorem turned_upd {w w' : World} {b : Nat} (h : w.mapTurned w' b) : Upd (fun i => i = b) w w' :=
  ⟨h.grown.os, h.grown.tape, h.grown.output, h.grown.size, fun i hi hn => h.grown.block i hi (fun e => hn (Option.some.inj e))⟩
theorem mapV.store (h : mapV w P k b L) (hk : P.underlying k = some (.int .i64)) (ht : P.underlying t = some (.map k e)) (hl : L.length < maxLen) (x : Int) (hx : -9223372036854775808 ≤ x ∧ x ≤ 9223372036854775807) (v : Value) :
    ∃ w', (Instr.mapUpdate t (.map (some b)) (.int .i64 x) v).run P w = .ok () w' ∧ mapV w' P k b (mput L x v) ∧ Upd (fun i => i = b) w w' := by
  obtain ⟨w', hr, ho, hT⟩ := World.ownsMap.store h (int_keyed hk) ht hl (keyOf_int_mk hk (wfI x hx)) (val := v) (d := .held v) (ps := []) rfl
  rw [coded_put] at ho
  exact ⟨w', hr, owns_exact ho, turned_upd hT⟩
theorem mapV.drop (h : mapV w P k b L) (hk : P.underlying k = some (.int .i64)) (ht : P.underlying t = some (.map k e)) (x : Int) (hx : -9223372036854775808 ≤ x ∧ x ≤ 9223372036854775807) (ty : TypeId) :
    ∃ w', (Builtin.delete_ #[t, k] ty #[.map (some b), .int .i64 x]).run P w = .ok (.tuple #[]) w' ∧ mapV w' P k b (mdel L x) ∧ Upd (fun i => i = b) w w' := by
  obtain ⟨w', hr, ho, hT⟩ := World.ownsMap.drop h (int_keyed hk) ht (keyOf_int_mk hk (wfI x hx)) ty
  rw [coded_del] at ho
  exact ⟨w', hr, owns_exact ho, turned_upd hT⟩
/-- A range under way: r is its iterator; rem: what is still to come. -/
def rangeV (w : World) (P : Program) (k : TypeId) (b r : Nat) (L rem : List Ent) : Prop :=
  (∃ cnt, w.ranges P k anyR b r L.length (.map (coded L)) (fun kl => rem.any fun p => (Lit.int .i64 p.1).sameKey kl) cnt) ∧ ∀ p ∈ rem, p ∈ L
end
section
variable {P : Program} {ops : Array Oper} {rest : List Oper} {o : Oper} {a : Act} {Q : Exit → Act → World → Prop} {W : World} {k t e : TypeId} {b : Nat} {L : List Ent}
theorem stop_mapUpdate (t : TypeId) (m x v : Operand) (_ho : o.op = .mapUpdate t m x v) (h : Stop (wpList P ops Q (o :: rest) a W)) : wpList P ops Q (o :: rest) a W := h.out
theorem stop_delete (m x : Operand) (t u : TypeId) (_ho : o.op = .call { callee := .builtin .delete, args := #[m, x], argTypes := #[t, u] }) (h : Stop (wpList P ops Q (o :: rest) a W)) : wpList P ops Q (o :: rest) a W := h.out
theorem stop_range (t : TypeId) (m : Operand) (_ho : o.op = .range t m) (h : Stop (wpList P ops Q (o :: rest) a W)) : wpList P ops Q (o :: rest) a W := h.out
theorem stop_next (it : Operand) (_ho : o.op = .next it false) (h : Stop (wpList P ops Q (o :: rest) a W)) : wpList P ops Q (o :: rest) a W := h.out
theorem wp_mapUpdate (hgd : o.guard = none) (t : TypeId) (m x v : Operand) (ho : o.op = .mapUpdate t m x v) (h : mapV W P k b L) (hk : P.underlying k = some (.int .i64)) (ht : P.underlying t = some (.map k e)) (hl : L.length < maxLen)
    (y : Int) (u : Value) (hm : a.eval m = .map (some b)) (hx : a.eval x = .int .i64 y) (hv : a.eval v = u) (hy : -9223372036854775808 ≤ y ∧ y ≤ 9223372036854775807)
    (hK : ∀ w1, mapV w1 P k b (mput L y u) → Upd (fun i => i = b) W w1 → wpList P ops Q rest (a.put o.dst undef) w1) : Stop (wpList P ops Q (o :: rest) a W) := by
  constructor
  obtain ⟨w1, hr, h1, h2⟩ := h.store hk ht hl y hy u
  refine wpList_plain hgd fun K hK' => ?_
  unfold Oper.wp
  simp [execOp, ho, hm, hx, hv, hr, Result.andThen]
  exact hK' _ _ (hK w1 h1 h2)
theorem wp_delete (hgd : o.guard = none) (t : TypeId) (m x : Operand) (ho : o.op = .call { callee := .builtin .delete, args := #[m, x], argTypes := #[t, k] }) (h : mapV W P k b L) (hk : P.underlying k = some (.int .i64)) (ht : P.underlying t = some (.map k e))
    (y : Int) (hm : a.eval m = .map (some b)) (hx : a.eval x = .int .i64 y) (hy : -9223372036854775808 ≤ y ∧ y ≤ 9223372036854775807)
    (hK : ∀ w1, mapV w1 P k b (mdel L y) → Upd (fun i => i = b) W w1 → wpList P ops Q rest (a.put o.dst (.tuple #[])) w1) : Stop (wpList P ops Q (o :: rest) a W) := by
  constructor
  obtain ⟨w1, hr, h1, h2⟩ := h.drop hk ht y hy o.type
  refine wpList_plain hgd fun K hK' => ?_
  unfold Oper.wp
  simp [execOp, ho, resolve, invoke, builtin, hm, hx, hr, Result.andThen]
  exact hK' _ _ (hK w1 h1 h2)
theorem wp_range (hgd : o.guard = none) (t : TypeId) (m : Operand) (ho : o.op = .range t m) (h : mapV W P k b L) (hk : P.underlying k = some (.int .i64)) (ht : P.underlying t = some (.map k e)) (hm : a.eval m = .map (some b))
    (hK : ∀ w1, rangeV w1 P k b W.heap.size L L → Upd (fun _ => False) W w1 → w1.heap.size = W.heap.size + 1 → wpList P ops Q rest (a.put o.dst (.pointer (some ⟨W.heap.size, 0, none⟩))) w1) : Stop (wpList P ops Q (o :: rest) a W) := by
  constructor
  refine wpList_range_own W hgd m t ho k e (int_keyed hk) ht anyR b _ _ hm h ?_
  intro w1 hr hg hs
  have hu : Upd (fun _ => False) W w1 := ⟨hg.os, hg.tape, hg.output, hg.size, fun i hi _ => hg.block i hi (by simp)⟩
  have e1 : Maps.has (DataW.map (coded L)) = fun kl => L.any fun p => (Lit.int .i64 p.1).sameKey kl := by
    funext kl
    rw [Maps.has_eq, List.any_map]
    rfl
  rw [e1] at hr
  exact hK w1 ⟨⟨_, hr⟩, fun p hp => hp⟩ hu hs
theorem rangeV.upd {S : Nat → Prop} {w w1 : World} {r : Nat} {rem : List Ent} (h : rangeV w P k b r L rem) (hu : Upd S w w1) (h1 : ¬ S b) (h2 : ¬ S r) : rangeV w1 P k b r L rem := by
  obtain ⟨⟨cnt, es, clock, since, seen, c0, hb, F, hs, hD, hr, rest⟩, hm⟩ := h
  exact ⟨⟨cnt, es, clock, since, seen, c0, hu.blk hb h1, F, hs, hD, hu.blk hr h2, rest⟩, hm⟩
theorem rangeV.map {w : World} {r : Nat} {rem : List Ent} (h : rangeV w P k b r L rem) : mapV w P k b L := h.1.elim fun _ h => h.owns
theorem rangeV.lt {w : World} {r : Nat} {rem : List Ent} (h : rangeV w P k b r L rem) : r < w.heap.size := h.1.elim fun _ h => h.lt
theorem rangeLeft_upd {S : Nat → Prop} {w w1 : World} {b r : Nat} (hu : Upd S w w1) (hb : b < w.heap.size) (hr : r < w.heap.size) (h1 : ¬ S b) (h2 : ¬ S r) : World.rangeLeft w1 b r = World.rangeLeft w b r := by
  unfold World.rangeLeft
  rw [hu.block b hb h1, hu.block r hr h2]
theorem mget_mem {L : List Ent} {x : Int} {v : Value} (h : mget L x = some v) : (x, v) ∈ L := by
  unfold mget at h
  obtain ⟨p, hp, rfl⟩ := Option.map_eq_some_iff.1 h
  have h1 := List.find?_some hp
  have h2 := List.mem_of_find?_eq_some hp
  simp only [decide_eq_true_eq] at h1
  subst h1
  exact h2
theorem mget_of {L : List Ent} (hL : L.Pairwise (fun p q => p.1 < q.1)) {p : Ent} (h : p ∈ L) : mget L p.1 = some p.2 := by
  unfold mget
  cases hf : L.find? fun q => decide (q.1 = p.1) with
  | none =>
    have := List.find?_eq_none.1 hf p h
    simp at this
  | some q =>
    have h1 := List.find?_some hf
    have h2 := List.mem_of_find?_eq_some hf
    simp only [decide_eq_true_eq] at h1
    have : q = p := by
      have gen : ∀ L : List Ent, L.Pairwise (fun p q => p.1 < q.1) → p ∈ L → q ∈ L → q = p := by
        intro L
        induction L with
        | nil => intro _ h; simp at h
        | cons a L ih =>
          intro hP hp hq
          obtain ⟨h3, h4⟩ := List.pairwise_cons.1 hP
          rcases List.mem_cons.1 hp with e1 | hp
          · rcases List.mem_cons.1 hq with e2 | hq
            · rw [e1, e2]
            · have := h3 q hq
              rw [← e1] at this
              omega
          · rcases List.mem_cons.1 hq with e2 | hq
            · have := h3 p hp
              rw [← e2] at this
              omega
            · exact ih h4 hp hq
      exact gen L hL h h2
    rw [this]
    rfl
theorem mdel_any (rem : List Ent) (x : Int) (z : Lit) : (mdel rem x).any (fun p => (Lit.int .i64 p.1).sameKey z) = ((rem.any fun p => (Lit.int .i64 p.1).sameKey z) && !z.sameKey (.int .i64 x)) := by
  unfold mdel
  rw [List.any_filter]
  cases z with
  | int q y =>
    rw [Bool.eq_iff_iff]
    simp only [List.any_eq_true, Bool.and_eq_true, Bool.not_eq_true', decide_eq_false_iff_not, Lit.sameKey, decide_eq_true_eq]
    constructor
    · rintro ⟨p, hp, h1, h2, h3⟩
      exact ⟨⟨p, hp, h2, h3⟩, fun h => h1 (by rw [h3, h.2])⟩
    · rintro ⟨⟨p, hp, h2, h3⟩, h1⟩
      exact ⟨p, hp, fun h => h1 ⟨h2.symm, by rw [← h3, h]⟩, h2, h3⟩
  | _ => simp [Lit.sameKey]
theorem mdel_short {rem : List Ent} {x : Int} {v : Value} (h : (x, v) ∈ rem) : (mdel rem x).length < rem.length := by
  unfold mdel
  rcases Nat.lt_or_ge (rem.filter fun p => !decide (p.1 = x)).length rem.length with h1 | h1
  · exact h1
  · have h2 := List.filter_sublist (p := fun p : Ent => !decide (p.1 = x)) (l := rem)
    have h3 := h2.eq_of_length (Nat.le_antisymm h2.length_le h1)
    rw [← h3] at h
    have := (List.mem_filter.1 h).2
    simp at this
theorem entry_moves {P : Program} {w1 w2 : World} {r b since c0 clock : Nat} {seen : Array Nat} {es : Array MapEntry} {v : Value} (hb1 : w1.heap[b]? = some (.map es clock)) (hr1 : w1.heap[r]? = some (.mapIter (some b) since seen c0))
    (hb2 : w2.heap[b]? = some (.map es clock)) (hr2 : w2.heap[r]? = some (.mapIter (some b) since seen c0)) (h : (Instr.entry (.pointer (some ⟨r, 0, none⟩))).run P w1 = .ok v w1) : (Instr.entry (.pointer (some ⟨r, 0, none⟩))).run P w2 = .ok v w2 := by
  cases hs : seen.back? with
  | none => simp [Instr.entry, getObj, Sem.run_bind, Sem.run, hr1, Result.andThen, hs, stuck] at h
  | some s =>
    by_cases hc : clock = c0
    · subst hc
      cases hf : es.find? (fun x => x.born == s) with
      | none => simp [Instr.entry, getObj, Sem.run_bind, Sem.run, hr1, hb1, Result.andThen, hs, hf, unsupported] at h
      | some e =>
        simp only [Instr.entry, getObj, Sem.run_bind, Sem.run, hr1, hb1, hr2, hb2, Result.andThen, hs, hf, bne_self_eq_false, Bool.false_eq_true, if_false] at h ⊢
        simpa [pure, Sem.run] using h
    · simp [Instr.entry, getObj, Sem.run_bind, Sem.run, hr1, hb1, Result.andThen, hs, hc, unsupported] at h
/-- The step of a range. -/
theorem wp_next {r : Nat} {rem : List Ent} (hgd : o.guard = none) (it : Operand) (ho : o.op = .next it false) (h : rangeV W P k b r L rem) (hk : P.underlying k = some (.int .i64)) (hit : a.eval it = .pointer (some ⟨r, 0, none⟩))
    (hDone : rem = [] → wpList P ops Q rest (a.put o.dst (.tuple #[.bool false])) W)
    (hMore : ∀ (x : Int) (v : Value) (w1 : World), (x, v) ∈ rem → rangeV w1 P k b r L (mdel rem x) → Upd (fun i => i = r) W w1 → w1.heap.size = W.heap.size → World.rangeLeft w1 b r < World.rangeLeft W b r → (∀ w2, Upd (fun _ => False) w1 w2 → (Instr.entry (.pointer (some ⟨r, 0, none⟩))).run P w2 = .ok (.tuple #[.int .i64 x, v]) w2) → wpList P ops Q rest (a.put o.dst (.tuple #[.bool true, .int .i64 x, v])) w1) : Stop (wpList P ops Q (o :: rest) a W) := by
  constructor
  have hinc := h.map.inc hk
  obtain ⟨⟨cnt, hr⟩, hm⟩ := h
  refine wpList_next_ranges (α := Int) (β := Value) W hgd it ho k (int_keyed hk) anyR (fun x => .int .i64 x) (fun v => v) (fun key kl h => by
    obtain ⟨x, hx, _⟩ := Maps.keyOf_int_inv hk h
    exact ⟨x, hx⟩) (fun v y _ => ⟨v, rfl⟩) b r _ _ _ cnt hit hr ?_ ?_
  · intro h0 hl
    refine hDone (List.eq_nil_iff_forall_not_mem.2 fun p hp => ?_)
    have := hl (.int .i64 p.1)
    have h2 : (rem.any fun q => (Lit.int .i64 q.1).sameKey (.int .i64 p.1)) = true := List.any_eq_true.2 ⟨p, hp, by simp [Lit.sameKey]⟩
    rw [h2] at this
    cases this
  · intro x c kl y w1 cnt' hkey hleft hv hat hr1 hlt hg hs hen
    obtain ⟨x', hx', hkl, hwf⟩ := Maps.keyOf_int_inv hk hkey
    injection hx' with _ e2
    subst e2
    subst hkl
    obtain ⟨p, hp, hpk⟩ := List.any_eq_true.1 hleft
    have hpx : p.1 = x := by simpa [Lit.sameKey] using hpk
    have hy : y = (.held c, []) := by simpa [anyR] using hv.symm
    subst hy
    have hg1 := mget_of hinc (hm p hp)
    rw [hpx] at hg1
    have h2 := hat (.held c)
    rw [coded_at, hg1] at h2
    have hpc : p.2 = c := by simpa using h2
    have hmem : (x, c) ∈ rem := by
      have : p = (x, c) := by rw [← hpx, ← hpc]
      rw [← this]; exact hp
    have e3 : (fun z : Lit => (rem.any fun p => (Lit.int .i64 p.1).sameKey z) && !z.sameKey (.int .i64 x)) = fun z => (mdel rem x).any fun p => (Lit.int .i64 p.1).sameKey z := by
      funext z
      rw [mdel_any]
    rw [e3] at hr1
    refine hMore x c w1 hmem ⟨⟨cnt', hr1⟩, fun q hq => hm q (List.mem_filter.1 hq).1⟩ ⟨hg.os, hg.tape, hg.output, hg.size, fun i hi hn => hg.block i hi (fun e => hn (Option.some.inj e))⟩ hs (by rw [hr1.left_eq, hr.left_eq]; exact hlt) ?_
    intro w2 hu
    obtain ⟨es, clock, since, seen, c0, hb, _, _, _, hr2, _⟩ := hr1
    exact entry_moves hb hr2 (hu.blk hb (fun h => h)) (hu.blk hr2 (fun h => h)) hen
end
end Go.Proofs.Ytaeafnpldlcdnaa.K
