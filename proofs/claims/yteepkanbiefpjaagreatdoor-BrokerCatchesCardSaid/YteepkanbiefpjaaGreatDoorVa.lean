/- What these laws lean on, part Va: contracts of the given program's functions and plain lists. No condition. -/
import Derived.Deep.RegionHeld3
import Derived.WalkKit
import Derived.KernelRfl
import Derived.Test.YteepkanbiefpjaaGreatDoorProg
import Derived.Below
import Derived.OwnWalk
import Derived.ArgAppend
import Derived.Maps.AppendAt
import Derived.Deep.OwnRows
import Derived.Deep.Upon
import Derived.Deep.LoopGhost
import Derived.Deep.QuietTactic
import Derived.BigQuiet
import Derived.Laws.IdiomCopy
import Derived.Laws.BytesArg
import Derived.Laws.MakeOwn
import Derived.Lib.ConvBytes
import Derived.Lib.SlBytesConst
import Derived.Outline
import Derived.Deep.RegionWith
import Derived.Deep.RegionLaw
import Derived.Deep.DeepMust
import Derived.RowKit
import Derived.RowKit3
import Derived.ProofKit
import Derived.Deep.Slices
import Derived.Deep.Strs
import Derived.SizedLaws
import Derived.ChangeSlices
import Derived.Maps.RangeWalk
set_option linter.unusedVariables false
set_option linter.unusedSimpArgs false
namespace Go.Proofs.YteepkanbiefpjaaGreatDoor.K
open Go
section
variable {P : Program} {md : Region.Mode} {ops : Array Oper} {Q : Exit → Act → World → Prop} {S : World → Prop}
theorem tk_ (i : Nat) {oi : Oper} {v : Value} {fuel : Nat} {listed : Array Bool} {a : Act} {w : World}
    (h : wpAnyH P md ops Q S fuel (listed.setIfInBounds i true) (a.put oi.dst v) w)
    (hi : ops[i]? = some oi := by (simp only [List.getElem?_toArray, List.getElem?_cons_succ, List.getElem?_cons_zero]; exact rfl))
    (hs : Region.noSelect ops = true := by kernel_rfl) (hf : Region.free md ops listed i = true := by kernel_rfl) (hr : (Region.ready md ops listed).contains i = true := by kernel_rfl)
    (hQ : ∀ c a w, Q (.panic c) (a.put oi.dst v) w → Q (.panic c) a w := by exact (fun _ _ _ h => h))
    (hy : YieldsIf P ops S oi v a := by (refine Or.inl ⟨rfl, ?_⟩; intro w hSw; (try dsimp only at hSw); go_simp; (try with_reducible rfl)))
    (hS : S w := by assumption) : wpAnyH P md ops Q S (fuel + 1) listed a w := wpAnyH_take hi hs hf hr hQ hy hS h
theorem tu_ (i : Nat) {oi : Oper} {fuel : Nat} {listed : Array Bool} {a : Act} {w : World}
    (h : wpAnyH P md ops Q S fuel (listed.setIfInBounds i true) (a.put oi.dst Go.undef) w)
    (hi : ops[i]? = some oi := by (simp only [List.getElem?_toArray, List.getElem?_cons_succ, List.getElem?_cons_zero]; exact rfl))
    (hs : Region.noSelect ops = true := by kernel_rfl) (hf : Region.free md ops listed i = true := by kernel_rfl) (hr : (Region.ready md ops listed).contains i = true := by kernel_rfl)
    (hQ : ∀ c a w, Q (.panic c) (a.put oi.dst Go.undef) w → Q (.panic c) a w := by exact (fun _ _ _ h => h))
    (hy : YieldsIf P ops S oi Go.undef a := by exact (Or.inr ⟨rfl, rfl⟩))
    (hS : S w := by assumption) : wpAnyH P md ops Q S (fuel + 1) listed a w := wpAnyH_take hi hs hf hr hQ hy hS h
theorem sl1_ {α : Type} {l : List α} {i : Nat} {a : α} : l.toArray.setIfInBounds i a = (l.set i a).toArray := List.setIfInBounds_toArray ..
theorem sl2_ {α : Type} {x : α} {l : List α} {a : α} : (x :: l).set 0 a = a :: l := List.set_cons_zero ..
theorem sl3_ {α : Type} {x : α} {l : List α} {n : Nat} {a : α} : (x :: l).set (n + 1) a = x :: l.set n a := List.set_cons_succ ..
end
end Go.Proofs.YteepkanbiefpjaaGreatDoor.K
set_option linter.unusedVariables false
set_option linter.unusedSimpArgs false
namespace Go.Proofs.YteepkanbiefpjaaGreatDoor.K
open Go.RowKit
structure Asd (p : Prop) : Prop where mk :: (out : p)
def B (l : List UInt8) : List Value := l.map fun b => .int .u8 (b.toNat : Int)
theorem B_length (l : List UInt8) : (B l).length = l.length := by simp [B]
theorem B_append (l m : List UInt8) : B (l ++ m) = B l ++ B m := by simp [B]
theorem B_get (l : List UInt8) (j : Nat) (h : j < l.length) : (B l)[j]? = some (.int .u8 ((l[j]'h).toNat : Int)) := by simp [B, h]
theorem B_one (l : List UInt8) : ∀ u ∈ B l, u.oneCell' = true := by
  intro u hu; simp only [B, List.mem_map] at hu; obtain ⟨b, _, rfl⟩ := hu; rfl
theorem B_take (l : List UInt8) (k : Nat) : B (l.take k) = (B l).take k := by simp [B, List.map_take]
theorem B_drop (l : List UInt8) (k : Nat) : B (l.drop k) = (B l).drop k := by simp [B, List.map_drop]
theorem add_lit (b o j : Nat) : (⟨b, o, none⟩ : Addr).add j = ⟨b, o + j, none⟩ := by unfold Addr.add; split <;> simp_all
theorem add_add (a : Addr) (i j : Nat) : (a.add i).add j = a.add (i + j) := by
  unfold Addr.add
  by_cases h1 : i = 0 <;> by_cases h2 : j = 0 <;> simp [h1, h2, Nat.add_assoc]
theorem add_block (a : Addr) (j : Nat) : (a.add j).block = a.block := by unfold Addr.add; split <;> rfl
theorem u8_of (m : Nat) : IntKind.u8.wrap (m : Int) = ((UInt8.ofNat m).toNat : Int) := by
  simp only [IntKind.wrap, IntKind.bits, IntKind.signed]
  simp
structure Upd (S : Nat → Prop) (w w' : World) : Prop where
  os : w'.os = w.os
  tape : w'.tape = w.tape
  output : w'.output = w.output
  size : w.heap.size ≤ w'.heap.size
  block : ∀ i, i < w.heap.size → ¬ S i → w'.heap[i]? = w.heap[i]?
section
variable {S T : Nat → Prop} {w w1 w2 : World}
theorem Upd.refl (S : Nat → Prop) (w : World) : Upd S w w := ⟨rfl, rfl, rfl, Nat.le_refl _, fun _ _ _ => rfl⟩
theorem Upd.trans (h : Upd S w w1) (k : Upd T w1 w2) (hs : ∀ i, i < w.heap.size → T i → S i) : Upd S w w2 :=
  ⟨k.os.trans h.os, k.tape.trans h.tape, k.output.trans h.output, Nat.le_trans h.size k.size, fun i hi hn => (k.block i (Nat.lt_of_lt_of_le hi h.size) (fun ht => hn (hs i hi ht))).trans (h.block i hi hn)⟩
theorem Upd.mono (h : Upd S w w1) (hs : ∀ i, i < w.heap.size → S i → T i) : Upd T w w1 := ⟨h.os, h.tape, h.output, h.size, fun i hi hn => h.block i hi (fun k => hn (hs i hi k))⟩
theorem Upd.alloc (h : Upd S w w1) (o : Obj) : Upd S w (w1.alloc o) :=
  h.trans (T := fun _ => False) ⟨rfl, rfl, rfl, by simp, fun i hi _ => Below.heap_alloc _ _ _ hi⟩ (fun _ _ h => h.elim)
theorem Upd.drew (h : Upd S w w1) : Upd S w w1.drew := ⟨h.os, h.tape, h.output, h.size, h.block⟩
theorem Upd.drewN (h : Upd S w w1) (n : Nat) : Upd S w (w1.drewN n) := ⟨h.os, h.tape, h.output, h.size, h.block⟩
theorem Upd.setCell (h : Upd S w w1) {p : Addr} (hp : p.block < w.heap.size → S p.block) (u : Value) : Upd S w (w1.setCell p u) :=
  h.trans (T := fun i => i = p.block) ⟨rfl, rfl, rfl, by simp [World.setCell], fun i _ hn => Below.heap_setCell _ _ _ _ hn⟩ (fun i hi e => by subst e; exact hp hi)
theorem Upd.below (h : Upd S w w1) {B0 : Nat} (hS : ∀ i, S i → B0 ≤ i) (hB : B0 ≤ w.heap.size) : Below B0 w w1 :=
  ⟨h.os, h.tape, h.output, h.size, fun k hk => h.block k (by omega) (fun hs => by have := hS k hs; omega)⟩
theorem Upd.ofBelow (h : Below w.heap.size w w1) (S : Nat → Prop) : Upd S w w1 := ⟨h.os, h.tape, h.output, h.size, fun i hi _ => h.block i hi⟩
theorem Upd.cell (h : Upd S w w1) {a : Addr} {v : Value} (hc : w.cell? a = some v) (hn : ¬ S a.block) : w1.cell? a = some v :=
  (World.cell?_of_block (w := w) (h.block a.block (World.block_lt_of_cell? w a hc) hn)).trans hc
theorem Upd.blk (h : Upd S w w1) {g : Nat} {o : Obj} (hc : w.heap[g]? = some o) (hn : ¬ S g) : w1.heap[g]? = some o :=
  (h.block g (Array.getElem?_eq_some_iff.1 hc).1 hn).trans hc
end
def Dr (w w' : World) : Prop := ∃ n, w' = w.drewN n
theorem Dr.upd {w w' : World} (h : Dr w w') (S : Nat → Prop) : Upd S w w' := by
  obtain ⟨n, rfl⟩ := h
  exact (Upd.refl S w).drewN n
theorem Dr.refl (w : World) : Dr w w := ⟨0, rfl⟩
theorem blk_lt {w : World} {g : Nat} {o : Obj} (h : w.heap[g]? = some o) : g < w.heap.size := (Array.getElem?_eq_some_iff.1 h).1
def Row (w : World) (A : Option Addr) (cs : List Value) : Prop := ∀ j u, cs[j]? = some u → ∃ ad, A = some ad ∧ w.cell? (ad.add j) = some u
section
variable {S : Nat → Prop} {w w1 : World} {A : Option Addr} {cs : List Value}
theorem Row.nil (w : World) (A : Option Addr) : Row w A [] := fun j u h => by simp at h
theorem Row.upd (h : Row w A cs) (k : Upd S w w1) (hn : ∀ ad, A = some ad → ¬ S ad.block) : Row w1 A cs := fun j u hj => by
  obtain ⟨ad, e, hc⟩ := h j u hj
  exact ⟨ad, e, k.cell hc (by rw [add_block]; exact hn ad e)⟩
theorem Row.take (h : Row w A cs) (n : Nat) : Row w A (cs.take n) := fun j u hj => by
  rw [List.getElem?_take] at hj
  split at hj
  · exact h j u hj
  · cases hj
theorem Row.drop (h : Row w A cs) (n : Nat) : Row w (A.map (·.add n)) (cs.drop n) := fun j u hj => by
  rw [List.getElem?_drop] at hj
  obtain ⟨ad, e, hc⟩ := h _ u hj
  exact ⟨ad.add n, by rw [e]; rfl, by rw [add_add]; exact hc⟩
end
structure Rd (w : World) (A : Option Addr) (n : Nat) (l : List UInt8) : Prop where
  len : l.length = n
  lim : n ≤ 9223372036854775807
  row : Row w A (B l)
section
variable {S : Nat → Prop} {w w1 : World} {A : Option Addr} {n : Nat} {l : List UInt8}
theorem Rd.at (h : Rd w A n l) (i : Nat) (hi : i < n) : ∃ ad, A = some ad ∧ w.cell? (ad.add i) = some (.int .u8 ((l[i]'(by rw [h.len]; exact hi)).toNat : Int)) :=
  h.row i _ (B_get l i (by rw [h.len]; exact hi))
theorem Rd.upd (h : Rd w A n l) (k : Upd S w w1) (hn : ∀ ad, A = some ad → ¬ S ad.block) : Rd w1 A n l := ⟨h.len, h.lim, h.row.upd k hn⟩
theorem Rd.nil (w : World) (A : Option Addr) : Rd w A 0 [] := ⟨rfl, by omega, Row.nil _ _⟩
theorem Rd.take (h : Rd w A n l) (k : Nat) (hk : k ≤ n) : Rd w A k (l.take k) := ⟨by rw [List.length_take, h.len]; omega, by have := h.lim; omega, by rw [B_take]; exact h.row.take k⟩
theorem Rd.drop (h : Rd w A n l) (k : Nat) (hk : k ≤ n) : Rd w (A.map (·.add k)) (n - k) (l.drop k) := ⟨by rw [List.length_drop, h.len], by have := h.lim; omega, by rw [B_drop]; exact h.row.drop k⟩
theorem Rd.drop_if (h : Rd w A n l) (k c : Nat) (hk : k ≤ n) (hc : n ≤ c) : Rd w (if c = k then A else A.map (·.add k)) (n - k) (l.drop k) := by
  split
  · have : l.drop k = [] := List.drop_eq_nil_of_le (by rw [h.len]; omega)
    rw [this, show n - k = 0 by omega]
    exact Rd.nil _ _
  · exact h.drop k hk
end
theorem Rd.ofInts {w : World} {a : Option Addr} {len cap : Nat} (h : (a = none ∧ len = 0 ∧ cap = 0) ∨
    ∃ x, ∃ zs : List Int, a = some x ∧ len ≤ cap ∧ cap ≤ maxLen ∧ zs.length = cap ∧ (∀ i, i < zs.length → w.cell? (x.add i) = some (.int .u8 (zs.getD i 0))) ∧ ∀ n ∈ zs, (Lit.int .u8 n).wf = true) :
    ∃ l, Rd w a len l ∧ len ≤ cap ∧ cap ≤ maxLen := by
  rcases h with ⟨rfl, rfl, rfl⟩ | ⟨x, zs, rfl, h1, h2, h3, h4, h5⟩
  · exact ⟨[], Rd.nil _ _, Nat.le_refl _, by simp [maxLen]⟩
  · refine ⟨(zs.take len).map fun n => UInt8.ofNat n.toNat, ⟨by simp; omega, by simp only [maxLen] at h2; omega, fun j u hj => ⟨x, rfl, ?_⟩⟩, h1, h2⟩
    have hjl : j < len := by
      rcases Nat.lt_or_ge j len with h | h
      · exact h
      · rw [List.getElem?_eq_none (by simp [B]; omega)] at hj; cases hj
    rw [h4 j (by omega)]
    have hz : j < zs.length := by omega
    have hw := h5 zs[j] (List.getElem_mem hz)
    have hb : 0 ≤ zs[j] ∧ zs[j] ≤ 255 := by
      simp [Lit.wf, IntKind.min, IntKind.max, IntKind.bits, IntKind.signed] at hw
      omega
    simp only [B, List.map_map, List.getElem?_map, List.getElem?_take, if_pos hjl, List.getElem?_eq_getElem hz, Option.map_some, Function.comp_apply, Option.some.injEq] at hj
    rw [← hj]
    simp [List.getD_eq_getElem?_getD, List.getElem?_eq_getElem hz]
    omega
theorem Rd.lit (w : World) (C : Array Value) (e : TypeId) (fz : Nat × Nat) (n : Nat) (l : List UInt8) (h : C = (B l).toArray) (hl : l.length = n) (hm : n ≤ 9223372036854775807) : Rd (w.alloc (.cells C e fz)) (some ⟨w.heap.size, 0, none⟩) n l := by
  subst h
  refine ⟨hl, hm, fun j u hj => ⟨_, rfl, ?_⟩⟩
  rw [add_lit]
  have hb : (w.alloc (.cells (B l).toArray e fz)).heap[w.heap.size]? = some (.cells (B l).toArray e fz) := heap_alloc_new w _
  simp only [World.cell?, hb, Nat.zero_add]
  rw [if_neg (by simp), List.getElem?_toArray]
  exact hj
theorem Rd.litg (w : World) (g : Nat) (hg : g = w.heap.size) (C : Array Value) (e : TypeId) (fz : Nat × Nat) (n : Nat) (l : List UInt8) (h : C = (B l).toArray) (hl : l.length = n) (hm : n ≤ 9223372036854775807) : Rd (w.alloc (.cells C e fz)) (some ⟨g, 0, none⟩) n l := by
  subst hg
  exact Rd.lit w C e fz n l h hl hm
structure Own (w : World) (e : TypeId) (sz : Nat) (v : Value) (n : Nat) (cs : List Value) (G : Option Nat) : Prop where
  len : cs.length = n * sz
  form : (v = .slice none 0 0 ∧ n = 0 ∧ G = none) ∨ ∃ g o c cur, v = .slice (some ⟨g, o, none⟩) n c ∧ G = some g ∧ w.heap[g]? = some (.cells cur e (0, 0)) ∧ n ≤ c ∧ c ≤ maxLen ∧ o + c * sz ≤ cur.size ∧ ∀ j u, cs[j]? = some u → cur[o + j]? = some u
section
variable {S : Nat → Prop} {w w1 : World} {e : TypeId} {sz n : Nat} {v : Value} {cs : List Value} {G : Option Nat}
theorem Own.nil (w : World) (e : TypeId) (sz : Nat) : Own w e sz (.slice none 0 0) 0 [] none := ⟨by simp, .inl ⟨rfl, rfl, rfl⟩⟩
theorem Own.upd (h : Own w e sz v n cs G) (k : Upd S w w1) (hn : ∀ g, G = some g → ¬ S g) : Own w1 e sz v n cs G := by
  refine ⟨h.len, ?_⟩
  rcases h.form with h | ⟨g, o, c, cur, hv, hG, hb, r⟩
  · exact .inl h
  · exact .inr ⟨g, o, c, cur, hv, hG, k.blk hb (hn g hG), r⟩
theorem Own.lt (h : Own w e sz v n cs G) : ∀ g, G = some g → g < w.heap.size := by
  intro g hg
  rcases h.form with ⟨_, _, h⟩ | ⟨g', o, c, cur, hv, hG, hb, r⟩
  · rw [h] at hg; cases hg
  · rw [hG] at hg; obtain rfl := Option.some.inj hg; exact blk_lt hb
theorem Own.slice (h : Own w e sz v n cs G) : ∃ A c, v = .slice A n c ∧ n ≤ c ∧ c ≤ maxLen ∧ Row w A cs ∧ ∀ ad, A = some ad → G = some ad.block := by
  rcases h.form with ⟨rfl, rfl, hG⟩ | ⟨g, o, c, cur, hv, hG, hb, hc, hm, hs, hcell⟩
  · refine ⟨none, 0, rfl, Nat.le_refl _, by simp [maxLen], ?_, fun ad h => by cases h⟩
    have := h.len
    obtain rfl : cs = [] := List.eq_nil_of_length_eq_zero (by simpa using this)
    exact Row.nil _ _
  · refine ⟨_, c, hv, hc, hm, fun j u hj => ⟨_, rfl, ?_⟩, fun ad h => by obtain rfl := Option.some.inj h; exact hG⟩
    rw [add_lit]
    simp [World.cell?, hb, hcell j u hj]
theorem Own.ofRow {base : Nat} (h : w.ownsRow base e sz v n cs) : ∃ G, Own w e sz v n cs G ∧ G = v.ownBlock ∧ ∀ g, G = some g → base ≤ g := by
  rcases h.2 with ⟨rfl, h0⟩ | ⟨g, cap, cur, rfl, hb, hh, h1, h2, h3, h4⟩
  · exact ⟨none, ⟨h.1, .inl ⟨by subst h0; rfl, h0, rfl⟩⟩, rfl, fun g h => by cases h⟩
  · refine ⟨some g, ⟨h.1, .inr ⟨g, 0, cap, cur, rfl, rfl, hh, h1, h2, by omega, fun j u hj => ?_⟩⟩, rfl, fun g' h => by obtain rfl := Option.some.inj h; exact hb⟩
    rw [← h4, List.getElem?_take] at hj
    split at hj
    · simpa using hj
    · cases hj
theorem Own.lit (w : World) (e : TypeId) (sz n : Nat) (C : Array Value) (hm : n ≤ maxLen) (hs : C.size = n * sz) : Own (w.alloc (.cells C e)) e sz (.slice (some ⟨w.heap.size, 0, none⟩) n n) n C.toList (some w.heap.size) := by
  refine ⟨by simpa using hs, .inr ⟨_, 0, n, C, rfl, rfl, heap_alloc_new w _, Nat.le_refl _, hm, by omega, fun j u hj => by simpa using hj⟩⟩
theorem Own.litg (w : World) (g : Nat) (hg : g = w.heap.size) (e : TypeId) (sz n : Nat) (C : Array Value) (hm : n ≤ maxLen) (hs : C.size = n * sz) : Own (w.alloc (.cells C e)) e sz (.slice (some ⟨g, 0, none⟩) n n) n C.toList (some g) := by
  subst hg
  exact Own.lit w e sz n C hm hs
theorem Own.take {A : Option Addr} {c : Nat} (h : Own w e sz (.slice A n c) n cs G) (k : Nat) (hk : k ≤ n) : Own w e sz (.slice A k c) k (cs.take (k * sz)) G := by
  refine ⟨by rw [List.length_take, h.len]; exact Nat.min_eq_left (Nat.mul_le_mul_right _ hk), ?_⟩
  rcases h.form with ⟨hv, rfl, hG⟩ | ⟨g, o, c', cur, hv, hG, hb, hc, hm, hs, hcell⟩
  · injection hv with h1 h2 h3
    subst h1; subst h3
    obtain rfl : k = 0 := by omega
    exact .inl ⟨rfl, rfl, hG⟩
  · injection hv with h1 h2 h3
    subst h1; subst h3
    refine .inr ⟨g, o, c, cur, rfl, hG, hb, by omega, hm, hs, fun j u hj => ?_⟩
    rw [List.getElem?_take] at hj
    split at hj
    · exact hcell j u hj
    · cases hj
end
section
variable {w : World} {e : TypeId} {n g o c i : Nat} {l : List UInt8} {G : Option Nat} {v : Value}
theorem Own.llen (h : Own w e 1 v n (B l) G) : l.length = n := by have := h.len; simpa [B_length] using this
theorem Own.cellB (h : Own w e 1 (.slice (some ⟨g, o, none⟩) n c) n (B l) G) (i : Nat) (hi : i < n) :
    w.cell? ⟨g, o + i, none⟩ = some (.int .u8 ((l[i]'(by rw [h.llen]; exact hi)).toNat : Int)) ∧ w.frozen? ⟨g, o + i, none⟩ = false := by
  have hl := h.llen
  rcases h.form with ⟨hv, _⟩ | ⟨g', o', c', cur, hv, hG, hb, hc, hm, hs, hcell⟩
  · cases hv
  · injection hv with h1 h2 h3
    injection h1 with h1
    injection h1 with h4 h5
    subst h4; subst h5
    have := hcell i _ (B_get l i (by omega))
    constructor
    · simp [World.cell?, hb, this]
    · simp [World.frozen?, hb]
theorem Own.setB (h : Own w e 1 (.slice (some ⟨g, o, none⟩) n c) n (B l) G) (i : Nat) (hi : i < n) (b : UInt8) :
    Own (w.setCell ⟨g, o + i, none⟩ (.int .u8 (b.toNat : Int))) e 1 (.slice (some ⟨g, o, none⟩) n c) n (B (l.set i b)) G := by
  have hl := h.llen
  refine ⟨by simp [B, hl], ?_⟩
  rcases h.form with ⟨hv, _⟩ | ⟨g', o', c', cur, hv, hG, hb, hc, hm, hs, hcell⟩
  · cases hv
  · injection hv with h1 h2 h3
    injection h1 with h1
    injection h1 with h4 h5
    subst h4; subst h5; subst h3
    refine .inr ⟨g, o, c, cur.setIfInBounds (o + i) (.int .u8 (b.toNat : Int)), rfl, hG, by simp [World.setCell, Array.getElem?_modify, hb], hc, hm, by simpa using hs, fun j u hj => ?_⟩
    by_cases e : i = j
    · subst e
      rw [B_get _ i (by simp; omega)] at hj
      simp at hj
      subst hj
      rw [Array.getElem?_setIfInBounds_self_of_lt (by omega)]
    · have : (B (l.set i b))[j]? = (B l)[j]? := by simp [B, List.getElem?_set_ne e]
      rw [this] at hj
      rw [Array.getElem?_setIfInBounds_ne (by omega)]
      exact hcell j u hj
theorem Own.rd {A : Option Addr} (h : Own w e 1 (.slice A n c) n (B l) G) : Rd w A n l := by
  obtain ⟨A', c', hv, h1, h2, h3, _⟩ := h.slice
  injection hv with e1 e2 e3
  subst e1; subst e3
  exact ⟨h.llen, by simp only [maxLen] at h2; omega, h3⟩
end
theorem size_setCells : ∀ (vs : List Value) (b o : Nat) (w : World), (w.setCells b o vs).heap.size = w.heap.size
  | [], _, _, _ => rfl
  | v :: r, b, o, w => by rw [World.setCells, size_setCells r]; simp [World.setCell]
theorem tape_setCells : ∀ (vs : List Value) (b o : Nat) (w : World), (w.setCells b o vs).tape = w.tape
  | [], _, _, _ => rfl
  | v :: r, b, o, w => by rw [World.setCells, tape_setCells r]; rfl
theorem Upd.setCells (w : World) (g o : Nat) (vs : List Value) : Upd (fun k => some k = some g) w (w.setCells g o vs) :=
  ⟨World.os_setCells .., tape_setCells .., World.output_setCells .., Nat.le_of_eq (size_setCells ..).symm, fun i hi hn => World.heap_setCells_other w g o vs hi (fun e => hn (by rw [e]))⟩
theorem blk_setCell {w : World} {g o : Nat} {cur : Array Value} {e : TypeId} {fz : Nat × Nat} (h : w.heap[g]? = some (.cells cur e fz)) (v : Value) :
    (w.setCell ⟨g, o, none⟩ v).heap[g]? = some (.cells (cur.setIfInBounds o v) e fz) := by
  simp [World.setCell, Array.getElem?_modify, h]
theorem blk_setCells : ∀ (vs : List Value) (g o : Nat) (w : World) (cur : Array Value) (e : TypeId) (fz : Nat × Nat), w.heap[g]? = some (.cells cur e fz) → o + vs.length ≤ cur.size →
    ∃ cur', (w.setCells g o vs).heap[g]? = some (.cells cur' e fz) ∧ cur'.size = cur.size ∧ (∀ j, j < o → cur'[j]? = cur[j]?) ∧ (∀ j u, vs[j]? = some u → cur'[o + j]? = some u) ∧ (∀ j, o + vs.length ≤ j → cur'[j]? = cur[j]?)
  | [], g, o, w, cur, e, fz, h, _ => ⟨cur, h, rfl, fun _ _ => rfl, fun j u hj => by simp at hj, fun _ _ => rfl⟩
  | v :: r, g, o, w, cur, e, fz, h, hs => by
    have h1 : (w.setCell ⟨g, o, none⟩ v).heap[g]? = some (.cells (cur.setIfInBounds o v) e fz) := by
      simp [World.setCell, Array.getElem?_modify, h]
    obtain ⟨cur', hb, hsz, ha, hm, hz⟩ := blk_setCells r g (o + 1) _ _ e fz h1 (by simp at hs ⊢; omega)
    simp only [List.length_cons] at hs hz ⊢
    refine ⟨cur', hb, by simpa using hsz, fun j hj => ?_, fun j u hj => ?_, fun j hj => ?_⟩
    · rw [ha j (by omega), Array.getElem?_setIfInBounds_ne (by omega)]
    · cases j with
      | zero =>
        simp only [List.getElem?_cons_zero, Option.some.injEq] at hj
        subst hj
        rw [Nat.add_zero, ha o (by omega)]
        simp [show o < cur.size by omega]
      | succ j =>
        simp only [List.getElem?_cons_succ] at hj
        have := hm j u hj
        rwa [show o + (j + 1) = o + 1 + j by omega]
    · rw [hz j (by omega), Array.getElem?_setIfInBounds_ne (by omega)]
structure Stop (p : Prop) : Prop where mk :: (out : p)
section
variable {P : Program} {ops : Array Oper} {rest : List Oper} {o : Oper} {a : Act} {Q : Exit → Act → World → Prop} {W : World}
theorem stop_append (s x : Operand) (t u : TypeId) (_ho : o.op = .call { callee := .builtin .append, args := #[s, x], argTypes := #[t, u] }) (h : Stop (wpList P ops Q (o :: rest) a W)) : wpList P ops Q (o :: rest) a W := h.out
theorem stop_copy (s x : Operand) (t u : TypeId) (_ho : o.op = .call { callee := .builtin .copy, args := #[s, x], argTypes := #[t, u] }) (h : Stop (wpList P ops Q (o :: rest) a W)) : wpList P ops Q (o :: rest) a W := h.out
theorem stop_make (t : TypeId) (n m : Operand) (_ho : o.op = .makeSlice t n m) (h : Stop (wpList P ops Q (o :: rest) a W)) : wpList P ops Q (o :: rest) a W := h.out
theorem stop_conv (src dst : TypeId) (x : Operand) (_ho : o.op = .convert src dst x) (h : Stop (wpList P ops Q (o :: rest) a W)) : wpList P ops Q (o :: rest) a W := h.out
end
section
variable {P : Program} {S : Nat → Prop} {w : World} {e t ty : TypeId} {sz bytes n m c : Nat} {v z : Value} {cs news : List Value} {G : Option Nat} {A : Option Addr}
theorem run_append (ht : P.underlying t = some (.slice e)) (hinfo : (P.info? e).map (fun i => (i.zero, i.size, i.bytes)) = some (some z, sz, bytes)) (hz : z.cells.size = sz) (hsz : 0 < sz)
    (HO : Own w e sz v n cs G) (HR : Row w A news) (hl : news.length = m * sz) (h1 : ∀ u ∈ news, u.oneCell' = true) (h63 : n + m ≤ maxLen) (hbytes : (n + m) * bytes ≤ 140737488355328) :
    ∃ v' w' G', (Builtin.append_ #[t, t] ty #[v, .slice A m c]).run P w = .ok v' w' ∧ Own w' e sz v' (n + m) (cs ++ news) G' ∧ Upd (fun k => some k = G) w w' ∧ (G' = G ∨ ∃ g, G' = some g ∧ w.heap.size ≤ g ∧ g < w'.heap.size) := by
  obtain ⟨i0, hi, hzz⟩ := Option.map_eq_some_iff.1 hinfo
  simp only [Prod.mk.injEq] at hzz
  obtain ⟨hz0, hz1, hz2⟩ := hzz
  have fin : ∀ v' w', w'.ownsRow w.heap.size e sz v' (n + m) (cs ++ news) → w.grownBy w' none → 0 < m →
      ∃ G', Own w' e sz v' (n + m) (cs ++ news) G' ∧ Upd (fun k => some k = G) w w' ∧ (G' = G ∨ ∃ g, G' = some g ∧ w.heap.size ≤ g ∧ g < w'.heap.size) := by
    intro v' w' ho hg hm
    obtain ⟨G', hO, _, hb⟩ := Own.ofRow ho
    refine ⟨G', hO, ⟨hg.os, hg.tape, hg.output, hg.size, fun i hi _ => hg.block i hi (by simp)⟩, .inr ?_⟩
    rcases hO.form with ⟨_, h0, _⟩ | ⟨g, o, c, cur, hv, hG, hbk, r⟩
    · omega
    · exact ⟨g, hG, hb g hG, blk_lt hbk⟩
  rcases Nat.eq_zero_or_pos m with h0 | h0
  · subst h0
    obtain rfl : news = [] := List.eq_nil_of_length_eq_zero (by simpa using hl)
    refine ⟨v, w, G, ?_, by simpa using HO, Upd.refl _ _, .inl rfl⟩
    have hload : ∀ x : Addr, (loadCells x 0).run P w = .ok #[] w := fun x => by simp [loadCells, loadCellsFrom]
    rcases HO.form with ⟨rfl, hn, hG⟩ | ⟨g, o, c', cur, rfl, hG, hb, hc, r⟩
    · cases A <;> simp [Builtin.append_, run_underlying ht, sizeOf, typeInfo, hi, Builtin.lenOf, Builtin.firstCells, hload]
    · cases A <;> simp [Builtin.append_, run_underlying ht, sizeOf, typeInfo, hi, Builtin.lenOf, Builtin.firstCells, hc, storeCells, hload]
  · have hne : 0 < news.length := by rw [hl]; exact Nat.mul_pos h0 hsz
    obtain ⟨ad, rfl, _⟩ := HR 0 _ (List.getElem?_eq_getElem hne)
    have hcells : ∀ j u, news[j]? = some u → w.cell? (ad.add j) = some u := fun j u hj => by
      obtain ⟨ad', e', hc⟩ := HR j u hj
      obtain rfl := Option.some.inj e'
      exact hc
    rcases HO.form with ⟨rfl, rfl, hG⟩ | ⟨g, o, c', cur, rfl, hG, hb, hc, hm, hs, hcell⟩
    · obtain rfl : cs = [] := List.eq_nil_of_length_eq_zero (by have := HO.len; simpa using this)
      obtain ⟨v', w', hr, ho, hg, _⟩ := run_append_own_at (P := P) w w.heap.size t ty e i0 z sz bytes ht hi hz0 hz1 hz2 hz hsz (.slice none 0 0) 0 [] (World.ownsRow_nil w _ e sz) ad m c news hl hcells h1 h63 hbytes (Nat.le_refl _)
      obtain ⟨G', r⟩ := fin v' w' ho hg h0
      exact ⟨v', w', G', hr, r⟩
    · by_cases hroom : n + m ≤ c'
      · have hfit : o + n * sz + news.length ≤ cur.size := by
          rw [hl, Nat.add_assoc, ← Nat.add_mul]
          exact Nat.le_trans (Nat.add_le_add_left (Nat.mul_le_mul_right _ hroom) _) hs
        have hr := run_append_room_cells (P := P) w t ty e i0 ht hi g o n c' ad m c news (by rw [hz1]; exact hl) hcells h1 hroom
          (fun j hj => by rw [hz1]; simp [World.cell?, hb]; omega)
          (fun j hj => by simp [World.frozen?, hb])
        rw [hz1] at hr
        obtain ⟨cur', hb', hsz', ha', hm', hz'⟩ := blk_setCells news g (o + n * sz) w cur e (0, 0) hb hfit
        refine ⟨_, _, some g, hr, ⟨by rw [List.length_append, HO.len, hl, Nat.add_mul], .inr ⟨g, o, c', cur', rfl, rfl, hb', hroom, hm, by rw [hsz']; exact hs, fun j u hj => ?_⟩⟩, ?_, .inl hG.symm⟩
        · have hcl := HO.len
          rcases Nat.lt_or_ge j cs.length with hj1 | hj1
          · rw [List.getElem?_append_left hj1] at hj
            rw [ha' _ (by omega)]
            exact hcell j u hj
          · rw [List.getElem?_append_right hj1] at hj
            have := hm' _ u hj
            rwa [show o + n * sz + (j - cs.length) = o + j by omega] at this
        · subst hG
          exact Upd.setCells w g (o + n * sz) news
      · have holds : ∀ j u, cs[j]? = some u → w.cell? ((⟨g, o, none⟩ : Addr).add j) = some u := fun j u hj => by
          rw [add_lit]
          simp [World.cell?, hb, hcell j u hj]
        obtain ⟨v', w', hr, ho, hg⟩ := run_append_arg_grows (P := P) w t ty e i0 z sz bytes ht hi hz0 hz1 hz2 hz hsz ⟨g, o, none⟩ n c' cs HO.len holds ad m c news hl hcells (by omega) h63 hbytes
        obtain ⟨G', r⟩ := fin v' w' ho hg h0
        exact ⟨v', w', G', hr, r⟩
end
section
variable {P : Program} {ops : Array Oper} {rest : List Oper} {o : Oper} {a : Act} {Q : Exit → Act → World → Prop} {W : World}
theorem wp_append (hgd : o.guard = none) (s x : Operand) (t e : TypeId) (z : Value) (sz bytes : Nat)
    (ho : o.op = .call { callee := .builtin .append, args := #[s, x], argTypes := #[t, t] })
    (ht : P.underlying t = some (.slice e)) (hinfo : (P.info? e).map (fun i => (i.zero, i.size, i.bytes)) = some (some z, sz, bytes)) (hz : z.cells.size = sz) (hsz : 0 < sz)
    (v : Value) (n : Nat) (cs : List Value) (G : Option Nat) (A : Option Addr) (m c : Nat) (news : List Value) (hs : a.eval s = v) (hx : a.eval x = .slice A m c)
    (HO : Own W e sz v n cs G) (HR : Row W A news) (hl : news.length = m * sz) (h1 : ∀ u ∈ news, u.oneCell' = true) (h63 : n + m ≤ maxLen) (hbytes : (n + m) * bytes ≤ 140737488355328)
    (h : ∀ v1 w1 G1, Own w1 e sz v1 (n + m) (cs ++ news) G1 → Upd (fun k => some k = G) W w1 → (G1 = G ∨ ∃ g, G1 = some g ∧ W.heap.size ≤ g ∧ g < w1.heap.size) → wpList P ops Q rest (a.put o.dst v1) w1) :
    Stop (wpList P ops Q (o :: rest) a W) := by
  constructor
  obtain ⟨v', w', G', hr, hO, hU, hG⟩ := run_append (P := P) (ty := o.type) (c := c) ht hinfo hz hsz HO HR hl h1 h63 hbytes
  refine wpList_plain hgd fun K hK => ?_
  unfold Oper.wp execOp
  simp only [ho, resolve, invoke, builtin, Sem.run_bind, Sem.run_pure, Result.andThen_ok, List.map_toArray, List.map_cons, List.map_nil, hs, hx, hr]
  exact hK _ _ (h v' w' G' hO hU hG)
theorem wp_appendB (N : Nat) (e : TypeId) (l l2 : List UInt8) (G : Option Nat) (A0 : Option Addr) (n c0 : Nat) (A : Option Addr) (m c : Nat) (hgd : o.guard = none) (s x : Operand) (t : TypeId)
    (ho : o.op = .call { callee := .builtin .append, args := #[s, x], argTypes := #[t, t] })
    (ht : P.underlying t = some (.slice e)) (hinfo : (P.info? e).map (fun i => (i.zero, i.size, i.bytes)) = some (some (.int .u8 0), 1, 1))
    (hs : a.eval s = .slice A0 n c0) (hx : a.eval x = .slice A m c) (HO : Own W e 1 (.slice A0 n c0) n (B l) G) (HR : Rd W A m l2) (hN : N = n + m) (hlim : N ≤ 140737488355328)
    (h : ∀ A1 c1 w1 G1, N ≤ c1 → c1 ≤ maxLen → Own w1 e 1 (.slice A1 N c1) N (B (l ++ l2)) G1 → Upd (fun k => some k = G) W w1 → (G1 = G ∨ ∃ g, G1 = some g ∧ W.heap.size ≤ g ∧ g < w1.heap.size) → wpList P ops Q rest (a.put o.dst (.slice A1 N c1)) w1) :
    Stop (wpList P ops Q (o :: rest) a W) := by
  subst hN
  refine wp_append hgd s x t e (.int .u8 0) 1 1 ho ht hinfo rfl (by omega) _ n (B l) G A m c (B l2) hs hx HO HR.row (by rw [B_length, HR.len, Nat.mul_one]) (B_one l2) (by simp only [maxLen]; omega) (by omega) ?_
  intro v1 w1 G1 hO hU hG
  rw [← B_append] at hO
  obtain ⟨A1, c1, rfl, h1, h2, _, _⟩ := hO.slice
  exact h A1 c1 w1 G1 h1 h2 hO hU hG
theorem wp_appendF {S : Nat → Prop} {w0 : World} (HU : Upd S w0 W) (N : Nat) (e : TypeId) (l l2 : List UInt8) (G : Option Nat) (A0 : Option Addr) (n c0 : Nat) (A : Option Addr) (m c : Nat) (hgd : o.guard = none) (s x : Operand) (t : TypeId)
    (ho : o.op = .call { callee := .builtin .append, args := #[s, x], argTypes := #[t, t] })
    (ht : P.underlying t = some (.slice e)) (hinfo : (P.info? e).map (fun i => (i.zero, i.size, i.bytes)) = some (some (.int .u8 0), 1, 1))
    (hs : a.eval s = .slice A0 n c0) (hx : a.eval x = .slice A m c) (HO : Own W e 1 (.slice A0 n c0) n (B l) G) (hG : ∀ g, G = some g → w0.heap.size ≤ g) (HR : Rd W A m l2) (hN : N = n + m) (hlim : N ≤ 140737488355328)
    (h : ∀ A1 c1 w1 G1, N ≤ c1 → c1 ≤ maxLen → Own w1 e 1 (.slice A1 N c1) N (B (l ++ l2)) G1 → (∀ g, G1 = some g → w0.heap.size ≤ g) → Upd S w0 w1 → Upd (fun k => some k = G) W w1 → (G1 = G ∨ ∃ g, G1 = some g ∧ W.heap.size ≤ g ∧ g < w1.heap.size) → wpList P ops Q rest (a.put o.dst (.slice A1 N c1)) w1) :
    Stop (wpList P ops Q (o :: rest) a W) := by
  refine wp_appendB N e l l2 G A0 n c0 A m c hgd s x t ho ht hinfo hs hx HO HR hN hlim ?_
  intro A1 c1 w1 G1 h1 h2 hO hU hg
  refine h A1 c1 w1 G1 h1 h2 hO ?_ (HU.trans hU fun i hi e => ?_) hU hg
  · intro g e
    rcases hg with rfl | ⟨g', rfl, h3, _⟩
    · exact hG g e
    · obtain rfl := Option.some.inj e
      exact Nat.le_trans HU.size h3
  · have := hG i e.symm
    omega
end
section
variable {P : Program} {ops : Array Oper} {rest : List Oper} {o : Oper} {a : Act} {Q : Exit → Act → World → Prop} {W : World}
theorem wp_makeB (m : Nat) (e : TypeId) (hgd : o.guard = none) (x y : Operand) (t : TypeId) (ho : o.op = .makeSlice t x y)
    (ht : P.underlying t = some (.slice e)) (hinfo : (P.info? e).map (fun i => (i.zero, i.size, i.bytes)) = some (some (.int .u8 0), 1, 1))
    (hx : a.eval x = .int .i64 (m : Int)) (hy : a.eval y = .int .i64 (m : Int)) (hm : m ≤ 281474976710656)
    (h : ∀ w1, Own w1 e 1 (.slice (some ⟨W.heap.size, 0, none⟩) m m) m (B (List.replicate m 0)) (some W.heap.size) → Upd (fun _ => False) W w1 → W.heap.size < w1.heap.size → wpList P ops Q rest (a.put o.dst (.slice (some ⟨W.heap.size, 0, none⟩) m m)) w1) :
    Stop (wpList P ops Q (o :: rest) a W) := by
  constructor
  have hr := run_make_row' (P := P) t e (.int .u8 0) 1 ht hinfo rfl .i64 .i64 m (by omega) (by omega) W
  refine wpList_plain hgd fun K hK => ?_
  unfold Oper.wp execOp
  simp only [ho, hx, hy, hr, Result.andThen_ok, Sem.run_bind, Sem.run_pure]
  refine hK _ _ (h _ ?_ ((Upd.refl _ _).alloc _) (by simp))
  have := Own.lit W e 1 m (madeCells #[.int .u8 0] m) (by simp only [maxLen]; omega) (by simp [size_madeCells])
  have hl : (madeCells #[Value.int .u8 0] m).toList = B (List.replicate m 0) := by
    apply List.ext_getElem
    · simp [B, madeCells]
    · intro i h1 h2
      simp [B, madeCells, Nat.mod_one]
  rwa [hl] at this
theorem wp_copyB (e : TypeId) (l l2 : List UInt8) (G : Option Nat) (A0 : Option Addr) (n c0 : Nat) (A : Option Addr) (m c : Nat) (hgd : o.guard = none) (s x : Operand) (t : TypeId)
    (ho : o.op = .call { callee := .builtin .copy, args := #[s, x], argTypes := #[t, t] })
    (ht : P.underlying t = some (.slice e)) (hinfo : (P.info? e).map (fun i => (i.zero, i.size, i.bytes)) = some (some (.int .u8 0), 1, 1))
    (hs : a.eval s = .slice A0 n c0) (hx : a.eval x = .slice A m c) (HO : Own W e 1 (.slice A0 n c0) n (B l) G) (HR : Rd W A m l2)
    (h : ∀ w1, Own w1 e 1 (.slice A0 n c0) n (B (l2.take n ++ l.drop m)) G → Upd (fun k => some k = G) W w1 → wpList P ops Q rest (a.put o.dst (.int .i64 ((min m n : Nat) : Int))) w1) :
    Stop (wpList P ops Q (o :: rest) a W) := by
  constructor
  have hll := HO.llen
  have hl2 := HR.len
  have hsz : (P.info? e).map (·.size) = some 1 := by
    obtain ⟨i0, hi, hzz⟩ := Option.map_eq_some_iff.1 hinfo
    simp only [Prod.mk.injEq] at hzz
    rw [hi]; simp [hzz.2.1]
  have hrun : ∃ w1, (Builtin.copy_ #[t, t] o.type #[.slice A0 n c0, .slice A m c]).run P W = .ok (goInt ((min m n : Nat) : Int)) w1 ∧ Own w1 e 1 (.slice A0 n c0) n (B (l2.take n ++ l.drop m)) G ∧ Upd (fun k => some k = G) W w1 := by
    rcases Nat.eq_zero_or_pos (min m n) with h0 | h0
    · refine ⟨W, ?_, ?_, Upd.refl _ _⟩
      · rw [run_copy_none (P := P) W t t o.type e A0 A n c0 m c ht hsz (by simpa using h0), h0]
        rfl
      · have : l2.take n ++ l.drop m = l := by
          rcases Nat.eq_zero_or_pos m with h1 | h1
          · subst h1
            obtain rfl : l2 = [] := List.eq_nil_of_length_eq_zero hl2
            simp
          · have : n = 0 := by omega
            subst this
            obtain rfl : l = [] := List.eq_nil_of_length_eq_zero hll
            simp
        rw [this]; exact HO
    · rcases HO.form with ⟨_, hn, _⟩ | ⟨g, o', c', cur, hv, hG, hb, hc, hm, hs', hcell⟩
      · omega
      · injection hv with h1 h2 h3
        subst h1; subst h3
        obtain ⟨ad, rfl, _⟩ := HR.at 0 (by omega)
        have hlen : (B (l2.take n)).length = min m n := by rw [B_length, List.length_take, hl2]; omega
        have hr := run_copy_cells (P := P) W t t o.type e g o' n c0 ad m c (B (l2.take n)) ht hsz (by rw [hlen])
          (fun j v hj => by
            rw [B_take, List.getElem?_take] at hj
            split at hj
            · obtain ⟨ad', e', hc⟩ := HR.row j v hj
              obtain rfl := Option.some.inj e'
              exact hc
            · cases hj)
          (fun j hj => by rw [hlen] at hj; simp [World.cell?, hb]; omega)
          (fun j hj => by simp [World.frozen?, hb]) (B_one _)
        rw [hlen] at hr
        obtain ⟨cur', hb', hsz', ha', hm', hz'⟩ := blk_setCells (B (l2.take n)) g o' W cur e (0, 0) hb (by rw [hlen]; omega)
        refine ⟨_, hr, ⟨by rw [B_length, List.length_append, List.length_take, List.length_drop]; omega, .inr ⟨g, o', c0, cur', rfl, hG, hb', hc, hm, by rw [hsz']; exact hs', fun j u hj => ?_⟩⟩, ?_⟩
        · rw [B_append] at hj
          rcases Nat.lt_or_ge j (min m n) with hj1 | hj1
          · rw [List.getElem?_append_left (by rw [hlen]; exact hj1)] at hj
            exact hm' j u hj
          · rw [List.getElem?_append_right (by rw [hlen]; exact hj1), hlen, B_drop, List.getElem?_drop] at hj
            rw [hz' _ (by rw [hlen]; omega)]
            have : m + (j - min m n) = j ∨ n ≤ m := by omega
            rcases this with h | h
            · rw [h] at hj
              exact hcell j u hj
            · rw [List.getElem?_eq_none (by rw [B_length]; omega)] at hj
              cases hj
        · subst hG
          exact Upd.setCells W g o' _
  obtain ⟨w1, hr, hO, hU⟩ := hrun
  refine wpList_plain hgd fun K hK => ?_
  unfold Oper.wp execOp
  simp only [ho, resolve, invoke, builtin, Sem.run_bind, Sem.run_pure, Result.andThen_ok, List.map_toArray, List.map_cons, List.map_nil, hs, hx, hr]
  exact hK _ _ (h w1 hO hU)
theorem Own.drop {w : World} {e : TypeId} {sz n c : Nat} {A : Option Addr} {cs : List Value} {G : Option Nat} (h : Own w e sz (.slice A n c) n cs G) (m : Nat) (hm : m ≤ n) (hc : n ≤ c) :
    Own w e sz (.slice (if c = m then A else A.map (·.add (m * sz))) (n - m) (c - m)) (n - m) (cs.drop (m * sz)) G := by
  refine ⟨by rw [List.length_drop, h.len, Nat.sub_mul], ?_⟩
  rcases h.form with ⟨hv, rfl, hG⟩ | ⟨g, o, c', cur, hv, hG, hb, hc', hm', hs, hcell⟩
  · injection hv with h1 h2 h3
    subst h1; subst h3
    obtain rfl : m = 0 := by omega
    exact .inl ⟨by simp, by omega, hG⟩
  · injection hv with h1 h2 h3
    subst h1; subst h3
    refine .inr ?_
    by_cases hcm : c = m
    · subst hcm
      refine ⟨g, o, 0, cur, by simp, hG, hb, by omega, by simp [maxLen], by omega, fun j u hj => ?_⟩
      rw [List.getElem?_eq_none (by rw [List.length_drop, h.len]; have := Nat.mul_le_mul_right sz hc; omega)] at hj
      cases hj
    · refine ⟨g, o + m * sz, c - m, cur, by simp [hcm, add_lit], hG, hb, by omega, by omega, ?_, fun j u hj => ?_⟩
      · have : m * sz + (c - m) * sz = c * sz := by rw [← Nat.add_mul]; congr 1; omega
        omega
      · rw [List.getElem?_drop] at hj
        have := hcell _ u hj
        rwa [Nat.add_assoc]
theorem cut_from {P : Program} (t e : TypeId) (kl : IntKind) {sz : Nat} (ht : P.underlying t = some (.slice e)) (hi : (P.info? e).map (·.size) = some sz) (A : Option Addr) (n c m : Nat) (hm : m ≤ n) (hc : n ≤ c) :
    ∃ A' : Option Addr, (∀ W : World, (Instr.slice t (.slice A n c) (some (.int kl (m : Int))) none none).run P W = .ok (.slice A' (n - m) (c - m)) W) ∧
      (∀ w cs G, Own w e sz (.slice A n c) n cs G → Own w e sz (.slice A' (n - m) (c - m)) (n - m) (cs.drop (m * sz)) G) ∧
      (sz = 1 → ∀ w l, Rd w A n l → Rd w A' (n - m) (l.drop m)) ∧ (∀ ad, A' = some ad → ∃ ad', A = some ad' ∧ ad.block = ad'.block) := by
  obtain ⟨i, hi1, hi2⟩ := Option.map_eq_some_iff.1 hi
  refine ⟨if c = m then A else A.map (·.add (m * sz)), fun W => ?_, fun w cs G h => h.drop m hm hc, fun h1 w l h => by subst h1; rw [Nat.mul_one]; exact h.drop_if m c hm hc, fun ad e => ?_⟩
  · have hel : P.elem t = e := by simp [Program.elem, ht]
    have hu : P.underlying t = some (.slice (P.elem t)) := by rw [hel]; exact ht
    rw [run_slice_l W t A n c hu kl (m : Int) (Int.natCast_nonneg _) (by omega), hel]
    simp [sizeOf, typeInfo, hi1, hi2, sliced, Result.andThen]
  · split at e
    · exact ⟨ad, e, rfl⟩
    · cases A with
      | none => cases e
      | some a => obtain rfl := Option.some.inj e; exact ⟨a, rfl, add_block ..⟩
theorem cut_both {P : Program} (t e : TypeId) (kl kh : IntKind) {sz : Nat} (ht : P.underlying t = some (.slice e)) (hi : (P.info? e).map (·.size) = some sz) (A : Option Addr) (n c m h : Nat) (hm : m ≤ h) (hh : h ≤ n) (hc : n ≤ c) :
    ∃ A' : Option Addr, (∀ W : World, (Instr.slice t (.slice A n c) (some (.int kl (m : Int))) (some (.int kh (h : Int))) none).run P W = .ok (.slice A' (h - m) (c - m)) W) ∧
      (∀ w cs G, Own w e sz (.slice A n c) n cs G → Own w e sz (.slice A' (h - m) (c - m)) (h - m) ((cs.take (h * sz)).drop (m * sz)) G) ∧
      (sz = 1 → ∀ w l, Rd w A n l → Rd w A' (h - m) ((l.take h).drop m)) ∧ (∀ ad, A' = some ad → ∃ ad', A = some ad' ∧ ad.block = ad'.block) := by
  obtain ⟨i, hi1, hi2⟩ := Option.map_eq_some_iff.1 hi
  refine ⟨if c = m then A else A.map (·.add (m * sz)), fun W => ?_, fun w cs G k => (k.take h hh).drop m hm (by omega), fun h1 w l k => by subst h1; rw [Nat.mul_one]; exact (k.take h hh).drop_if m c hm (by omega), fun ad e => ?_⟩
  · have hel : P.elem t = e := by simp [Program.elem, ht]
    have hu : P.underlying t = some (.slice (P.elem t)) := by rw [hel]; exact ht
    rw [run_slice_lh W t A n c hu kl kh (m : Int) (h : Int) (Int.natCast_nonneg _) (by omega) (by omega), hel]
    simp [sizeOf, typeInfo, hi1, hi2, sliced, Result.andThen]
  · split at e
    · exact ⟨ad, e, rfl⟩
    · cases A with
      | none => cases e
      | some a => obtain rfl := Option.some.inj e; exact ⟨a, rfl, add_block ..⟩
theorem cut_from' {P : Program} (t e : TypeId) (kl : IntKind) {sz : Nat} (ht : P.underlying t = some (.slice e)) (hi : (P.info? e).map (·.size) = some sz) (A : Option Addr) (n c m : Nat) (i : Int) (him : i = (m : Int)) (hm : m ≤ n) (hc : n ≤ c) :
    ∃ A' : Option Addr, (∀ W : World, (Instr.slice t (.slice A n c) (some (.int kl i)) none none).run P W = .ok (.slice A' (n - m) (c - m)) W) ∧
      (∀ w cs G, Own w e sz (.slice A n c) n cs G → Own w e sz (.slice A' (n - m) (c - m)) (n - m) (cs.drop (m * sz)) G) ∧
      (sz = 1 → ∀ w l, Rd w A n l → Rd w A' (n - m) (l.drop m)) ∧ (∀ ad, A' = some ad → ∃ ad', A = some ad' ∧ ad.block = ad'.block) := by
  subst him
  exact cut_from t e kl ht hi A n c m hm hc
theorem cut_both' {P : Program} (t e : TypeId) (kl kh : IntKind) {sz : Nat} (ht : P.underlying t = some (.slice e)) (hi : (P.info? e).map (·.size) = some sz) (A : Option Addr) (n c m h : Nat) (i j : Int) (him : i = (m : Int)) (hjh : j = (h : Int)) (hm : m ≤ h) (hh : h ≤ n) (hc : n ≤ c) :
    ∃ A' : Option Addr, (∀ W : World, (Instr.slice t (.slice A n c) (some (.int kl i)) (some (.int kh j)) none).run P W = .ok (.slice A' (h - m) (c - m)) W) ∧
      (∀ w cs G, Own w e sz (.slice A n c) n cs G → Own w e sz (.slice A' (h - m) (c - m)) (h - m) ((cs.take (h * sz)).drop (m * sz)) G) ∧
      (sz = 1 → ∀ w l, Rd w A n l → Rd w A' (h - m) ((l.take h).drop m)) ∧ (∀ ad, A' = some ad → ∃ ad', A = some ad' ∧ ad.block = ad'.block) := by
  subst him; subst hjh
  exact cut_both t e kl kh ht hi A n c m h hm hh hc
def mx (a b : Int) : Int := if a < b then b else a
def mn (a b : Int) : Int := if b < a then b else a
@[go_sem] theorem max2_i (k k' : IntKind) (x y : Int) : Builtin.max2 (.int k x) (.int k' y) = pure (.int k (mx x y)) := by simp only [Builtin.max2, gt_iff_lt, mx]
@[go_sem] theorem min2_i (k k' : IntKind) (x y : Int) : Builtin.min2 (.int k x) (.int k' y) = pure (.int k (mn x y)) := by simp only [Builtin.min2, mn]
@[go_sem] theorem max_two (ats : Array TypeId) (ty : TypeId) (a b : Value) : Builtin.max_ ats ty #[a, b] = (Builtin.max2 a b >>= fun s => pure s) := by simp only [Builtin.max_, List.foldlM_cons, List.foldlM_nil]
@[go_sem] theorem min_two (ats : Array TypeId) (ty : TypeId) (a b : Value) : Builtin.min_ ats ty #[a, b] = (Builtin.min2 a b >>= fun s => pure s) := by simp only [Builtin.min_, List.foldlM_cons, List.foldlM_nil]
@[go_sem] theorem max_three (ats : Array TypeId) (ty : TypeId) (a b c : Value) : Builtin.max_ ats ty #[a, b, c] = (Builtin.max2 a b >>= fun s => Builtin.max2 s c >>= fun s => pure s) := by simp only [Builtin.max_, List.foldlM_cons, List.foldlM_nil]
@[go_sem] theorem min_three (ats : Array TypeId) (ty : TypeId) (a b c : Value) : Builtin.min_ ats ty #[a, b, c] = (Builtin.min2 a b >>= fun s => Builtin.min2 s c >>= fun s => pure s) := by simp only [Builtin.min_, List.foldlM_cons, List.foldlM_nil]
def S (l : List UInt8) : ByteArray := ⟨l.toArray⟩
@[go_sem] theorem S_size (l : List UInt8) : (S l).size = l.length := by simp [S, ByteArray.size]
@[go_sem] theorem S_append (l m : List UInt8) : S l ++ S m = S (l ++ m) := by
  apply ByteArray.ext
  simp [S]
@[go_sem] theorem S_extract (l : List UInt8) (i j : Nat) : (S l).extract i j = S ((l.drop i).take (j - i)) := by
  apply ByteArray.ext
  simp [S, List.extract_eq_take_drop]
theorem S_of (s : ByteArray) : s = S s.data.toList := by
  apply ByteArray.ext
  simp [S]
theorem run_str {P : Program} {src dst e : TypeId} (hs : P.underlying src = some (.slice e)) (he : P.underlying e = some (.int .u8)) (hd : P.underlying dst = some .string) {A : Option Addr} {n c : Nat} {l : List UInt8} (HR : Rd W A n l) :
    (convert src dst (.slice A n c)).run P W = .ok (.string (S l)) W := by
  rw [run_convert_bytes_string W src dst e A n c hs he hd]
  rcases Nat.eq_zero_or_pos n with h0 | h0
  · subst h0
    obtain rfl : l = [] := List.eq_nil_of_length_eq_zero HR.len
    cases A with
    | none => simp [Conv.bytesToString, S]; rfl
    | some ad =>
      have := run_bytesToString (P := P) W ad 0 c [] (by simp [loadCells, loadCellsFrom])
      rw [this]
      rfl
  · obtain ⟨ad, rfl, _⟩ := HR.at 0 h0
    have hl : (loadCells ad n).run P W = .ok (B l).toArray W := by
      have := run_loadCells_list (P := P) W ad (B l) (fun j v hj => by
        obtain ⟨ad', e', hc⟩ := HR.row j v hj
        obtain rfl := Option.some.inj e'
        exact hc)
      rwa [B_length, HR.len] at this
    have hB : (B l) = (l.map fun b => (b.toNat : Int)).map (Value.int .u8) := by simp [B]
    rw [hB] at hl
    rw [run_bytesToString (P := P) W ad n c (l.map fun b => (b.toNat : Int)) hl, foldl_push_bytes]
    congr 2
    apply ByteArray.ext
    simp [S, ByteArray.empty, ByteArray.emptyWithCapacity]
    exact List.map_id'' (fun b => by simp) l
theorem wp_str (l : List UInt8) (A : Option Addr) (n c : Nat) (hgd : o.guard = none) (src dst e : TypeId) (x : Operand) (ho : o.op = .convert src dst x)
    (hs : P.underlying src = some (.slice e)) (he : P.underlying e = some (.int .u8)) (hd : P.underlying dst = some .string) (hx : a.eval x = .slice A n c) (HR : Rd W A n l)
    (h : wpList P ops Q rest (a.put o.dst (.string (S l))) W) : Stop (wpList P ops Q (o :: rest) a W) := by
  constructor
  refine wpList_plain hgd fun K hK => ?_
  unfold Oper.wp execOp
  simp only [ho, hx, Sem.run_bind, Sem.run_pure, run_str (c := c) hs he hd HR, Result.andThen_ok]
  exact hK _ _ h
end
section
variable {P : Program} {ops : Array Oper} {o : Oper} {a : Act} {K : Act → World → Prop} {Q : Exit → Act → World → Prop} {E : Prop} {W : World}
theorem gate_app (s x : Operand) (t : TypeId) (_ho : o.op = .call { callee := .builtin .append, args := #[s, x], argTypes := #[t, t] }) (h : if Region.wanted o (yielded ops a.tmps) = true then Oper.wp P o a W K Q else E) : if Region.wanted o (yielded ops a.tmps) = true then Oper.wp P o a W K Q else E := h
theorem step_appendF {S : Nat → Prop} {w0 : World} (HU : Upd S w0 W) (N : Nat) (e : TypeId) (l l2 : List UInt8) (G : Option Nat) (A0 : Option Addr) (n c0 : Nat) (A : Option Addr) (m c : Nat) (hgd : o.guard = none) (s x : Operand) (t : TypeId)
    (ho : o.op = .call { callee := .builtin .append, args := #[s, x], argTypes := #[t, t] })
    (ht : P.underlying t = some (.slice e)) (hinfo : (P.info? e).map (fun i => (i.zero, i.size, i.bytes)) = some (some (.int .u8 0), 1, 1))
    (hs : a.eval s = .slice A0 n c0) (hx : a.eval x = .slice A m c) (HO : Own W e 1 (.slice A0 n c0) n (B l) G) (hG : ∀ g, G = some g → w0.heap.size ≤ g) (HR : Rd W A m l2) (hN : N = n + m) (hlim : N ≤ 140737488355328)
    (h : ∀ A1 c1 w1 G1, N ≤ c1 → c1 ≤ maxLen → Own w1 e 1 (.slice A1 N c1) N (B (l ++ l2)) G1 → (∀ g, G1 = some g → w0.heap.size ≤ g) → Upd S w0 w1 → Upd (fun k => some k = G) W w1 → (G1 = G ∨ ∃ g, G1 = some g ∧ W.heap.size ≤ g ∧ g < w1.heap.size) → K (a.put o.dst (.slice A1 N c1)) w1) :
    if Region.wanted o (yielded ops a.tmps) = true then Oper.wp P o a W K Q else E := by
  have hw : Region.wanted o (yielded ops a.tmps) = true := by simp [Region.wanted, hgd]
  rw [if_pos hw]
  subst hN
  obtain ⟨v', w', G', hr, hO, hU, hg⟩ := run_append (P := P) (ty := o.type) (c := c) ht hinfo rfl (by omega) HO HR.row (by rw [B_length, HR.len, Nat.mul_one]) (B_one l2) (by simp only [maxLen]; omega) (by omega)
  rw [← B_append] at hO
  obtain ⟨A1, c1, rfl, h1, h2, _, _⟩ := hO.slice
  unfold Oper.wp execOp
  simp only [ho, resolve, invoke, builtin, Sem.run_bind, Sem.run_pure, Result.andThen_ok, List.map_toArray, List.map_cons, List.map_nil, hs, hx, hr]
  refine h A1 c1 w' G' h1 h2 hO ?_ (HU.trans hU fun i hi e => ?_) hU hg
  · intro g e
    rcases hg with rfl | ⟨g', rfl, h3, _⟩
    · exact hG g e
    · obtain rfl := Option.some.inj e
      exact Nat.le_trans HU.size h3
  · have := hG i e.symm
    omega
end
theorem Rd.up {w w1 : World} {A : Option Addr} {n : Nat} {l : List UInt8} (h : Rd w A n l) (k : Upd (fun _ => False) w w1) : Rd w1 A n l := h.upd k (fun _ _ h => h)
end Go.Proofs.YteepkanbiefpjaaGreatDoor.K
set_option linter.unusedVariables false
set_option linter.unusedSimpArgs false
namespace Go.Proofs.YteepkanbiefpjaaGreatDoor.K
open Go.RowKit Go.ChangeShapes Go.WideShapes Go.Deep
def reach : Nat := 140737488351232
theorem reach_eq : reachBytes = reach := rfl
abbrev Rdr (α : Type) := World → List Value → α → Prop
def Opens (P : Program) (t : TypeId) {α : Type} (R : Rdr α) : Prop :=
  ∀ (H : Type) (enc : TypeId × Value → H) (W : World) (fuel : Nat) (cs : List Value) (x : DataW H × List MemPlace), DataW.trod enc P W 0 (fun _ => true) true fuel t cs = some x → (∀ n ∈ x.1.weights P t, n ≤ reach) → ∃ a, R W cs a
def Stays {α : Type} (R : Rdr α) : Prop := ∀ w w1 cs a, Upd (fun _ => False) w w1 → R w cs a → R w1 cs a
structure RdI (w : World) (k : IntKind) (A : Option Addr) (n : Nat) (l : List Int) : Prop where
  len : l.length = n
  lim : n ≤ 9223372036854775807
  wf : ∀ x ∈ l, (Lit.int k x).wf = true
  at_ : ∀ i (h : i < n), ∃ ad, A = some ad ∧ w.cell? (ad.add i) = some (.int k (l[i]'(by rw [len]; exact h)))
theorem RdI.up {w w1 : World} {k : IntKind} {A : Option Addr} {n : Nat} {l : List Int} (h : RdI w k A n l) (hu : Upd (fun _ => False) w w1) : RdI w1 k A n l :=
  ⟨h.len, h.lim, h.wf, fun i hi => by
    obtain ⟨ad, e, hc⟩ := h.at_ i hi
    exact ⟨ad, e, hu.cell hc (fun h => h)⟩⟩
theorem RdI.ofInts {w : World} {k : IntKind} {a : Option Addr} {len cap : Nat} (h : (a = none ∧ len = 0 ∧ cap = 0) ∨
    ∃ x, ∃ zs : List Int, a = some x ∧ len ≤ cap ∧ cap ≤ maxLen ∧ zs.length = cap ∧ (∀ i, i < zs.length → w.cell? (x.add i) = some (.int k (zs.getD i 0))) ∧ ∀ n ∈ zs, (Lit.int k n).wf = true) :
    ∃ l, RdI w k a len l ∧ len ≤ cap ∧ cap ≤ maxLen := by
  rcases h with ⟨rfl, rfl, rfl⟩ | ⟨x, zs, rfl, h1, h2, h3, h4, h5⟩
  · exact ⟨[], ⟨rfl, by omega, fun x h => by simp at h, fun i h => absurd h (by simp)⟩, Nat.le_refl _, by simp [maxLen]⟩
  · refine ⟨zs.take len, ⟨by simp; omega, by simp only [maxLen] at h2; omega, fun x hx => h5 x (List.mem_of_mem_take hx), fun i hi => ⟨x, rfl, ?_⟩⟩, h1, h2⟩
    rw [h4 i (by omega)]
    simp [List.getD_eq_getElem?_getD, List.getElem?_eq_getElem (show i < zs.length by omega)]
def RInt (k : IntKind) : Rdr Int := fun _ cs n => cs = [.int k n] ∧ (Lit.int k n).wf = true
def RBool : Rdr Bool := fun _ cs b => cs = [.bool b]
def RStr : Rdr ByteArray := fun _ cs s => cs = [.string s] ∧ s.size ≤ reach
def RBytes : Rdr (List UInt8) := fun w cs l => ∃ A c, cs = [.slice A l.length c] ∧ Rd w A l.length l ∧ l.length ≤ c ∧ c ≤ maxLen ∧ l.length ≤ reach
structure Els {α : Type} (R : Rdr α) (sz : Nat) (w : World) (A : Option Addr) (n : Nat) (L : List α) : Prop where
  len : L.length = n
  lim : n ≤ 9223372036854775807
  at_ : ∀ i (h : i < n), ∃ ad cs, A = some ad ∧ cs.length = sz ∧ R w cs (L[i]'(by rw [len]; exact h)) ∧ ∀ j u, cs[j]? = some u → w.cell? (ad.add (i * sz + j)) = some u
def RSlice {α : Type} (R : Rdr α) (sz : Nat) : Rdr (List α) := fun w cs L => ∃ A c, cs = [.slice A L.length c] ∧ Els R sz w A L.length L ∧ L.length ≤ c ∧ c ≤ maxLen ∧ L.length ≤ reach
def R2 {α β : Type} (R : Rdr α) (T : Rdr β) : Rdr (α × β) := fun w cs x => ∃ c0 c1, cs = [c0, c1] ∧ R w [c0] x.1 ∧ T w [c1] x.2
def R3 {α β γ : Type} (R : Rdr α) (T : Rdr β) (U : Rdr γ) : Rdr (α × β × γ) := fun w cs x => ∃ c0 c1 c2, cs = [c0, c1, c2] ∧ R w [c0] x.1 ∧ T w [c1] x.2.1 ∧ U w [c2] x.2.2
theorem RInt.stays (k : IntKind) : Stays (RInt k) := fun _ _ _ _ _ h => h
theorem RBool.stays : Stays RBool := fun _ _ _ _ _ h => h
theorem RStr.stays : Stays RStr := fun _ _ _ _ _ h => h
theorem RBytes.stays : Stays RBytes := fun _ _ _ _ hu ⟨A, c, h1, h2, h3⟩ => ⟨A, c, h1, h2.up hu, h3⟩
theorem Els.up {α : Type} {R : Rdr α} {sz : Nat} {w w1 : World} {A : Option Addr} {n : Nat} {L : List α} (h : Els R sz w A n L) (hs : Stays R) (hu : Upd (fun _ => False) w w1) : Els R sz w1 A n L :=
  ⟨h.len, h.lim, fun i hi => by
    obtain ⟨ad, cs, e, hl, hr, hc⟩ := h.at_ i hi
    exact ⟨ad, cs, e, hl, hs _ _ _ _ hu hr, fun j u hj => hu.cell (hc j u hj) (fun h => h)⟩⟩
theorem RSlice.stays {α : Type} {R : Rdr α} {sz : Nat} (hs : Stays R) : Stays (RSlice R sz) := fun _ _ _ _ hu ⟨A, c, h1, h2, h3⟩ => ⟨A, c, h1, h2.up hs hu, h3⟩
theorem R2.stays {α β : Type} {R : Rdr α} {T : Rdr β} (h : Stays R) (k : Stays T) : Stays (R2 R T) := fun _ _ _ _ hu ⟨c0, c1, e, a, b⟩ => ⟨c0, c1, e, h _ _ _ _ hu a, k _ _ _ _ hu b⟩
theorem R3.stays {α β γ : Type} {R : Rdr α} {T : Rdr β} {U : Rdr γ} (h : Stays R) (k : Stays T) (l : Stays U) : Stays (R3 R T U) := fun _ _ _ _ hu ⟨c0, c1, c2, e, a, b, d⟩ => ⟨c0, c1, c2, e, h _ _ _ _ hu a, k _ _ _ _ hu b, l _ _ _ _ hu d⟩
section
variable {P : Program}
theorem RInt.opens {t : TypeId} {k : IntKind} (ht : P.underlying t = some (.int k)) : Opens P t (RInt k) := fun H enc W fuel cs x h _ => by
  obtain ⟨n, h1, _, h2⟩ := DataW.trod_int ht h
  exact ⟨n, h1, h2⟩
theorem RBool.opens {t : TypeId} (ht : P.underlying t = some .bool) : Opens P t RBool := fun H enc W fuel cs x h _ => by
  obtain ⟨b, h1, _⟩ := DataW.trod_bool ht h
  exact ⟨b, h1⟩
theorem RStr.opens {t : TypeId} (ht : P.underlying t = some .string) : Opens P t RStr := fun H enc W fuel cs x h hw => by
  obtain ⟨s, h1, h2, _⟩ := DataW.trod_string ht h
  refine ⟨s, h1, hw _ ?_⟩
  rw [h2]
  simp [DataW.weights]
theorem RBytes.opens {t e : TypeId} (ht : P.underlying t = some (.slice e)) (he : P.underlying e = some (.int .u8)) (hc : P.cellsOf e = 1) (hb : P.bytesOf e = 1) : Opens P t RBytes := fun H enc W fuel cs x h hw => by
  rcases open_ints ht he hc h with ⟨rfl, _⟩ | ⟨a, l, c, zs, rfl, _, hl, hm, hz, hx, hcell, hwz⟩
  · exact ⟨[], none, 0, rfl, Rd.nil _ _, Nat.le_refl _, by simp [maxLen], by simp⟩
  · have hz : zs.length = c := by simpa using hz
    obtain ⟨L, hr, h1, h2⟩ := Rd.ofInts (w := W) (a := some a) (len := l) (cap := c) (.inr ⟨a, zs, rfl, hl, hm, hz, hcell, hwz⟩)
    have hlen := hr.len
    subst hlen
    refine ⟨L, some a, c, rfl, hr, h1, h2, ?_⟩
    have := hw (c * P.bytesOf e) (by
      rw [hx]
      simp only [DataW.weights, ht]
      apply List.mem_cons.2
      left
      congr 1
      simp [lits]
      omega)
    rw [hb] at this
    omega
theorem mapM_at {α β : Type} {f : α → Option β} : ∀ {l : List α} {r : List β}, l.mapM f = some r → r.length = l.length ∧ ∀ (j : Nat) (x : α), l[j]? = some x → f x = r[j]?
  | [], r, h => by
    simp at h
    subst h
    exact ⟨rfl, fun j x hj => by simp at hj⟩
  | a :: l, r, h => by
    rw [List.mapM_cons] at h
    obtain ⟨b, hb, h⟩ := Option.bind_eq_some_iff.1 h
    obtain ⟨r', hr', h⟩ := Option.bind_eq_some_iff.1 h
    obtain rfl := Option.some.inj h
    obtain ⟨h1, h2⟩ := mapM_at hr'
    refine ⟨by simp [h1], fun j x hj => ?_⟩
    cases j with
    | zero => simp at hj; subst hj; simpa using hb
    | succ j => simpa using h2 j x (by simpa using hj)
theorem cells_at {W : World} {a : Addr} {n : Nat} {cs : List Value} (h : W.cells? 0 a n = some cs) : cs.length = n ∧ ∀ j u, cs[j]? = some u → W.cell? (a.add j) = some u := by
  unfold World.cells? at h
  rw [if_pos (Nat.zero_le _)] at h
  obtain ⟨hl, hc⟩ := mapM_at h
  rw [List.length_range] at hl
  refine ⟨hl, fun j u hj => ?_⟩
  have hjn : j < n := by
    rcases Nat.lt_or_ge j n with h1 | h1
    · exact h1
    · rw [List.getElem?_eq_none (by omega)] at hj; cases hj
  rw [hc j j (by simp [hjn]), hj]
theorem list_of {α : Type} {n : Nat} {p : Nat → α → Prop} (h : ∀ i, i < n → ∃ a, p i a) : ∃ L : List α, L.length = n ∧ ∀ i (hi : i < L.length), p i L[i] := by
  induction n with
  | zero => exact ⟨[], rfl, fun i hi => by simp at hi⟩
  | succ n ih =>
    obtain ⟨L, h1, h2⟩ := ih (fun i hi => h i (by omega))
    obtain ⟨a, ha⟩ := h n (by omega)
    refine ⟨L ++ [a], by simp [h1], fun i hi => ?_⟩
    rcases Nat.lt_or_ge i L.length with h3 | h3
    · rw [List.getElem_append_left h3]; exact h2 i h3
    · have : i = n := by simp at hi; omega
      subst this
      rw [List.getElem_append_right h3]
      simpa [h1] using ha
theorem weightsAll_mem {H : Type} {e : TypeId} {d : DataW H} {n : Nat} : ∀ {l : List (DataW H)}, d ∈ l → n ∈ d.weights P e → n ∈ DataW.weightsAll P e l
  | a :: l, h, hn => by
    simp only [DataW.weightsAll, List.mem_append]
    rcases List.mem_cons.1 h with rfl | h
    · exact .inl hn
    · exact .inr (weightsAll_mem h hn)
theorem RSlice.opens {α : Type} {R : Rdr α} {t e : TypeId} {sz : Nat} (ht : P.underlying t = some (.slice e)) (hc : P.cellsOf e = sz) (hb1 : 1 ≤ P.bytesOf e) (hR : Opens P e R) : Opens P t (RSlice R sz) := fun H enc W fuel cs x h hw => by
  rcases open_slice ht h with ⟨rfl, _⟩ | ⟨a, len, cap, m, n, D, Pl, rfl, _, hl, hm, hmm, rfl, hel⟩
  · exact ⟨[], none, 0, rfl, ⟨rfl, by simp, fun i h => absurd h (by simp)⟩, Nat.le_refl _, by simp [maxLen], by simp⟩
  · have hmc : m = cap := by simpa using hmm
    subst hmc
    have each : ∀ i, i < len → ∃ y, ∃ cs', cs'.length = sz ∧ R W cs' y ∧ ∀ j u, cs'[j]? = some u → W.cell? (a.add (i * sz + j)) = some u := by
      intro i hi
      obtain ⟨cs', h1, h2⟩ := hel i (by omega)
      rw [hc] at h1
      obtain ⟨h3, h4⟩ := cells_at h1
      obtain ⟨y, hy⟩ := hR H enc W n cs' _ h2 (fun k hk => hw k (by
        simp only [DataW.weights, ht]
        apply List.mem_cons.2
        right
        exact List.mem_append_left _ (weightsAll_mem (List.mem_map.2 ⟨i, by simp [hi], rfl⟩) hk)))
      exact ⟨y, cs', h3, hy, fun j u hj => by rw [← add_add]; exact h4 j u hj⟩
    obtain ⟨L, hL, hP⟩ := list_of each
    have hlen : len ≤ 9223372036854775807 := by simp only [maxLen] at hm; omega
    subst hL
    refine ⟨L, some a, m, rfl, ⟨rfl, hlen, fun i hi => ?_⟩, hl, hm, ?_⟩
    · obtain ⟨cs', h1, h2, h3⟩ := hP i hi
      exact ⟨a, cs', rfl, h1, h2, h3⟩
    · have := hw (m * P.bytesOf e) (by
        simp only [DataW.weights, ht]
        apply List.mem_cons.2
        left
        congr 1
        simp
        omega)
      have := Nat.le_mul_of_pos_right m hb1
      omega
theorem R2.opens {α β : Type} {R : Rdr α} {T : Rdr β} {t : TypeId} {f0 f1 : Field} (ht : P.underlying t = some (.struct #[f0, f1])) (hn : P.cellsOf t = 2) (h0 : f0.offset = 0) (h1 : f1.offset = 1) (c0 : P.cellsOf f0.type = 1) (c1 : P.cellsOf f1.type = 1)
    (hR : Opens P f0.type R) (hT : Opens P f1.type T) : Opens P t (R2 R T) := fun H enc W fuel cs x h hw => by
  obtain ⟨y0, y1, n, rfl, hl, g0, g1⟩ := trod_struct2 ht h
  rw [hn] at hl
  rw [h0, c0] at g0
  rw [h1, c1] at g1
  match cs, hl with
  | [v0, v1], _ =>
    simp only [List.drop_zero, List.drop_one, List.tail_cons, List.take_succ_cons, List.take_zero] at g0 g1
    obtain ⟨a, ha⟩ := hR _ _ _ _ _ _ g0 (fun k hk => hw k (by simp [DataW.weights, ht, DataW.weightsEach, hk]))
    obtain ⟨b, hb⟩ := hT _ _ _ _ _ _ g1 (fun k hk => hw k (by simp [DataW.weights, ht, DataW.weightsEach, hk]))
    exact ⟨(a, b), v0, v1, rfl, ha, hb⟩
theorem R3.opens {α β γ : Type} {R : Rdr α} {T : Rdr β} {U : Rdr γ} {t : TypeId} {f0 f1 f2 : Field} (ht : P.underlying t = some (.struct #[f0, f1, f2])) (hn : P.cellsOf t = 3) (h0 : f0.offset = 0) (h1 : f1.offset = 1) (h2 : f2.offset = 2) (c0 : P.cellsOf f0.type = 1) (c1 : P.cellsOf f1.type = 1) (c2 : P.cellsOf f2.type = 1)
    (hR : Opens P f0.type R) (hT : Opens P f1.type T) (hU : Opens P f2.type U) : Opens P t (R3 R T U) := fun H enc W fuel cs x h hw => by
  obtain ⟨y0, y1, y2, n, rfl, hl, g0, g1, g2⟩ := trod_struct3 ht h
  rw [hn] at hl
  rw [h0, c0] at g0
  rw [h1, c1] at g1
  rw [h2, c2] at g2
  match cs, hl with
  | [v0, v1, v2], _ =>
    simp only [List.drop_zero, List.drop_one, List.tail_cons, List.take_succ_cons, List.take_zero, List.drop_succ_cons] at g0 g1 g2
    obtain ⟨a, ha⟩ := hR _ _ _ _ _ _ g0 (fun k hk => hw k (by simp [DataW.weights, ht, DataW.weightsEach, hk]))
    obtain ⟨b, hb⟩ := hT _ _ _ _ _ _ g1 (fun k hk => hw k (by simp [DataW.weights, ht, DataW.weightsEach, hk]))
    obtain ⟨c, hc⟩ := hU _ _ _ _ _ _ g2 (fun k hk => hw k (by simp [DataW.weights, ht, DataW.weightsEach, hk]))
    exact ⟨(a, b, c), v0, v1, v2, rfl, ha, hb, hc⟩
theorem Opens.arg {α : Type} {R : Rdr α} {t : TypeId} (hR : Opens P t R) {H : Type} {enc : TypeId × Value → H} {W : World} {v : Value} {d : DataW H} {ps : List MemPlace} {ts : List TypeId} {ds : List (DataW H)} {j : Nat}
    (h : DataW.Trod enc P W 0 (fun _ => true) true t v d ps) (hsz : (DataW.weightsEach P ts ds).all (· ≤ reachBytes) = true) (ht : ts[j]? = some t) (hd : ds[j]? = some d) : ∃ a, R W v.cells.toList a := by
  obtain ⟨fuel, hf⟩ := h
  exact hR H enc W fuel _ _ hf (fun n hn => by
    have := List.all_eq_true.1 hsz _ (DataW.weights_mem_each ht hd n hn)
    have h2 : n ≤ reachBytes := by simpa using this
    exact h2)
end
end Go.Proofs.YteepkanbiefpjaaGreatDoor.K
set_option linter.unusedVariables false
set_option linter.unusedSimpArgs false
namespace Go.Proofs.YteepkanbiefpjaaGreatDoor.K
open Go.RowKit
section
variable {S : Nat → Prop} {w w1 : World}
@[go_sem] theorem Upd.drew_iff : Upd S w w1.drew = Upd S w w1 := propext ⟨fun h => ⟨h.os, h.tape, h.output, h.size, h.block⟩, fun h => h.drew⟩
@[go_sem] theorem Upd.drewN_iff (n : Nat) : Upd S w (w1.drewN n) = Upd S w w1 := propext ⟨fun h => ⟨h.os, h.tape, h.output, h.size, h.block⟩, fun h => h.drewN n⟩
@[go_sem] theorem Upd.alloc_true (o : Obj) (h : Upd S w w1) : Upd S w (w1.alloc o) := h.alloc o
@[go_sem] theorem Upd.refl_true : Upd S w w := Upd.refl S w
end
theorem keeps {w : World} {a : Addr} {v : Value} (h : w.cell? a = some v) : ∀ W, Upd (fun _ => False) w W → W.cell? a = some v := fun _ k => k.cell h (fun h => h)
theorem keepsF {w : World} {g : Nat} {cs : Array Value} {t : TypeId} {o : Nat} (h : w.heap[g]? = some (.cells cs t (0, 0))) : ∀ W, Upd (fun _ => False) w W → W.frozen? ⟨g, o, none⟩ = false := fun _ k => by simp [World.frozen?, k.blk h (fun h => h)]
theorem keepsC {w : World} {g : Nat} {cs : Array Value} {t : TypeId} {fz : Nat × Nat} {o : Nat} {v : Value} (h : w.heap[g]? = some (.cells cs t fz)) (hv : cs[o]? = some v) : ∀ W, Upd (fun _ => False) w W → W.cell? ⟨g, o, none⟩ = some v := fun _ k => by simp [World.cell?, k.blk h (fun h => h), hv]
theorem blk_new {w : World} {g : Nat} {o : Obj} (hg : g = w.heap.size) : (w.alloc o).heap[g]? = some o := by subst hg; exact heap_alloc_new w o
theorem blk_past {w : World} {g : Nat} {o o' : Obj} (h : w.heap[g]? = some o) : (w.alloc o').heap[g]? = some o := ((Upd.refl (fun _ => False) w).alloc o').blk h (fun h => h)
end Go.Proofs.YteepkanbiefpjaaGreatDoor.K
set_option linter.unusedVariables false
set_option linter.unusedSimpArgs false
namespace Go.Proofs.YteepkanbiefpjaaGreatDoor.K
open Go.RowKit
section
variable {w w1 : World} {b b' o o' : Nat} {v : Value} {S : Nat → Prop}
@[go_sem] theorem cell_off (h : o ≠ o') : (w.setCell ⟨b, o, none⟩ v).cell? ⟨b, o', none⟩ = w.cell? ⟨b, o', none⟩ := World.cell?_setCell_other _ _ _ _ (fun e => h (by injection e))
@[go_sem] theorem cell_blk (h : b ≠ b') : (w.setCell ⟨b, o, none⟩ v).cell? ⟨b', o', none⟩ = w.cell? ⟨b', o', none⟩ := World.cell?_setCell_other _ _ _ _ (fun e => h (by injection e))
@[go_sem] theorem frozen_set (p q : Addr) : (w.setCell p v).frozen? q = w.frozen? q := World.frozen?_setCell _ _ _ _
@[go_sem] theorem Upd.set_true (p : Addr) (h : Upd S w w1) (hp : w.heap.size ≤ p.block) : Upd S w (w1.setCell p v) := h.setCell (fun k => absurd k (by omega)) v
theorem hp_same {cs : Array Value} {t : TypeId} {fz : Nat × Nat} (h : w.heap[b]? = some (.cells cs t fz)) : (w.setCell ⟨b, o, none⟩ v).heap[b]? = some (.cells (cs.setIfInBounds o v) t fz) := blk_setCell h v
theorem Upd.setAt {S : Nat → Prop} {w w1 : World} {b o : Nat} {v : Value} (h : Upd S w w1) (hp : S b ∨ w.heap.size ≤ b) : Upd S w (w1.setCell ⟨b, o, none⟩ v) := h.setCell (fun k => hp.elim (fun h => h) (fun h => absurd k (by simp only; omega))) v
theorem keepsCS {S : Nat → Prop} {w : World} {g : Nat} {cs : Array Value} {t : TypeId} {fz : Nat × Nat} {o : Nat} {v : Value} (h : w.heap[g]? = some (.cells cs t fz)) (hn : ¬ S g) (hv : cs[o]? = some v) : ∀ W, Upd S w W → W.cell? ⟨g, o, none⟩ = some v := fun _ k => by simp [World.cell?, k.blk h hn, hv]
end
end Go.Proofs.YteepkanbiefpjaaGreatDoor.K
set_option linter.unusedVariables false
set_option linter.unusedSimpArgs false
namespace Go.Proofs.YteepkanbiefpjaaGreatDoor.K
open Go.RowKit
theorem w64i (x : Int) (h1 : -9223372036854775808 ≤ x) (h2 : x ≤ 9223372036854775807) : IntKind.i64.wrap x = x := IntWalk.i64_in _ ⟨h1, h2⟩
end Go.Proofs.YteepkanbiefpjaaGreatDoor.K
set_option linter.unusedVariables false
set_option linter.unusedSimpArgs false
namespace Go.Proofs.YteepkanbiefpjaaGreatDoor.K
open Go.RowKit
theorem and_le (x : Int) (m : Nat) (hm : m < 2 ^ 62) : ∃ k : Nat, k ≤ m ∧ Go.bits .and .i64 x (m : Int) = (k : Int) := by
  have h : (BitVec.ofInt 64 x &&& BitVec.ofInt 64 (m : Int)).toNat ≤ m := by
    rw [BitVec.toNat_and]
    refine Nat.le_trans Nat.and_le_right ?_
    rw [BitVec.ofInt_natCast, BitVec.toNat_ofNat]
    exact Nat.mod_le _ _
  refine ⟨(BitVec.ofInt 64 x &&& BitVec.ofInt 64 (m : Int)).toNat, h, ?_⟩
  show IntKind.i64.wrap (((BitVec.ofInt 64 x &&& BitVec.ofInt 64 (m : Int)).toNat : Nat) : Int) = _
  exact w64i _ (by omega) (by omega)
end Go.Proofs.YteepkanbiefpjaaGreatDoor.K
set_option linter.unusedVariables false
set_option linter.unusedSimpArgs false
namespace Go.Proofs.YteepkanbiefpjaaGreatDoor.K
open Go.RowKit Go.Maps
abbrev Ent := Int × Value
abbrev coded (L : List Ent) : List (Lit × DataW Value) := L.map fun p => (.int .i64 p.1, .held p.2)
abbrev anyR : Value → Option (DataW Value × List MemPlace) := fun v => some (.held v, [])
def mapV (w : World) (P : Program) (k : TypeId) (b : Nat) (L : List Ent) : Prop := w.ownsMap P k anyR b L.length (.map (coded L))
def mget (L : List Ent) (x : Int) : Option Value := (L.find? fun p => decide (p.1 = x)).map (·.2)
def ins (p : Ent) : List Ent → List Ent
  | [] => [p]
  | y :: r => if p.1 < y.1 then p :: y :: r else y :: ins p r
def mdel (L : List Ent) (x : Int) : List Ent := L.filter fun p => !decide (p.1 = x)
def mput (L : List Ent) (x : Int) (v : Value) : List Ent := ins (x, v) (mdel L x)
theorem same_lit (x y : Int) : (Lit.int .i64 x).sameKey (.int .i64 y) = decide (x = y) := by simp [Lit.sameKey]
theorem coded_find (L : List Ent) (x : Int) : (coded L).find? (fun p => p.1.sameKey (.int .i64 x)) = (L.find? fun p => decide (p.1 = x)).map fun p => (.int .i64 p.1, .held p.2) := by
  simp only [coded, List.find?_map]
  congr 1
  congr 1
  funext p
  simp [same_lit]
theorem coded_has (L : List Ent) (x : Int) : Maps.has (.map (coded L)) (.int .i64 x) = (mget L x).isSome := by
  rw [Maps.has_eq, List.any_map]
  unfold mget
  rw [Option.isSome_map, List.isSome_find?]
  congr 1
  funext p
  simp [same_lit]
theorem coded_at (L : List Ent) (x : Int) (z : Value) : (DataW.map (coded L)).atKey (.int .i64 x) (.held z) = .held ((mget L x).getD z) := by
  unfold DataW.atKey mget
  simp only [coded_find]
  cases L.find? fun p => decide (p.1 = x) <;> rfl
theorem coded_filter (L : List Ent) (x : Int) : (coded L).filter (fun p => !p.1.sameKey (.int .i64 x)) = coded (mdel L x) := by
  simp only [coded, mdel, List.filter_map]
  congr 1
  congr 1
  funext p
  simp [same_lit]
theorem coded_insert (x : Int) (v : Value) : ∀ L : List Ent, DataW.insert (.int .i64 x, .held v) (coded L) = coded (ins (x, v) L)
  | [] => rfl
  | y :: r => by
    simp only [coded, List.map_cons, DataW.insert, ins, Lit.before, decide_eq_true_eq]
    split
    · rfl
    · rw [List.map_cons]
      exact congrArg _ (coded_insert x v r)
theorem coded_put (L : List Ent) (x : Int) (v : Value) : (DataW.map (coded L)).put (.int .i64 x) (.held v) = .map (coded (mput L x v)) := by
  unfold DataW.put mput
  simp only [coded_filter, coded_insert]
theorem coded_del (L : List Ent) (x : Int) : (DataW.map (coded L)).del (.int .i64 x) = .map (coded (mdel L x)) := by
  unfold DataW.del
  simp only [coded_filter]
section
variable {P : Program} {k t e : TypeId} {w w1 : World} {b : Nat} {L : List Ent} {S : Nat → Prop}
theorem owns_exact {n : Nat} (h : w.ownsMap P k anyR b n (.map (coded L))) : mapV w P k b L := by
  obtain ⟨es, clock, hb, F, hs, hD⟩ := h
  refine ⟨es, clock, hb, F, ?_, hD⟩
  have h1 := congrArg (fun D => Maps.size D) hD
  simp only [Maps.size_eq, length_sorted, List.length_map, coded] at h1
  rw [h1]
  simp
theorem mapV.upd (h : mapV w P k b L) (hu : Upd S w w1) (hn : ¬ S b) : mapV w1 P k b L := by
  obtain ⟨es, clock, hb, F, hs, hD⟩ := h
  exact ⟨es, clock, hu.blk hb hn, F, hs, hD⟩
theorem mapV.lt (h : mapV w P k b L) : b < w.heap.size := World.ownsMap.lt h
theorem mapV.made (w : World) (P : Program) (k : TypeId) : mapV (w.alloc (.map #[] 0)) P k w.heap.size [] := World.ownsMap_made w P k anyR
theorem mapV.inc (h : mapV w P k b L) (hk : P.underlying k = some (.int .i64)) : L.Pairwise (fun p q => p.1 < q.1) := by
  obtain ⟨es, clock, hb, F, hs, hD⟩ := h
  have hr := Maps.fit_rising (int_keyed hk) F
  have hD2 : coded L = (es.toList.map (Go.WideElems.rg P k anyR)).foldr DataW.insert [] := by injection hD
  rw [← hD2] at hr
  have gen : ∀ L : List Ent, DataW.rising (coded L) = true → L.Pairwise (fun p q => p.1 < q.1) := by
    intro L
    induction L with
    | nil => intro _; exact List.Pairwise.nil
    | cons a L ih =>
      intro h
      cases L with
      | nil => simp
      | cons c L =>
        simp only [coded, List.map_cons, DataW.rising, Bool.and_eq_true, Lit.before, decide_eq_true_eq] at h
        have h2 := ih h.2
        refine List.pairwise_cons.2 ⟨fun q hq => ?_, h2⟩
        rcases List.mem_cons.1 hq with rfl | hq
        · exact h.1
        · exact Int.lt_trans h.1 ((List.pairwise_cons.1 h2).1 q hq)
  exact gen L hr
theorem wfI (x : Int) (h : -9223372036854775808 ≤ x ∧ x ≤ 9223372036854775807) : (Lit.int .i64 x).wf = true := by
  simp only [Lit.wf, Bool.and_eq_true, decide_eq_true_eq]
  exact h
theorem mapV.look (h : mapV w P k b L) (hk : P.underlying k = some (.int .i64)) (ht : P.underlying t = some (.map k e)) {z : Value} (hz : ∀ w, (zeroValue e).run P w = .ok z w) (x : Int) (hx : -9223372036854775808 ≤ x ∧ x ≤ 9223372036854775807) :
    (Instr.lookup t (.map (some b)) (.int .i64 x) true).run P w = .ok (.tuple #[(mget L x).getD z, .bool (mget L x).isSome]) w := by
  obtain ⟨v, ps, hr, hv⟩ := World.ownsMap.look_ok h (int_keyed hk) ht (hz w) (zd := .held z) (zp := []) rfl (keyOf_int_mk hk (wfI x hx))
  rw [hr, coded_has]
  rw [coded_at] at hv
  simp only [anyR, Option.some.injEq, Prod.mk.injEq, DataW.held.injEq] at hv
  rw [hv.1]
theorem mapV.look1 (h : mapV w P k b L) (hk : P.underlying k = some (.int .i64)) (ht : P.underlying t = some (.map k e)) {z : Value} (hz : ∀ w, (zeroValue e).run P w = .ok z w) (x : Int) (hx : -9223372036854775808 ≤ x ∧ x ≤ 9223372036854775807) :
    (Instr.lookup t (.map (some b)) (.int .i64 x) false).run P w = .ok ((mget L x).getD z) w := by
  obtain ⟨v, ps, hr, hv⟩ := World.ownsMap.lookup h (int_keyed hk) ht (hz w) (zd := .held z) (zp := []) rfl (keyOf_int_mk hk (wfI x hx))
  rw [hr]
  rw [coded_at] at hv
  simp only [anyR, Option.some.injEq, Prod.mk.injEq, DataW.held.injEq] at hv
  rw [hv.1]
theorem mapV.len (h : mapV w P k b L) (ht : P.underlying t = some (.map k e)) (ty : TypeId) : (Builtin.len_ #[t] ty #[.map (some b)]).run P w = .ok (.int .i64 (L.length : Int)) w := by
  have := World.ownsMap.len h ht ty
  rw [this, Maps.size_eq, List.length_map]
theorem turned_upd {w w' : World} {b : Nat} (h : w.mapTurned w' b) : Upd (fun i => i = b) w w' :=
  ⟨h.grown.os, h.grown.tape, h.grown.output, h.grown.size, fun i hi hn => h.grown.block i hi (fun e => hn (Option.some.inj e))⟩
theorem mapV.store (h : mapV w P k b L) (hk : P.underlying k = some (.int .i64)) (ht : P.underlying t = some (.map k e)) (hl : L.length < maxLen) (x : Int) (hx : -9223372036854775808 ≤ x ∧ x ≤ 9223372036854775807) (v : Value) :
    ∃ w', (Instr.mapUpdate t (.map (some b)) (.int .i64 x) v).run P w = .ok () w' ∧ mapV w' P k b (mput L x v) ∧ Upd (fun i => i = b) w w' := by
  obtain ⟨w', hr, ho, hT⟩ := World.ownsMap.store h (int_keyed hk) ht hl (keyOf_int_mk hk (wfI x hx)) (val := v) (d := .held v) (ps := []) rfl
  rw [coded_put] at ho
  exact ⟨w', hr, owns_exact ho, turned_upd hT⟩
theorem mapV.drop (h : mapV w P k b L) (hk : P.underlying k = some (.int .i64)) (ht : P.underlying t = some (.map k e)) (x : Int) (hx : -9223372036854775808 ≤ x ∧ x ≤ 9223372036854775807) (ty : TypeId) :
    ∃ w', (Builtin.delete_ #[t, k] ty #[.map (some b), .int .i64 x]).run P w = .ok (.tuple #[]) w' ∧ mapV w' P k b (mdel L x) ∧ Upd (fun i => i = b) w w' := by
  obtain ⟨w', hr, ho, hT⟩ := World.ownsMap.drop h (int_keyed hk) ht (keyOf_int_mk hk (wfI x hx)) ty
  rw [coded_del] at ho
  exact ⟨w', hr, owns_exact ho, turned_upd hT⟩
def rangeV (w : World) (P : Program) (k : TypeId) (b r : Nat) (L rem : List Ent) : Prop :=
  (∃ cnt, w.ranges P k anyR b r L.length (.map (coded L)) (fun kl => rem.any fun p => (Lit.int .i64 p.1).sameKey kl) cnt) ∧ ∀ p ∈ rem, p ∈ L
end
section
variable {P : Program} {ops : Array Oper} {rest : List Oper} {o : Oper} {a : Act} {Q : Exit → Act → World → Prop} {W : World} {k t e : TypeId} {b : Nat} {L : List Ent}
theorem stop_mapUpdate (t : TypeId) (m x v : Operand) (_ho : o.op = .mapUpdate t m x v) (h : Stop (wpList P ops Q (o :: rest) a W)) : wpList P ops Q (o :: rest) a W := h.out
theorem stop_delete (m x : Operand) (t u : TypeId) (_ho : o.op = .call { callee := .builtin .delete, args := #[m, x], argTypes := #[t, u] }) (h : Stop (wpList P ops Q (o :: rest) a W)) : wpList P ops Q (o :: rest) a W := h.out
theorem stop_range (t : TypeId) (m : Operand) (_ho : o.op = .range t m) (h : Stop (wpList P ops Q (o :: rest) a W)) : wpList P ops Q (o :: rest) a W := h.out
theorem stop_next (it : Operand) (_ho : o.op = .next it false) (h : Stop (wpList P ops Q (o :: rest) a W)) : wpList P ops Q (o :: rest) a W := h.out
theorem wp_mapUpdate (hgd : o.guard = none) (t : TypeId) (m x v : Operand) (ho : o.op = .mapUpdate t m x v) (h : mapV W P k b L) (hk : P.underlying k = some (.int .i64)) (ht : P.underlying t = some (.map k e)) (hl : L.length < maxLen)
    (y : Int) (u : Value) (hm : a.eval m = .map (some b)) (hx : a.eval x = .int .i64 y) (hv : a.eval v = u) (hy : -9223372036854775808 ≤ y ∧ y ≤ 9223372036854775807)
    (hK : ∀ w1, mapV w1 P k b (mput L y u) → Upd (fun i => i = b) W w1 → wpList P ops Q rest (a.put o.dst undef) w1) : Stop (wpList P ops Q (o :: rest) a W) := by
  constructor
  obtain ⟨w1, hr, h1, h2⟩ := h.store hk ht hl y hy u
  refine wpList_plain hgd fun K hK' => ?_
  unfold Oper.wp
  simp [execOp, ho, hm, hx, hv, hr, Result.andThen]
  exact hK' _ _ (hK w1 h1 h2)
theorem wp_delete (hgd : o.guard = none) (t : TypeId) (m x : Operand) (ho : o.op = .call { callee := .builtin .delete, args := #[m, x], argTypes := #[t, k] }) (h : mapV W P k b L) (hk : P.underlying k = some (.int .i64)) (ht : P.underlying t = some (.map k e))
    (y : Int) (hm : a.eval m = .map (some b)) (hx : a.eval x = .int .i64 y) (hy : -9223372036854775808 ≤ y ∧ y ≤ 9223372036854775807)
    (hK : ∀ w1, mapV w1 P k b (mdel L y) → Upd (fun i => i = b) W w1 → wpList P ops Q rest (a.put o.dst (.tuple #[])) w1) : Stop (wpList P ops Q (o :: rest) a W) := by
  constructor
  obtain ⟨w1, hr, h1, h2⟩ := h.drop hk ht y hy o.type
  refine wpList_plain hgd fun K hK' => ?_
  unfold Oper.wp
  simp [execOp, ho, resolve, invoke, builtin, hm, hx, hr, Result.andThen]
  exact hK' _ _ (hK w1 h1 h2)
theorem wp_range (hgd : o.guard = none) (t : TypeId) (m : Operand) (ho : o.op = .range t m) (h : mapV W P k b L) (hk : P.underlying k = some (.int .i64)) (ht : P.underlying t = some (.map k e)) (hm : a.eval m = .map (some b))
    (hK : ∀ w1, rangeV w1 P k b W.heap.size L L → Upd (fun _ => False) W w1 → w1.heap.size = W.heap.size + 1 → wpList P ops Q rest (a.put o.dst (.pointer (some ⟨W.heap.size, 0, none⟩))) w1) : Stop (wpList P ops Q (o :: rest) a W) := by
  constructor
  refine wpList_range_own W hgd m t ho k e (int_keyed hk) ht anyR b _ _ hm h ?_
  intro w1 hr hg hs
  have hu : Upd (fun _ => False) W w1 := ⟨hg.os, hg.tape, hg.output, hg.size, fun i hi _ => hg.block i hi (by simp)⟩
  have e1 : Maps.has (DataW.map (coded L)) = fun kl => L.any fun p => (Lit.int .i64 p.1).sameKey kl := by
    funext kl
    rw [Maps.has_eq, List.any_map]
    rfl
  rw [e1] at hr
  exact hK w1 ⟨⟨_, hr⟩, fun p hp => hp⟩ hu hs
theorem rangeV.upd {S : Nat → Prop} {w w1 : World} {r : Nat} {rem : List Ent} (h : rangeV w P k b r L rem) (hu : Upd S w w1) (h1 : ¬ S b) (h2 : ¬ S r) : rangeV w1 P k b r L rem := by
  obtain ⟨⟨cnt, es, clock, since, seen, c0, hb, F, hs, hD, hr, rest⟩, hm⟩ := h
  exact ⟨⟨cnt, es, clock, since, seen, c0, hu.blk hb h1, F, hs, hD, hu.blk hr h2, rest⟩, hm⟩
theorem rangeV.map {w : World} {r : Nat} {rem : List Ent} (h : rangeV w P k b r L rem) : mapV w P k b L := h.1.elim fun _ h => h.owns
theorem rangeV.lt {w : World} {r : Nat} {rem : List Ent} (h : rangeV w P k b r L rem) : r < w.heap.size := h.1.elim fun _ h => h.lt
theorem rangeLeft_upd {S : Nat → Prop} {w w1 : World} {b r : Nat} (hu : Upd S w w1) (hb : b < w.heap.size) (hr : r < w.heap.size) (h1 : ¬ S b) (h2 : ¬ S r) : World.rangeLeft w1 b r = World.rangeLeft w b r := by
  unfold World.rangeLeft
  rw [hu.block b hb h1, hu.block r hr h2]
theorem mget_of {L : List Ent} (hL : L.Pairwise (fun p q => p.1 < q.1)) {p : Ent} (h : p ∈ L) : mget L p.1 = some p.2 := by
  unfold mget
  cases hf : L.find? fun q => decide (q.1 = p.1) with
  | none =>
    have := List.find?_eq_none.1 hf p h
    simp at this
  | some q =>
    have h1 := List.find?_some hf
    have h2 := List.mem_of_find?_eq_some hf
    simp only [decide_eq_true_eq] at h1
    have : q = p := by
      have gen : ∀ L : List Ent, L.Pairwise (fun p q => p.1 < q.1) → p ∈ L → q ∈ L → q = p := by
        intro L
        induction L with
        | nil => intro _ h; simp at h
        | cons a L ih =>
          intro hP hp hq
          obtain ⟨h3, h4⟩ := List.pairwise_cons.1 hP
          rcases List.mem_cons.1 hp with e1 | hp
          · rcases List.mem_cons.1 hq with e2 | hq
            · rw [e1, e2]
            · have := h3 q hq
              rw [← e1] at this
              omega
          · rcases List.mem_cons.1 hq with e2 | hq
            · have := h3 p hp
              rw [← e2] at this
              omega
            · exact ih h4 hp hq
      exact gen L hL h h2
    rw [this]
    rfl
theorem mdel_any (rem : List Ent) (x : Int) (z : Lit) : (mdel rem x).any (fun p => (Lit.int .i64 p.1).sameKey z) = ((rem.any fun p => (Lit.int .i64 p.1).sameKey z) && !z.sameKey (.int .i64 x)) := by
  unfold mdel
  rw [List.any_filter]
  cases z with
  | int q y =>
    rw [Bool.eq_iff_iff]
    simp only [List.any_eq_true, Bool.and_eq_true, Bool.not_eq_true', decide_eq_false_iff_not, Lit.sameKey, decide_eq_true_eq]
    constructor
    · rintro ⟨p, hp, h1, h2, h3⟩
      exact ⟨⟨p, hp, h2, h3⟩, fun h => h1 (by rw [h3, h.2])⟩
    · rintro ⟨⟨p, hp, h2, h3⟩, h1⟩
      exact ⟨p, hp, fun h => h1 ⟨h2.symm, by rw [← h3, h]⟩, h2, h3⟩
  | _ => simp [Lit.sameKey]
theorem entry_moves {P : Program} {w1 w2 : World} {r b since c0 clock : Nat} {seen : Array Nat} {es : Array MapEntry} {v : Value} (hb1 : w1.heap[b]? = some (.map es clock)) (hr1 : w1.heap[r]? = some (.mapIter (some b) since seen c0))
    (hb2 : w2.heap[b]? = some (.map es clock)) (hr2 : w2.heap[r]? = some (.mapIter (some b) since seen c0)) (h : (Instr.entry (.pointer (some ⟨r, 0, none⟩))).run P w1 = .ok v w1) : (Instr.entry (.pointer (some ⟨r, 0, none⟩))).run P w2 = .ok v w2 := by
  cases hs : seen.back? with
  | none => simp [Instr.entry, getObj, Sem.run_bind, Sem.run, hr1, Result.andThen, hs, stuck] at h
  | some s =>
    by_cases hc : clock = c0
    · subst hc
      cases hf : es.find? (fun x => x.born == s) with
      | none => simp [Instr.entry, getObj, Sem.run_bind, Sem.run, hr1, hb1, Result.andThen, hs, hf, unsupported] at h
      | some e =>
        simp only [Instr.entry, getObj, Sem.run_bind, Sem.run, hr1, hb1, hr2, hb2, Result.andThen, hs, hf, bne_self_eq_false, Bool.false_eq_true, if_false] at h ⊢
        simpa [pure, Sem.run] using h
    · simp [Instr.entry, getObj, Sem.run_bind, Sem.run, hr1, hb1, Result.andThen, hs, hc, unsupported] at h
theorem wp_next {r : Nat} {rem : List Ent} (hgd : o.guard = none) (it : Operand) (ho : o.op = .next it false) (h : rangeV W P k b r L rem) (hk : P.underlying k = some (.int .i64)) (hit : a.eval it = .pointer (some ⟨r, 0, none⟩))
    (hDone : rem = [] → wpList P ops Q rest (a.put o.dst (.tuple #[.bool false])) W)
    (hMore : ∀ (x : Int) (v : Value) (w1 : World), (x, v) ∈ rem → rangeV w1 P k b r L (mdel rem x) → Upd (fun i => i = r) W w1 → w1.heap.size = W.heap.size → World.rangeLeft w1 b r < World.rangeLeft W b r → (∀ w2, Upd (fun _ => False) w1 w2 → (Instr.entry (.pointer (some ⟨r, 0, none⟩))).run P w2 = .ok (.tuple #[.int .i64 x, v]) w2) → wpList P ops Q rest (a.put o.dst (.tuple #[.bool true, .int .i64 x, v])) w1) : Stop (wpList P ops Q (o :: rest) a W) := by
  constructor
  have hinc := h.map.inc hk
  obtain ⟨⟨cnt, hr⟩, hm⟩ := h
  refine wpList_next_ranges (α := Int) (β := Value) W hgd it ho k (int_keyed hk) anyR (fun x => .int .i64 x) (fun v => v) (fun key kl h => by
    obtain ⟨x, hx, _⟩ := Maps.keyOf_int_inv hk h
    exact ⟨x, hx⟩) (fun v y _ => ⟨v, rfl⟩) b r _ _ _ cnt hit hr ?_ ?_
  · intro h0 hl
    refine hDone (List.eq_nil_iff_forall_not_mem.2 fun p hp => ?_)
    have := hl (.int .i64 p.1)
    have h2 : (rem.any fun q => (Lit.int .i64 q.1).sameKey (.int .i64 p.1)) = true := List.any_eq_true.2 ⟨p, hp, by simp [Lit.sameKey]⟩
    rw [h2] at this
    cases this
  · intro x c kl y w1 cnt' hkey hleft hv hat hr1 hlt hg hs hen
    obtain ⟨x', hx', hkl, hwf⟩ := Maps.keyOf_int_inv hk hkey
    injection hx' with _ e2
    subst e2
    subst hkl
    obtain ⟨p, hp, hpk⟩ := List.any_eq_true.1 hleft
    have hpx : p.1 = x := by simpa [Lit.sameKey] using hpk
    have hy : y = (.held c, []) := by simpa [anyR] using hv.symm
    subst hy
    have hg1 := mget_of hinc (hm p hp)
    rw [hpx] at hg1
    have h2 := hat (.held c)
    rw [coded_at, hg1] at h2
    have hpc : p.2 = c := by simpa using h2
    have hmem : (x, c) ∈ rem := by
      have : p = (x, c) := by rw [← hpx, ← hpc]
      rw [← this]; exact hp
    have e3 : (fun z : Lit => (rem.any fun p => (Lit.int .i64 p.1).sameKey z) && !z.sameKey (.int .i64 x)) = fun z => (mdel rem x).any fun p => (Lit.int .i64 p.1).sameKey z := by
      funext z
      rw [mdel_any]
    rw [e3] at hr1
    refine hMore x c w1 hmem ⟨⟨cnt', hr1⟩, fun q hq => hm q (List.mem_filter.1 hq).1⟩ ⟨hg.os, hg.tape, hg.output, hg.size, fun i hi hn => hg.block i hi (fun e => hn (Option.some.inj e))⟩ hs (by rw [hr1.left_eq, hr.left_eq]; exact hlt) ?_
    intro w2 hu
    obtain ⟨es, clock, since, seen, c0, hb, _, _, _, hr2, _⟩ := hr1
    exact entry_moves hb hr2 (hu.blk hb (fun h => h)) (hu.blk hr2 (fun h => h)) hen
end
end Go.Proofs.YteepkanbiefpjaaGreatDoor.K
