/- Small laws of memory that all proofs of this seat share: what a call may write, rows of cells that are read, rows of cells that are owned, append, copy, make. No condition beyond those each theorem names. -/
import Derived.Test.YtaeafnpldlcdnaaDoorProg
import Derived.Below
import Derived.OwnWalk
import Derived.ArgAppend
import Derived.Maps.AppendAt
import Derived.Deep.OwnRows
import Derived.Deep.Upon
import Derived.Deep.LoopGhost
import Derived.Deep.QuietTactic
import Derived.BigQuiet
import Derived.Laws.IdiomCopy
import Derived.Laws.BytesArg
import Derived.Laws.MakeOwn
import Derived.Lib.ConvBytes
import Derived.Lib.SlBytesConst
import Derived.Outline
import Derived.Deep.RegionWith
import Derived.Deep.RegionLaw
import Derived.Deep.DeepMust
import Derived.WalkKit
import Derived.KernelRfl
import Derived.RowKit
import Derived.RowKit3
set_option linter.unusedVariables false
set_option linter.unusedSimpArgs false
namespace Go.Proofs.YtaeafnpldlcdnaaDoor.K
open Go.RowKit

/-- A fact that the walk does not look into. -/
structure Asd (p : Prop) : Prop where mk :: (out : p)

/-! ### bytes as cells -/
def B (l : List UInt8) : List Value := l.map fun b => .int .u8 (b.toNat : Int)
theorem B_length (l : List UInt8) : (B l).length = l.length := by simp [B]
theorem B_append (l m : List UInt8) : B (l ++ m) = B l ++ B m := by simp [B]
theorem B_get (l : List UInt8) (j : Nat) (h : j < l.length) : (B l)[j]? = some (.int .u8 ((l[j]'h).toNat : Int)) := by simp [B, h]
theorem B_one (l : List UInt8) : ∀ u ∈ B l, u.oneCell' = true := by
  intro u hu; simp only [B, List.mem_map] at hu; obtain ⟨b, _, rfl⟩ := hu; rfl
theorem B_take (l : List UInt8) (k : Nat) : B (l.take k) = (B l).take k := by simp [B, List.map_take]
theorem B_drop (l : List UInt8) (k : Nat) : B (l.drop k) = (B l).drop k := by simp [B, List.map_drop]

theorem add_lit (b o j : Nat) : (⟨b, o, none⟩ : Addr).add j = ⟨b, o + j, none⟩ := by unfold Addr.add; split <;> simp_all
theorem add_add (a : Addr) (i j : Nat) : (a.add i).add j = a.add (i + j) := by
  unfold Addr.add
  by_cases h1 : i = 0 <;> by_cases h2 : j = 0 <;> simp [h1, h2, Nat.add_assoc]
theorem add_block (a : Addr) (j : Nat) : (a.add j).block = a.block := by unfold Addr.add; split <;> rfl

theorem u8_of (m : Nat) : IntKind.u8.wrap (m : Int) = ((UInt8.ofNat m).toNat : Int) := by
  simp only [IntKind.wrap, IntKind.bits, IntKind.signed]
  simp

/-! ### what a call may write -/
structure Upd (S : Nat → Prop) (w w' : World) : Prop where
  os : w'.os = w.os
  tape : w'.tape = w.tape
  output : w'.output = w.output
  size : w.heap.size ≤ w'.heap.size
  block : ∀ i, i < w.heap.size → ¬ S i → w'.heap[i]? = w.heap[i]?
section
variable {S T : Nat → Prop} {w w1 w2 : World}
theorem Upd.refl (S : Nat → Prop) (w : World) : Upd S w w := ⟨rfl, rfl, rfl, Nat.le_refl _, fun _ _ _ => rfl⟩
theorem Upd.trans (h : Upd S w w1) (k : Upd T w1 w2) (hs : ∀ i, i < w.heap.size → T i → S i) : Upd S w w2 :=
  ⟨k.os.trans h.os, k.tape.trans h.tape, k.output.trans h.output, Nat.le_trans h.size k.size, fun i hi hn => (k.block i (Nat.lt_of_lt_of_le hi h.size) (fun ht => hn (hs i hi ht))).trans (h.block i hi hn)⟩
theorem Upd.mono (h : Upd S w w1) (hs : ∀ i, i < w.heap.size → S i → T i) : Upd T w w1 := ⟨h.os, h.tape, h.output, h.size, fun i hi hn => h.block i hi (fun k => hn (hs i hi k))⟩
theorem Upd.alloc (h : Upd S w w1) (o : Obj) : Upd S w (w1.alloc o) :=
  h.trans (T := fun _ => False) ⟨rfl, rfl, rfl, by simp, fun i hi _ => Below.heap_alloc _ _ _ hi⟩ (fun _ _ h => h.elim)
theorem Upd.drew (h : Upd S w w1) : Upd S w w1.drew := ⟨h.os, h.tape, h.output, h.size, h.block⟩
theorem Upd.drewN (h : Upd S w w1) (n : Nat) : Upd S w (w1.drewN n) := ⟨h.os, h.tape, h.output, h.size, h.block⟩
theorem Upd.setCell (h : Upd S w w1) {p : Addr} (hp : p.block < w.heap.size → S p.block) (u : Value) : Upd S w (w1.setCell p u) :=
  h.trans (T := fun i => i = p.block) ⟨rfl, rfl, rfl, by simp [World.setCell], fun i _ hn => Below.heap_setCell _ _ _ _ hn⟩ (fun i hi e => by subst e; exact hp hi)
theorem Upd.below (h : Upd S w w1) {B0 : Nat} (hS : ∀ i, S i → B0 ≤ i) (hB : B0 ≤ w.heap.size) : Below B0 w w1 :=
  ⟨h.os, h.tape, h.output, h.size, fun k hk => h.block k (by omega) (fun hs => by have := hS k hs; omega)⟩
theorem Upd.ofBelow (h : Below w.heap.size w w1) (S : Nat → Prop) : Upd S w w1 := ⟨h.os, h.tape, h.output, h.size, fun i hi _ => h.block i hi⟩
theorem Upd.toBelow {B0 : Nat} {w0 : World} (h : Below B0 w0 w) (k : Upd S w w1) (hB : B0 ≤ w.heap.size) (hS : ∀ i, S i → B0 ≤ i) : Below B0 w0 w1 :=
  h.trans (k.below hS hB)
theorem Upd.cell (h : Upd S w w1) {a : Addr} {v : Value} (hc : w.cell? a = some v) (hn : ¬ S a.block) : w1.cell? a = some v :=
  (World.cell?_of_block (w := w) (h.block a.block (World.block_lt_of_cell? w a hc) hn)).trans hc
theorem Upd.blk (h : Upd S w w1) {g : Nat} {o : Obj} (hc : w.heap[g]? = some o) (hn : ¬ S g) : w1.heap[g]? = some o :=
  (h.block g (Array.getElem?_eq_some_iff.1 hc).1 hn).trans hc
end
/-- The world is the old one, some orders having been drawn. -/
def Dr (w w' : World) : Prop := ∃ n, w' = w.drewN n
theorem Dr.upd {w w' : World} (h : Dr w w') (S : Nat → Prop) : Upd S w w' := by
  obtain ⟨n, rfl⟩ := h
  exact (Upd.refl S w).drewN n
theorem Dr.refl (w : World) : Dr w w := ⟨0, rfl⟩
theorem blk_lt {w : World} {g : Nat} {o : Obj} (h : w.heap[g]? = some o) : g < w.heap.size := (Array.getElem?_eq_some_iff.1 h).1

/-! ### cells that are read -/
def Row (w : World) (A : Option Addr) (cs : List Value) : Prop := ∀ j u, cs[j]? = some u → ∃ ad, A = some ad ∧ w.cell? (ad.add j) = some u
section
variable {S : Nat → Prop} {w w1 : World} {A : Option Addr} {cs : List Value}
theorem Row.nil (w : World) (A : Option Addr) : Row w A [] := fun j u h => by simp at h
theorem Row.upd (h : Row w A cs) (k : Upd S w w1) (hn : ∀ ad, A = some ad → ¬ S ad.block) : Row w1 A cs := fun j u hj => by
  obtain ⟨ad, e, hc⟩ := h j u hj
  exact ⟨ad, e, k.cell hc (by rw [add_block]; exact hn ad e)⟩
theorem Row.take (h : Row w A cs) (n : Nat) : Row w A (cs.take n) := fun j u hj => by
  rw [List.getElem?_take] at hj
  split at hj
  · exact h j u hj
  · cases hj
theorem Row.drop (h : Row w A cs) (n : Nat) : Row w (A.map (·.add n)) (cs.drop n) := fun j u hj => by
  rw [List.getElem?_drop] at hj
  obtain ⟨ad, e, hc⟩ := h _ u hj
  exact ⟨ad.add n, by rw [e]; rfl, by rw [add_add]; exact hc⟩
end
/-- A slice of bytes that is read. -/
structure Rd (w : World) (A : Option Addr) (n : Nat) (l : List UInt8) : Prop where
  len : l.length = n
  lim : n ≤ 9223372036854775807
  row : Row w A (B l)
section
variable {S : Nat → Prop} {w w1 : World} {A : Option Addr} {n : Nat} {l : List UInt8}
theorem Rd.at (h : Rd w A n l) (i : Nat) (hi : i < n) : ∃ ad, A = some ad ∧ w.cell? (ad.add i) = some (.int .u8 ((l[i]'(by rw [h.len]; exact hi)).toNat : Int)) :=
  h.row i _ (B_get l i (by rw [h.len]; exact hi))
theorem Rd.upd (h : Rd w A n l) (k : Upd S w w1) (hn : ∀ ad, A = some ad → ¬ S ad.block) : Rd w1 A n l := ⟨h.len, h.lim, h.row.upd k hn⟩
theorem Rd.nil (w : World) (A : Option Addr) : Rd w A 0 [] := ⟨rfl, by omega, Row.nil _ _⟩
theorem Rd.take (h : Rd w A n l) (k : Nat) (hk : k ≤ n) : Rd w A k (l.take k) := ⟨by rw [List.length_take, h.len]; omega, by have := h.lim; omega, by rw [B_take]; exact h.row.take k⟩
theorem Rd.drop (h : Rd w A n l) (k : Nat) (hk : k ≤ n) : Rd w (A.map (·.add k)) (n - k) (l.drop k) := ⟨by rw [List.length_drop, h.len], by have := h.lim; omega, by rw [B_drop]; exact h.row.drop k⟩
/-- of a cut whose address is told by an 'if' on the capacity -/
theorem Rd.drop_if (h : Rd w A n l) (k c : Nat) (hk : k ≤ n) (hc : n ≤ c) : Rd w (if c = k then A else A.map (·.add k)) (n - k) (l.drop k) := by
  split
  · have : l.drop k = [] := List.drop_eq_nil_of_le (by rw [h.len]; omega)
    rw [this, show n - k = 0 by omega]
    exact Rd.nil _ _
  · exact h.drop k hk
end

/-- A slice of bytes as an argument reads, as its elements. -/
theorem Rd.ofInts {w : World} {a : Option Addr} {len cap : Nat} (h : (a = none ∧ len = 0 ∧ cap = 0) ∨
    ∃ x, ∃ zs : List Int, a = some x ∧ len ≤ cap ∧ cap ≤ maxLen ∧ zs.length = cap ∧ (∀ i, i < zs.length → w.cell? (x.add i) = some (.int .u8 (zs.getD i 0))) ∧ ∀ n ∈ zs, (Lit.int .u8 n).wf = true) :
    ∃ l, Rd w a len l ∧ len ≤ cap ∧ cap ≤ maxLen := by
  rcases h with ⟨rfl, rfl, rfl⟩ | ⟨x, zs, rfl, h1, h2, h3, h4, h5⟩
  · exact ⟨[], Rd.nil _ _, Nat.le_refl _, by simp [maxLen]⟩
  · refine ⟨(zs.take len).map fun n => UInt8.ofNat n.toNat, ⟨by simp; omega, by simp only [maxLen] at h2; omega, fun j u hj => ⟨x, rfl, ?_⟩⟩, h1, h2⟩
    have hjl : j < len := by
      rcases Nat.lt_or_ge j len with h | h
      · exact h
      · rw [List.getElem?_eq_none (by simp [B]; omega)] at hj; cases hj
    rw [h4 j (by omega)]
    have hz : j < zs.length := by omega
    have hw := h5 zs[j] (List.getElem_mem hz)
    have hb : 0 ≤ zs[j] ∧ zs[j] ≤ 255 := by
      simp [Lit.wf, IntKind.min, IntKind.max, IntKind.bits, IntKind.signed] at hw
      omega
    simp only [B, List.map_map, List.getElem?_map, List.getElem?_take, if_pos hjl, List.getElem?_eq_getElem hz, Option.map_some, Function.comp_apply, Option.some.injEq] at hj
    rw [← hj]
    simp [List.getD_eq_getElem?_getD, List.getElem?_eq_getElem hz]
    omega

theorem Rd.lit (w : World) (C : Array Value) (e : TypeId) (fz : Nat × Nat) (n : Nat) (l : List UInt8) (h : C = (B l).toArray) (hl : l.length = n) (hm : n ≤ 9223372036854775807) : Rd (w.alloc (.cells C e fz)) (some ⟨w.heap.size, 0, none⟩) n l := by
  subst h
  refine ⟨hl, hm, fun j u hj => ⟨_, rfl, ?_⟩⟩
  rw [add_lit]
  have hb : (w.alloc (.cells (B l).toArray e fz)).heap[w.heap.size]? = some (.cells (B l).toArray e fz) := heap_alloc_new w _
  simp only [World.cell?, hb, Nat.zero_add]
  rw [if_neg (by simp), List.getElem?_toArray]
  exact hj
theorem Rd.litg (w : World) (g : Nat) (hg : g = w.heap.size) (C : Array Value) (e : TypeId) (fz : Nat × Nat) (n : Nat) (l : List UInt8) (h : C = (B l).toArray) (hl : l.length = n) (hm : n ≤ 9223372036854775807) : Rd (w.alloc (.cells C e fz)) (some ⟨g, 0, none⟩) n l := by
  subst hg
  exact Rd.lit w C e fz n l h hl hm
/-! ### cells that are owned: nil, or a part of an unmarked block G -/
structure Own (w : World) (e : TypeId) (sz : Nat) (v : Value) (n : Nat) (cs : List Value) (G : Option Nat) : Prop where
  len : cs.length = n * sz
  form : (v = .slice none 0 0 ∧ n = 0 ∧ G = none) ∨ ∃ g o c cur, v = .slice (some ⟨g, o, none⟩) n c ∧ G = some g ∧ w.heap[g]? = some (.cells cur e (0, 0)) ∧ n ≤ c ∧ c ≤ maxLen ∧ o + c * sz ≤ cur.size ∧ ∀ j u, cs[j]? = some u → cur[o + j]? = some u
section
variable {S : Nat → Prop} {w w1 : World} {e : TypeId} {sz n : Nat} {v : Value} {cs : List Value} {G : Option Nat}
theorem Own.nil (w : World) (e : TypeId) (sz : Nat) : Own w e sz (.slice none 0 0) 0 [] none := ⟨by simp, .inl ⟨rfl, rfl, rfl⟩⟩
theorem Own.upd (h : Own w e sz v n cs G) (k : Upd S w w1) (hn : ∀ g, G = some g → ¬ S g) : Own w1 e sz v n cs G := by
  refine ⟨h.len, ?_⟩
  rcases h.form with h | ⟨g, o, c, cur, hv, hG, hb, r⟩
  · exact .inl h
  · exact .inr ⟨g, o, c, cur, hv, hG, k.blk hb (hn g hG), r⟩
theorem Own.lt (h : Own w e sz v n cs G) : ∀ g, G = some g → g < w.heap.size := by
  intro g hg
  rcases h.form with ⟨_, _, h⟩ | ⟨g', o, c, cur, hv, hG, hb, r⟩
  · rw [h] at hg; cases hg
  · rw [hG] at hg; obtain rfl := Option.some.inj hg; exact blk_lt hb
theorem Own.slice (h : Own w e sz v n cs G) : ∃ A c, v = .slice A n c ∧ n ≤ c ∧ c ≤ maxLen ∧ Row w A cs ∧ ∀ ad, A = some ad → G = some ad.block := by
  rcases h.form with ⟨rfl, rfl, hG⟩ | ⟨g, o, c, cur, hv, hG, hb, hc, hm, hs, hcell⟩
  · refine ⟨none, 0, rfl, Nat.le_refl _, by simp [maxLen], ?_, fun ad h => by cases h⟩
    have := h.len
    obtain rfl : cs = [] := List.eq_nil_of_length_eq_zero (by simpa using this)
    exact Row.nil _ _
  · refine ⟨_, c, hv, hc, hm, fun j u hj => ⟨_, rfl, ?_⟩, fun ad h => by obtain rfl := Option.some.inj h; exact hG⟩
    rw [add_lit]
    simp [World.cell?, hb, hcell j u hj]
theorem Own.ofRow {base : Nat} (h : w.ownsRow base e sz v n cs) : ∃ G, Own w e sz v n cs G ∧ G = v.ownBlock ∧ ∀ g, G = some g → base ≤ g := by
  rcases h.2 with ⟨rfl, h0⟩ | ⟨g, cap, cur, rfl, hb, hh, h1, h2, h3, h4⟩
  · exact ⟨none, ⟨h.1, .inl ⟨by subst h0; rfl, h0, rfl⟩⟩, rfl, fun g h => by cases h⟩
  · refine ⟨some g, ⟨h.1, .inr ⟨g, 0, cap, cur, rfl, rfl, hh, h1, h2, by omega, fun j u hj => ?_⟩⟩, rfl, fun g' h => by obtain rfl := Option.some.inj h; exact hb⟩
    rw [← h4, List.getElem?_take] at hj
    split at hj
    · simpa using hj
    · cases hj
/-- A block just made, known by its cells. -/
theorem Own.lit (w : World) (e : TypeId) (sz n : Nat) (C : Array Value) (hm : n ≤ maxLen) (hs : C.size = n * sz) : Own (w.alloc (.cells C e)) e sz (.slice (some ⟨w.heap.size, 0, none⟩) n n) n C.toList (some w.heap.size) := by
  refine ⟨by simpa using hs, .inr ⟨_, 0, n, C, rfl, rfl, heap_alloc_new w _, Nat.le_refl _, hm, by omega, fun j u hj => by simpa using hj⟩⟩
theorem Own.litg (w : World) (g : Nat) (hg : g = w.heap.size) (e : TypeId) (sz n : Nat) (C : Array Value) (hm : n ≤ maxLen) (hs : C.size = n * sz) : Own (w.alloc (.cells C e)) e sz (.slice (some ⟨g, 0, none⟩) n n) n C.toList (some g) := by
  subst hg
  exact Own.lit w e sz n C hm hs
theorem Own.take {A : Option Addr} {c : Nat} (h : Own w e sz (.slice A n c) n cs G) (k : Nat) (hk : k ≤ n) : Own w e sz (.slice A k c) k (cs.take (k * sz)) G := by
  refine ⟨by rw [List.length_take, h.len]; exact Nat.min_eq_left (Nat.mul_le_mul_right _ hk), ?_⟩
  rcases h.form with ⟨hv, rfl, hG⟩ | ⟨g, o, c', cur, hv, hG, hb, hc, hm, hs, hcell⟩
  · injection hv with h1 h2 h3
    subst h1; subst h3
    obtain rfl : k = 0 := by omega
    exact .inl ⟨rfl, rfl, hG⟩
  · injection hv with h1 h2 h3
    subst h1; subst h3
    refine .inr ⟨g, o, c, cur, rfl, hG, hb, by omega, hm, hs, fun j u hj => ?_⟩
    rw [List.getElem?_take] at hj
    split at hj
    · exact hcell j u hj
    · cases hj
end
section
variable {w : World} {e : TypeId} {n g o c i : Nat} {l : List UInt8} {G : Option Nat} {v : Value}
/-- A row of bytes that is owned: the cell of a place, and what a store there makes of it. -/
theorem Own.byteAt (h : Own w e 1 v n (B l) G) (hi : i < n) : ∃ g o c, v = .slice (some ⟨g, o, none⟩) n c ∧ G = some g := by
  rcases h.form with ⟨_, h0, _⟩ | ⟨g, o, c, cur, hv, hG, _⟩
  · omega
  · exact ⟨g, o, c, hv, hG⟩
theorem Own.llen (h : Own w e 1 v n (B l) G) : l.length = n := by have := h.len; simpa [B_length] using this
theorem Own.cellB (h : Own w e 1 (.slice (some ⟨g, o, none⟩) n c) n (B l) G) (i : Nat) (hi : i < n) :
    w.cell? ⟨g, o + i, none⟩ = some (.int .u8 ((l[i]'(by rw [h.llen]; exact hi)).toNat : Int)) ∧ w.frozen? ⟨g, o + i, none⟩ = false := by
  have hl := h.llen
  rcases h.form with ⟨hv, _⟩ | ⟨g', o', c', cur, hv, hG, hb, hc, hm, hs, hcell⟩
  · cases hv
  · injection hv with h1 h2 h3
    injection h1 with h1
    injection h1 with h4 h5
    subst h4; subst h5
    have := hcell i _ (B_get l i (by omega))
    constructor
    · simp [World.cell?, hb, this]
    · simp [World.frozen?, hb]
theorem Own.setB (h : Own w e 1 (.slice (some ⟨g, o, none⟩) n c) n (B l) G) (i : Nat) (hi : i < n) (b : UInt8) :
    Own (w.setCell ⟨g, o + i, none⟩ (.int .u8 (b.toNat : Int))) e 1 (.slice (some ⟨g, o, none⟩) n c) n (B (l.set i b)) G := by
  have hl := h.llen
  refine ⟨by simp [B, hl], ?_⟩
  rcases h.form with ⟨hv, _⟩ | ⟨g', o', c', cur, hv, hG, hb, hc, hm, hs, hcell⟩
  · cases hv
  · injection hv with h1 h2 h3
    injection h1 with h1
    injection h1 with h4 h5
    subst h4; subst h5; subst h3
    refine .inr ⟨g, o, c, cur.setIfInBounds (o + i) (.int .u8 (b.toNat : Int)), rfl, hG, by simp [World.setCell, Array.getElem?_modify, hb], hc, hm, by simpa using hs, fun j u hj => ?_⟩
    by_cases e : i = j
    · subst e
      rw [B_get _ i (by simp; omega)] at hj
      simp at hj
      subst hj
      rw [Array.getElem?_setIfInBounds_self_of_lt (by omega)]
    · have : (B (l.set i b))[j]? = (B l)[j]? := by simp [B, List.getElem?_set_ne e]
      rw [this] at hj
      rw [Array.getElem?_setIfInBounds_ne (by omega)]
      exact hcell j u hj
theorem Own.rd {A : Option Addr} (h : Own w e 1 (.slice A n c) n (B l) G) : Rd w A n l := by
  obtain ⟨A', c', hv, h1, h2, h3, _⟩ := h.slice
  injection hv with e1 e2 e3
  subst e1; subst e3
  exact ⟨h.llen, by simp only [maxLen] at h2; omega, h3⟩
end
theorem size_setCells : ∀ (vs : List Value) (b o : Nat) (w : World), (w.setCells b o vs).heap.size = w.heap.size
  | [], _, _, _ => rfl
  | v :: r, b, o, w => by rw [World.setCells, size_setCells r]; simp [World.setCell]
theorem tape_setCells : ∀ (vs : List Value) (b o : Nat) (w : World), (w.setCells b o vs).tape = w.tape
  | [], _, _, _ => rfl
  | v :: r, b, o, w => by rw [World.setCells, tape_setCells r]; rfl
theorem Upd.setCells (w : World) (g o : Nat) (vs : List Value) : Upd (fun k => some k = some g) w (w.setCells g o vs) :=
  ⟨World.os_setCells .., tape_setCells .., World.output_setCells .., Nat.le_of_eq (size_setCells ..).symm, fun i hi hn => World.heap_setCells_other w g o vs hi (fun e => hn (by rw [e]))⟩
theorem blk_setCell {w : World} {g o : Nat} {cur : Array Value} {e : TypeId} {fz : Nat × Nat} (h : w.heap[g]? = some (.cells cur e fz)) (v : Value) :
    (w.setCell ⟨g, o, none⟩ v).heap[g]? = some (.cells (cur.setIfInBounds o v) e fz) := by
  simp [World.setCell, Array.getElem?_modify, h]
/-- What a block holds behind stores into it. -/
theorem blk_setCells : ∀ (vs : List Value) (g o : Nat) (w : World) (cur : Array Value) (e : TypeId) (fz : Nat × Nat), w.heap[g]? = some (.cells cur e fz) → o + vs.length ≤ cur.size →
    ∃ cur', (w.setCells g o vs).heap[g]? = some (.cells cur' e fz) ∧ cur'.size = cur.size ∧ (∀ j, j < o → cur'[j]? = cur[j]?) ∧ (∀ j u, vs[j]? = some u → cur'[o + j]? = some u) ∧ (∀ j, o + vs.length ≤ j → cur'[j]? = cur[j]?)
  | [], g, o, w, cur, e, fz, h, _ => ⟨cur, h, rfl, fun _ _ => rfl, fun j u hj => by simp at hj, fun _ _ => rfl⟩
  | v :: r, g, o, w, cur, e, fz, h, hs => by
    have h1 : (w.setCell ⟨g, o, none⟩ v).heap[g]? = some (.cells (cur.setIfInBounds o v) e fz) := by
      simp [World.setCell, Array.getElem?_modify, h]
    obtain ⟨cur', hb, hsz, ha, hm, hz⟩ := blk_setCells r g (o + 1) _ _ e fz h1 (by simp at hs ⊢; omega)
    simp only [List.length_cons] at hs hz ⊢
    refine ⟨cur', hb, by simpa using hsz, fun j hj => ?_, fun j u hj => ?_, fun j hj => ?_⟩
    · rw [ha j (by omega), Array.getElem?_setIfInBounds_ne (by omega)]
    · cases j with
      | zero =>
        simp only [List.getElem?_cons_zero, Option.some.injEq] at hj
        subst hj
        rw [Nat.add_zero, ha o (by omega)]
        simp [show o < cur.size by omega]
      | succ j =>
        simp only [List.getElem?_cons_succ] at hj
        have := hm j u hj
        rwa [show o + (j + 1) = o + 1 + j by omega]
    · rw [hz j (by omega), Array.getElem?_setIfInBounds_ne (by omega)]

/-! ### stops: the walk halts ahead of an operation that is met by hand -/
structure Stop (p : Prop) : Prop where mk :: (out : p)
section
variable {P : Program} {ops : Array Oper} {rest : List Oper} {o : Oper} {a : Act} {Q : Exit → Act → World → Prop} {W : World}
theorem stop_append (s x : Operand) (t u : TypeId) (_ho : o.op = .call { callee := .builtin .append, args := #[s, x], argTypes := #[t, u] }) (h : Stop (wpList P ops Q (o :: rest) a W)) : wpList P ops Q (o :: rest) a W := h.out
theorem stop_copy (s x : Operand) (t u : TypeId) (_ho : o.op = .call { callee := .builtin .copy, args := #[s, x], argTypes := #[t, u] }) (h : Stop (wpList P ops Q (o :: rest) a W)) : wpList P ops Q (o :: rest) a W := h.out
theorem stop_make (t : TypeId) (n m : Operand) (_ho : o.op = .makeSlice t n m) (h : Stop (wpList P ops Q (o :: rest) a W)) : wpList P ops Q (o :: rest) a W := h.out
theorem stop_load (t : TypeId) (x : Operand) (_ho : o.op = .load t x) (h : Stop (wpList P ops Q (o :: rest) a W)) : wpList P ops Q (o :: rest) a W := h.out
theorem stop_store (t : TypeId) (x y : Operand) (_ho : o.op = .store t x y) (h : Stop (wpList P ops Q (o :: rest) a W)) : wpList P ops Q (o :: rest) a W := h.out
theorem stop_conv (src dst : TypeId) (x : Operand) (_ho : o.op = .convert src dst x) (h : Stop (wpList P ops Q (o :: rest) a W)) : wpList P ops Q (o :: rest) a W := h.out
end

/-! ### append -/
section
variable {P : Program} {S : Nat → Prop} {w : World} {e t ty : TypeId} {sz bytes n m c : Nat} {v z : Value} {cs news : List Value} {G : Option Nat} {A : Option Addr}
theorem run_append (ht : P.underlying t = some (.slice e)) (hinfo : (P.info? e).map (fun i => (i.zero, i.size, i.bytes)) = some (some z, sz, bytes)) (hz : z.cells.size = sz) (hsz : 0 < sz)
    (HO : Own w e sz v n cs G) (HR : Row w A news) (hl : news.length = m * sz) (h1 : ∀ u ∈ news, u.oneCell' = true) (h63 : n + m ≤ maxLen) (hbytes : (n + m) * bytes ≤ 140737488355328) :
    ∃ v' w' G', (Builtin.append_ #[t, t] ty #[v, .slice A m c]).run P w = .ok v' w' ∧ Own w' e sz v' (n + m) (cs ++ news) G' ∧ Upd (fun k => some k = G) w w' ∧ (G' = G ∨ ∃ g, G' = some g ∧ w.heap.size ≤ g ∧ g < w'.heap.size) := by
  obtain ⟨i0, hi, hzz⟩ := Option.map_eq_some_iff.1 hinfo
  simp only [Prod.mk.injEq] at hzz
  obtain ⟨hz0, hz1, hz2⟩ := hzz
  have fin : ∀ v' w', w'.ownsRow w.heap.size e sz v' (n + m) (cs ++ news) → w.grownBy w' none → 0 < m →
      ∃ G', Own w' e sz v' (n + m) (cs ++ news) G' ∧ Upd (fun k => some k = G) w w' ∧ (G' = G ∨ ∃ g, G' = some g ∧ w.heap.size ≤ g ∧ g < w'.heap.size) := by
    intro v' w' ho hg hm
    obtain ⟨G', hO, _, hb⟩ := Own.ofRow ho
    refine ⟨G', hO, ⟨hg.os, hg.tape, hg.output, hg.size, fun i hi _ => hg.block i hi (by simp)⟩, .inr ?_⟩
    rcases hO.form with ⟨_, h0, _⟩ | ⟨g, o, c, cur, hv, hG, hbk, r⟩
    · omega
    · exact ⟨g, hG, hb g hG, blk_lt hbk⟩
  rcases Nat.eq_zero_or_pos m with h0 | h0
  · subst h0
    obtain rfl : news = [] := List.eq_nil_of_length_eq_zero (by simpa using hl)
    refine ⟨v, w, G, ?_, by simpa using HO, Upd.refl _ _, .inl rfl⟩
    have hload : ∀ x : Addr, (loadCells x 0).run P w = .ok #[] w := fun x => by simp [loadCells, loadCellsFrom]
    rcases HO.form with ⟨rfl, hn, hG⟩ | ⟨g, o, c', cur, rfl, hG, hb, hc, r⟩
    · cases A <;> simp [Builtin.append_, run_underlying ht, sizeOf, typeInfo, hi, Builtin.lenOf, Builtin.firstCells, hload]
    · cases A <;> simp [Builtin.append_, run_underlying ht, sizeOf, typeInfo, hi, Builtin.lenOf, Builtin.firstCells, hc, storeCells, hload]
  · have hne : 0 < news.length := by rw [hl]; exact Nat.mul_pos h0 hsz
    obtain ⟨ad, rfl, _⟩ := HR 0 _ (List.getElem?_eq_getElem hne)
    have hcells : ∀ j u, news[j]? = some u → w.cell? (ad.add j) = some u := fun j u hj => by
      obtain ⟨ad', e', hc⟩ := HR j u hj
      obtain rfl := Option.some.inj e'
      exact hc
    rcases HO.form with ⟨rfl, rfl, hG⟩ | ⟨g, o, c', cur, rfl, hG, hb, hc, hm, hs, hcell⟩
    · obtain rfl : cs = [] := List.eq_nil_of_length_eq_zero (by have := HO.len; simpa using this)
      obtain ⟨v', w', hr, ho, hg, _⟩ := run_append_own_at (P := P) w w.heap.size t ty e i0 z sz bytes ht hi hz0 hz1 hz2 hz hsz (.slice none 0 0) 0 [] (World.ownsRow_nil w _ e sz) ad m c news hl hcells h1 h63 hbytes (Nat.le_refl _)
      obtain ⟨G', r⟩ := fin v' w' ho hg h0
      exact ⟨v', w', G', hr, r⟩
    · by_cases hroom : n + m ≤ c'
      · have hfit : o + n * sz + news.length ≤ cur.size := by
          rw [hl, Nat.add_assoc, ← Nat.add_mul]
          exact Nat.le_trans (Nat.add_le_add_left (Nat.mul_le_mul_right _ hroom) _) hs
        have hr := run_append_room_cells (P := P) w t ty e i0 ht hi g o n c' ad m c news (by rw [hz1]; exact hl) hcells h1 hroom
          (fun j hj => by rw [hz1]; simp [World.cell?, hb]; omega)
          (fun j hj => by simp [World.frozen?, hb])
        rw [hz1] at hr
        obtain ⟨cur', hb', hsz', ha', hm', hz'⟩ := blk_setCells news g (o + n * sz) w cur e (0, 0) hb hfit
        refine ⟨_, _, some g, hr, ⟨by rw [List.length_append, HO.len, hl, Nat.add_mul], .inr ⟨g, o, c', cur', rfl, rfl, hb', hroom, hm, by rw [hsz']; exact hs, fun j u hj => ?_⟩⟩, ?_, .inl hG.symm⟩
        · have hcl := HO.len
          rcases Nat.lt_or_ge j cs.length with hj1 | hj1
          · rw [List.getElem?_append_left hj1] at hj
            rw [ha' _ (by omega)]
            exact hcell j u hj
          · rw [List.getElem?_append_right hj1] at hj
            have := hm' _ u hj
            rwa [show o + n * sz + (j - cs.length) = o + j by omega] at this
        · subst hG
          exact Upd.setCells w g (o + n * sz) news
      · have holds : ∀ j u, cs[j]? = some u → w.cell? ((⟨g, o, none⟩ : Addr).add j) = some u := fun j u hj => by
          rw [add_lit]
          simp [World.cell?, hb, hcell j u hj]
        obtain ⟨v', w', hr, ho, hg⟩ := run_append_arg_grows (P := P) w t ty e i0 z sz bytes ht hi hz0 hz1 hz2 hz hsz ⟨g, o, none⟩ n c' cs HO.len holds ad m c news hl hcells (by omega) h63 hbytes
        obtain ⟨G', r⟩ := fin v' w' ho hg h0
        exact ⟨v', w', G', hr, r⟩
end
section
variable {P : Program} {ops : Array Oper} {rest : List Oper} {o : Oper} {a : Act} {Q : Exit → Act → World → Prop} {W : World}
theorem wp_append (hgd : o.guard = none) (s x : Operand) (t e : TypeId) (z : Value) (sz bytes : Nat)
    (ho : o.op = .call { callee := .builtin .append, args := #[s, x], argTypes := #[t, t] })
    (ht : P.underlying t = some (.slice e)) (hinfo : (P.info? e).map (fun i => (i.zero, i.size, i.bytes)) = some (some z, sz, bytes)) (hz : z.cells.size = sz) (hsz : 0 < sz)
    (v : Value) (n : Nat) (cs : List Value) (G : Option Nat) (A : Option Addr) (m c : Nat) (news : List Value) (hs : a.eval s = v) (hx : a.eval x = .slice A m c)
    (HO : Own W e sz v n cs G) (HR : Row W A news) (hl : news.length = m * sz) (h1 : ∀ u ∈ news, u.oneCell' = true) (h63 : n + m ≤ maxLen) (hbytes : (n + m) * bytes ≤ 140737488355328)
    (h : ∀ v1 w1 G1, Own w1 e sz v1 (n + m) (cs ++ news) G1 → Upd (fun k => some k = G) W w1 → (G1 = G ∨ ∃ g, G1 = some g ∧ W.heap.size ≤ g ∧ g < w1.heap.size) → wpList P ops Q rest (a.put o.dst v1) w1) :
    Stop (wpList P ops Q (o :: rest) a W) := by
  constructor
  obtain ⟨v', w', G', hr, hO, hU, hG⟩ := run_append (P := P) (ty := o.type) (c := c) ht hinfo hz hsz HO HR hl h1 h63 hbytes
  refine wpList_plain hgd fun K hK => ?_
  unfold Oper.wp execOp
  simp only [ho, resolve, invoke, builtin, Sem.run_bind, Sem.run_pure, Result.andThen_ok, List.map_toArray, List.map_cons, List.map_nil, hs, hx, hr]
  exact hK _ _ (h v' w' G' hO hU hG)
/-- The same for bytes, the new slice written out. -/
theorem wp_appendB (N : Nat) (e : TypeId) (l l2 : List UInt8) (G : Option Nat) (A0 : Option Addr) (n c0 : Nat) (A : Option Addr) (m c : Nat) (hgd : o.guard = none) (s x : Operand) (t : TypeId)
    (ho : o.op = .call { callee := .builtin .append, args := #[s, x], argTypes := #[t, t] })
    (ht : P.underlying t = some (.slice e)) (hinfo : (P.info? e).map (fun i => (i.zero, i.size, i.bytes)) = some (some (.int .u8 0), 1, 1))
    (hs : a.eval s = .slice A0 n c0) (hx : a.eval x = .slice A m c) (HO : Own W e 1 (.slice A0 n c0) n (B l) G) (HR : Rd W A m l2) (hN : N = n + m) (hlim : N ≤ 140737488355328)
    (h : ∀ A1 c1 w1 G1, N ≤ c1 → c1 ≤ maxLen → Own w1 e 1 (.slice A1 N c1) N (B (l ++ l2)) G1 → Upd (fun k => some k = G) W w1 → (G1 = G ∨ ∃ g, G1 = some g ∧ W.heap.size ≤ g ∧ g < w1.heap.size) → wpList P ops Q rest (a.put o.dst (.slice A1 N c1)) w1) :
    Stop (wpList P ops Q (o :: rest) a W) := by
  subst hN
  refine wp_append hgd s x t e (.int .u8 0) 1 1 ho ht hinfo rfl (by omega) _ n (B l) G A m c (B l2) hs hx HO HR.row (by rw [B_length, HR.len, Nat.mul_one]) (B_one l2) (by simp only [maxLen]; omega) (by omega) ?_
  intro v1 w1 G1 hO hU hG
  rw [← B_append] at hO
  obtain ⟨A1, c1, rfl, h1, h2, _, _⟩ := hO.slice
  exact h A1 c1 w1 G1 h1 h2 hO hU hG
/-- The same onto a row that was made since w0. -/
theorem wp_appendF {S : Nat → Prop} {w0 : World} (HU : Upd S w0 W) (N : Nat) (e : TypeId) (l l2 : List UInt8) (G : Option Nat) (A0 : Option Addr) (n c0 : Nat) (A : Option Addr) (m c : Nat) (hgd : o.guard = none) (s x : Operand) (t : TypeId)
    (ho : o.op = .call { callee := .builtin .append, args := #[s, x], argTypes := #[t, t] })
    (ht : P.underlying t = some (.slice e)) (hinfo : (P.info? e).map (fun i => (i.zero, i.size, i.bytes)) = some (some (.int .u8 0), 1, 1))
    (hs : a.eval s = .slice A0 n c0) (hx : a.eval x = .slice A m c) (HO : Own W e 1 (.slice A0 n c0) n (B l) G) (hG : ∀ g, G = some g → w0.heap.size ≤ g) (HR : Rd W A m l2) (hN : N = n + m) (hlim : N ≤ 140737488355328)
    (h : ∀ A1 c1 w1 G1, N ≤ c1 → c1 ≤ maxLen → Own w1 e 1 (.slice A1 N c1) N (B (l ++ l2)) G1 → (∀ g, G1 = some g → w0.heap.size ≤ g) → Upd S w0 w1 → Upd (fun k => some k = G) W w1 → (G1 = G ∨ ∃ g, G1 = some g ∧ W.heap.size ≤ g ∧ g < w1.heap.size) → wpList P ops Q rest (a.put o.dst (.slice A1 N c1)) w1) :
    Stop (wpList P ops Q (o :: rest) a W) := by
  refine wp_appendB N e l l2 G A0 n c0 A m c hgd s x t ho ht hinfo hs hx HO HR hN hlim ?_
  intro A1 c1 w1 G1 h1 h2 hO hU hg
  refine h A1 c1 w1 G1 h1 h2 hO ?_ (HU.trans hU fun i hi e => ?_) hU hg
  · intro g e
    rcases hg with rfl | ⟨g', rfl, h3, _⟩
    · exact hG g e
    · obtain rfl := Option.some.inj e
      exact Nat.le_trans HU.size h3
  · have := hG i e.symm
    omega
end
section
variable {P : Program} {ops : Array Oper} {rest : List Oper} {o : Oper} {a : Act} {Q : Exit → Act → World → Prop} {W : World}
/-- make([]byte, m) -/
theorem wp_makeB (m : Nat) (e : TypeId) (hgd : o.guard = none) (x y : Operand) (t : TypeId) (ho : o.op = .makeSlice t x y)
    (ht : P.underlying t = some (.slice e)) (hinfo : (P.info? e).map (fun i => (i.zero, i.size, i.bytes)) = some (some (.int .u8 0), 1, 1))
    (hx : a.eval x = .int .i64 (m : Int)) (hy : a.eval y = .int .i64 (m : Int)) (hm : m ≤ 281474976710656)
    (h : ∀ w1, Own w1 e 1 (.slice (some ⟨W.heap.size, 0, none⟩) m m) m (B (List.replicate m 0)) (some W.heap.size) → Upd (fun _ => False) W w1 → W.heap.size < w1.heap.size → wpList P ops Q rest (a.put o.dst (.slice (some ⟨W.heap.size, 0, none⟩) m m)) w1) :
    Stop (wpList P ops Q (o :: rest) a W) := by
  constructor
  have hr := run_make_row' (P := P) t e (.int .u8 0) 1 ht hinfo rfl .i64 .i64 m (by omega) (by omega) W
  refine wpList_plain hgd fun K hK => ?_
  unfold Oper.wp execOp
  simp only [ho, hx, hy, hr, Result.andThen_ok, Sem.run_bind, Sem.run_pure]
  refine hK _ _ (h _ ?_ ((Upd.refl _ _).alloc _) (by simp))
  have := Own.lit W e 1 m (madeCells #[.int .u8 0] m) (by simp only [maxLen]; omega) (by simp [size_madeCells])
  have hl : (madeCells #[Value.int .u8 0] m).toList = B (List.replicate m 0) := by
    apply List.ext_getElem
    · simp [B, madeCells]
    · intro i h1 h2
      simp [B, madeCells, Nat.mod_one]
  rwa [hl] at this
/-- copy(dst, src), bytes -/
theorem wp_copyB (e : TypeId) (l l2 : List UInt8) (G : Option Nat) (A0 : Option Addr) (n c0 : Nat) (A : Option Addr) (m c : Nat) (hgd : o.guard = none) (s x : Operand) (t : TypeId)
    (ho : o.op = .call { callee := .builtin .copy, args := #[s, x], argTypes := #[t, t] })
    (ht : P.underlying t = some (.slice e)) (hinfo : (P.info? e).map (fun i => (i.zero, i.size, i.bytes)) = some (some (.int .u8 0), 1, 1))
    (hs : a.eval s = .slice A0 n c0) (hx : a.eval x = .slice A m c) (HO : Own W e 1 (.slice A0 n c0) n (B l) G) (HR : Rd W A m l2)
    (h : ∀ w1, Own w1 e 1 (.slice A0 n c0) n (B (l2.take n ++ l.drop m)) G → Upd (fun k => some k = G) W w1 → wpList P ops Q rest (a.put o.dst (.int .i64 ((min m n : Nat) : Int))) w1) :
    Stop (wpList P ops Q (o :: rest) a W) := by
  constructor
  have hll := HO.llen
  have hl2 := HR.len
  have hsz : (P.info? e).map (·.size) = some 1 := by
    obtain ⟨i0, hi, hzz⟩ := Option.map_eq_some_iff.1 hinfo
    simp only [Prod.mk.injEq] at hzz
    rw [hi]; simp [hzz.2.1]
  have hrun : ∃ w1, (Builtin.copy_ #[t, t] o.type #[.slice A0 n c0, .slice A m c]).run P W = .ok (goInt ((min m n : Nat) : Int)) w1 ∧ Own w1 e 1 (.slice A0 n c0) n (B (l2.take n ++ l.drop m)) G ∧ Upd (fun k => some k = G) W w1 := by
    rcases Nat.eq_zero_or_pos (min m n) with h0 | h0
    · refine ⟨W, ?_, ?_, Upd.refl _ _⟩
      · rw [run_copy_none (P := P) W t t o.type e A0 A n c0 m c ht hsz (by simpa using h0), h0]
        rfl
      · have : l2.take n ++ l.drop m = l := by
          rcases Nat.eq_zero_or_pos m with h1 | h1
          · subst h1
            obtain rfl : l2 = [] := List.eq_nil_of_length_eq_zero hl2
            simp
          · have : n = 0 := by omega
            subst this
            obtain rfl : l = [] := List.eq_nil_of_length_eq_zero hll
            simp
        rw [this]; exact HO
    · rcases HO.form with ⟨_, hn, _⟩ | ⟨g, o', c', cur, hv, hG, hb, hc, hm, hs', hcell⟩
      · omega
      · injection hv with h1 h2 h3
        subst h1; subst h3
        obtain ⟨ad, rfl, _⟩ := HR.at 0 (by omega)
        have hlen : (B (l2.take n)).length = min m n := by rw [B_length, List.length_take, hl2]; omega
        have hr := run_copy_cells (P := P) W t t o.type e g o' n c0 ad m c (B (l2.take n)) ht hsz (by rw [hlen])
          (fun j v hj => by
            rw [B_take, List.getElem?_take] at hj
            split at hj
            · obtain ⟨ad', e', hc⟩ := HR.row j v hj
              obtain rfl := Option.some.inj e'
              exact hc
            · cases hj)
          (fun j hj => by rw [hlen] at hj; simp [World.cell?, hb]; omega)
          (fun j hj => by simp [World.frozen?, hb]) (B_one _)
        rw [hlen] at hr
        obtain ⟨cur', hb', hsz', ha', hm', hz'⟩ := blk_setCells (B (l2.take n)) g o' W cur e (0, 0) hb (by rw [hlen]; omega)
        refine ⟨_, hr, ⟨by rw [B_length, List.length_append, List.length_take, List.length_drop]; omega, .inr ⟨g, o', c0, cur', rfl, hG, hb', hc, hm, by rw [hsz']; exact hs', fun j u hj => ?_⟩⟩, ?_⟩
        · rw [B_append] at hj
          rcases Nat.lt_or_ge j (min m n) with hj1 | hj1
          · rw [List.getElem?_append_left (by rw [hlen]; exact hj1)] at hj
            exact hm' j u hj
          · rw [List.getElem?_append_right (by rw [hlen]; exact hj1), hlen, B_drop, List.getElem?_drop] at hj
            rw [hz' _ (by rw [hlen]; omega)]
            have : m + (j - min m n) = j ∨ n ≤ m := by omega
            rcases this with h | h
            · rw [h] at hj
              exact hcell j u hj
            · rw [List.getElem?_eq_none (by rw [B_length]; omega)] at hj
              cases hj
        · subst hG
          exact Upd.setCells W g o' _
  obtain ⟨w1, hr, hO, hU⟩ := hrun
  refine wpList_plain hgd fun K hK => ?_
  unfold Oper.wp execOp
  simp only [ho, resolve, invoke, builtin, Sem.run_bind, Sem.run_pure, Result.andThen_ok, List.map_toArray, List.map_cons, List.map_nil, hs, hx, hr]
  exact hK _ _ (h w1 hO hU)

/-! ### cuts: the new address under one name -/
theorem Own.drop {w : World} {e : TypeId} {sz n c : Nat} {A : Option Addr} {cs : List Value} {G : Option Nat} (h : Own w e sz (.slice A n c) n cs G) (m : Nat) (hm : m ≤ n) (hc : n ≤ c) :
    Own w e sz (.slice (if c = m then A else A.map (·.add (m * sz))) (n - m) (c - m)) (n - m) (cs.drop (m * sz)) G := by
  refine ⟨by rw [List.length_drop, h.len, Nat.sub_mul], ?_⟩
  rcases h.form with ⟨hv, rfl, hG⟩ | ⟨g, o, c', cur, hv, hG, hb, hc', hm', hs, hcell⟩
  · injection hv with h1 h2 h3
    subst h1; subst h3
    obtain rfl : m = 0 := by omega
    exact .inl ⟨by simp, by omega, hG⟩
  · injection hv with h1 h2 h3
    subst h1; subst h3
    refine .inr ?_
    by_cases hcm : c = m
    · subst hcm
      refine ⟨g, o, 0, cur, by simp, hG, hb, by omega, by simp [maxLen], by omega, fun j u hj => ?_⟩
      rw [List.getElem?_eq_none (by rw [List.length_drop, h.len]; have := Nat.mul_le_mul_right sz hc; omega)] at hj
      cases hj
    · refine ⟨g, o + m * sz, c - m, cur, by simp [hcm, add_lit], hG, hb, by omega, by omega, ?_, fun j u hj => ?_⟩
      · have : m * sz + (c - m) * sz = c * sz := by rw [← Nat.add_mul]; congr 1; omega
        omega
      · rw [List.getElem?_drop] at hj
        have := hcell _ u hj
        rwa [Nat.add_assoc]
theorem cut_from {P : Program} (t e : TypeId) (kl : IntKind) {sz : Nat} (ht : P.underlying t = some (.slice e)) (hi : (P.info? e).map (·.size) = some sz) (A : Option Addr) (n c m : Nat) (hm : m ≤ n) (hc : n ≤ c) :
    ∃ A' : Option Addr, (∀ W : World, (Instr.slice t (.slice A n c) (some (.int kl (m : Int))) none none).run P W = .ok (.slice A' (n - m) (c - m)) W) ∧
      (∀ w cs G, Own w e sz (.slice A n c) n cs G → Own w e sz (.slice A' (n - m) (c - m)) (n - m) (cs.drop (m * sz)) G) ∧
      (sz = 1 → ∀ w l, Rd w A n l → Rd w A' (n - m) (l.drop m)) ∧ (∀ ad, A' = some ad → ∃ ad', A = some ad' ∧ ad.block = ad'.block) := by
  obtain ⟨i, hi1, hi2⟩ := Option.map_eq_some_iff.1 hi
  refine ⟨if c = m then A else A.map (·.add (m * sz)), fun W => ?_, fun w cs G h => h.drop m hm hc, fun h1 w l h => by subst h1; rw [Nat.mul_one]; exact h.drop_if m c hm hc, fun ad e => ?_⟩
  · have hel : P.elem t = e := by simp [Program.elem, ht]
    have hu : P.underlying t = some (.slice (P.elem t)) := by rw [hel]; exact ht
    rw [run_slice_l W t A n c hu kl (m : Int) (Int.natCast_nonneg _) (by omega), hel]
    simp [sizeOf, typeInfo, hi1, hi2, sliced, Result.andThen]
  · split at e
    · exact ⟨ad, e, rfl⟩
    · cases A with
      | none => cases e
      | some a => obtain rfl := Option.some.inj e; exact ⟨a, rfl, add_block ..⟩
theorem cut_both {P : Program} (t e : TypeId) (kl kh : IntKind) {sz : Nat} (ht : P.underlying t = some (.slice e)) (hi : (P.info? e).map (·.size) = some sz) (A : Option Addr) (n c m h : Nat) (hm : m ≤ h) (hh : h ≤ n) (hc : n ≤ c) :
    ∃ A' : Option Addr, (∀ W : World, (Instr.slice t (.slice A n c) (some (.int kl (m : Int))) (some (.int kh (h : Int))) none).run P W = .ok (.slice A' (h - m) (c - m)) W) ∧
      (∀ w cs G, Own w e sz (.slice A n c) n cs G → Own w e sz (.slice A' (h - m) (c - m)) (h - m) ((cs.take (h * sz)).drop (m * sz)) G) ∧
      (sz = 1 → ∀ w l, Rd w A n l → Rd w A' (h - m) ((l.take h).drop m)) ∧ (∀ ad, A' = some ad → ∃ ad', A = some ad' ∧ ad.block = ad'.block) := by
  obtain ⟨i, hi1, hi2⟩ := Option.map_eq_some_iff.1 hi
  refine ⟨if c = m then A else A.map (·.add (m * sz)), fun W => ?_, fun w cs G k => (k.take h hh).drop m hm (by omega), fun h1 w l k => by subst h1; rw [Nat.mul_one]; exact (k.take h hh).drop_if m c hm (by omega), fun ad e => ?_⟩
  · have hel : P.elem t = e := by simp [Program.elem, ht]
    have hu : P.underlying t = some (.slice (P.elem t)) := by rw [hel]; exact ht
    rw [run_slice_lh W t A n c hu kl kh (m : Int) (h : Int) (Int.natCast_nonneg _) (by omega) (by omega), hel]
    simp [sizeOf, typeInfo, hi1, hi2, sliced, Result.andThen]
  · split at e
    · exact ⟨ad, e, rfl⟩
    · cases A with
      | none => cases e
      | some a => obtain rfl := Option.some.inj e; exact ⟨a, rfl, add_block ..⟩

/-- the same, the bound spelt as it comes -/
theorem cut_from' {P : Program} (t e : TypeId) (kl : IntKind) {sz : Nat} (ht : P.underlying t = some (.slice e)) (hi : (P.info? e).map (·.size) = some sz) (A : Option Addr) (n c m : Nat) (i : Int) (him : i = (m : Int)) (hm : m ≤ n) (hc : n ≤ c) :
    ∃ A' : Option Addr, (∀ W : World, (Instr.slice t (.slice A n c) (some (.int kl i)) none none).run P W = .ok (.slice A' (n - m) (c - m)) W) ∧
      (∀ w cs G, Own w e sz (.slice A n c) n cs G → Own w e sz (.slice A' (n - m) (c - m)) (n - m) (cs.drop (m * sz)) G) ∧
      (sz = 1 → ∀ w l, Rd w A n l → Rd w A' (n - m) (l.drop m)) ∧ (∀ ad, A' = some ad → ∃ ad', A = some ad' ∧ ad.block = ad'.block) := by
  subst him
  exact cut_from t e kl ht hi A n c m hm hc
theorem cut_both' {P : Program} (t e : TypeId) (kl kh : IntKind) {sz : Nat} (ht : P.underlying t = some (.slice e)) (hi : (P.info? e).map (·.size) = some sz) (A : Option Addr) (n c m h : Nat) (i j : Int) (him : i = (m : Int)) (hjh : j = (h : Int)) (hm : m ≤ h) (hh : h ≤ n) (hc : n ≤ c) :
    ∃ A' : Option Addr, (∀ W : World, (Instr.slice t (.slice A n c) (some (.int kl i)) (some (.int kh j)) none).run P W = .ok (.slice A' (h - m) (c - m)) W) ∧
      (∀ w cs G, Own w e sz (.slice A n c) n cs G → Own w e sz (.slice A' (h - m) (c - m)) (h - m) ((cs.take (h * sz)).drop (m * sz)) G) ∧
      (sz = 1 → ∀ w l, Rd w A n l → Rd w A' (h - m) ((l.take h).drop m)) ∧ (∀ ad, A' = some ad → ∃ ad', A = some ad' ∧ ad.block = ad'.block) := by
  subst him; subst hjh
  exact cut_both t e kl kh ht hi A n c m h hm hh hc

/-! ### max and min of two integers, told by names -/
def mx (a b : Int) : Int := if a < b then b else a
def mn (a b : Int) : Int := if b < a then b else a
@[go_sem] theorem max2_i (k k' : IntKind) (x y : Int) : Builtin.max2 (.int k x) (.int k' y) = pure (.int k (mx x y)) := by simp only [Builtin.max2, gt_iff_lt, mx]
@[go_sem] theorem min2_i (k k' : IntKind) (x y : Int) : Builtin.min2 (.int k x) (.int k' y) = pure (.int k (mn x y)) := by simp only [Builtin.min2, mn]
@[go_sem] theorem max_two (ats : Array TypeId) (ty : TypeId) (a b : Value) : Builtin.max_ ats ty #[a, b] = (Builtin.max2 a b >>= fun s => pure s) := by simp only [Builtin.max_, List.foldlM_cons, List.foldlM_nil]
@[go_sem] theorem min_two (ats : Array TypeId) (ty : TypeId) (a b : Value) : Builtin.min_ ats ty #[a, b] = (Builtin.min2 a b >>= fun s => pure s) := by simp only [Builtin.min_, List.foldlM_cons, List.foldlM_nil]
@[go_sem] theorem max_three (ats : Array TypeId) (ty : TypeId) (a b c : Value) : Builtin.max_ ats ty #[a, b, c] = (Builtin.max2 a b >>= fun s => Builtin.max2 s c >>= fun s => pure s) := by simp only [Builtin.max_, List.foldlM_cons, List.foldlM_nil]
@[go_sem] theorem min_three (ats : Array TypeId) (ty : TypeId) (a b c : Value) : Builtin.min_ ats ty #[a, b, c] = (Builtin.min2 a b >>= fun s => Builtin.min2 s c >>= fun s => pure s) := by simp only [Builtin.min_, List.foldlM_cons, List.foldlM_nil]

/-! ### a struct's cells, loaded at once -/
theorem run_loadAgg {t : TypeId} {sz : Nat} {d : TypeDesc} (hu : P.underlying t = some d) (hd : (match d with | .struct _ | .array _ _ => true | _ => false) = true) (hi : (P.info? t).map (·.size) = some sz) (ad : Addr) (cs : List Value) (hl : cs.length = sz)
    (hc : ∀ j u, cs[j]? = some u → W.cell? (ad.add j) = some u) : (loadVar t ad).run P W = .ok (.agg cs.toArray) W := by
  have hl2 := run_loadCells_list (P := P) W ad cs hc
  cases hq : P.info? t with
  | none => simp [hq] at hi
  | some i =>
    have hs : i.size = sz := by simpa [hq] using hi
    have hagg : (isAgg t).run P W = .ok true W := by
      unfold isAgg
      rw [Sem.run_bind, run_underlying hu W]
      cases d <;> simp_all
    simp [loadVar, Sem.run_bind, hagg, sizeOf, typeInfo, hq, hs, ← hl, hl2]
theorem wp_loadAgg (cs : List Value) (ad : Addr) (sz : Nat) (hgd : o.guard = none) (t : TypeId) (x : Operand) {d : TypeDesc} (ho : o.op = .load t x) (hx : a.eval x = .pointer (some ad))
    (hu : P.underlying t = some d) (hd : (match d with | .struct _ | .array _ _ => true | _ => false) = true) (hi : (P.info? t).map (·.size) = some sz) (hl : cs.length = sz)
    (hc : ∀ j u, cs[j]? = some u → W.cell? (ad.add j) = some u) (h : wpList P ops Q rest (a.put o.dst (.agg cs.toArray)) W) : Stop (wpList P ops Q (o :: rest) a W) := by
  constructor
  refine wpList_plain hgd fun K hK => ?_
  unfold Oper.wp execOp
  simp only [ho, hx, Instr.loadAt, Instr.sureAddr, Sem.run_bind, Sem.run_pure, Result.andThen_ok, run_loadAgg hu hd hi ad cs hl hc]
  exact hK _ _ h

/-! ### strings -/
def S (l : List UInt8) : ByteArray := ⟨l.toArray⟩
@[go_sem] theorem S_size (l : List UInt8) : (S l).size = l.length := by simp [S, ByteArray.size]
@[go_sem] theorem S_append (l m : List UInt8) : S l ++ S m = S (l ++ m) := by
  apply ByteArray.ext
  simp [S]
theorem S_inj {l m : List UInt8} : S l = S m ↔ l = m := by
  constructor
  · intro h
    have := congrArg (fun x : ByteArray => x.data.toList) h
    simpa [S] using this
  · rintro rfl; rfl
@[go_sem] theorem S_extract (l : List UInt8) (i j : Nat) : (S l).extract i j = S ((l.drop i).take (j - i)) := by
  apply ByteArray.ext
  simp [S, List.extract_eq_take_drop]
theorem S_of (s : ByteArray) : s = S s.data.toList := by
  apply ByteArray.ext
  simp [S]
theorem run_str {P : Program} {src dst e : TypeId} (hs : P.underlying src = some (.slice e)) (he : P.underlying e = some (.int .u8)) (hd : P.underlying dst = some .string) {A : Option Addr} {n c : Nat} {l : List UInt8} (HR : Rd W A n l) :
    (convert src dst (.slice A n c)).run P W = .ok (.string (S l)) W := by
  rw [run_convert_bytes_string W src dst e A n c hs he hd]
  rcases Nat.eq_zero_or_pos n with h0 | h0
  · subst h0
    obtain rfl : l = [] := List.eq_nil_of_length_eq_zero HR.len
    cases A with
    | none => simp [Conv.bytesToString, S]; rfl
    | some ad =>
      have := run_bytesToString (P := P) W ad 0 c [] (by simp [loadCells, loadCellsFrom])
      rw [this]
      rfl
  · obtain ⟨ad, rfl, _⟩ := HR.at 0 h0
    have hl : (loadCells ad n).run P W = .ok (B l).toArray W := by
      have := run_loadCells_list (P := P) W ad (B l) (fun j v hj => by
        obtain ⟨ad', e', hc⟩ := HR.row j v hj
        obtain rfl := Option.some.inj e'
        exact hc)
      rwa [B_length, HR.len] at this
    have hB : (B l) = (l.map fun b => (b.toNat : Int)).map (Value.int .u8) := by simp [B]
    rw [hB] at hl
    rw [run_bytesToString (P := P) W ad n c (l.map fun b => (b.toNat : Int)) hl, foldl_push_bytes]
    congr 2
    apply ByteArray.ext
    simp [S, ByteArray.empty, ByteArray.emptyWithCapacity]
    exact List.map_id'' (fun b => by simp) l
theorem wp_str (l : List UInt8) (A : Option Addr) (n c : Nat) (hgd : o.guard = none) (src dst e : TypeId) (x : Operand) (ho : o.op = .convert src dst x)
    (hs : P.underlying src = some (.slice e)) (he : P.underlying e = some (.int .u8)) (hd : P.underlying dst = some .string) (hx : a.eval x = .slice A n c) (HR : Rd W A n l)
    (h : wpList P ops Q rest (a.put o.dst (.string (S l))) W) : Stop (wpList P ops Q (o :: rest) a W) := by
  constructor
  refine wpList_plain hgd fun K hK => ?_
  unfold Oper.wp execOp
  simp only [ho, hx, Sem.run_bind, Sem.run_pure, run_str (c := c) hs he hd HR, Result.andThen_ok]
  exact hK _ _ h
end
section
variable {P : Program} {ops : Array Oper} {o : Oper} {a : Act} {K : Act → World → Prop} {Q : Exit → Act → World → Prop} {E : Prop} {W : World}
/-- a look at the operation that comes up: an append of just these operands; a conversion -/
theorem gate_app (s x : Operand) (t : TypeId) (_ho : o.op = .call { callee := .builtin .append, args := #[s, x], argTypes := #[t, t] }) (h : if Region.wanted o (yielded ops a.tmps) = true then Oper.wp P o a W K Q else E) : if Region.wanted o (yielded ops a.tmps) = true then Oper.wp P o a W K Q else E := h
theorem gate_conv (src dst : TypeId) (x : Operand) (_ho : o.op = .convert src dst x) (h : if Region.wanted o (yielded ops a.tmps) = true then Oper.wp P o a W K Q else E) : if Region.wanted o (yielded ops a.tmps) = true then Oper.wp P o a W K Q else E := h
theorem gate_call (f : FuncId) (xs : Array Operand) (ts : Array TypeId) (_ho : o.op = .call { callee := .value (.func f), args := xs, argTypes := ts }) (h : if Region.wanted o (yielded ops a.tmps) = true then Oper.wp P o a W K Q else E) : if Region.wanted o (yielded ops a.tmps) = true then Oper.wp P o a W K Q else E := h
/-- append of bytes, as a step of a region that draws its order -/
theorem step_appendF {S : Nat → Prop} {w0 : World} (HU : Upd S w0 W) (N : Nat) (e : TypeId) (l l2 : List UInt8) (G : Option Nat) (A0 : Option Addr) (n c0 : Nat) (A : Option Addr) (m c : Nat) (hgd : o.guard = none) (s x : Operand) (t : TypeId)
    (ho : o.op = .call { callee := .builtin .append, args := #[s, x], argTypes := #[t, t] })
    (ht : P.underlying t = some (.slice e)) (hinfo : (P.info? e).map (fun i => (i.zero, i.size, i.bytes)) = some (some (.int .u8 0), 1, 1))
    (hs : a.eval s = .slice A0 n c0) (hx : a.eval x = .slice A m c) (HO : Own W e 1 (.slice A0 n c0) n (B l) G) (hG : ∀ g, G = some g → w0.heap.size ≤ g) (HR : Rd W A m l2) (hN : N = n + m) (hlim : N ≤ 140737488355328)
    (h : ∀ A1 c1 w1 G1, N ≤ c1 → c1 ≤ maxLen → Own w1 e 1 (.slice A1 N c1) N (B (l ++ l2)) G1 → (∀ g, G1 = some g → w0.heap.size ≤ g) → Upd S w0 w1 → Upd (fun k => some k = G) W w1 → (G1 = G ∨ ∃ g, G1 = some g ∧ W.heap.size ≤ g ∧ g < w1.heap.size) → K (a.put o.dst (.slice A1 N c1)) w1) :
    if Region.wanted o (yielded ops a.tmps) = true then Oper.wp P o a W K Q else E := by
  have hw : Region.wanted o (yielded ops a.tmps) = true := by simp [Region.wanted, hgd]
  rw [if_pos hw]
  subst hN
  obtain ⟨v', w', G', hr, hO, hU, hg⟩ := run_append (P := P) (ty := o.type) (c := c) ht hinfo rfl (by omega) HO HR.row (by rw [B_length, HR.len, Nat.mul_one]) (B_one l2) (by simp only [maxLen]; omega) (by omega)
  rw [← B_append] at hO
  obtain ⟨A1, c1, rfl, h1, h2, _, _⟩ := hO.slice
  unfold Oper.wp execOp
  simp only [ho, resolve, invoke, builtin, Sem.run_bind, Sem.run_pure, Result.andThen_ok, List.map_toArray, List.map_cons, List.map_nil, hs, hx, hr]
  refine h A1 c1 w' G' h1 h2 hO ?_ (HU.trans hU fun i hi e => ?_) hU hg
  · intro g e
    rcases hg with rfl | ⟨g', rfl, h3, _⟩
    · exact hG g e
    · obtain rfl := Option.some.inj e
      exact Nat.le_trans HU.size h3
  · have := hG i e.symm
    omega
/-- a conversion of bytes to a string, as such a step -/
theorem step_str (l : List UInt8) (A : Option Addr) (n c : Nat) (hgd : o.guard = none) (src dst e : TypeId) (x : Operand) (ho : o.op = .convert src dst x)
    (hs : P.underlying src = some (.slice e)) (he : P.underlying e = some (.int .u8)) (hd : P.underlying dst = some .string) (hx : a.eval x = .slice A n c) (HR : Rd W A n l)
    (h : K (a.put o.dst (.string (S l))) W) : if Region.wanted o (yielded ops a.tmps) = true then Oper.wp P o a W K Q else E := by
  have hw : Region.wanted o (yielded ops a.tmps) = true := by simp [Region.wanted, hgd]
  rw [if_pos hw]
  unfold Oper.wp execOp
  simp only [ho, hx, Sem.run_bind, Sem.run_pure, run_str (c := c) hs he hd HR, Result.andThen_ok]
  exact h
end
theorem Rd.up {w w1 : World} {A : Option Addr} {n : Nat} {l : List UInt8} (h : Rd w A n l) (k : Upd (fun _ => False) w w1) : Rd w1 A n l := h.upd k (fun _ _ h => h)
end Go.Proofs.YtaeafnpldlcdnaaDoor.K
