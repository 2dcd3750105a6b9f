/- Rules for cells and blocks behind stores and new blocks. -/
import Derived.Test.YtaeafnpldlcdnaaDoorK6
set_option linter.unusedVariables false
set_option linter.unusedSimpArgs false
namespace Go.Proofs.YtaeafnpldlcdnaaDoor.K
open Go.RowKit
section
variable {w w1 : World} {b b' o o' : Nat} {v : Value} {S : Nat → Prop}
@[go_sem] theorem cell_off (h : o ≠ o') : (w.setCell ⟨b, o, none⟩ v).cell? ⟨b, o', none⟩ = w.cell? ⟨b, o', none⟩ := World.cell?_setCell_other _ _ _ _ (fun e => h (by injection e))
@[go_sem] theorem cell_blk (h : b ≠ b') : (w.setCell ⟨b, o, none⟩ v).cell? ⟨b', o', none⟩ = w.cell? ⟨b', o', none⟩ := World.cell?_setCell_other _ _ _ _ (fun e => h (by injection e))
@[go_sem] theorem frozen_set (p q : Addr) : (w.setCell p v).frozen? q = w.frozen? q := World.frozen?_setCell _ _ _ _
@[go_sem] theorem Upd.set_true (p : Addr) (h : Upd S w w1) (hp : w.heap.size ≤ p.block) : Upd S w (w1.setCell p v) := h.setCell (fun k => absurd k (by omega)) v
theorem Upd.blkOf (h : Upd S w w1) (hn : ∀ i, S i → w.heap.size ≤ i) : Upd (fun _ => False) w w1 := ⟨h.os, h.tape, h.output, h.size, fun i hi _ => h.block i hi (fun k => absurd (hn i k) (by omega))⟩
/-- What a block holds: by its stores. -/
theorem hp_other {p : Addr} (h : p.block ≠ b) : (w.setCell p v).heap[b]? = w.heap[b]? := by
  simp [World.setCell, Array.getElem?_modify, h]
theorem hp_same {cs : Array Value} {t : TypeId} {fz : Nat × Nat} (h : w.heap[b]? = some (.cells cs t fz)) : (w.setCell ⟨b, o, none⟩ v).heap[b]? = some (.cells (cs.setIfInBounds o v) t fz) := blk_setCell h v
theorem Upd.setAt {S : Nat → Prop} {w w1 : World} {b o : Nat} {v : Value} (h : Upd S w w1) (hp : S b ∨ w.heap.size ≤ b) : Upd S w (w1.setCell ⟨b, o, none⟩ v) := h.setCell (fun k => hp.elim (fun h => h) (fun h => absurd k (by simp only; omega))) v
theorem keepsCS {S : Nat → Prop} {w : World} {g : Nat} {cs : Array Value} {t : TypeId} {fz : Nat × Nat} {o : Nat} {v : Value} (h : w.heap[g]? = some (.cells cs t fz)) (hn : ¬ S g) (hv : cs[o]? = some v) : ∀ W, Upd S w W → W.cell? ⟨g, o, none⟩ = some v := fun _ k => by simp [World.cell?, k.blk h hn, hv]
theorem keepsFS {S : Nat → Prop} {w : World} {g : Nat} {cs : Array Value} {t : TypeId} {o : Nat} (h : w.heap[g]? = some (.cells cs t (0, 0))) (hn : ¬ S g) : ∀ W, Upd S w W → W.frozen? ⟨g, o, none⟩ = false := fun _ k => by simp [World.frozen?, k.blk h hn]
end
end Go.Proofs.YtaeafnpldlcdnaaDoor.K
