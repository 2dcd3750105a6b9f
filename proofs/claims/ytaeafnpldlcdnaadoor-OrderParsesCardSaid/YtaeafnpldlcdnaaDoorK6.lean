/- Rules that carry what a call may write through draws and new blocks by themselves. -/
import Derived.Test.YtaeafnpldlcdnaaDoorK2
set_option linter.unusedVariables false
set_option linter.unusedSimpArgs false
namespace Go.Proofs.YtaeafnpldlcdnaaDoor.K
open Go.RowKit
section
variable {S : Nat → Prop} {w w1 : World}
@[go_sem] theorem Upd.drew_iff : Upd S w w1.drew = Upd S w w1 := propext ⟨fun h => ⟨h.os, h.tape, h.output, h.size, h.block⟩, fun h => h.drew⟩
@[go_sem] theorem Upd.drewN_iff (n : Nat) : Upd S w (w1.drewN n) = Upd S w w1 := propext ⟨fun h => ⟨h.os, h.tape, h.output, h.size, h.block⟩, fun h => h.drewN n⟩
@[go_sem] theorem Upd.alloc_true (o : Obj) (h : Upd S w w1) : Upd S w (w1.alloc o) := h.alloc o
@[go_sem] theorem Upd.refl_true : Upd S w w := Upd.refl S w
end
/-- What stands in a cell as long as nothing old is written. -/
theorem keeps {w : World} {a : Addr} {v : Value} (h : w.cell? a = some v) : ∀ W, Upd (fun _ => False) w W → W.cell? a = some v := fun _ k => k.cell h (fun h => h)
theorem keepsF {w : World} {g : Nat} {cs : Array Value} {t : TypeId} {o : Nat} (h : w.heap[g]? = some (.cells cs t (0, 0))) : ∀ W, Upd (fun _ => False) w W → W.frozen? ⟨g, o, none⟩ = false := fun _ k => by simp [World.frozen?, k.blk h (fun h => h)]
theorem keepsC {w : World} {g : Nat} {cs : Array Value} {t : TypeId} {fz : Nat × Nat} {o : Nat} {v : Value} (h : w.heap[g]? = some (.cells cs t fz)) (hv : cs[o]? = some v) : ∀ W, Upd (fun _ => False) w W → W.cell? ⟨g, o, none⟩ = some v := fun _ k => by simp [World.cell?, k.blk h (fun h => h), hv]
theorem blk_new {w : World} {g : Nat} {o : Obj} (hg : g = w.heap.size) : (w.alloc o).heap[g]? = some o := by subst hg; exact heap_alloc_new w o
theorem blk_past {w : World} {g : Nat} {o o' : Obj} (h : w.heap[g]? = some o) : (w.alloc o').heap[g]? = some o := ((Upd.refl (fun _ => False) w).alloc o').blk h (fun h => h)
end Go.Proofs.YtaeafnpldlcdnaaDoor.K
