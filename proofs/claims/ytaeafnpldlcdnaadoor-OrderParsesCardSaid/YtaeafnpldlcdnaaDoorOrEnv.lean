/- What layer 9's rows say of the library's variables, as the walks ask it. -/
import Derived.Test.YtaeafnpldlcdnaaDoorOrTexts
import Derived.Test.YtaeafnpldlcdnaaDoorOrApart
import Derived.Test.YtaeafnpldlcdnaaDoorKLaid
import Derived.Test.YtaeafnpldlcdnaaDoorRows
import Derived.Shelf.Vars
set_option linter.unusedVariables false
set_option linter.unusedSimpArgs false
namespace Go.Proofs.YtaeafnpldlcdnaaDoor.Or
open Go.RowKit K
theorem star : ("*errors.errorString" : String) = "*" ++ "errors.errorString" := by decide
theorem rowE (u : TypeId) (h : Tryd.prog.typeName? 3 u = some "*errors.errorString") : u = 81 :=
  typeName_ptr_named (nm := "errors.errorString") (by rw [← star]; kernel_rfl) (by kernel_rfl) (by decide) u (by rw [← star]; exact h)
theorem env_of {W : World} (hL0 : laidMetH Tryd.prog Rows.orderTextsRow.laid W) (hsh : W.ShapedOpen Tryd.prog) : Env W := by
  rw [MakeChecks.laidMetH_plain _ _ _ (by kernel_rfl)] at hL0
  have h3 : laidMet Tryd.prog (("internal/strconv.uint64pow10", Lib.tabData .u64 Lib.pow10Tab) :: [("strconv.ErrRange", Rows.laid_strconv_ErrRange), ("strconv.ErrSyntax", Rows.laid_strconv_ErrSyntax)]) W := laidMet.tail (laidMet.tail hL0)
  refine ⟨?_, ?_, ?_, ?_⟩
  · exact Lib.tabIs_of_head (g := 0) (t := 66) (e := 50) (n := 20) (by kernel_rfl) (by kernel_rfl) Tryd.underlying66 Tryd.underlying50 (by kernel_rfl) (by kernel_rfl) h3
  · exact Go.Proofs.cell_of_shapedOpen_int (g := 1) (zero := #[.int .i64 0]) (t := 3) hsh (of_decide_eq_true (by kernel_rfl)) (by kernel_rfl) rfl (by kernel_rfl) (by kernel_rfl) Tryd.underlying3
  · obtain ⟨a0, s0, hv0, _⟩ := laid_sentinel (laidMet.tail (laidMet.tail h3)) (g := 2) (ti := 44) (by kernel_rfl) (by kernel_rfl) Tryd.underlying44 rowE Tryd.underlying81 Tryd.underlying83 rfl rfl Tryd.underlying9 (by kernel_rfl) (by kernel_rfl)
    exact ⟨_, _, hv0⟩
  · obtain ⟨a0, s0, hv0, _⟩ := laid_sentinel (laidMet.tail h3) (g := 3) (ti := 44) (by kernel_rfl) (by kernel_rfl) Tryd.underlying44 rowE Tryd.underlying81 Tryd.underlying83 rfl rfl Tryd.underlying9 (by kernel_rfl) (by kernel_rfl)
    exact ⟨_, _, hv0⟩
theorem order_arg {w : World} {cs : Array Value} {l : Int × Int} (h : R2 (RInt .i64) (RInt .i64) w cs.toList l) : cs = #[.int .i64 l.1, .int .i64 l.2] := by
  obtain ⟨c0, c1, e, ⟨e0, _⟩, ⟨e1, _⟩⟩ := h
  cases e0
  cases e1
  exact Array.toList_inj.1 e
theorem s_of (a : ByteArray) : a = S a.data.toList := by cases a; rfl
theorem texts_law (w : World) (h : Env w) (cs : Array Value) (l : Int × Int) (hl : R2 (RInt .i64) (RInt .i64) w cs.toList l) : Calls Tryd.prog 3 #[.agg cs] w fun e w' => e = .returned (.bool true) ∧ Upd (fun _ => False) w w' := by
  rw [order_arg hl]
  exact texts_walk h l.1 l.2
theorem apart_law (w : World) (h : Env w) (cs : Array Value) (l : Int × Int) (hl : R2 (RInt .i64) (RInt .i64) w cs.toList l) (cs2 : Array Value) (l2 : Int × Int) (hl2 : R2 (RInt .i64) (RInt .i64) w cs2.toList l2) (s : ByteArray) (hs : s.size ≤ 9223372036854775807) : Calls Tryd.prog 5 #[.agg cs, .agg cs2, .string s] w fun e w' => e = .returned (.bool true) ∧ Upd (fun _ => False) w w' := by
  rw [order_arg hl, order_arg hl2, s_of s]
  exact apart_walk h l.1 l.2 l2.1 l2.2 s.data.toList
end Go.Proofs.YtaeafnpldlcdnaaDoor.Or
