/- The statements' own model of the floor (kibitzerlaw10.Model): what each of its functions comes to. -/
import Derived.Test.YtaeafnpldlcdnaaFlInv
import Derived.Deep.RegionHeld3
set_option linter.unusedVariables false
set_option linter.unusedSimpArgs false
namespace Go.Proofs.Ytaeafnpldlcdnaa.Fl
open Go.RowKit K Go.Sort Go.Lib Go.Shelf
/-- append of whole numbers, as a step of a region that draws its order -/
theorem step_appendI {P : Program} {ops : Array Oper} {o : Oper} {a : Act} {K : Act → World → Prop} {Q : Exit → Act → World → Prop} {E : Prop} {W w0 : World} {S : Nat → Prop} {m c2 : Nat} {l l2 : List Int} {A : Option Addr} {c : Nat} {G : Option Nat} (HU : Upd S w0 W) (hgd : o.guard = none) (s x : Operand) (t e : TypeId)
    (ho : o.op = .call { callee := .builtin .append, args := #[s, x], argTypes := #[t, t] })
    (ht : P.underlying t = some (.slice e)) (he : e = 3) (hinfo : (P.info? e).map (fun i => (i.zero, i.size, i.bytes)) = some (some (.int .i64 0), 1, 8))
    (hs : a.eval s = .slice A l.length c) {A2 : Option Addr} (hx : a.eval x = .slice A2 m c2) (HO : OI W (.slice A l.length c) l G) (hG : ∀ g, G = some g → w0.heap.size ≤ g) (HR : Row W A2 (I l2)) (hm : l2.length = m) (hlim : l.length + m ≤ 10000000)
    (h : ∀ A1 c1 w1 G1, OI w1 (.slice A1 (l ++ l2).length c1) (l ++ l2) G1 → (l ++ l2).length ≤ c1 → (∀ g, G1 = some g → w0.heap.size ≤ g) → Upd S w0 w1 → Upd (fun k => some k = G) W w1 → K (a.put o.dst (.slice A1 (l ++ l2).length c1)) w1) :
    if Region.wanted o (yielded ops a.tmps) = true then Oper.wp P o a W K Q else E := by
  have hw : Region.wanted o (yielded ops a.tmps) = true := by simp [Region.wanted, hgd]
  rw [if_pos hw]
  subst he
  subst hm
  obtain ⟨v', w', G', hr, hO, hU, hg⟩ := run_append (P := P) (ty := o.type) (c := c2) ht hinfo rfl (by omega) HO HR (by rw [I_length, Nat.mul_one]) (I_one l2) (by simp only [maxLen]; omega) (by omega)
  rw [← I_append] at hO
  have e : l.length + l2.length = (l ++ l2).length := by simp
  rw [e] at hO
  obtain ⟨A1, c1, rfl, h1, _⟩ := OI.slice hO
  unfold Oper.wp execOp
  simp only [ho, resolve, invoke, builtin, Sem.run_bind, Sem.run_pure, Result.andThen_ok, List.map_toArray, List.map_cons, List.map_nil, hs, hx, hr]
  refine h A1 c1 w' G' hO h1 ?_ (HU.trans hU fun i hi e => ?_) hU
  · intro g e
    rcases hg with rfl | ⟨g', rfl, h3, _⟩
    · exact hG g e
    · obtain rfl := Option.some.inj e
      exact Nat.le_trans HU.size h3
  · have := hG i e.symm
    omega
/-- A cut of whole numbers that are read. -/
theorem OI.cut {w : World} {l : List Int} {G : Option Nat} {A : Option Addr} {c : Nat} (h : OI w (.slice A l.length c) l G) (i j : Nat) (hij : i ≤ j) (hj : j ≤ l.length) (hc : l.length ≤ c) :
    ∃ A', (∀ W : World, (Instr.slice 31 (.slice A l.length c) (some (.int .i64 (i : Int))) (some (.int .i64 (j : Int))) none).run Try.prog W = .ok (.slice A' (j - i) (c - i)) W) ∧ (∀ W S, Upd S w W → (∀ g, G = some g → ¬ S g) → Row W A' (I ((l.take j).drop i))) := by
  obtain ⟨A', h1, h2, _, _⟩ := cut_both (P := Try.prog) 31 3 .i64 .i64 (sz := 1) Try.underlying31 (by kernel_rfl) A l.length c i j hij hj hc
  refine ⟨A', h1, fun W S hu hn => ?_⟩
  have h3 := h2 W _ _ (Own.upd h hu hn)
  simp only [Nat.mul_one] at h3
  rw [← I_take, ← I_drop] at h3
  obtain ⟨A2, c2, hv, _, _, hr, _⟩ := Own.slice h3
  injection hv with e1 e2 e3
  rw [e1]
  exact hr
end Go.Proofs.Ytaeafnpldlcdnaa.Fl
