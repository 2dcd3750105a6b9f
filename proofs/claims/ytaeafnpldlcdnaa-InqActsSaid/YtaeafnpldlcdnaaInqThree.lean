/- A table, a model and a queue side by side. -/
import Derived.Test.YtaeafnpldlcdnaaInqHead
import Derived.Test.YtaeafnpldlcdnaaFlLink
set_option linter.unusedVariables false
set_option linter.unusedSimpArgs false
namespace Go.Proofs.Ytaeafnpldlcdnaa.Iq
open Go.RowKit K Fl
theorem Same.holder {s : T} {sm : MT} (h : Same s sm) : mholder sm = s.holder := by unfold mholder; rw [h.line]; split <;> simp_all
theorem Same.lens {s : T} {sm : MT} {n : Nat} (h : Same s sm) (hG : G s n 0) : sm.line.length ≤ n + 1 ∧ sm.roles.length ≤ n := by
  have h1 := hG.lens
  have h2 := h.line
  rw [h.roles]
  refine ⟨?_, h1.2⟩
  rw [h2]
  split
  · simp
  · simp; omega
def At4 (w0 w : World) (t m p : Nat) (s : T) (sm : MT) (x : QS) : Prop := ∃ F Fm Fq, TB w t F s ∧ MB w m Fm sm ∧ QI w p Fq x ∧ Upd (fun _ => False) w0 w ∧ (∀ k, F k → w0.heap.size ≤ k) ∧ (∀ k, Fm k → w0.heap.size ≤ k) ∧ (∀ k, Fq k → w0.heap.size ≤ k) ∧ (∀ k, F k → ¬ Fm k) ∧ (∀ k, F k → ¬ Fq k) ∧ ∀ k, Fm k → ¬ Fq k
def A4 (w0 : World) (b : Nat) (a : Obj) (w : World) (t m p : Nat) (s : T) (sm : MT) (x : QS) : Prop := w.heap[b]? = some a ∧ ∃ F Fm Fq, TB w t F s ∧ MB w m Fm sm ∧ QI w p Fq x ∧ Upd (fun _ => False) w0 w ∧ (∀ k, F k → w0.heap.size ≤ k) ∧ (∀ k, Fm k → w0.heap.size ≤ k) ∧ (∀ k, Fq k → w0.heap.size ≤ k) ∧ (∀ k, F k → ¬ Fm k) ∧ (∀ k, F k → ¬ Fq k) ∧ (∀ k, Fm k → ¬ Fq k) ∧ ¬ F b ∧ ¬ Fm b ∧ ¬ Fq b
section
variable {w0 w w1 : World} {b t m p : Nat} {a : Obj} {s s' : T} {sm sm' : MT} {x x' : QS} {v : Value} {f : FuncId} {args : Array Value}
theorem A4.back (h : A4 w0 b a w t m p s sm x) : At4 w0 w t m p s sm x := by
  obtain ⟨_, F, Fm, Fq, h1, h2, h3, h4, h5, h6, h7, h8, h9, h10, _⟩ := h
  exact ⟨F, Fm, Fq, h1, h2, h3, h4, h5, h6, h7, h8, h9, h10⟩
theorem At4.up (h : At4 w0 w t m p s sm x) (k : Upd (fun _ => False) w w1) : At4 w0 w1 t m p s sm x := by
  obtain ⟨F, Fm, Fq, h1, h2, h3, h4, h5, h6, h7, h8, h9, h10⟩ := h
  exact ⟨F, Fm, Fq, h1.up k, h2.up k, h3.up k, h4.trans k (fun _ _ h => h), h5, h6, h7, h8, h9, h10⟩
theorem At4.out (h : At4 w0 w t m p s sm x) : Upd (fun _ => False) w0 w := by
  obtain ⟨F, Fm, Fq, h1, h2, h3, h4, _⟩ := h
  exact h4
theorem At4.act (h : At4 w0 w t m p s sm x) (k : Upd (fun _ => False) w w1) (hb : w1.heap[b]? = some a) (hn : w.heap.size ≤ b) : A4 w0 b a w1 t m p s sm x := by
  obtain ⟨F, Fm, Fq, h1, h2, h3, h4, h5, h6, h7, h8, h9, h10⟩ := h
  exact ⟨hb, F, Fm, Fq, h1.up k, h2.up k, h3.up k, h4.trans k (fun _ _ h => h), h5, h6, h7, h8, h9, h10, fun hf => by have := h1.lt b hf; omega, fun hf => by have := h2.lt b hf; omega, fun hf => by have := h3.lt b hf; omega⟩
theorem A4.up (h : A4 w0 b a w t m p s sm x) (k : Upd (fun _ => False) w w1) : A4 w0 b a w1 t m p s sm x := by
  obtain ⟨hb, F, Fm, Fq, h1, h2, h3, h4, h5, h6, h7, h8, h9, h10, h11⟩ := h
  exact ⟨k.blk hb (fun h => h), F, Fm, Fq, h1.up k, h2.up k, h3.up k, h4.trans k (fun _ _ h => h), h5, h6, h7, h8, h9, h10, h11⟩
theorem A4.out (h : A4 w0 b a w t m p s sm x) : Upd (fun _ => False) w0 w := h.back.out
theorem A4.turnT (h : A4 w0 b a w t m p s sm x) (hc : ∀ F, TB w t F s → Calls Try.prog f args w (Turns v s' t F w)) : Calls Try.prog f args w fun e w' => e = .returned v ∧ A4 w0 b a w' t m p s' sm x := by
  obtain ⟨hb, F, Fm, Fq, h1, h2, h3, h4, h5, h6, h7, h8, h9, h10, h11, h12, h13⟩ := h
  have hbs := blk_lt hb
  refine (hc F h1).mono fun e w' ⟨he, F', ht', hu', hf'⟩ => ⟨he, hu'.blk hb h11, F', Fm, Fq, ht', h2.upd hu' (fun i hi hf => h8 i hf hi), h3.upd hu' (fun i hi hf => h9 i hf hi), h4.trans hu' (fun i hi h => by have := h5 i h; omega), fun k hk => (hf' k hk).elim (fun h => h5 k h) (fun h => Nat.le_trans h4.size h), h6, h7, fun k hk hm => (hf' k hk).elim (fun h => h8 k h hm) (fun h => by have := h2.lt k hm; omega), fun k hk hm => (hf' k hk).elim (fun h => h9 k h hm) (fun h => by have := h3.lt k hm; omega), h10, fun h => (hf' b h).elim h11 (fun h => by omega), h12, h13⟩
theorem A4.turnM (h : A4 w0 b a w t m p s sm x) (hc : ∀ F, MB w m F sm → Calls Try.prog f args w (MTurns v sm' m F w)) : Calls Try.prog f args w fun e w' => e = .returned v ∧ A4 w0 b a w' t m p s sm' x := by
  obtain ⟨hb, F, Fm, Fq, h1, h2, h3, h4, h5, h6, h7, h8, h9, h10, h11, h12, h13⟩ := h
  have hbs := blk_lt hb
  refine (hc Fm h2).mono fun e w' ⟨he, F', ht', hu', hf'⟩ => ⟨he, hu'.blk hb h12, F, F', Fq, h1.upd hu' (fun i hi hf => h8 i hi hf), ht', h3.upd hu' (fun i hi hf => h10 i hf hi), h4.trans hu' (fun i hi h => by have := h6 i h; omega), h5, fun k hk => (hf' k hk).elim (fun h => h6 k h) (fun h => Nat.le_trans h4.size h), h7, fun k hk hm => (hf' k hm).elim (fun h => h8 k hk h) (fun h => by have := h1.lt k hk; omega), h9, fun k hk hm => (hf' k hk).elim (fun h => h10 k h hm) (fun h => by have := h3.lt k hm; omega), h11, fun h => (hf' b h).elim h12 (fun h => by omega), h13⟩
theorem A4.turnQ (h : A4 w0 b a w t m p s sm x) (hc : ∀ F Fq, TB w t F s → QI w p Fq x → Calls Try.prog f args w (QTurns v x' p Fq w)) : Calls Try.prog f args w fun e w' => e = .returned v ∧ A4 w0 b a w' t m p s sm x' := by
  obtain ⟨hb, F, Fm, Fq, h1, h2, h3, h4, h5, h6, h7, h8, h9, h10, h11, h12, h13⟩ := h
  have hbs := blk_lt hb
  refine (hc F Fq h1 h3).mono fun e w' ⟨he, F', ht', hu', hf'⟩ => ⟨he, hu'.blk hb h13, F, Fm, F', h1.upd hu' (fun i hi hf => h9 i hi hf), h2.upd hu' (fun i hi hf => h10 i hi hf), ht', h4.trans hu' (fun i hi h => by have := h7 i h; omega), h5, h6, fun k hk => (hf' k hk).elim (fun h => h7 k h) (fun h => Nat.le_trans h4.size h), h8, fun k hk hm => (hf' k hm).elim (fun h => h9 k hk h) (fun h => by have := h1.lt k hk; omega), fun k hk hm => (hf' k hm).elim (fun h => h10 k hk h) (fun h => by have := h2.lt k hk; omega), h11, h12, fun h => (hf' b h).elim h13 (fun h => by omega)⟩
theorem A4.offer (h : A4 w0 b a w t m p s sm x) (id : Int) (hid : idOk id) (A : Option Addr) (n c : Nat) (l : List UInt8) (hr : Rd w A n l) (hb : 0 ≤ x.total ∧ x.total + n ≤ 1000000000) : Calls Try.prog 36 #[.pointer (some ⟨p, 0, none⟩), .pointer (some ⟨t, 0, none⟩), .int .i64 id, .slice A n c] w fun e w' => e = .returned (.int .i64 (why x s id n)) ∧ A4 w0 b a w' t m p s sm (offer x s id l) :=
  h.turnQ fun F Fq ht hq => offer_calls hq ht id hid A n c l hr hr.len hb
theorem A4.finish (h : A4 w0 b a w t m p s sm x) : Calls Try.prog 38 #[.pointer (some ⟨p, 0, none⟩)] w fun e w' => e = .returned (.tuple #[]) ∧ A4 w0 b a w' t m p s sm (fin x) :=
  h.turnQ fun F Fq ht hq => end_calls hq
theorem A4.total (h : A4 w0 b a w t m p s sm x) : Calls Try.prog 37 #[.pointer (some ⟨p, 0, none⟩)] w fun e w' => e = .returned (.int .i64 x.total) ∧ w = w' := by
  obtain ⟨_, F, Fm, Fq, h1, h2, h3, _⟩ := h
  exact total_calls h3
/-- What a take leaves. -/
def Took4 (w0 : World) (b : Nat) (a : Obj) (t m p q : Nat) (s : T) (sm : MT) (x : QS) (k : Nat) (e : Ending) (w' : World) : Prop := ∃ g, e = .returned (.slice (some ⟨g, 0, none⟩) k k) ∧ Rd w' (some ⟨g, 0, none⟩) k (x.buf.take k) ∧ A4 w0 b a w' t m p s sm { x with buf := x.buf.drop k } ∧ w'.cell? ⟨p, 0, none⟩ = some (.pointer (some ⟨q, 0, none⟩))
theorem A4.inner (h : A4 w0 b a w t m p s sm x) : ∃ q, (∀ W, Upd (fun _ => False) w W → W.cell? ⟨p, 0, none⟩ = some (.pointer (some ⟨q, 0, none⟩))) ∧ Asd (∀ W, Upd (fun _ => False) w W → Calls Try.prog 39 #[.pointer (some ⟨q, 0, none⟩)] W fun e w' => e = .returned (.int .i64 (x.buf.length : Int)) ∧ W = w') ∧ Asd (∀ W n, Upd (fun _ => False) w W → Calls Try.prog 40 #[.pointer (some ⟨q, 0, none⟩), .int .i64 n] W (Took4 w0 b a t m p q s sm x (Oq.takeN n x.buf.length))) := by
  obtain ⟨hb, F, Fm, Fq, h1, h2, h3, h4, h5, h6, h7, h8, h9, h10, h11, h12, h13⟩ := h
  obtain ⟨q, F2, HB, HQ, HF, hps⟩ := h3.cells
  refine ⟨q, keepsC (o := 0) HB.out rfl, ⟨fun W k => Oq.len_calls (HQ.out.upd k (fun _ _ h => h))⟩, ⟨fun W n k => ?_⟩⟩
  have hb' := k.blk hb (fun h => h)
  have hbs := blk_lt hb'
  have HB' := Asd.mk (k.blk HB.out (fun h => h))
  have HQ' := Asd.mk (HQ.out.upd k (fun _ _ h => h))
  refine (Oq.take_calls HQ'.out n).mono fun e w' ⟨g, F', he, hg, hn, ho, hq, hu, hf⟩ => ?_
  have hps' := blk_lt HB'.out
  have hn2 : ¬ F' p := fun h => (hf p h).elim HF.out.1 (fun h => by omega)
  have hB2 := hu.blk HB'.out HF.out.1
  have hu2 : Upd Fq W w' := hu.mono (fun i hi h => (HF.out.2 i).2 (.inr h))
  have hff : ∀ k, k = p ∨ F' k → Fq k ∨ W.heap.size ≤ k := fun k hk => hk.elim (fun e => .inl ((HF.out.2 k).2 (.inl e))) (fun h => (hf k h).imp (fun h => (HF.out.2 k).2 (.inr h)) (fun h => h))
  have h1' := h1.up k
  have h2' := h2.up k
  refine ⟨g, he, ho.rd, ⟨hu2.blk hb' h13, F, Fm, fun k => k = p ∨ F' k, h1'.upd hu2 (fun i hi hf => h9 i hi hf), h2'.upd hu2 (fun i hi hf => h10 i hi hf), ⟨q, F', hB2, hq, hn2, fun k => Iff.rfl⟩, (h4.trans k (fun _ _ h => h)).trans hu2 (fun i hi h => by have := h7 i h; omega), h5, h6, fun j hk => (hff j hk).elim (fun h => h7 j h) (fun h => Nat.le_trans (Nat.le_trans h4.size k.size) h), h8, fun j hk hm => (hff j hm).elim (fun h => h9 j hk h) (fun h => by have := h1'.lt j hk; omega), fun j hk hm => (hff j hm).elim (fun h => h10 j hk h) (fun h => by have := h2'.lt j hk; omega), h11, h12, fun h => (hff b h).elim h13 (fun h => by omega)⟩, keepsC (o := 0) hB2 rfl _ (Upd.refl _ _)⟩
theorem A4.model (h : A4 w0 b a w t m p s sm x) : ∃ bm, (∀ W, Upd (fun _ => False) w W → W.cell? ⟨m, 2, none⟩ = some (.map (some bm))) ∧ Asd (∀ id, idOk id → ∀ W, Upd (fun _ => False) w W → (Instr.lookup 63 (.map (some bm)) (.int .i64 id) true).run Try.prog W = .ok (.tuple #[.int .i64 ((rget sm.roles id).getD 0), .bool (rget sm.roles id).isSome]) W) ∧ Asd (∀ W, Upd (fun _ => False) w W → Calls Try.prog 41 #[.pointer (some ⟨m, 0, none⟩)] W fun e w' => e = .returned (.int .i64 (mholder sm)) ∧ W = w') := by
  obtain ⟨_, F, Fm, Fq, h1, h2, _⟩ := h
  obtain ⟨A, c, G, bm, HB, _, HM, _⟩ := h2.cells
  exact ⟨bm, keepsC (o := 2) HB.out rfl, ⟨fun id hid => looksR HM.out id hid⟩, ⟨fun W k => mholder_calls (h2.up k)⟩⟩
end
def At4New (w0 : World) (t m : Nat) (s : T) (sm : MT) (x : QS) (e : Ending) (w' : World) : Prop := ∃ p, e = .returned (.pointer (some ⟨p, 0, none⟩)) ∧ At4 w0 w' t m p s sm x
/-- A table and a model. -/
def AtTM (w0 w : World) (t m : Nat) (s : T) (sm : MT) : Prop := ∃ F Fm, TB w t F s ∧ MB w m Fm sm ∧ Upd (fun _ => False) w0 w ∧ (∀ k, F k → w0.heap.size ≤ k) ∧ (∀ k, Fm k → w0.heap.size ≤ k) ∧ ∀ k, F k → ¬ Fm k
def AtTMNew (w0 : World) (t : Nat) (s : T) (sm : MT) (e : Ending) (w' : World) : Prop := ∃ m, e = .returned (.pointer (some ⟨m, 0, none⟩)) ∧ AtTM w0 w' t m s sm
theorem mnew_at (n : Int) {w0 w : World} {t : Nat} {s : T} (h : At w0 w t s) : Calls Try.prog 24 #[.int .i64 n] w (AtTMNew w0 t s ⟨clampLease n, 0, [], []⟩) := by
  obtain ⟨F, h1, h3, h4⟩ := h
  refine (mnew_calls n w).mono fun e w' ⟨m, Fm, he, hm, hu, hf⟩ => ⟨m, he, F, Fm, h1.up hu, hm, h3.trans hu (fun _ _ h => h), h4, fun k hk => Nat.le_trans h3.size (hf k hk), fun k hk hk2 => by have := h1.lt k hk; have := hf k hk2; omega⟩
theorem qnew_at4 (n : Int) {w0 w : World} {t m : Nat} {s : T} {sm : MT} (h : AtTM w0 w t m s sm) : Calls Try.prog 35 #[.int .i64 n] w (At4New w0 t m s sm ⟨[], Oq.clampSize n, false, 0⟩) := by
  obtain ⟨F, Fm, h1, h2, h3, h4, h5, h6⟩ := h
  refine (new_calls n w).mono fun e w' ⟨p, Fq, he, hq, hu, hf⟩ => ⟨p, he, F, Fm, Fq, h1.up hu, h2.up hu, hq, h3.trans hu (fun _ _ h => h), h4, h5, fun k hk => Nat.le_trans h3.size (hf k hk), h6, fun k hk hk2 => by have := h1.lt k hk; have := hf k hk2; omega, fun k hk hk2 => by have := h2.lt k hk; have := hf k hk2; omega⟩
end Go.Proofs.Ytaeafnpldlcdnaa.Iq
