/- A viewer (package view): what each of its functions comes to. -/
import Derived.Test.YtpphejjdgplalaaRing
import Derived.Test.YtpphejjdgplalaaMsgTwo
import Derived.Test.YtpphejjdgplalaaMsgRow
import Derived.Test.YtpphejjdgplalaaK7
set_option linter.unusedVariables false
set_option linter.unusedSimpArgs false
namespace Go.Proofs.Ytpphejjdgplalaa.Vw
open Go.RowKit K Rg MgRow
/-- Where a viewer begins. -/
def startA (l : List UInt8) (n : Nat) (back : Int) : Nat := (mx ((l.length - n : Nat) : Int) ((l.length : Int) - mx back 0)).toNat
def startN (l : List UInt8) (n : Nat) (back : Int) (line : Bool) : Nat := if line then lineOf l (l.length - n) (startA l n back : Int) else startA l n back
theorem startA_le (l : List UInt8) (n : Nat) (back : Int) : l.length - n ≤ startA l n back ∧ startA l n back ≤ l.length ∧ mx ((l.length - n : Nat) : Int) ((l.length : Int) - mx back 0) = (startA l n back : Int) := by
  have h1 : 0 ≤ mx back 0 := by unfold mx; split <;> omega
  generalize hm : mx back 0 = m at h1
  unfold startA
  rw [hm]
  unfold mx
  split <;> omega
section
variable {w : World} {q g n v : Nat} {l : List UInt8}
set_option maxHeartbeats 400000 in
theorem start_calls (h : Ring w q g n l) (back : Int) (hb : -9223372036854775808 ≤ back ∧ back ≤ 9223372036854775807) (line : Bool) :
    Calls Try.prog 43 #[.pointer (some ⟨q, 0, none⟩), .int .i64 back, .bool line] w fun e w' => e = .returned (.int .i64 (startN l n back line : Int)) ∧ Upd (fun _ => False) w w' := by
  obtain ⟨h1, h2, h3⟩ := startA_le l n back
  have hfew := h.few
  have HR := Asd.mk h
  have hm : 0 ≤ mx back 0 ∧ mx back 0 ≤ 9223372036854775807 := by unfold mx; split <;> omega
  obtain ⟨m, hmm⟩ : ∃ m, m = mx back 0 := ⟨_, rfl⟩
  rw [← hmm] at h3 hm
  obtain ⟨r, hr⟩ : ∃ r, r = startN l n back line := ⟨_, rfl⟩
  rw [← hr]
  obtain ⟨a, ha⟩ : ∃ a, a = startA l n back := ⟨_, rfl⟩
  rw [← ha] at h1 h2 h3
  have HRR : Asd (r = if line then lineOf l (l.length - n) (a : Int) else a) := ⟨by rw [hr, ha]; rfl⟩
  have HM := Asd.mk hmm
  have H3 := Asd.mk h3
  obtain ⟨base, hbase⟩ : ∃ base, base = l.length - n := ⟨_, rfl⟩
  rw [← hbase] at h1
  have HB := Asd.mk hbase
  clear h hr ha hmm h3 hbase
  go_enter Try.func43, Try.ntmps43
  go_wp2_with fail
  refine (base_calls HR.out).mono ?_
  rw [← HB.out]
  rintro e w1 ⟨rfl, rfl⟩
  go_wp2_with fail
  refine (end_calls HR.out).mono ?_
  rintro e w1 ⟨rfl, rfl⟩
  have hm2 := HM.out.symm
  have h32 := H3.out
  rw [← HB.out] at h32
  clear hb
  cases line with
  | false =>
    have HF : Asd (r = a) := ⟨by rw [HRR.out]; rfl⟩
    go_wp2
    go_ret
    exact ⟨by rw [HF.out]; rfl, Upd.refl _ _⟩
  | true =>
    have HF : Asd (r = lineOf l (l.length - n) (a : Int)) := ⟨by rw [HRR.out]; rfl⟩
    go_wp2_with fail
    refine (line_calls HR.out (a : Int)).mono ?_
    rw [← HF.out]
    rintro e w2 ⟨rfl, hu⟩
    go_wp2
    go_ret
    exact ⟨rfl, hu⟩
end
/-- A viewer at block v. -/
def V (w : World) (v at_ st : Nat) : Prop := w.heap[v]? = some (.cells #[.int .i64 (at_ : Int), .int .i64 (st : Int)] 74 (0, 0))
def NewPost (at_ : Nat) (w : World) (e : Ending) (w' : World) : Prop := ∃ v, e = .returned (.pointer (some ⟨v, 0, none⟩)) ∧ V w' v at_ 0 ∧ Upd (fun _ => False) w w' ∧ w.heap.size ≤ v
section
variable {w : World} {q g n v at_ st : Nat} {l : List UInt8}
theorem V.up {w1 : World} {S : Nat → Prop} (h : V w v at_ st) (k : Upd S w w1) (hn : ¬ S v) : V w1 v at_ st := k.blk h hn
set_option maxHeartbeats 400000 in
theorem new_calls (h : Ring w q g n l) (back : Int) (hb : -9223372036854775808 ≤ back ∧ back ≤ 9223372036854775807) (line : Bool) :
    Calls Try.prog 25 #[.pointer (some ⟨q, 0, none⟩), .int .i64 back, .bool line] w (NewPost (startN l n back line) w) := by
  go_enter Try.func25, Try.ntmps25
  go_wp2_with fail
  refine (start_calls h back hb line).mono ?_
  rintro e w1 ⟨rfl, hu⟩
  have HU := Asd.mk hu
  clear hu h hb
  go_wp2
  go_ret
  exact ⟨w1.heap.size, rfl, heap_alloc_new w1 _, HU.out.alloc _, HU.out.size⟩
set_option maxHeartbeats 400000 in
theorem at_calls (h : V w v at_ st) : Calls Try.prog 27 #[.pointer (some ⟨v, 0, none⟩)] w fun e w' => e = .returned (.int .i64 (at_ : Int)) ∧ w = w' := by
  have c0 := keepsC (o := 0) (v := .int .i64 (at_ : Int)) h rfl
  clear h
  go_enter Try.func27, Try.ntmps27
  go_wp2
  go_ret
  exact ⟨rfl, rfl⟩
set_option maxHeartbeats 400000 in
theorem strikes_calls (h : V w v at_ st) : Calls Try.prog 29 #[.pointer (some ⟨v, 0, none⟩)] w fun e w' => e = .returned (.int .i64 (st : Int)) ∧ w = w' := by
  have c0 := keepsC (o := 1) (v := .int .i64 (st : Int)) h rfl
  clear h
  go_enter Try.func29, Try.ntmps29
  go_wp2
  go_ret
  exact ⟨rfl, rfl⟩
end

end Go.Proofs.Ytpphejjdgplalaa.Vw
