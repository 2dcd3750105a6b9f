/- Plain laws of who holds the floor: rows of users who ask one behind the other. No program. -/
import Derived.Test.YtaeafnpldlcdnaaFloor2
set_option linter.unusedVariables false
set_option linter.unusedSimpArgs false
namespace Go.Proofs.Ytaeafnpldlcdnaa.Fl
open Go.RowKit K
/-- a, a+1, ..: n of them -/
def seqI (a n : Nat) : List Int := (List.range' a n).map fun (j : Nat) => (j : Int)
theorem seqI_succ (a n : Nat) : seqI a (n + 1) = (a : Int) :: seqI (a + 1) n := by simp [seqI, List.range'_succ]
theorem seqI_snoc (a n : Nat) : seqI a (n + 1) = seqI a n ++ [((a + n : Nat) : Int)] := by simp [seqI, List.range'_1_concat]
theorem seqI_length (a n : Nat) : (seqI a n).length = n := by simp [seqI]
theorem seqI_mem {a n : Nat} {x : Int} : x ∈ seqI a n ↔ ∃ j : Nat, x = (j : Int) ∧ a ≤ j ∧ j < a + n := by
  simp only [seqI, List.mem_map, List.mem_range'_1]
  constructor
  · rintro ⟨j, ⟨h1, h2⟩, rfl⟩; exact ⟨j, rfl, h1, h2⟩
  · rintro ⟨j, rfl, h1, h2⟩; exact ⟨j, ⟨h1, h2⟩, rfl⟩
theorem filter_out (a n : Nat) (x : Int) (h : x < (a : Int) ∨ ((a + n : Nat) : Int) ≤ x) : (seqI a n).filter (fun y => !(y == x)) = seqI a n := by
  refine List.filter_eq_self.2 fun y hy => ?_
  obtain ⟨j, rfl, h1, h2⟩ := seqI_mem.1 hy
  have : (j : Int) ≠ x := by omega
  simp [this]
def rolesN (n : Nat) : List (Int × Int) := (List.range' 1 n).map fun (j : Nat) => ((j : Int), (1 : Int))
theorem rolesN_length (n : Nat) : (rolesN n).length = n := by simp [rolesN]
theorem rolesN_snoc (n : Nat) : rolesN (n + 1) = rolesN n ++ [(((n + 1 : Nat) : Int), 1)] := by simp [rolesN, List.range'_1_concat, Nat.add_comm]
theorem rolesN_get (n k : Nat) (h1 : 1 ≤ k) (h2 : k ≤ n) : rget (rolesN n) (k : Int) = some 1 := by
  unfold rget
  cases hf : (rolesN n).find? fun p => decide (p.1 = (k : Int)) with
  | none =>
    have := List.find?_eq_none.1 hf ((k : Int), 1) (List.mem_map.2 ⟨k, by simp [List.mem_range'_1]; omega, rfl⟩)
    simp at this
  | some p =>
    obtain ⟨j, _, rfl⟩ := List.mem_map.1 (List.mem_of_find?_eq_some hf)
    rfl
theorem rolesN_none (n k : Nat) (h : n < k) : rget (rolesN n) (k : Int) = none := by
  unfold rget
  rw [Option.map_eq_none_iff, List.find?_eq_none]
  intro p hp
  obtain ⟨j, hj, rfl⟩ := List.mem_map.1 hp
  rw [List.mem_range'_1] at hj
  simp
  omega
theorem rins_last (p : Int × Int) : ∀ R : List (Int × Int), (∀ q ∈ R, q.1 ≤ p.1) → rins p R = R ++ [p]
  | [], _ => rfl
  | y :: r, h => by
    have h1 := h y (by simp)
    simp only [rins]
    rw [if_neg (by omega), rins_last p r (fun q hq => h q (by simp [hq]))]
    rfl
theorem rdel_none (R : List (Int × Int)) (x : Int) (h : rget R x = none) : rdel R x = R := by
  unfold rget at h
  rw [Option.map_eq_none_iff, List.find?_eq_none] at h
  exact List.filter_eq_self.2 fun p hp => by have := h p hp; simp at this; simp [this]
theorem rolesN_put (n : Nat) : rput (rolesN n) ((n + 1 : Nat) : Int) 1 = rolesN (n + 1) := by
  unfold rput
  rw [rdel_none _ _ (rolesN_none n (n + 1) (by omega)), rins_last _ _ (fun q hq => ?_), rolesN_snoc]
  obtain ⟨j, hj, rfl⟩ := List.mem_map.1 hq
  rw [List.mem_range'_1] at hj
  simp
  omega
/-- n users who asked one behind the other -/
def rowOf (lease : Int) (n : Nat) : T := if n = 0 then ⟨lease, 0, 0, [], []⟩ else ⟨lease, lease, 1, seqI 2 (n - 1), rolesN n⟩
theorem rowOf_roles (lease : Int) (n : Nat) : (rowOf lease n).roles = rolesN n := by
  unfold rowOf
  split
  · rename_i h; subst h; rfl
  · rfl
theorem rowOf_queue (lease : Int) (n : Nat) : (rowOf lease n).queue = seqI 2 (n - 1) := by
  unfold rowOf
  split
  · rename_i h; subst h; rfl
  · rfl
theorem row_joins (lease : Int) (n : Nat) : joins (rowOf lease n) ((n + 1 : Nat) : Int) 1 = true ∧ join (rowOf lease n) ((n + 1 : Nat) : Int) 1 = { rowOf lease n with roles := rolesN (n + 1) } := by
  have h : joins (rowOf lease n) ((n + 1 : Nat) : Int) 1 = true := by
    unfold joins
    rw [rowOf_roles, rolesN_none n (n + 1) (by omega)]
    simp
    omega
  refine ⟨h, ?_⟩
  unfold join
  rw [if_pos h, rowOf_roles, rolesN_put]
theorem row_asks (lease : Int) (n : Nat) : asks { rowOf lease n with roles := rolesN (n + 1) } ((n + 1 : Nat) : Int) = 0 ∧ ask { rowOf lease n with roles := rolesN (n + 1) } ((n + 1 : Nat) : Int) = rowOf lease (n + 1) := by
  have hm : may { rowOf lease n with roles := rolesN (n + 1) } ((n + 1 : Nat) : Int) = 0 := by
    unfold may
    simp only
    rw [rolesN_get (n + 1) (n + 1) (by omega) (by omega)]
    simp only
    rw [if_neg (by omega), if_neg]
    unfold rowOf
    split
    · simp only; omega
    · simp only; omega
  have ha : asks { rowOf lease n with roles := rolesN (n + 1) } ((n + 1 : Nat) : Int) = 0 := by
    unfold asks
    rw [if_neg (by rw [hm]; simp)]
    simp only
    rw [rowOf_queue, if_neg]
    intro h
    rw [List.contains_iff_mem] at h
    obtain ⟨j, h1, h2, h3⟩ := seqI_mem.1 h
    omega
  refine ⟨ha, ?_⟩
  unfold ask
  rw [if_neg (by rw [ha]; simp)]
  simp only
  cases n with
  | zero => rfl
  | succ n =>
    have hh : (rowOf lease (n + 1)).holder = 1 := rfl
    rw [if_neg (by rw [hh]; omega), rowOf_queue]
    simp only [rowOf, Nat.add_one_sub_one, Nat.succ_ne_zero, if_false, Nat.add_eq_zero_iff, Nat.one_ne_zero, and_false]
    congr 1
    rw [seqI_snoc]
    congr 2
    congr 1
    omega
/-- k holds the floor, the others up to u wait, so many ticks are left. -/
def turnOf (lease left : Int) (k u : Nat) (R : List (Int × Int)) : T := ⟨lease, left, (k : Int), seqI (k + 1) (u - k), R⟩
theorem row_turn (lease : Int) (u : Nat) (h : 1 ≤ u) : rowOf lease u = turnOf lease lease 1 u (rolesN u) := by
  unfold rowOf turnOf
  rw [if_neg (by omega)]
  rfl
theorem tick_more (lease left : Int) (k u : Nat) (R : List (Int × Int)) (hk : 1 ≤ k) (hl : 1 < left) : tick (turnOf lease left k u R) = turnOf lease (left - 1) k u R := by
  unfold tick
  rw [if_neg (by simp only [turnOf]; omega), if_pos (show 1 < (turnOf lease left k u R).left from hl)]
  rfl
theorem pass_turn (lease left : Int) (k u : Nat) (R : List (Int × Int)) (hk : 1 ≤ k) (hu : k < u) : pass (turnOf lease left k u R) = turnOf lease lease (k + 1) u R := by
  unfold pass turnOf
  obtain ⟨d, hd⟩ : ∃ d, u - k = d + 1 := ⟨u - k - 1, by omega⟩
  rw [hd, seqI_succ]
  simp only [grant, forget, zero]
  have e : ((((k + 1 : Nat) : Int) :: seqI (k + 1 + 1) d).filter fun x => !(x == ((k + 1 : Nat) : Int))) = seqI (k + 1 + 1) d := by
    rw [List.filter_cons_of_neg (by simp)]
    exact filter_out _ _ _ (.inl (by omega))
  rw [e]
  congr 2
  omega
theorem tick_pass (lease left : Int) (k u : Nat) (R : List (Int × Int)) (hk : 1 ≤ k) (hu : k < u) (hl : left ≤ 1) : tick (turnOf lease left k u R) = turnOf lease lease (k + 1) u R := by
  unfold tick
  rw [if_neg (by simp only [turnOf]; omega), if_neg (by simp only [turnOf]; omega), if_neg (by
    simp only [turnOf]
    intro h
    have := congrArg List.length h
    rw [seqI_length] at this
    simp at this
    omega)]
  exact pass_turn lease lease k u R hk hu
theorem tick_last (lease left : Int) (k : Nat) (R : List (Int × Int)) (hk : 1 ≤ k) (hl : left ≤ 1) : tick (turnOf lease left k k R) = turnOf lease lease k k R := by
  unfold tick
  rw [if_neg (by simp only [turnOf]; omega), if_neg (by simp only [turnOf]; omega), if_pos (by simp [turnOf, seqI])]
  rfl
/-- A table made since w0. -/
def At (w0 w : World) (t : Nat) (s : T) : Prop := ∃ F, TB w t F s ∧ Upd (fun _ => False) w0 w ∧ ∀ k, F k → w0.heap.size ≤ k
theorem At.turn {w0 w : World} {t : Nat} {s s' : T} {v : Value} {f : FuncId} {args : Array Value} (h : At w0 w t s) (hc : ∀ F, TB w t F s → Calls Try.prog f args w (Turns v s' t F w)) : Calls Try.prog f args w fun e w' => e = .returned v ∧ At w0 w' t s' := by
  obtain ⟨F, ht, hu, hf⟩ := h
  refine (hc F ht).mono fun e w' ⟨he, F', ht', hu', hf'⟩ => ⟨he, F', ht', hu.trans hu' (fun i hi h => by have := hf i h; omega), fun k hk => (hf' k hk).elim (fun h => hf k h) (fun h => Nat.le_trans hu.size h)⟩
theorem At.read {w0 w : World} {t : Nat} {s : T} {v : Value} {f : FuncId} {args : Array Value} (h : At w0 w t s) (hc : ∀ F, TB w t F s → Calls Try.prog f args w fun e w' => e = .returned v ∧ w = w') : Calls Try.prog f args w fun e w' => e = .returned v ∧ w = w' := by
  obtain ⟨F, ht, _, _⟩ := h
  exact hc F ht
theorem At.up {w0 w w1 : World} {t : Nat} {s : T} (h : At w0 w t s) (k : Upd (fun _ => False) w w1) : At w0 w1 t s := by
  obtain ⟨F, ht, hu, hf⟩ := h
  exact ⟨F, ht.up k, hu.trans k (fun _ _ h => h), hf⟩
theorem At.out {w0 w : World} {t : Nat} {s : T} (h : At w0 w t s) : Upd (fun _ => False) w0 w := by obtain ⟨F, _, hu, _⟩ := h; exact hu
def AtNew (w0 : World) (s : T) (e : Ending) (w' : World) : Prop := ∃ t, e = .returned (.pointer (some ⟨t, 0, none⟩)) ∧ At w0 w' t s
theorem new_at (n : Int) {w0 w : World} (h : Upd (fun _ => False) w0 w) : Calls Try.prog 11 #[.int .i64 n] w (AtNew w0 (new n)) := by
  refine (new_calls n w).mono fun e w' ⟨t, F, he, ht, hu, hf⟩ => ⟨t, he, F, ht, h.trans hu (fun _ _ h => h), fun k hk => Nat.le_trans h.size (hf k hk)⟩
/-- What a new slice is good for, since w0. -/
def NewAt (w0 : World) (t : Nat) (s : T) (l : List Int) (e : Ending) (w' : World) : Prop := ∃ A c G, e = .returned (.slice A l.length c) ∧ OI w' (.slice A l.length c) l G ∧ (∀ g, G = some g → w0.heap.size ≤ g) ∧ At w0 w' t s ∧ l.length ≤ c
theorem At.news {w0 w : World} {t : Nat} {s : T} {l : List Int} {f : FuncId} {args : Array Value} (h : At w0 w t s) (hc : ∀ F, TB w t F s → Calls Try.prog f args w (NewI l w)) : Calls Try.prog f args w (NewAt w0 t s l) := by
  have hh := h
  obtain ⟨F, ht, hu, hf⟩ := h
  refine (hc F ht).mono fun e w' ⟨A, c, G, he, ho, hg, hk⟩ => ⟨A, c, G, he, ho, fun g e => Nat.le_trans hu.size (hg g e), hh.up hk, ?_⟩
  obtain ⟨A', c', hv, h1, _⟩ := OI.slice ho
  injection hv with e1 e2 e3
  rw [e3]
  exact h1
end Go.Proofs.Ytaeafnpldlcdnaa.Fl
