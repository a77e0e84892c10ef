/-
  For QueuePlays: what is done to the program's set and then to the document's, as one contract.
-/
import Derived.Test.YtlmccjmbidfflaaPlays12a
namespace Go.Proofs.Ytlmccjmbidfflaa
set_option linter.unusedVariables false
open Go.RowKit

/-- both sets are alike, and X is so -/
def Both (w0 w : World) (sB rB : Nat) (D : Nat → Prop) (X : World → Prop) (j : Nat) : Prop := ∃ O O2 q q2 L, PM w0 w sB rB O O2 q q2 L D X ∧ PP q q2 L j

/-- behind the first half of an operation -/
def Mid (w : World) (Y F : World → Prop) : Prop := ∀ w', Ch0 w w' → Y w' ∧ F w'

section
variable {w0 w : World} {sB rB : Nat} {O O2 : Nat → Prop} {q q2 : Nat → List Int} {L : List Int} {D : Nat → Prop} {X : World → Prop} {j : Nat}

theorem Mid.of {F : World → Prop} (h : PM w0 w sB rB O O2 q q2 L D X) (f : ∀ w', PM w0 w' sB rB O O2 q q2 L D X → F w') : Mid w X F := fun _ c => ⟨(h.new c).ad.x, f _ (h.new c)⟩

theorem put_both (h : PM w0 w sB rB O O2 q q2 L D X) (hp : PP q q2 L j) (hj : j < 1000) (k y : Int) (hy : 1 ≤ y ∧ y ≤ 1000) :
    ∃ d z, ∀ w', Ch0 w w' → Calls Try.prog 12 #[.pointer (some ⟨sB, 0, none⟩), .int .i64 k, .int .i64 y] w' fun e w5 => e = .returned (.tuple #[.bool d, .int .i64 z]) ∧
      Mid w5 X (fun w6 => Calls Try.prog 17 #[.pointer (some ⟨rB, 0, none⟩), .int .i64 k, .int .i64 y] w6 fun e w7 => e = .returned (.tuple #[.bool d, .int .i64 z]) ∧ Both w0 w7 sB rB D X (j + 1)) := by
  by_cases hk : 1 ≤ k ∧ k ≤ 4
  · obtain ⟨i, hi, hki⟩ : ∃ i : Nat, i < 4 ∧ k = i + 1 := ⟨(k - 1).toNat, by omega, by omega⟩
    have hql := hp.qlen i hi
    by_cases hx : y ∈ L
    · refine ⟨false, 0, fun w' c => (put_in (h.new c).s i hi k hki y (by omega)).mono fun e w5 ⟨he, O', hs, t⟩ => ?_⟩
      rw [if_pos hx, if_pos hx] at hs
      rw [show decide (y ∉ L) = false from decide_eq_false (fun e => e hx)] at he
      refine ⟨he, Mid.of ((h.new c).turnS hs t) fun w6 g => (rput_old g.r k hk y ((hp.mem y).1 hx)).mono fun e w7 ⟨he, hs⟩ => ?_⟩
      exact ⟨he, _, _, _, _, _, (show w6 = w7 from hs) ▸ g, hp.next⟩
    · refine ⟨true, 0, fun w' c => (put_in (h.new c).s i hi k hki y (by omega)).mono fun e w5 ⟨he, O', hs, t⟩ => ?_⟩
      rw [if_neg hx, if_neg hx] at hs
      rw [show decide (y ∉ L) = true from decide_eq_true hx] at he
      refine ⟨he, Mid.of ((h.new c).turnS hs t) fun w6 g => (rput_new g.r i hi k hki y (fun e => hx ((hp.mem y).2 e)) (fun m hm => by have := hp.len m hm; omega)).mono fun e w7 ⟨he, O', hr, t⟩ => ?_⟩
      exact ⟨he, _, _, _, _, _, g.turnR hr t, hp.put i hi y hy⟩
  · refine ⟨false, 1, fun w' c => (put_out sB w' k y hk).mono fun e w5 ⟨he, hs⟩ => ?_⟩
    refine ⟨he, Mid.of ((show w' = w5 from hs) ▸ h.new c) fun w6 g => (rput_out rB w6 k y hk).mono fun e w7 ⟨he, hs⟩ => ?_⟩
    exact ⟨he, _, _, _, _, _, (show w6 = w7 from hs) ▸ g, hp.next⟩

theorem poll_both (h : PM w0 w sB rB O O2 q q2 L D X) (hp : PP q q2 L j) (k : Int) :
    ∃ y z, ∀ w', Ch0 w w' → Calls Try.prog 11 #[.pointer (some ⟨sB, 0, none⟩), .int .i64 k] w' fun e w5 => e = .returned (.tuple #[.int .i64 y, .int .i64 z]) ∧
      Mid w5 X (fun w6 => Calls Try.prog 18 #[.pointer (some ⟨rB, 0, none⟩), .int .i64 k] w6 fun e w7 => e = .returned (.tuple #[.int .i64 y, .int .i64 z]) ∧ Both w0 w7 sB rB D X (j + 1)) := by
  by_cases hk : 1 ≤ k ∧ k ≤ 4
  · obtain ⟨i, hi, hki⟩ : ∃ i : Nat, i < 4 ∧ k = i + 1 := ⟨(k - 1).toNat, by omega, by omega⟩
    refine ⟨(q i).headD 0, if q i = [] then 10 else 0, fun w' c => (poll_in (h.new c).s i hi k hki).mono fun e w5 ⟨he, O', hs, t⟩ => ?_⟩
    refine ⟨he, Mid.of ((h.new c).turnS hs t) fun w6 g => (rpoll_in g.r i hi k hki).mono fun e w7 ⟨he, O', hr, t⟩ => ?_⟩
    rw [← hp.eq i hi] at he
    exact ⟨he, _, _, _, _, _, g.turnR hr t, hp.poll i hi⟩
  · refine ⟨0, 1, fun w' c => (poll_out sB w' k hk).mono fun e w5 ⟨he, hs⟩ => ?_⟩
    refine ⟨he, Mid.of ((show w' = w5 from hs) ▸ h.new c) fun w6 g => (rpoll_out rB w6 k hk).mono fun e w7 ⟨he, hs⟩ => ?_⟩
    exact ⟨he, _, _, _, _, _, (show w6 = w7 from hs) ▸ g, hp.next⟩

theorem rename_both (h : PM w0 w sB rB O O2 q q2 L D X) (hp : PP q q2 L j) (hj : j < 1000) (n : Int) (hn : 1 ≤ n ∧ n ≤ 100) {b : Nat} (hb : w.heap[b]? = some (.cells #[.int .i64 n] 3 (0, 0))) (hO : ¬ O b) :
    ∀ w', Ch0 w w' → Calls Try.prog 19 #[.pointer (some ⟨sB, 0, none⟩), .func (.func 20) #[] #[.pointer (some ⟨b, 0, none⟩)]] w' fun e w5 => e = .returned (.tuple #[]) ∧
      Mid w5 (fun w6 => w6.cell? ⟨b, 0, none⟩ = some (.int .i64 n)) (fun w6 => Calls Try.prog 21 #[.pointer (some ⟨rB, 0, none⟩), .int .i64 n, .int .i64 0] w6 fun e w7 => e = .returned (.tuple #[]) ∧ Both w0 w7 sB rB D X (j + 1)) := by
  intro w' c
  refine (rename_any (h.new c).s (fun i hi => by have := hp.qlen i hi; omega) 20 #[.pointer (some ⟨b, 0, none⟩)] (enters_of Try.func20 (by kernel_rfl) rfl) (fun x => x + n)
    (fun W x cW hx => pclo1 x n b W ⟨by omega, by omega⟩ (by have := hp.pos 4 (by omega) x ((hp.mem x).1 hx); omega) (cell_of_one ((c.trans cW).keep hb (fun e => e))))).mono ?_
  rintro e w5 ⟨he, O', LE, hEv, hs, t⟩
  refine ⟨he, fun w6 c6 => ⟨cell_of_one (c6.keep (t.1.keep (c.keep hb (fun e => e)) hO) (fun e => e)), ?_⟩⟩
  have g := ((h.new c).turnS hs t).new c6
  refine (radd_in g.r n 0 ⟨by omega, by omega⟩ (fun i hi x hx => by have := hp.pos i hi x hx; omega) (fun i hi => by have := hp.len i hi; omega)).mono ?_
  rintro e w7 ⟨he, O2', hr, t2⟩
  exact ⟨he, _, _, _, _, _, g.turnR hr t2, hp.add n hn hEv⟩

theorem forget_both (h : PM w0 w sB rB O O2 q q2 L D X) (hp : PP q q2 L j) (hj : j < 1000) (x0 : Int) {b b6 : Nat} {v : Value} (hv : ∀ w', Ch0 w w' → ∃ D, SeesI D w' v (cat q2 4)) (hb : w.heap[b]? = some (.cells #[v] 25 (0, 0)))
    (hX : w.cell? ⟨b6, 2, none⟩ = some (.int .i64 x0)) :
    ∀ w', Ch0 w w' → Calls Try.prog 19 #[.pointer (some ⟨sB, 0, none⟩), .func (.func 23) #[] #[.pointer (some ⟨b, 0, none⟩), .pointer (some ⟨b6, 0, none⟩)]] w' fun e w5 => e = .returned (.tuple #[]) ∧
      Mid w5 X (fun w6 => Calls Try.prog 21 #[.pointer (some ⟨rB, 0, none⟩), .int .i64 0, .int .i64 x0] w6 fun e w7 => e = .returned (.tuple #[]) ∧ Both w0 w7 sB rB D X (j + 1)) := by
  intro w' c
  refine (rename_any (h.new c).s (fun i hi => by have := hp.qlen i hi; omega) 23 #[.pointer (some ⟨b, 0, none⟩), .pointer (some ⟨b6, 0, none⟩)] (enters_of Try.func23 (by kernel_rfl) rfl) (forgetN (cat q2 4) x0)
    (fun W x cW hx => ?_)).mono ?_
  · obtain ⟨D5, hs5⟩ := hv W (c.trans cW)
    obtain ⟨a, cp, rfl, hl⟩ := hs5.len
    have hl2 := hp.catlen
    rw [hp.cats] at hl2
    exact pclo2 x x0 (cat q2 4) b b6 W (by omega) (cell_of_one ((c.trans cW).keep hb (fun e => e))) hs5 ((c.trans cW).cell hX (fun e => e))
  · rintro e w5 ⟨he, O', LE, hEv, hs, t⟩
    refine ⟨he, Mid.of ((h.new c).turnS hs t) fun w6 g => ?_⟩
    refine (radd_in g.r 0 x0 ⟨by omega, by omega⟩ (fun i hi x hx => by have := hp.pos i hi x hx; omega) (fun i hi => by have := hp.len i hi; omega)).mono ?_
    rintro e w7 ⟨he, O2', hr, t2⟩
    exact ⟨he, _, _, _, _, _, g.turnR hr t2, hp.forget x0 hEv⟩

/-- the length of queue k, as the program tells it -/
def lenOf (q : Nat → List Int) (k : Int) : Nat := if 1 ≤ k ∧ k ≤ 4 then (q (k - 1).toNat).length else 0

theorem lenS (h : Qs w sB O q L) (k : Int) : Calls Try.prog 14 #[.pointer (some ⟨sB, 0, none⟩), .int .i64 k] w fun e w' => e = .returned (.int .i64 (lenOf q k : Int)) ∧ SameW w w' := by
  unfold lenOf
  by_cases hk : 1 ≤ k ∧ k ≤ 4
  · rw [if_pos hk]
    exact h.len (k - 1).toNat (by omega) k (by omega)
  · rw [if_neg hk]
    exact len_out sB w k hk

theorem lenR (h : RQs w rB O q2) (k : Int) : Calls Try.prog 24 #[.pointer (some ⟨rB, 0, none⟩), .int .i64 k] w fun e w' => e = .returned (.int .i64 (lenOf q2 k : Int)) ∧ SameW w w' := by
  unfold lenOf
  by_cases hk : 1 ≤ k ∧ k ≤ 4
  · rw [if_pos hk]
    exact length_in h (k - 1).toNat (by omega) k (by omega)
  · rw [if_neg hk]
    exact length_out rB w k hk

theorem PP.lenOf (hp : PP q q2 L j) (k : Int) : Go.Proofs.Ytlmccjmbidfflaa.lenOf q k = Go.Proofs.Ytlmccjmbidfflaa.lenOf q2 k := by
  unfold Go.Proofs.Ytlmccjmbidfflaa.lenOf
  by_cases hk : 1 ≤ k ∧ k ≤ 4
  · rw [if_pos hk, if_pos hk, hp.eq _ (by omega)]
  · rw [if_neg hk, if_neg hk]

/-- the sum of the lengths of the queues below m -/
def sumOf (q : Nat → List Int) (m : Nat) : Nat := (cat q (min (m - 1) 4)).length

theorem sumOf_step (q : Nat → List Int) (m : Nat) (hm : m ≤ 5) : sumOf q (m + 1) = sumOf q m + lenOf q (m : Int) := by
  have h : m = 0 ∨ m = 1 ∨ m = 2 ∨ m = 3 ∨ m = 4 ∨ m = 5 := by omega
  rcases h with rfl | rfl | rfl | rfl | rfl | rfl <;> simp [sumOf, lenOf, cat, List.range_succ, Nat.add_assoc]

theorem sumOf_six (q : Nat → List Int) : sumOf q 6 = (cat q 4).length := rfl

end

end Go.Proofs.Ytlmccjmbidfflaa
