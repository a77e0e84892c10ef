/-
  Contracts of the document's arena: New, There, Store, Fill, Move.
-/
import Derived.Test.YtcdifgbdgokioaaFills
import Derived.Test.YtcdifgbdgokioaaSame
import Derived.Deep.RegionHeld3
namespace Go.Proofs.Ytcdifgbdgokioaa
open Go.RowKit

set_option maxHeartbeats 400000 in
theorem rnew_walk (n : Int) (w : World) :
    Calls Try.prog 18 #[.int .i64 n] w fun e w' => e = .returned (.pointer (some ⟨w.heap.size + 1, 0, none⟩)) ∧
      w' = (w.alloc (.cells (ints (List.replicate (cutLen n) 0)) 3)).alloc (.cells #[.slice (some ⟨w.heap.size, 0, none⟩) (cutLen n) (cutLen n)] 45) := by
  have hc : cutLen n ≤ 4096 := cutLen_le n
  have hd : (cutLen n : Int) = if 4096 < n then 4096 else if 0 < n then n else 0 := by unfold cutLen; repeat (first | omega | split)
  generalize cutLen n = m at *
  by_cases h1 : 4096 < n
  · rw [if_pos h1] at hd
    have hmk := mk_ints 4096 m hd.symm (by omega)
    clear hd
    go_enter Try.func18, Try.ntmps18
    go_wp2
    go_ret
    exact ⟨rfl, rfl⟩
  · rw [if_neg h1] at hd
    by_cases h0 : 0 < n
    · rw [if_pos h0] at hd
      have hmk := mk_ints n m hd.symm (by omega)
      clear hd
      go_enter Try.func18, Try.ntmps18
      go_wp2
      go_ret
      exact ⟨rfl, rfl⟩
    · rw [if_neg h0] at hd
      have hmk := mk_ints 0 m hd.symm (by omega)
      clear hd
      go_enter Try.func18, Try.ntmps18
      go_wp2
      go_ret
      exact ⟨rfl, rfl⟩

theorem rnew_any (n : Int) (w : World) :
    Calls Try.prog 18 #[.int .i64 n] w fun e w' => ∃ p b, e = .returned (.pointer (some ⟨p, 0, none⟩)) ∧ Ar 45 w' p b (List.replicate (cutLen n) 0) ∧ w.heap.size ≤ p ∧ w.heap.size ≤ b ∧ Ch0 w w' := by
  refine (rnew_walk n w).mono ?_
  rintro e w' ⟨rfl, rfl⟩
  exact ⟨_, _, rfl, ar_new 45 _ (cutLen_le n) w, by omega, by omega, ((Ch.refl _ _).alloc _).alloc _⟩

set_option maxHeartbeats 400000 in
theorem there_any (p b : Nat) (xs : List Int) (i k : Int) (w : World) (h : Ar 45 w p b xs) :
    Calls Try.prog 22 #[.pointer (some ⟨p, 0, none⟩), .int .i64 i, .int .i64 k] w fun e w' => e = .returned (.bool (decide (There xs.length i k))) ∧ w = w' := by
  have hc := cell_of_one h.hdr
  have hle := h.le
  clear h
  by_cases ht : There xs.length i k
  · have hd := decide_eq_true ht
    unfold There at ht
    obtain ⟨h1, h2, h3, h4⟩ := ht
    have g1 : decide (0 ≤ k) = true := decide_eq_true h1
    have g2 : decide (0 ≤ i) = true := decide_eq_true h2
    have g3 : decide (i ≤ (xs.length : Int)) = true := decide_eq_true h3
    have g4 : decide (k ≤ (xs.length : Int) - i) = true := decide_eq_true h4
    have HD := Lib.hid hd
    clear hd
    go_enter Try.func22, Try.ntmps22
    go_wp2
    go_ret
    exact ⟨by rw [HD.out]; rfl, rfl⟩
  · have hd := decide_eq_false ht
    have HD := Lib.hid hd
    clear hd
    unfold There at ht
    have hcases : (k < 0) ∨ (0 ≤ k ∧ i < 0) ∨ (0 ≤ k ∧ 0 ≤ i ∧ (xs.length : Int) < i) ∨ (0 ≤ k ∧ 0 ≤ i ∧ i ≤ xs.length ∧ (xs.length : Int) - i < k) := by omega
    clear ht
    rcases hcases with h | ⟨h, h2⟩ | ⟨h, h2, h3⟩ | ⟨h, h2, h3, h4⟩
    · have g1 : decide (0 ≤ k) = false := decide_eq_false (by omega)
      go_enter Try.func22, Try.ntmps22
      go_wp2
      go_ret
      exact ⟨by rw [HD.out]; rfl, rfl⟩
    · have g2 : decide (0 ≤ i) = false := decide_eq_false (by omega)
      go_enter Try.func22, Try.ntmps22
      go_wp2
      go_ret
      exact ⟨by rw [HD.out]; rfl, rfl⟩
    · have g3 : decide (i ≤ (xs.length : Int)) = false := decide_eq_false (by omega)
      go_enter Try.func22, Try.ntmps22
      go_wp2
      go_ret
      exact ⟨by rw [HD.out]; rfl, rfl⟩
    · have g3 : decide (i ≤ (xs.length : Int)) = true := decide_eq_true h3
      have g4 : decide (k ≤ (xs.length : Int) - i) = false := decide_eq_false (by omega)
      go_enter Try.func22, Try.ntmps22
      go_wp2
      go_ret
      exact ⟨by rw [HD.out]; rfl, rfl⟩

end Go.Proofs.Ytcdifgbdgokioaa
