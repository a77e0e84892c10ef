/-
  Contract of slices.Concat.
-/
import Derived.Test.YtlmccjmbidfflaaAll12
namespace Go.Proofs.Ytlmccjmbidfflaa
set_option linter.unusedVariables false
open Go.RowKit

/-- some lists, one behind the other -/
def cat (q : Nat → List Int) (n : Nat) : List Int := (List.range n).flatMap q

theorem cat_succ (q : Nat → List Int) (n : Nat) : cat q (n + 1) = cat q n ++ q n := by simp [cat, List.range_succ]

theorem cat_le (q : Nat → List Int) {i n : Nat} (h : i ≤ n) : (cat q i).length ≤ (cat q n).length := by
  induction n with
  | zero => obtain rfl : i = 0 := by omega
            exact Nat.le_refl _
  | succ n ih =>
    by_cases e : i = n + 1
    · subst e; exact Nat.le_refl _
    · rw [cat_succ, List.length_append]
      have := ih (by omega)
      omega

theorem grow_any (n : Nat) (hs : n < 4294967296) (w : World) : Calls Try.prog 32 #[.slice none 0 0, .int .i64 (n : Int)] w fun e w' => ∃ a c, e = .returned (.slice a 0 c) ∧ Ch0 w w' ∧ RowAt w' 3 1 (.slice a 0 c) 0 [] ∧ ∀ k, rblk (.slice a 0 c) = some k → w.heap.size ≤ k := by
  rcases Nat.eq_zero_or_pos n with rfl | hn
  · refine (grow_zero w).mono ?_
    rintro e w' ⟨rfl, c⟩
    exact ⟨none, 0, rfl, c, RowAt.nil, fun k hk => by cases hk⟩
  · refine (grow_some n hn hs w).mono ?_
    rintro e w' ⟨v, rfl, c, r, g, hg, hge⟩
    obtain ⟨a, c', rfl, -, -⟩ := r.isSlice
    exact ⟨a, c', rfl, c, r, fun k hk => by rw [hg] at hk; cases hk; exact hge⟩

set_option maxHeartbeats 1000000 in
theorem concat_any {D : Nat → Prop} {w : World} {g o n c : Nat} {vs : Nat → Value} {q : Nat → List Int} (hc : ∀ i, i < n → w.cell? ⟨g, o + i, none⟩ = some (vs i)) (hq : ∀ i, i < n → SeesI D w (vs i) (q i)) (hn : n < 4294967296) (hl : (cat q n).length < 4294967296) :
    Calls Try.prog 31 #[.slice (some ⟨g, o, none⟩) n c] w fun e w' => ∃ v, e = .returned v ∧ Ch0 w w' ∧ RowAt w' 3 1 v (cat q n).length ((cat q n).map (Value.int .i64)) ∧ ∀ k, rblk v = some k → w.heap.size ≤ k := by
  have hl2 : ∀ i, i ≤ n → (cat q i).length < 4294967296 := fun i hi => by have := cat_le q hi; omega
  have HC := Lib.hid hc
  have HQ := Lib.hid hq
  have HL := Lib.hid hl2
  clear hc hq hl2
  go_enter Try.func31, Try.ntmps31
  go_wp2_with fail
  go_loopw [3, 11] (fun sz i wr => ∃ j : Nat, j ≤ n ∧ i = .int .i64 j ∧ sz = .int .i64 ((cat q j).length : Int) ∧ SameW w wr) (fun _ i _ => n - (intOf i).toNat)
  case atStart => exact ⟨0, Nat.zero_le _, rfl, rfl, SameW.rfl' _⟩
  case round =>
    obtain ⟨j, hj, rfl, rfl, hs⟩ := hrel
    obtain rfl : w = wr := hs
    by_cases hlt : j < n
    · have hcell := HC.out j hlt
      obtain ⟨a, c2, hv, hx⟩ := (HQ.out j hlt).len
      rw [hv] at hcell
      have h1 := HL.out (j + 1) (by omega)
      rw [cat_succ, List.length_append] at h1
      have e1 : (cat q (j + 1)).length = (cat q j).length + (q j).length := by rw [cat_succ, List.length_append]
      generalize hn1 : (cat q j).length = m at *
      generalize hn2 : (q j).length = k at *
      have E1 := Lib.hid e1
      clear e1 hn1 hn2 hv
      have i1 : (0 : Int) ≤ j := by omega
      have i2 : (j : Int) < n := by omega
      have i3 : decide ((m : Int) + (k : Int) < 0) = false := decide_eq_false (by omega)
      go_wp2_with fail
      go_roundw
      case rel => exact ⟨j + 1, by omega, by go_num, by rw [E1.out]; go_num, SameW.rfl' _⟩
      case measure => simp [intOf]; omega
    · obtain rfl : j = n := by omega
      clear hj
      have hG := grow_any _ hl w
      go_wp2_with fail
      refine hG.mono ?_
      rintro e w1 ⟨a0, c0, rfl, d1, r1, b1⟩
      have HI := Lib.hid (And.intro d1 (And.intro r1 b1))
      clear d1 r1 b1 hG hlt
      go_wp2_with fail
      go_loopw [6, 27] (fun v i wr => ∃ m : Nat, m ≤ j ∧ i = .int .i64 m ∧ Ch0 w wr ∧ RowAt wr 3 1 v (cat q m).length ((cat q m).map (Value.int .i64)) ∧ ∀ k, rblk v = some k → w.heap.size ≤ k) (fun _ i _ => j - (intOf i).toNat)
      case atStart => exact ⟨0, Nat.zero_le _, rfl, HI.out.1, HI.out.2.1, HI.out.2.2⟩
      case round =>
        obtain ⟨m, hm, rfl, d1, r1, b1⟩ := hrel
        clear HI
        by_cases hlt : m < j
        · obtain ⟨a2, c2, hv, hx⟩ := (HQ.out m hlt).len
          have hcell := d1.cell (HC.out m hlt) (fun e => e)
          obtain ⟨a1, c1, ev, -, -⟩ := r1.isSlice
          have hL1 := HL.out m (by omega)
          have hL2 := HL.out (m + 1) (by omega)
          rw [cat_succ, List.length_append] at hL2
          obtain ⟨a', c', w4, hrun, r4, d4, b4⟩ := run_ints r1 hL1 ((HQ.out m hlt).keep d1 (fun _ _ e => e)) (by omega) 25
          rw [← cat_succ] at r4
          rw [ev, hv] at hrun
          rw [hv] at hcell
          have e1 : (cat q (m + 1)).length = (cat q m).length + (q m).length := by rw [cat_succ, List.length_append]
          have hnew : ∀ k, rblk (.slice a' ((cat q m).length + (q m).length) c') = some k → w.heap.size ≤ k := by
            intro k hk
            rcases b4 with e | e
            · rw [e] at hk; exact b1 k hk
            · rw [e] at hk; cases hk; exact d1.size
          have d5 : Ch0 w w4 := d1.trans' d4 (fun _ _ e => e) (fun k hk e => by have := b1 k e; omega)
          subst ev
          rw [← e1] at hrun r4 hnew
          have HF := Lib.hid (And.intro d5 (And.intro r4 hnew))
          clear d5 r4 hnew d4 b4 r1 d1 b1 e1 hL2 hv
          obtain ⟨N1, hN1⟩ : ∃ N1, N1 = (cat q (m + 1)).length := ⟨_, rfl⟩
          rw [← hN1] at hrun HF
          have HN := Lib.hid hN1
          clear hN1
          generalize (cat q m).length = N0 at *
          generalize (q m).length = N2 at *
          have i1 : (0 : Int) ≤ m := by omega
          have i2 : (m : Int) < j := by omega
          go_wp2_with (at_builtin; refine wpList_append_run rfl _ _ 25 25 rfl rfl rfl hrun ?_)
          go_wp2_with fail
          go_roundw
          case rel => exact ⟨m + 1, by omega, by go_num, HF.out.1, by rw [← HN.out]; exact HF.out.2.1, HF.out.2.2⟩
          case measure => simp [intOf]; omega
        · obtain rfl : m = j := by omega
          have HF := Lib.hid (And.intro d1 (And.intro r1 b1))
          obtain ⟨a1, c1, ev, -, -⟩ := r1.isSlice
          subst ev
          clear d1 r1 b1
          go_wp2_with fail
          go_ret
          exact ⟨_, rfl, HF.out.1, HF.out.2.1, HF.out.2.2⟩

theorem all_in {w : World} {b : Nat} {O : Nat → Prop} {q : Nat → List Int} {L : List Int} (h : Qs w b O q L) (hl : (cat q 4).length < 4294967296) :
    Calls Try.prog 15 #[.pointer (some ⟨b, 0, none⟩)] w fun e w' => ∃ v, e = .returned v ∧ Ch0 w w' ∧ RowAt w' 3 1 v (cat q 4).length ((cat q 4).map (Value.int .i64)) ∧ ∀ k, rblk v = some k → w.heap.size ≤ k := by
  obtain ⟨vs, m, h⟩ := h
  have hc := concat_any (D := fun _ => True) (w := w) (g := b) (o := 0) (n := 4) (c := 4) (vs := vs) (q := q) (fun i hi => by rw [Nat.zero_add]; exact h.cell hi) (fun i hi => ((h.row i hi).sees).mono (fun _ _ => trivial)) (by omega) hl
  clear h
  go_enter Try.func15, Try.ntmps15
  go_wp2_with fail
  refine hc.mono ?_
  rintro e w1 ⟨v, rfl, h⟩
  have H := Lib.hid h
  clear h hc
  go_wp2_with fail
  go_ret
  exact ⟨v, rfl, H.out⟩

theorem all_nil (w : World) : Calls Try.prog 15 #[.pointer none] w fun e w' => e = .returned (.slice none 0 0) ∧ SameW w w' := by
  go_enter Try.func15, Try.ntmps15
  go_wp2_with fail
  go_ret
  exact ⟨rfl, SameW.rfl' _⟩

end Go.Proofs.Ytlmccjmbidfflaa
