/-
  Contracts of Shape, Words, Holds of a table of classes.
-/
import Derived.Test.YtlmeponoadhheaaClass3
namespace Go.Proofs.Ytlmeponoadhheaa
set_option linter.unusedVariables false
open Go.RowKit

theorem rightB_of (c : Cls) : c.rightB = true ↔ c.right := by unfold Cls.rightB Go.Proofs.Ytlmeponoadhheaa.rightB; simp

theorem allRight_get {cs : List Cls} (h : allRight cs = true) (i : Nat) (hi : i < cs.length) : cs[i].right := by
  rw [allRight, List.all_eq_true] at h
  exact (rightB_of _).1 (h _ (List.getElem_mem hi))

/-- what Shape answers of a class: references, numbers, the error's number -/
def shape1 (c : Cls) (length : Int) : Int × Int × Int :=
  if length < 0 ∨ (0 < length ∧ c.kind ≠ 2) then (0, 0, 1) else if 30 < length then (0, 0, 8) else (c.refs + length, c.data, 0)

def shapeC (cs : List Cls) (n length : Int) : Int × Int × Int :=
  if h : 1 ≤ n ∧ n ≤ cs.length then shape1 (cs[(n - 1).toNat]'(by omega)) length else (0, 0, 4)

theorem right_small {c : Cls} (h : c.right) : 0 ≤ c.refs ∧ 0 ≤ c.data ∧ c.refs + c.data ≤ 30 := by
  rcases h with ⟨_, h⟩ | ⟨_, h1, h2⟩ | ⟨_, h, _⟩
  · unfold Cls.small at h; omega
  · omega
  · unfold Cls.small at h; omega

set_option maxHeartbeats 400000 in
theorem shape_no (v : Value) (n l : Int) (w : World) (h : Calls Try.prog 100 #[v, .int .i64 n] w fun e w' => e = .returned (.tuple #[Cls.none.val, .int .i64 4]) ∧ Ch0 w w') :
    Calls Try.prog 98 #[v, .int .i64 n, .int .i64 l] w fun e w' => e = .returned (.tuple #[.int .i64 0, .int .i64 0, .int .i64 4]) ∧ Ch0 w w' := by
  have H := Lib.hid h
  clear h
  go_enter Try.func98, Try.ntmps98
  go_wp2_with fail
  refine H.out.mono ?_
  rintro e w1 ⟨rfl, c1⟩
  have C1 := Lib.hid c1
  clear c1
  unfold Cls.none Cls.val
  go_wp2_with fail
  go_ret3
  exact ⟨rfl, C1.out.alloc _⟩

set_option maxHeartbeats 1000000 in
theorem shape_yes (v : Value) (n l : Int) (c : Cls) (hr : c.right) (w : World) (h : Calls Try.prog 100 #[v, .int .i64 n] w fun e w' => e = .returned (.tuple #[c.val, .int .i64 0]) ∧ Ch0 w w') :
    Calls Try.prog 98 #[v, .int .i64 n, .int .i64 l] w fun e w' => e = .returned (.tuple #[.int .i64 (shape1 c l).1, .int .i64 (shape1 c l).2.1, .int .i64 (shape1 c l).2.2]) ∧ Ch0 w w' := by
  have hsm := right_small hr
  clear hr
  obtain ⟨hs1, hs2, hs3⟩ := hsm
  obtain ⟨k, r, d, f⟩ := c
  have H := Lib.hid h
  clear h
  unfold Cls.val at H
  simp only at hs1 hs2 hs3
  by_cases h0 : l < 0
  · have e1 : shape1 ⟨k, r, d, f⟩ l = (0, 0, 1) := by unfold shape1; rw [if_pos (.inl h0)]
    rw [e1]
    clear e1
    go_enter Try.func98, Try.ntmps98
    go_wp2_with fail
    refine H.out.mono ?_
    rintro e w1 ⟨rfl, c1⟩
    have C1 := Lib.hid c1
    clear c1
    go_wp2_with fail
    go_ret3
    exact ⟨rfl, C1.out.alloc _⟩
  · by_cases hl0 : 0 < l
    · by_cases hk : k = 2
      · subst hk
        by_cases h30 : 30 < l
        · have e1 : shape1 ⟨2, r, d, f⟩ l = (0, 0, 8) := by unfold shape1; rw [if_neg (by simp; omega), if_pos h30]
          rw [e1]
          clear e1
          go_enter Try.func98, Try.ntmps98
          go_wp2_with fail
          refine H.out.mono ?_
          rintro e w1 ⟨rfl, c1⟩
          have C1 := Lib.hid c1
          clear c1
          go_wp2_with fail
          go_ret3
          exact ⟨rfl, C1.out.alloc _⟩
        · have e1 : shape1 ⟨2, r, d, f⟩ l = (r + l, d, 0) := by unfold shape1; rw [if_neg (by simp; omega), if_neg h30]
          rw [e1]
          clear e1
          go_enter Try.func98, Try.ntmps98
          go_wp2_with fail
          refine H.out.mono ?_
          rintro e w1 ⟨rfl, c1⟩
          have C1 := Lib.hid c1
          clear c1
          go_wp2_with fail
          have q1 : IntKind.i64.wrap (r + l) = r + l := IntWalk.i64_in _ (by omega)
          go_quiet (fail)
          clear q1
          go_wp2_with fail
          go_ret3
          exact ⟨rfl, (C1.out.alloc _).drewN _⟩
      · have hk' : (k != 2) = true := bne_iff_ne.2 hk
        have e1 : shape1 ⟨k, r, d, f⟩ l = (0, 0, 1) := by unfold shape1; rw [if_pos (.inr ⟨hl0, hk⟩)]
        rw [e1]
        clear e1 hk
        go_enter Try.func98, Try.ntmps98
        go_wp2_with fail
        refine H.out.mono ?_
        rintro e w1 ⟨rfl, c1⟩
        have C1 := Lib.hid c1
        clear c1
        go_wp2_with fail
        go_ret3
        exact ⟨rfl, C1.out.alloc _⟩
    · obtain rfl : l = 0 := by omega
      have e1 : shape1 ⟨k, r, d, f⟩ 0 = (r, d, 0) := by unfold shape1; rw [if_neg (by simp), if_neg (by omega)]; simp
      rw [e1]
      clear e1
      go_enter Try.func98, Try.ntmps98
      go_wp2_with fail
      refine H.out.mono ?_
      rintro e w1 ⟨rfl, c1⟩
      have C1 := Lib.hid c1
      clear c1
      go_wp2_with fail
      have q1 : IntKind.i64.wrap r = r := IntWalk.i64_in _ (by omega)
      have q2 : IntKind.i64.wrap (r + 0) = r := by rw [Int.add_zero]; exact q1
      go_quiet (fail)
      clear q1 q2
      go_wp2_with fail
      go_ret3
      exact ⟨by simp, (C1.out.alloc _).drewN _⟩

theorem shape_any (lo hi p : Nat) (cs : List Cls) (n l : Int) (w : World) (h : Tab lo hi w p cs) :
    Calls Try.prog 98 #[.pointer (some ⟨p, 0, none⟩), .int .i64 n, .int .i64 l] w fun e w' =>
      e = .returned (.tuple #[.int .i64 (shapeC cs n l).1, .int .i64 (shapeC cs n l).2.1, .int .i64 (shapeC cs n l).2.2]) ∧ Ch0 w w' := by
  unfold shapeC
  by_cases hn : 1 ≤ n ∧ n ≤ cs.length
  · rw [dif_pos hn]
    obtain ⟨i, rfl⟩ : ∃ i : Nat, n = (i : Int) + 1 := ⟨(n - 1).toNat, by omega⟩
    have hi' : i < cs.length := by omega
    have := shape_yes _ ((i : Int) + 1) l cs[i] (allRight_get h.right i hi') w (of_yes lo hi p cs i hi' w h)
    simpa [show ((i : Int) + 1 - 1).toNat = i by omega] using this
  · rw [dif_neg hn]
    exact shape_no _ n l w (of_no _ cs.length n w h.le (fun w' hc => tlen_any lo hi p cs w' (h.keep hc (fun _ _ _ q => q))) hn)

theorem shape_nil (n l : Int) (w : World) :
    Calls Try.prog 98 #[.pointer none, .int .i64 n, .int .i64 l] w fun e w' => e = .returned (.tuple #[.int .i64 0, .int .i64 0, .int .i64 4]) ∧ Ch0 w w' :=
  shape_no _ n l w (of_no _ 0 n w (by omega) (fun w' _ => tlen_nil w') (by omega))

def wordsOf (s : Int × Int × Int) : Int := if s.2.2 = 0 then 2 + s.1 + s.2.1 else 0

theorem shapeC_bounds {lo hi p : Nat} {cs : List Cls} {w : World} (h : Tab lo hi w p cs) (n l : Int) : (shapeC cs n l).2.2 = 0 → 0 ≤ (shapeC cs n l).1 ∧ (shapeC cs n l).1 ≤ 60 ∧ 0 ≤ (shapeC cs n l).2.1 ∧ (shapeC cs n l).2.1 ≤ 60 := by
  unfold shapeC
  by_cases hn : 1 ≤ n ∧ n ≤ cs.length
  · rw [dif_pos hn]
    have := right_small (allRight_get h.right (n - 1).toNat (by omega))
    unfold shape1
    split
    · intro h; simp at h
    · split
      · intro h; simp at h
      · intro _; refine ⟨?_, ?_, ?_, ?_⟩ <;> dsimp only <;> omega
  · rw [dif_neg hn]; intro h; simp at h

/-! ### Holds -/

def holds1 (c : Cls) (field : Int) : Bool := decide (0 ≤ field) && (decide (0 < field) || (c.kind == 1 || c.kind == 2))

def holdsC (cs : List Cls) (n field : Int) : Bool := if h : 1 ≤ n ∧ n ≤ cs.length then holds1 (cs[(n - 1).toNat]'(by omega)) field else false

set_option maxHeartbeats 400000 in
theorem holds_no (v : Value) (n l : Int) (w : World) (h : Calls Try.prog 100 #[v, .int .i64 n] w fun e w' => e = .returned (.tuple #[Cls.none.val, .int .i64 4]) ∧ Ch0 w w') :
    Calls Try.prog 102 #[v, .int .i64 n, .int .i64 l] w fun e w' => e = .returned (.bool false) ∧ Ch0 w w' := by
  have H := Lib.hid h
  clear h
  go_enter Try.func102, Try.ntmps102
  go_wp2_with fail
  refine H.out.mono ?_
  rintro e w1 ⟨rfl, c1⟩
  have C1 := Lib.hid c1
  clear c1
  unfold Cls.none Cls.val
  go_wp2_with fail
  go_ret
  exact ⟨rfl, C1.out.alloc _⟩

set_option maxHeartbeats 1000000 in
theorem holds_yes (v : Value) (n l : Int) (c : Cls) (w : World) (h : Calls Try.prog 100 #[v, .int .i64 n] w fun e w' => e = .returned (.tuple #[c.val, .int .i64 0]) ∧ Ch0 w w') :
    Calls Try.prog 102 #[v, .int .i64 n, .int .i64 l] w fun e w' => e = .returned (.bool (holds1 c l)) ∧ Ch0 w w' := by
  obtain ⟨k, r, d, f⟩ := c
  have H := Lib.hid h
  clear h
  unfold Cls.val at H
  simp only at H
  by_cases h0 : l < 0
  · have e1 : holds1 ⟨k, r, d, f⟩ l = false := by unfold holds1; rw [decide_eq_false (by omega)]; rfl
    rw [e1]
    clear e1
    have g0 : decide (0 ≤ l) = false := decide_eq_false (by omega)
    go_enter Try.func102, Try.ntmps102
    go_wp2_with fail
    refine H.out.mono ?_
    rintro e w1 ⟨rfl, c1⟩
    have C1 := Lib.hid c1
    clear c1
    go_wp2_with fail
    go_ret
    exact ⟨rfl, C1.out.alloc _⟩
  · have g0 : decide (0 ≤ l) = true := decide_eq_true (by omega)
    by_cases h1 : 0 < l
    · have e1 : holds1 ⟨k, r, d, f⟩ l = true := by unfold holds1; rw [g0, decide_eq_true h1]; rfl
      rw [e1]
      clear e1
      have g1 : decide (0 < l) = true := decide_eq_true h1
      go_enter Try.func102, Try.ntmps102
      go_wp2_with fail
      refine H.out.mono ?_
      rintro e w1 ⟨rfl, c1⟩
      have C1 := Lib.hid c1
      clear c1
      go_wp2_with fail
      go_ret
      exact ⟨rfl, C1.out.alloc _⟩
    · obtain rfl : l = 0 := by omega
      by_cases k1 : k = 1
      · subst k1
        have e1 : holds1 ⟨1, r, d, f⟩ 0 = true := by simp [holds1]
        rw [e1]
        clear e1
        go_enter Try.func102, Try.ntmps102
        go_wp2_with fail
        refine H.out.mono ?_
        rintro e w1 ⟨rfl, c1⟩
        have C1 := Lib.hid c1
        clear c1
        go_wp2_with fail
        go_ret
        exact ⟨rfl, C1.out.alloc _⟩
      · have k1' : (k == 1) = false := beq_eq_false_iff_ne.2 k1
        have e1 : holds1 ⟨k, r, d, f⟩ 0 = (k == 2) := by simp [holds1, k1']
        rw [e1]
        clear e1 k1
        obtain ⟨b, hb⟩ : ∃ b, (k == 2) = b := ⟨_, rfl⟩
        rw [hb]
        go_enter Try.func102, Try.ntmps102
        go_wp2_with fail
        refine H.out.mono ?_
        rintro e w1 ⟨rfl, c1⟩
        have C1 := Lib.hid c1
        clear c1
        go_wp2_with fail
        go_ret
        exact ⟨rfl, C1.out.alloc _⟩

theorem holds_any (lo hi p : Nat) (cs : List Cls) (n l : Int) (w : World) (h : Tab lo hi w p cs) :
    Calls Try.prog 102 #[.pointer (some ⟨p, 0, none⟩), .int .i64 n, .int .i64 l] w fun e w' => e = .returned (.bool (holdsC cs n l)) ∧ Ch0 w w' := by
  unfold holdsC
  by_cases hn : 1 ≤ n ∧ n ≤ cs.length
  · rw [dif_pos hn]
    obtain ⟨i, rfl⟩ : ∃ i : Nat, n = (i : Int) + 1 := ⟨(n - 1).toNat, by omega⟩
    have hi' : i < cs.length := by omega
    have := holds_yes _ ((i : Int) + 1) l cs[i] w (of_yes lo hi p cs i hi' w h)
    simpa [show ((i : Int) + 1 - 1).toNat = i by omega] using this
  · rw [dif_neg hn]
    exact holds_no _ n l w (of_no _ cs.length n w h.le (fun w' hc => tlen_any lo hi p cs w' (h.keep hc (fun _ _ _ q => q))) hn)

theorem holds_nil (n l : Int) (w : World) : Calls Try.prog 102 #[.pointer none, .int .i64 n, .int .i64 l] w fun e w' => e = .returned (.bool false) ∧ Ch0 w w' :=
  holds_no _ n l w (of_no _ 0 n w (by omega) (fun w' _ => tlen_nil w') (by omega))

end Go.Proofs.Ytlmeponoadhheaa
