/-
  gleaninglaw12.awake answers true.
-/
import Derived.Test.YtlmccjmbidfflaaQ2
namespace Go.Proofs.Ytlmccjmbidfflaa
set_option linter.unusedVariables false
open Go.RowKit

theorem Qs.len {w : World} {b : Nat} {O : Nat → Prop} {q : Nat → List Int} {L : List Int} (h : Qs w b O q L) (i : Nat) (hi : i < 4) (k : Int) (hk : k = i + 1) :
    Calls Try.prog 14 #[.pointer (some ⟨b, 0, none⟩), .int .i64 k] w fun e w' => e = .returned (.int .i64 ((q i).length : Int)) ∧ SameW w w' := by
  obtain ⟨vs, m, h⟩ := h
  exact len_in h i hi k hk

set_option maxHeartbeats 400000 in
theorem awake12 (w : World) : Calls Try.prog 10 #[] w fun e w' => e = .returned (.bool true) ∧ Ch0 w w' := by
  have h0 := Lib.hid (qs_new w)
  have c0 := Lib.hid ((Ch.refl (fun _ => False) w).alloc (.cells #[.slice none 0 0, .slice none 0 0, .slice none 0 0, .slice none 0 0, .map none] 29))
  go_enter Try.func10, Try.ntmps10
  go_wp2_with fail
  refine (put_in h0.out 0 (by omega) 1 rfl 7 (by simp)).mono ?_
  rintro e w1 ⟨rfl, O1, h1, t1⟩
  simp only [List.not_mem_nil, not_false_eq_true, decide_true, if_false, List.nil_append] at h1 ⊢
  obtain ⟨d1, o1⟩ := Ch0.turn c0.out t1 (by rintro k rfl; exact Nat.le_refl _)
  have h1 := Lib.hid h1; have d1 := Lib.hid d1; have o1 := Lib.hid o1
  clear t1 h0 c0
  go_wp2_with fail
  refine (put_in h1.out 1 (by omega) 2 rfl 7 (by simp [updF])).mono ?_
  rintro e w2 ⟨rfl, O2, h2, t2⟩
  simp only [List.mem_singleton, not_true_eq_false, decide_false, if_true] at h2 ⊢
  obtain ⟨d2, o2⟩ := Ch0.turn d1.out t2 o1.out
  have h2 := Lib.hid h2; have d2 := Lib.hid d2; have o2 := Lib.hid o2
  clear t2 h1 d1 o1
  go_wp2_with fail
  refine (poll_in h2.out 0 (by omega) 1 rfl).mono ?_
  rintro e w3 ⟨rfl, O3, h3, t3⟩
  simp only [updF_same, List.headD_cons, List.tail_cons, reduceCtorEq, if_false] at h3 ⊢
  obtain ⟨d3, o3⟩ := Ch0.turn d2.out t3 o2.out
  have h3 := Lib.hid h3; have d3 := Lib.hid d3; have o3 := Lib.hid o3
  clear t3 h2 d2 o2
  go_wp2_with fail
  refine (h3.out.len 0 (by omega) 1 rfl).mono ?_
  rintro e w4 ⟨rfl, hs⟩
  obtain rfl : w3 = w4 := hs
  simp only [updF_same, List.length_nil]
  go_wp2_with fail
  go_ret
  exact ⟨rfl, d3.out⟩

end Go.Proofs.Ytlmccjmbidfflaa
