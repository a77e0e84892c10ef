/- The law ClassWords holds at every input: no object takes more than MaxObject words, nor fewer than two; and an array of a greater length takes just as many more. No condition. -/
import Derived.Test.YtkigokbdceaaaaaWords5
import Derived.Test.YtkigokbdceaaaaaClassArg
import Derived.Test.YtkigokbdceaaaaaLaw
namespace Go.Proofs.Ytkigokbdceaaaaa.classWords
set_option linter.unusedVariables false
open Go.ChangeShapes Go.WideShapes Go.ChangeAt Go.RowKit

theorem own : ownKnob Try.prog.godebug = none := by kernel_rfl
theorem laidOut : laidOutB Try.prog = true := by kernel_rfl

set_option maxRecDepth 100000 in
theorem lifted (os : Os) (started : os.Started) (H : Type) (enc : TypeId × Value → H) :
    ReturnsInHanded {} Try.checked os 4 .any (Rows.classWordsSpec.pre6 enc Try.prog Try.f4 Rows.classWordsRow.domain false) (Rows.classWordsSpec.post enc Try.prog Try.f4 false true false false) := by
  refine returnsInHanded_of_change (C := Try.checked) own started (by kernel_rfl) Try.func4
    (ChangeSpec.witness6 (enc := enc) (C := Try.checked) false ⟨#[], #[.slice none 0 0, .int .i64 0, .int .i64 0], []⟩ 8 (by kernel_rfl) (by kernel_rfl) (by kernel_rfl) (by kernel_rfl)) ?_
  intro W base args ds gs before hval0 hW hcnd _
  have hval : ∀ (j : Nat) t v, Try.f4.params[j]? = some t → args[j]? = some v → Value.okWide Try.prog W .any base t v := hval0
  refine law_step (s := Rows.classWordsSpec) laidOut rfl (tb := 4) (by kernel_rfl) Try.underlying4 (of_decide_eq_true (by kernel_rfl)) hW (fun ds h => ?_) (fun p hA => ?_)
  · rw [Try.params4] at h
    match ds, h with
    | [d0, d1, d2], _ => rfl
  · rw [Try.params4] at hA hval
    obtain ⟨v0, vs0, d0, ds0, p0, q0, hargs, rfl, rfl, h0, r0⟩ := trodAll_cons hA
    obtain ⟨v1, vs1, d1, ds1, p1, q1, rfl, rfl, rfl, h1, r1⟩ := trodAll_cons r0
    obtain ⟨v2, vs2, d2, ds2, p2, q2, rfl, rfl, rfl, h2, r2⟩ := trodAll_cons r1
    obtain ⟨rfl, rfl, rfl⟩ := trodAll_nil r2
    obtain rfl : args = #[v0, v1, v2] := by cases args; simp_all
    have hk0 := hval 0 22 v0 rfl rfl
    obtain ⟨a1, rfl, rfl, rfl, w1⟩ := open_int Try.underlying3 (hval 1 3 v1 rfl rfl) h1
    simp [Lit.wf, IntKind.min, IntKind.max, IntKind.signed, IntKind.bits] at w1
    obtain ⟨a2, rfl, rfl, rfl, w2⟩ := open_int Try.underlying3 (hval 2 3 v2 rfl rfl) h2
    simp [Lit.wf, IntKind.min, IntKind.max, IntKind.signed, IntKind.bits] at w2
    obtain ⟨cs, hs, hf⟩ := open_classes hk0 h0
    by_cases hm : 100 < cs.length
    · exact (words_many v0 cs a1 a2 W hs hm).mono fun e W' ⟨he, hc⟩ => ⟨he, hc.of0.below (Nat.le_refl _)⟩
    · exact (words_walk v0 cs a1 a2 W hs hf (by omega) w2).mono fun e W' ⟨he, hc⟩ => ⟨he, hc.of0.below (Nat.le_refl _)⟩

theorem over : Rows.classWordsRow.holds Try.pinned (OpenSpec.ofChange Rows.classWordsSpec) :=
  OpenClaim.holds_of_wide 4 Try.f4 rfl rfl rfl rfl rfl rfl rfl ⟨rfl, rfl, rfl, rfl, rfl⟩ rfl rfl rfl rfl rfl (by kernel_rfl) Try.func4 (by kernel_rfl)
    (of_decide_eq_true (by kernel_rfl)) (by unfold Func.isWrapper; first | (rw [if_pos (by decide +kernel)]; kernel_rfl) | (rw [if_neg (by decide +kernel)]; exact ⟨rfl, rfl⟩))
    (fun os started H enc _ => lifted os started H enc)

theorem proved : Rows.ClassWordsSaid := over
#print axioms proved
end Go.Proofs.Ytkigokbdceaaaaa.classWords
