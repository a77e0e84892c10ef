/- CensusSplits: the row. -/
import Derived.Test.YtlmeponoadhheaaSplits19
import Derived.Test.YtlmeponoadhheaaSplits
import Derived.Test.YtlmeponoadhheaaOrder
import Derived.Test.YtlmeponoadhheaaGen
namespace Go.Proofs.Ytlmeponoadhheaa.censusSplits
set_option linter.unusedVariables false
open Go.ChangeShapes Go.WideShapes Go.ChangeAt Go.RowKit

theorem own : ownKnob Try.prog.godebug = none := by kernel_rfl
theorem laidOut : laidOutB Try.prog = true := by kernel_rfl

set_option maxRecDepth 100000 in
theorem lifted (os : Os) (started : os.Started) (H : Type) (enc : TypeId × Value → H) :
    ReturnsInHanded {} Try.checked os 27 .any (Rows.censusSplitsSpec.pre6 enc Try.prog Try.f27 Rows.censusSplitsRow.domain false) (Rows.censusSplitsSpec.post enc Try.prog Try.f27 false true false false) := by
  refine returnsInHanded_of_change (C := Try.checked) own started (by kernel_rfl) Try.func27
    (ChangeSpec.witness6 (enc := enc) (C := Try.checked) false ⟨#[], #[.slice none 0 0, .slice none 0 0, .slice none 0 0], []⟩ 8 (by kernel_rfl) (by kernel_rfl) (by kernel_rfl) (by kernel_rfl)) ?_
  intro W base args ds gs before hval0 hW hcnd _
  have hval : ∀ (j : Nat) t v, Try.f27.params[j]? = some t → args[j]? = some v → Value.okWide Try.prog W .any base t v := hval0
  refine law_step (s := Rows.censusSplitsSpec) laidOut rfl (tb := 4) (by kernel_rfl) Try.underlying4 (of_decide_eq_true (by kernel_rfl)) hW (fun ds h => ?_) (fun p hA => ?_)
  · rw [Try.params27] at h
    match ds, h with
    | [d0, d1, d2], _ => rfl
  · rw [Try.params27] at hA hval
    obtain ⟨v0, vs0, d0, ds0, p0, q0, hargs, rfl, rfl, h0, r0⟩ := trodAll_cons hA
    obtain ⟨v1, vs1, d1, ds1, p1, q1, rfl, rfl, rfl, h1, r1⟩ := trodAll_cons r0
    obtain ⟨v2, vs2, d2, ds2, p2, q2, rfl, rfl, rfl, h2, r2⟩ := trodAll_cons r1
    obtain ⟨rfl, rfl, rfl⟩ := trodAll_nil r2
    obtain rfl : args = #[v0, v1, v2] := by cases args; simp_all
    have hk0 := hval 0 22 v0 rfl rfl
    have hk1 := hval 1 23 v1 rfl rfl
    have hk2 := hval 2 121 v2 rfl rfl
    obtain ⟨cs, hs, hf⟩ := open_classes hk0 h0
    obtain ⟨ns, hn, hnf⟩ := open_seesI (K := .u8) Try.underlying23 Try.underlying5 (by kernel_rfl) hk1 h1
    obtain ⟨ks, hb⟩ := open_bools hk2 h2
    exact (splits19_walk cs ns ks v0 v1 v2 W ⟨hs, hn, fun x hx => isU8_of (hnf x hx)⟩ hf hb).mono fun e W' ⟨he, hc⟩ => ⟨he, hc.of0.below (Nat.le_refl _)⟩

theorem over : Rows.censusSplitsRow.holds Try.pinned (OpenSpec.ofChange Rows.censusSplitsSpec) :=
  OpenClaim.holds_of_wide 27 Try.f27 rfl rfl rfl rfl rfl rfl rfl ⟨rfl, rfl, rfl, rfl, rfl⟩ rfl rfl rfl rfl rfl (by kernel_rfl) Try.func27 (by unfold joinedFacts; rw [mayEnter_is, liftsFinal_is, make_is]; change _ = true; kernel_rfl)
    (of_decide_eq_true (by kernel_rfl)) (by unfold Func.isWrapper; first | (rw [if_pos (by decide +kernel)]; kernel_rfl) | (rw [if_neg (by decide +kernel)]; exact ⟨rfl, rfl⟩))
    (fun os started H enc _ => lifted os started H enc)

theorem proved : Rows.CensusSplitsSaid := over
#print axioms proved
end Go.Proofs.Ytlmeponoadhheaa.censusSplits
