/- ProcessTells: the row. -/
import Derived.Test.YtlmeponoadhheaaTells13
import Derived.Test.YtlmeponoadhheaaWArg
import Derived.Test.YtlmeponoadhheaaOrder
import Derived.Test.YtlmeponoadhheaaGen
namespace Go.Proofs.Ytlmeponoadhheaa.processTells
set_option linter.unusedVariables false
open Go.ChangeShapes Go.WideShapes Go.ChangeAt Go.RowKit

theorem own : ownKnob Try.prog.godebug = none := by kernel_rfl
theorem laidOut : laidOutB Try.prog = true := by kernel_rfl

set_option maxRecDepth 100000 in
theorem lifted (os : Os) (started : os.Started) (H : Type) (enc : TypeId × Value → H) :
    ReturnsInHanded {} Try.checked os 18 .any (Rows.processTellsSpec.pre6 enc Try.prog Try.f18 Rows.processTellsRow.domain false) (Rows.processTellsSpec.post enc Try.prog Try.f18 false true false false) := by
  refine returnsInHanded_of_change (C := Try.checked) own started (by kernel_rfl) Try.func18
    (ChangeSpec.witness6 (enc := enc) (C := Try.checked) false ⟨#[], #[.agg #[.slice none 0 0, .slice none 0 0, .slice none 0 0], .slice none 0 0, .int .u64 0], []⟩ 8 (by kernel_rfl) (by kernel_rfl) (by kernel_rfl) (by kernel_rfl)) ?_
  intro W base args ds gs before hval0 hW hcnd _
  have hval : ∀ (j : Nat) t v, Try.f18.params[j]? = some t → args[j]? = some v → Value.okWide Try.prog W .any base t v := hval0
  refine law_step (s := Rows.processTellsSpec) laidOut rfl (tb := 4) (by kernel_rfl) Try.underlying4 (of_decide_eq_true (by kernel_rfl)) hW (fun ds h => ?_) (fun p hA => ?_)
  · rw [Try.params18] at h
    match ds, h with
    | [d0, d1, d2], _ => rfl
  · rw [Try.params18] at hA hval
    obtain ⟨v0, vs0, d0, ds0, p0, q0, hargs, rfl, rfl, h0, r0⟩ := trodAll_cons hA
    obtain ⟨v1, vs1, d1, ds1, p1, q1, rfl, rfl, rfl, h1, r1⟩ := trodAll_cons r0
    obtain ⟨v2, vs2, d2, ds2, p2, q2, rfl, rfl, rfl, h2, r2⟩ := trodAll_cons r1
    obtain ⟨rfl, rfl, rfl⟩ := trodAll_nil r2
    obtain rfl : args = #[v0, v1, v2] := by cases args; simp_all
    have hk0 := hval 0 84 v0 rfl rfl
    have hk1 := hval 1 34 v1 rfl rfl
    obtain ⟨a2, rfl, rfl, rfl, w2⟩ := open_int Try.underlying90 (hval 2 90 v2 rfl rfl) h2
    simp [Lit.wf, IntKind.min, IntKind.max, IntKind.signed, IntKind.bits] at w2
    obtain ⟨cv, nv, rv, cs, ns, rs, rfl, hs, hf⟩ := open_pworld hk0 h0
    obtain ⟨roots, hq, -⟩ := open_seesI (K := .i64) Try.underlying34 Try.underlying3 (by kernel_rfl) hk1 h1
    exact (tells13_walk cs ns rs cv nv rv v1 roots a2 W hs hf hq (by omega) (by omega)).mono fun e W' ⟨he, hc⟩ => ⟨he, hc.of0.below (Nat.le_refl _)⟩

theorem over : Rows.processTellsRow.holds Try.pinned (OpenSpec.ofChange Rows.processTellsSpec) :=
  OpenClaim.holds_of_wide 18 Try.f18 rfl rfl rfl rfl rfl rfl rfl ⟨rfl, rfl, rfl, rfl, rfl⟩ rfl rfl rfl rfl rfl (by kernel_rfl) Try.func18 (by unfold joinedFacts; rw [mayEnter_is, liftsFinal_is, make_is]; change _ = true; kernel_rfl)
    (of_decide_eq_true (by kernel_rfl)) (by unfold Func.isWrapper; first | (rw [if_pos (by decide +kernel)]; kernel_rfl) | (rw [if_neg (by decide +kernel)]; exact ⟨rfl, rfl⟩))
    (fun os started H enc _ => lifted os started H enc)

theorem proved : Rows.ProcessTellsSaid := over
#print axioms proved
end Go.Proofs.Ytlmeponoadhheaa.processTells
