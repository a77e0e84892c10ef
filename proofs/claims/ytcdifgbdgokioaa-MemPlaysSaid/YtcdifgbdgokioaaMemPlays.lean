/- The law MemPlays holds at every input: whatever is stored, moved, filled and read, each answer is the document's, and so are all words. No condition. -/
import Derived.Test.YtcdifgbdgokioaaPlays
import Derived.Test.YtcdifgbdgokioaaLaw
namespace Go.Proofs.Ytcdifgbdgokioaa.memPlays
open Go.ChangeShapes Go.WideShapes Go.ChangeAt Go.RowKit

theorem own : ownKnob Try.prog.godebug = none := by kernel_rfl
theorem laidOut : laidOutB Try.prog = true := by kernel_rfl

set_option maxRecDepth 100000 in
theorem lifted (os : Os) (started : os.Started) (H : Type) (enc : TypeId × Value → H) :
    ReturnsInHanded {} Try.checked os 7 .any (Rows.memPlaysSpec.pre6 enc Try.prog Try.f7 Rows.memPlaysRow.domain false) (Rows.memPlaysSpec.post enc Try.prog Try.f7 false true false false) := by
  refine returnsInHanded_of_change (C := Try.checked) own started (by kernel_rfl) Try.func7
    (ChangeSpec.witness6 (enc := enc) (C := Try.checked) false ⟨#[], #[.int .i64 0, .slice none 0 0], []⟩ 8 (by kernel_rfl) (by kernel_rfl) (by kernel_rfl) (by kernel_rfl)) ?_
  intro W base args ds gs before hval0 hW hcnd _
  have hval : ∀ (j : Nat) t v, Try.f7.params[j]? = some t → args[j]? = some v → Value.okWide Try.prog W .any base t v := hval0
  refine law_step (s := Rows.memPlaysSpec) laidOut rfl (tb := 4) (by kernel_rfl) Try.underlying4 (of_decide_eq_true (by kernel_rfl)) hW (fun ds h => ?_) (fun p hA => ?_)
  · rw [Try.params7] at h
    match ds, h with
    | [d0, d1], _ => rfl
  · rw [Try.params7] at hA hval
    obtain ⟨v0, vs0, d0, ds0, p0, q0, hargs, rfl, rfl, h0, r0⟩ := trodAll_cons hA
    obtain ⟨v1, vs1, d1, ds1, p1, q1, rfl, rfl, rfl, h1, r1⟩ := trodAll_cons r0
    obtain ⟨rfl, rfl, rfl⟩ := trodAll_nil r1
    obtain rfl : args = #[v0, v1] := by cases args; simp_all
    obtain ⟨a0, rfl, rfl, rfl, w0⟩ := open_int Try.underlying3 (hval 0 3 v0 rfl rfl) h0
    simp [Lit.wf, IntKind.min, IntKind.max, IntKind.signed, IntKind.bits] at w0
    have hk1 := hval 1 41 v1 rfl rfl
    obtain ⟨n, cs, hs, hi⟩ := open_sees (k := 5) Try.underlying41 (by kernel_rfl) (by omega) hk1 h1
    obtain ⟨F, hF⟩ := Go.Deep.choose_lt (α := Int × Int × Int × Int × Int) (n := n) (p := fun i x => cs i = [.int .i64 x.1, .int .i64 x.2.1, .int .i64 x.2.2.1, .int .i64 x.2.2.2.1, .int .i64 x.2.2.2.2]) (fun i hlt => by
      obtain ⟨a, b, c, d, e, he, -⟩ := RD.ints5 Try.underlying47 Try.underlying3 (by kernel_rfl) (by kernel_rfl) (by kernel_rfl) (hi i hlt).2
      exact ⟨(a, b, c, d, e), he⟩)
    obtain ⟨hl, sa, c, rfl, hnc, hm, hc⟩ := hs
    by_cases h200 : 200 < n
    · exact (plays_many a0 sa n c W h200).mono fun e W' ⟨he, hc⟩ => ⟨he, hc.of0.below (Nat.le_refl _)⟩
    · have key : ∃ g o : Nat, 0 < n → sa = some ⟨g, o, none⟩ ∧ Plays W g o n (fun j => (F j).1) (fun j => (F j).2.1) (fun j => (F j).2.2.1) (fun j => (F j).2.2.2.1) (fun j => (F j).2.2.2.2) := by
        rcases hc with hc | ⟨g, o, hg, ha, hcell⟩
        · exact ⟨0, 0, fun h => by omega⟩
        · have at5 : ∀ j, j < n → ∀ t u, t < 5 → (cs j)[t]? = some u → W.cell? ⟨g, o + j * 5 + t, none⟩ = some u := fun j hj t u ht hu => by
            have := hcell (j * 5 + t) u (by rw [getElem?_flatMap_const cs n (fun i hi' => (hi i hi').1) j t hj ht]; exact hu)
            rwa [← Nat.add_assoc] at this
          exact ⟨g, o, fun _ => ⟨ha, hg, fun j hj => at5 j hj 0 _ (by omega) (by rw [hF j hj]; rfl), fun j hj => at5 j hj 1 _ (by omega) (by rw [hF j hj]; rfl), fun j hj => at5 j hj 2 _ (by omega) (by rw [hF j hj]; rfl),
            fun j hj => at5 j hj 3 _ (by omega) (by rw [hF j hj]; rfl), fun j hj => at5 j hj 4 _ (by omega) (by rw [hF j hj]; rfl)⟩⟩
      obtain ⟨g, o, hp⟩ := key
      exact (plays_walk a0 sa g o n c _ _ _ _ _ W hp (by omega)).mono fun e W' ⟨he, hc⟩ => ⟨he, hc.of0.below (Nat.le_refl _)⟩

theorem over : Rows.memPlaysRow.holds Try.pinned (OpenSpec.ofChange Rows.memPlaysSpec) :=
  OpenClaim.holds_of_wide 7 Try.f7 rfl rfl rfl rfl rfl rfl rfl ⟨rfl, rfl, rfl, rfl, rfl⟩ rfl rfl rfl rfl rfl (by kernel_rfl) Try.func7 (by kernel_rfl)
    (of_decide_eq_true (by kernel_rfl)) (by unfold Func.isWrapper; first | (rw [if_pos (by decide +kernel)]; kernel_rfl) | (rw [if_neg (by decide +kernel)]; exact ⟨rfl, rfl⟩))
    (fun os started H enc _ => lifted os started H enc)

theorem proved : Rows.MemPlaysSaid := over
#print axioms proved
end Go.Proofs.Ytcdifgbdgokioaa.memPlays
