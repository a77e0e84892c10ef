/-
  A list of classes that came in, as cells.
-/
import Derived.Test.YtlmeponoadhheaaClass2
import Derived.Test.YtlmeponoadhheaaLaw
namespace Go.Proofs.Ytlmeponoadhheaa
set_option linter.unusedVariables false
open Go.ChangeShapes Go.WideShapes Go.ChangeAt Go.RowKit

section
variable {H : Type} {enc : TypeId × Value → H}

theorem Cls.fits_of {k r d : Int} {f : Bool} (h1 : (Lit.int .i64 k).wf = true) (h2 : (Lit.int .i64 r).wf = true) (h3 : (Lit.int .i64 d).wf = true) : Cls.Fits ⟨k, r, d, f⟩ := by
  simp [Lit.wf, IntKind.min, IntKind.max, IntKind.signed, IntKind.bits] at h1 h2 h3
  exact ⟨h1.1, h1.2, h2.1, h2.2, h3.1, h3.2⟩

theorem RD.cls {W : World} {cs : List Value} (h : RD enc Try.prog W 40 cs) : ∃ c : Cls, cs = c.cells ∧ c.Fits := by
  obtain ⟨hl, hf⟩ := RD.struct Try.underlying40 h
  rw [show Try.prog.cellsOf 40 = 4 by kernel_rfl] at hl
  have ci : Try.prog.cellsOf 3 = 1 := by kernel_rfl
  have cb : Try.prog.cellsOf 4 = 1 := by kernel_rfl
  have g0 : RD enc Try.prog W 3 ((cs.drop 0).take (Try.prog.cellsOf 3)) := hf 0 _ rfl
  rw [ci] at g0
  have g1 : RD enc Try.prog W 3 ((cs.drop 1).take (Try.prog.cellsOf 3)) := hf 1 _ rfl
  rw [ci] at g1
  have g2 : RD enc Try.prog W 3 ((cs.drop 2).take (Try.prog.cellsOf 3)) := hf 2 _ rfl
  rw [ci] at g2
  have g3 : RD enc Try.prog W 4 ((cs.drop 3).take (Try.prog.cellsOf 4)) := hf 3 _ rfl
  rw [cb] at g3
  obtain ⟨k, hk, wk⟩ := RD.int Try.underlying3 g0
  obtain ⟨r, hr, wr⟩ := RD.int Try.underlying3 g1
  obtain ⟨d, hd, wd⟩ := RD.int Try.underlying3 g2
  obtain ⟨f, hb⟩ := RD.bool Try.underlying4 g3
  refine ⟨⟨k, r, d, f⟩, ?_, Cls.fits_of wk wr wd⟩
  have at_ : ∀ (i : Nat) (u : Value), (cs.drop i).take 1 = [u] → cs[i]? = some u := by
    intro i u h
    have : ((cs.drop i).take 1)[0]? = some u := by rw [h]; rfl
    simpa [List.getElem?_take, List.getElem?_drop] using this
  have a0 := at_ 0 _ hk
  have a1 := at_ 1 _ hr
  have a2 := at_ 2 _ hd
  have a3 := at_ 3 _ hb
  apply List.ext_getElem?
  intro i
  match i with
  | 0 => exact a0
  | 1 => exact a1
  | 2 => exact a2
  | 3 => exact a3
  | i + 4 => rw [List.getElem?_eq_none (by omega), List.getElem?_eq_none (by simp [Cls.cells])]

instance : Inhabited Cls := ⟨⟨0, 0, 0, false⟩⟩

theorem classes_of {n : Nat} {W : World} {v : Value} {cs : Nat → List Value} {D : Nat → Prop} (hs : Sees D W v 4 n ((List.range n).flatMap cs)) (hi : ∀ i, i < n → (cs i).length = 4 ∧ RD enc Try.prog W 40 (cs i)) :
    ∃ l : List Cls, SeesC D W v l ∧ Fit l := by
  obtain ⟨F, hF⟩ := Go.Deep.choose_lt (α := Cls) (n := n) (p := fun i x => cs i = x.cells ∧ x.Fits) (fun i hlt => RD.cls (hi i hlt).2)
  refine ⟨(List.range n).map F, ?_, fun c hc => ?_⟩
  · have : (List.range n).flatMap cs = ((List.range n).map F).flatMap Cls.cells := by
      rw [List.flatMap_map]
      exact Go.Deep.flatMap_congr_range fun i hi => (hF i hi).1
    rw [this] at hs
    unfold SeesC
    rw [List.length_map, List.length_range]
    exact hs
  · obtain ⟨i, hi, rfl⟩ := List.mem_map.1 hc
    exact (hF i (List.mem_range.1 hi)).2

set_option maxRecDepth 100000 in
/-- A list of classes that came in. -/
theorem open_classes {r : Reach} {b0 : Nat} {W : World} {v : Value} {d : DataW H} {p : List MemPlace} (hok : Value.okWide Try.prog W r b0 22 v) (h : DataW.Trod enc Try.prog W 0 (fun _ => true) true 22 v d p) :
    ∃ l : List Cls, SeesC (fun k => k < W.heap.size) W v l ∧ Fit l := by
  obtain ⟨n, cs, hs, hi⟩ := open_sees (k := 4) Try.underlying22 (by kernel_rfl) (by omega) hok h
  exact classes_of hs hi

set_option maxRecDepth 100000 in
/-- .. inside a struct. -/
theorem RD.classes {W : World} {cs0 : List Value} (h : RD enc Try.prog W 22 cs0) : ∃ v, ∃ l : List Cls, cs0 = [v] ∧ SeesC (fun k => k < W.heap.size) W v l ∧ Fit l := by
  obtain ⟨v, n, cs, rfl, hs, hi⟩ := RD.slice (k := 4) Try.underlying22 (by kernel_rfl) (by omega) h
  obtain ⟨l, h1, h2⟩ := classes_of hs hi
  exact ⟨v, l, rfl, h1, h2⟩

end

end Go.Proofs.Ytlmeponoadhheaa
