/-
  Rows that came in, as cells.
-/
import Derived.Test.YtlmeponoadhheaaCenV
import Derived.Test.YtlmeponoadhheaaCls
import Derived.Test.YtlmeponoadhheaaGen
namespace Go.Proofs.Ytlmeponoadhheaa
set_option linter.unusedVariables false
open Go.ChangeShapes Go.WideShapes Go.ChangeAt Go.RowKit

/-- each number is an int's -/
def isI (x : Int) : Prop := -9223372036854775808 ≤ x ∧ x ≤ 9223372036854775807
def R5.Fits (r : R5) : Prop := isI r.cls ∧ isI r.cnt ∧ isI r.wds ∧ isI r.refs ∧ isI r.fin

theorem isI_of {x : Int} (h : (Lit.int .i64 x).wf = true) : isI x := by
  simp [Lit.wf, IntKind.min, IntKind.max, IntKind.signed, IntKind.bits] at h
  exact ⟨h.1, by omega⟩

section
variable {H : Type} {enc : TypeId × Value → H}

theorem RD.row5 {W : World} {cs : List Value} (h : RD enc Try.prog W 110 cs) : ∃ r : R5, cs = r.cells ∧ r.Fits := by
  obtain ⟨hl, hf⟩ := RD.struct Try.underlying110 h
  rw [show Try.prog.cellsOf 110 = 5 by kernel_rfl] at hl
  have ci : Try.prog.cellsOf 3 = 1 := by kernel_rfl
  have g0 : RD enc Try.prog W 3 ((cs.drop 0).take (Try.prog.cellsOf 3)) := hf 0 _ rfl
  have g1 : RD enc Try.prog W 3 ((cs.drop 1).take (Try.prog.cellsOf 3)) := hf 1 _ rfl
  have g2 : RD enc Try.prog W 3 ((cs.drop 2).take (Try.prog.cellsOf 3)) := hf 2 _ rfl
  have g3 : RD enc Try.prog W 3 ((cs.drop 3).take (Try.prog.cellsOf 3)) := hf 3 _ rfl
  have g4 : RD enc Try.prog W 3 ((cs.drop 4).take (Try.prog.cellsOf 3)) := hf 4 _ rfl
  rw [ci] at g0 g1 g2 g3 g4
  obtain ⟨a, ha, wa⟩ := RD.int Try.underlying3 g0
  obtain ⟨b, hb, wb⟩ := RD.int Try.underlying3 g1
  obtain ⟨c, hc, wc⟩ := RD.int Try.underlying3 g2
  obtain ⟨d, hd, wd⟩ := RD.int Try.underlying3 g3
  obtain ⟨e, he, we⟩ := RD.int Try.underlying3 g4
  refine ⟨⟨a, b, c, d, e⟩, ?_, isI_of wa, isI_of wb, isI_of wc, isI_of wd, isI_of we⟩
  have at_ : ∀ (i : Nat) (u : Value), (cs.drop i).take 1 = [u] → cs[i]? = some u := by
    intro i u h
    have : ((cs.drop i).take 1)[0]? = some u := by rw [h]; rfl
    simpa [List.getElem?_take, List.getElem?_drop] using this
  have a0 := at_ 0 _ ha
  have a1 := at_ 1 _ hb
  have a2 := at_ 2 _ hc
  have a3 := at_ 3 _ hd
  have a4 := at_ 4 _ he
  apply List.ext_getElem?
  intro i
  match i with
  | 0 => exact a0
  | 1 => exact a1
  | 2 => exact a2
  | 3 => exact a3
  | 4 => exact a4
  | i + 5 => rw [List.getElem?_eq_none (by omega), List.getElem?_eq_none (by simp [R5.cells])]

set_option maxRecDepth 100000 in
/-- A list of rows that came in. -/
theorem open_rows5 {r : Reach} {b0 : Nat} {W : World} {v : Value} {d : DataW H} {p : List MemPlace} (hok : Value.okWide Try.prog W r b0 103 v) (h : DataW.Trod enc Try.prog W 0 (fun _ => true) true 103 v d p) :
    ∃ l : List R5, SeesR (fun k => k < W.heap.size) W v l ∧ ∀ x ∈ l, x.Fits := by
  obtain ⟨n, cs, hs, hi⟩ := open_sees (k := 5) Try.underlying103 (by kernel_rfl) (by omega) hok h
  obtain ⟨F, hF⟩ := Go.Deep.choose_lt (α := R5) (n := n) (p := fun i x => cs i = x.cells ∧ x.Fits) (fun i hlt => RD.row5 (hi i hlt).2)
  refine ⟨(List.range n).map F, ?_, fun c hc => ?_⟩
  · have : (List.range n).flatMap cs = ((List.range n).map F).flatMap R5.cells := by
      rw [List.flatMap_map]
      exact Go.Deep.flatMap_congr_range fun i hi => (hF i hi).1
    rw [this] at hs
    unfold SeesR
    rw [List.length_map, List.length_range]
    exact hs
  · obtain ⟨i, hi, rfl⟩ := List.mem_map.1 hc
    exact (hF i (List.mem_range.1 hi)).2

end

end Go.Proofs.Ytlmeponoadhheaa
