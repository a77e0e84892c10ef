/-
  The operations that a law of queues takes, in memory.
-/
import Derived.Test.YtlmccjmbidfflaaLaw
import Derived.Test.YtlmccjmbidfflaaAwake12
import Derived.Test.YtlmccjmbidfflaaSame1
namespace Go.Proofs.Ytlmccjmbidfflaa
set_option linter.unusedVariables false
open Go.RowKit Go.ChangeShapes Go.WideShapes Go.ChangeAt

/-- an operation: Kind, Q, X -/
structure QOp where
  kind : Int
  q : Int
  x : Int

instance : Inhabited QOp := ⟨⟨0, 0, 0⟩⟩

def QOp.cells (o : QOp) : List Value := [.int .i64 o.kind, .int .i64 o.q, .int .i64 o.x]

structure QOp.Fits (o : QOp) : Prop where
  k0 : -9223372036854775808 ≤ o.kind
  k1 : o.kind ≤ 9223372036854775807
  q0 : -9223372036854775808 ≤ o.q
  q1 : o.q ≤ 9223372036854775807
  x0 : -9223372036854775808 ≤ o.x
  x1 : o.x ≤ 9223372036854775807

def opCells (l : List QOp) : List Value := l.flatMap QOp.cells

theorem opCells_length (l : List QOp) : (opCells l).length = l.length * 3 := by
  induction l with
  | nil => rfl
  | cons a l ih => simp [opCells, QOp.cells] at ih ⊢; omega

theorem opCells_get (l : List QOp) (j : Nat) (o : QOp) (h : l[j]? = some o) (i : Nat) : i < 3 → (opCells l)[j * 3 + i]? = o.cells[i]? := by
  induction l generalizing j with
  | nil => simp at h
  | cons a l ih =>
    intro hi
    cases j with
    | zero =>
      simp at h
      subst h
      show (a.cells ++ opCells l)[0 * 3 + i]? = _
      rw [List.getElem?_append_left (by simp [QOp.cells]; omega)]
      simp
    | succ j =>
      show (a.cells ++ opCells l)[(j + 1) * 3 + i]? = _
      rw [List.getElem?_append_right (by simp [QOp.cells]; omega)]
      have : (j + 1) * 3 + i - a.cells.length = j * 3 + i := by simp [QOp.cells]; omega
      rw [this]
      exact ih j (by simpa using h) hi

/-- a slice of operations -/
abbrev SeesQ (D : Nat → Prop) (w : World) (v : Value) (l : List QOp) : Prop := Sees D w v 3 l.length (opCells l)

theorem SeesQ.cell {D : Nat → Prop} {w : World} {v : Value} {l : List QOp} (h : SeesQ D w v l) (hp : 0 < l.length) :
    ∃ g o c, D g ∧ v = .slice (some ⟨g, o, none⟩) l.length c ∧ ∀ j a, l[j]? = some a →
      w.cell? ⟨g, o + j * 3, none⟩ = some (.int .i64 a.kind) ∧ w.cell? ⟨g, o + j * 3 + 1, none⟩ = some (.int .i64 a.q) ∧ w.cell? ⟨g, o + j * 3 + 2, none⟩ = some (.int .i64 a.x) := by
  obtain ⟨h0, a, c, hv, hn, hm, hl⟩ := h
  rcases hl with hl | ⟨g, o, hg, rfl, hi⟩
  · omega
  · refine ⟨g, o, c, hg, hv, fun j a hj => ⟨?_, ?_, ?_⟩⟩
    · exact hi (j * 3) _ (by rw [show j * 3 = j * 3 + 0 from rfl, opCells_get l j a hj 0 (by omega)]; rfl)
    · rw [Nat.add_assoc]; exact hi (j * 3 + 1) _ (by rw [opCells_get l j a hj 1 (by omega)]; rfl)
    · rw [Nat.add_assoc]; exact hi (j * 3 + 2) _ (by rw [opCells_get l j a hj 2 (by omega)]; rfl)

section
variable {H : Type} {enc : TypeId × Value → H}

theorem RD.op {W : World} {cs : List Value} (h : RD enc Try.prog W 33 cs) : ∃ o : QOp, cs = o.cells ∧ o.Fits := by
  obtain ⟨fs, hfs⟩ : ∃ fs, Try.prog.underlying 33 = some (.struct fs) ∧ fs.map (fun f => (f.offset, f.type)) = #[(0, 3), (1, 3), (2, 3)] := ⟨_, Try.underlying33, by simp⟩
  obtain ⟨hf, hm⟩ := hfs
  obtain ⟨hl, hr⟩ := RD.struct hf h
  have hn : Try.prog.cellsOf 33 = 3 := by kernel_rfl
  have hC : Try.prog.cellsOf 3 = 1 := by kernel_rfl
  rw [hn] at hl
  have key : ∀ i, i < 3 → ∃ x : Int, cs[i]? = some (.int .i64 x) ∧ (Lit.int .i64 x).wf = true := by
    intro i hi
    have hi' : (fs.map (fun f => (f.offset, f.type)))[i]? = some (i, 3) := by
      rw [hm]
      match i, hi with
      | 0, _ => rfl
      | 1, _ => rfl
      | 2, _ => rfl
    rw [Array.getElem?_map, Option.map_eq_some_iff] at hi'
    obtain ⟨f, hfi, hfe⟩ := hi'
    have e1 : f.offset = i := congrArg Prod.fst hfe
    have e2 : f.type = 3 := congrArg Prod.snd hfe
    have h1 := hr i f hfi
    rw [e1, e2, hC] at h1
    obtain ⟨x, hx, wx⟩ := RD.int Try.underlying3 h1
    refine ⟨x, ?_, wx⟩
    have : ((cs.drop i).take 1)[0]? = some (.int .i64 x) := by rw [hx]; rfl
    simpa [List.getElem?_take, List.getElem?_drop] using this
  obtain ⟨a, ha, wa⟩ := key 0 (by omega)
  obtain ⟨b, hb, wb⟩ := key 1 (by omega)
  obtain ⟨c, hc, wc⟩ := key 2 (by omega)
  simp [Lit.wf, IntKind.min, IntKind.max, IntKind.signed, IntKind.bits] at wa wb wc
  refine ⟨⟨a, b, c⟩, ?_, ⟨wa.1, wa.2, wb.1, wb.2, wc.1, wc.2⟩⟩
  apply List.ext_getElem?
  intro i
  match i with
  | 0 => exact ha
  | 1 => exact hb
  | 2 => exact hc
  | i + 3 => rw [List.getElem?_eq_none (by omega), List.getElem?_eq_none (by simp [QOp.cells])]

/-- operations that came in -/
theorem open_ops {r : Reach} {b0 : Nat} {W : World} {v : Value} {d : DataW H} {p : List MemPlace}
    (hok : Value.okWide Try.prog W r b0 22 v) (h : DataW.Trod enc Try.prog W 0 (fun _ => true) true 22 v d p) :
    ∃ l : List QOp, SeesQ (fun k => k < W.heap.size) W v l ∧ ∀ o ∈ l, o.Fits := by
  obtain ⟨n, cs, hs, hi⟩ := open_sees (e := 33) (k := 3) (by kernel_rfl) (by kernel_rfl) (by omega) hok h
  obtain ⟨X, hX⟩ := Go.Deep.choose_lt (α := QOp) (n := n) (p := fun i o => cs i = o.cells ∧ o.Fits) (fun i hlt => RD.op (hi i hlt).2)
  refine ⟨(List.range n).map X, ?_, fun o ho => ?_⟩
  · have : (List.range n).flatMap cs = opCells ((List.range n).map X) := by
      unfold opCells
      rw [List.flatMap_map]
      exact Go.Deep.flatMap_congr_range fun i hi => (hX i hi).1
    rw [this] at hs
    simpa [SeesQ] using hs
  · obtain ⟨i, hi, rfl⟩ := List.mem_map.1 ho
    exact (hX i (List.mem_range.1 hi)).2

end

end Go.Proofs.Ytlmccjmbidfflaa
