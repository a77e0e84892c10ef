/-
  A world that came in: classes, nodes, references, as cells.
-/
import Derived.Test.YtlmeponoadhheaaCls
import Derived.Test.YtlmeponoadhheaaGen
import Derived.Laws.IdiomArrays
namespace Go.Proofs.Ytlmeponoadhheaa
set_option linter.unusedVariables false
open Go.ChangeShapes Go.WideShapes Go.ChangeAt Go.RowKit

/-- three bytes -/
def u3 (r : Int × Int × Int) : List Value := [.int .u8 r.1, .int .u8 r.2.1, .int .u8 r.2.2]

def isU8 (x : Int) : Prop := 0 ≤ x ∧ x < 256

structure SeesW (D : Nat → Prop) (w : World) (cv nv rv : Value) (cs : List Cls) (ns : List Int) (rs : List (Int × Int × Int)) : Prop where
  c : SeesC D w cv cs
  n : Sees D w nv 1 ns.length (ns.map (Value.int .u8))
  r : Sees D w rv 3 rs.length (rs.flatMap u3)
  nf : ∀ x ∈ ns, isU8 x
  rf : ∀ x ∈ rs, isU8 x.1 ∧ isU8 x.2.1 ∧ isU8 x.2.2

theorem SeesW.keep {D S : Nat → Prop} {w w' : World} {cv nv rv : Value} {cs : List Cls} {ns : List Int} {rs : List (Int × Int × Int)} (h : SeesW D w cv nv rv cs ns rs) (c : Ch S w w') (hd : ∀ k, D k → ¬ S k) : SeesW D w' cv nv rv cs ns rs :=
  ⟨h.c.keep c hd, h.n.keep c hd, h.r.keep c hd, h.nf, h.rf⟩

section
variable {H : Type} {enc : TypeId × Value → H}

theorem isU8_of {x : Int} (h : (Lit.int .u8 x).wf = true) : isU8 x := by
  simp [Lit.wf, IntKind.min, IntKind.max, IntKind.signed, IntKind.bits] at h
  exact ⟨h.1, by omega⟩

theorem RD.u3 {W : World} {cs : List Value} (h : RD enc Try.prog W 146 cs) (hl : cs.length = 3) : ∃ r : Int × Int × Int, cs = Go.Proofs.Ytlmeponoadhheaa.u3 r ∧ isU8 r.1 ∧ isU8 r.2.1 ∧ isU8 r.2.2 := by
  match cs, hl with
  | [c0, c1, c2], _ =>
    obtain ⟨fuel, x, hx⟩ := h
    obtain ⟨y0, y1, y2, n, -, h0, h1, h2⟩ := trod_array3 (e := 5) (by kernel_rfl) (by kernel_rfl) hx
    obtain ⟨a, ha, wa⟩ := RD.int Try.underlying5 (⟨_, _, h0⟩ : RD enc Try.prog W 5 [c0])
    obtain ⟨b, hb, wb⟩ := RD.int Try.underlying5 (⟨_, _, h1⟩ : RD enc Try.prog W 5 [c1])
    obtain ⟨c, hc, wc⟩ := RD.int Try.underlying5 (⟨_, _, h2⟩ : RD enc Try.prog W 5 [c2])
    simp at ha hb hc
    subst ha hb hc
    exact ⟨(a, b, c), rfl, isU8_of wa, isU8_of wb, isU8_of wc⟩

set_option maxRecDepth 100000 in
theorem RD.u3s {W : World} {cs0 : List Value} (h : RD enc Try.prog W 70 cs0) : ∃ v, ∃ rs : List (Int × Int × Int), cs0 = [v] ∧ Sees (fun k => k < W.heap.size) W v 3 rs.length (rs.flatMap Go.Proofs.Ytlmeponoadhheaa.u3) ∧ ∀ x ∈ rs, isU8 x.1 ∧ isU8 x.2.1 ∧ isU8 x.2.2 := by
  obtain ⟨v, n, cs, rfl, hs, hi⟩ := RD.slice (k := 3) (e := 146) (by kernel_rfl) (by kernel_rfl) (by omega) h
  obtain ⟨X, hX⟩ := Go.Deep.choose_lt (α := Int × Int × Int) (n := n) (p := fun i r => cs i = Go.Proofs.Ytlmeponoadhheaa.u3 r ∧ isU8 r.1 ∧ isU8 r.2.1 ∧ isU8 r.2.2) (fun i hlt => RD.u3 (hi i hlt).2 (hi i hlt).1)
  refine ⟨v, (List.range n).map X, rfl, ?_, fun x hx => ?_⟩
  · have : (List.range n).flatMap cs = ((List.range n).map X).flatMap Go.Proofs.Ytlmeponoadhheaa.u3 := by
      rw [List.flatMap_map]
      exact Go.Deep.flatMap_congr_range fun i hi => (hX i hi).1
    rw [this] at hs
    simpa using hs
  · obtain ⟨i, hi, rfl⟩ := List.mem_map.1 hx
    exact (hX i (List.mem_range.1 hi)).2

theorem RD.u8s {W : World} {cs0 : List Value} (h : RD enc Try.prog W 23 cs0) : ∃ v, ∃ xs : List Int, cs0 = [v] ∧ Sees (fun k => k < W.heap.size) W v 1 xs.length (xs.map (Value.int .u8)) ∧ ∀ x ∈ xs, isU8 x := by
  obtain ⟨v, xs, hv, hs, hw⟩ := RD.ints (e := 5) (K := .u8) (by kernel_rfl) Try.underlying5 (by kernel_rfl) h
  exact ⟨v, xs, hv, hs, fun x hx => isU8_of (hw x hx)⟩

set_option maxRecDepth 100000 in
theorem RD.three {t : TypeId} {fs : Array Field} {W : World} {cs0 : List Value} (hf : Try.prog.underlying t = some (.struct fs)) (hm : fs.map (fun f => (f.offset, f.type)) = #[(0, 22), (1, 23), (2, 70)]) (hn : Try.prog.cellsOf t = 3) (h : RD enc Try.prog W t cs0) :
    ∃ cv nv rv cs ns rs, cs0 = [cv, nv, rv] ∧ SeesW (fun k => k < W.heap.size) W cv nv rv cs ns rs ∧ Fit cs := by
  obtain ⟨hl, hr⟩ := RD.struct hf h
  rw [hn] at hl
  have c1 : Try.prog.cellsOf 22 = 1 := by kernel_rfl
  have c2 : Try.prog.cellsOf 23 = 1 := by kernel_rfl
  have c3 : Try.prog.cellsOf 70 = 1 := by kernel_rfl
  have key : ∀ (i : Nat) (T : TypeId), (fs.map (fun f => (f.offset, f.type)))[i]? = some (i, T) → RD enc Try.prog W T ((cs0.drop i).take (Try.prog.cellsOf T)) := by
    intro i T hi
    rw [Array.getElem?_map, Option.map_eq_some_iff] at hi
    obtain ⟨f, hfi, hfe⟩ := hi
    have e1 : f.offset = i := congrArg Prod.fst hfe
    have e2 : f.type = T := congrArg Prod.snd hfe
    have h1 := hr i f hfi
    rw [e1, e2] at h1
    exact h1
  have g0 := key 0 22 (by rw [hm]; rfl)
  have g1 := key 1 23 (by rw [hm]; rfl)
  have g2 := key 2 70 (by rw [hm]; rfl)
  rw [c1] at g0
  rw [c2] at g1
  rw [c3] at g2
  obtain ⟨cv, cs, e0, s0, f0⟩ := RD.classes g0
  obtain ⟨nv, ns, e1, s1, f1⟩ := RD.u8s g1
  obtain ⟨rv, rs, e2, s2, f2⟩ := RD.u3s g2
  have at_ : ∀ (i : Nat) (u : Value), (cs0.drop i).take 1 = [u] → cs0[i]? = some u := by
    intro i u h
    have : ((cs0.drop i).take 1)[0]? = some u := by rw [h]; rfl
    simpa [List.getElem?_take, List.getElem?_drop] using this
  have a0 := at_ 0 _ e0
  have a1 := at_ 1 _ e1
  have a2 := at_ 2 _ e2
  refine ⟨cv, nv, rv, cs, ns, rs, ?_, ⟨s0, s1, s2, f1, f2⟩, f0⟩
  apply List.ext_getElem?
  intro i
  match i with
  | 0 => exact a0
  | 1 => exact a1
  | 2 => exact a2
  | i + 3 => rw [List.getElem?_eq_none (by omega), List.getElem?_eq_none (by simp)]

set_option maxRecDepth 100000 in
theorem open_world {r : Reach} {b0 : Nat} {W : World} {v : Value} {d : DataW H} {p : List MemPlace} (hok : Value.okWide Try.prog W r b0 72 v) (h : DataW.Trod enc Try.prog W 0 (fun _ => true) true 72 v d p) :
    ∃ cv nv rv cs ns rs, v = .agg #[cv, nv, rv] ∧ SeesW (fun k => k < W.heap.size) W cv nv rv cs ns rs ∧ Fit cs := by
  obtain ⟨cs0, rfl, -, h1⟩ := open_agg Try.underlying72 hok h
  obtain ⟨cv, nv, rv, cs, ns, rs, rfl, h2, h3⟩ := RD.three Try.underlying72 (by simp) (by kernel_rfl) h1
  exact ⟨cv, nv, rv, cs, ns, rs, rfl, h2, h3⟩

set_option maxRecDepth 100000 in
theorem open_pworld {r : Reach} {b0 : Nat} {W : World} {v : Value} {d : DataW H} {p : List MemPlace} (hok : Value.okWide Try.prog W r b0 84 v) (h : DataW.Trod enc Try.prog W 0 (fun _ => true) true 84 v d p) :
    ∃ cv nv rv cs ns rs, v = .agg #[cv, nv, rv] ∧ SeesW (fun k => k < W.heap.size) W cv nv rv cs ns rs ∧ Fit cs := by
  obtain ⟨cs0, rfl, -, h1⟩ := open_agg Try.underlying84 hok h
  obtain ⟨cv, nv, rv, cs, ns, rs, rfl, h2, h3⟩ := RD.three Try.underlying84 (by simp) (by kernel_rfl) h1
  exact ⟨cv, nv, rv, cs, ns, rs, rfl, h2, h3⟩

end

end Go.Proofs.Ytlmeponoadhheaa
