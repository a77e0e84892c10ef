/-
  A node's copy that a law keeps in a block of its own.
-/
import Derived.Test.YtlmeponoadhheaaLaws9
namespace Go.Proofs.Ytlmeponoadhheaa
set_option linter.unusedVariables false
open Go.RowKit

/-- the node nd, copied, lies in block B; all of it lies below M -/
structure Held1 (M : Nat) (w : World) (B : Nat) (nd : GN) (vr vd : Value) : Prop where
  lt : B < M
  y0 : w.cell? ⟨B, 0, none⟩ = some (.int .i64 nd.id)
  y1 : w.cell? ⟨B, 1, none⟩ = some (.int .i64 nd.cls)
  y2 : w.cell? ⟨B, 2, none⟩ = some vr
  y3 : w.cell? ⟨B, 3, none⟩ = some vd
  y4 : w.cell? ⟨B, 4, none⟩ = some (.bool nd.fin)
  refs : SeesI (fun k => k < M) w vr nd.refs
  data : SeesI (fun k => k < M) w vd nd.data

theorem Held1.keep {S : Nat → Prop} {M B : Nat} {w w' : World} {nd : GN} {vr vd : Value} (h : Held1 M w B nd vr vd) (c : Ch S w w') (hS : ∀ k, S k → M ≤ k) : Held1 M w' B nd vr vd := by
  have hB : ¬ S B := fun e => by have := hS _ e; have := h.lt; omega
  exact ⟨h.lt, c.cell h.y0 hB, c.cell h.y1 hB, c.cell h.y2 hB, c.cell h.y3 hB, c.cell h.y4 hB, h.refs.keep c (fun k hk e => by have := hS _ e; omega), h.data.keep c (fun k hk e => by have := hS _ e; omega)⟩

theorem Held1.mono {M M' B : Nat} {w : World} {nd : GN} {vr vd : Value} (h : Held1 M w B nd vr vd) (hM : M ≤ M') : Held1 M' w B nd vr vd :=
  ⟨Nat.lt_of_lt_of_le h.lt hM, h.y0, h.y1, h.y2, h.y3, h.y4, Sees.mono h.refs (fun k hk => Nat.lt_of_lt_of_le hk hM), Sees.mono h.data (fun k hk => Nat.lt_of_lt_of_le hk hM)⟩

theorem Held1.new {w w1 : World} {nd : GN} {v vr vd : Value} (h : Copy w w1 nd v vr vd) :
    Held1 (w1.heap.size + 1) (w1.alloc (.cells #[.int .i64 nd.id, .int .i64 nd.cls, vr, vd, .bool nd.fin] 36)) w1.heap.size nd vr vd := by
  have bb := heap_alloc_new w1 (.cells #[.int .i64 nd.id, .int .i64 nd.cls, vr, vd, .bool nd.fin] 36)
  have cb : Ch0 w1 (w1.alloc (.cells #[.int .i64 nd.id, .int .i64 nd.cls, vr, vd, .bool nd.fin] 36)) := (Ch.refl _ _).alloc _
  refine ⟨by omega, cell_of_row _ _ 0 _ _ _ bb, cell_of_row _ _ 1 _ _ _ bb, cell_of_row _ _ 2 _ _ _ bb, cell_of_row _ _ 3 _ _ _ bb, cell_of_row _ _ 4 _ _ _ bb, ?_, ?_⟩
  · exact Sees.mono (Sees.keep h.refs.sees cb (fun _ _ e => e)) (fun k hk => by have := h.refs.lt hk; omega)
  · exact Sees.mono (Sees.keep h.data.sees cb (fun _ _ e => e)) (fun k hk => by have := h.data.lt hk; omega)

theorem Held1.nv {M B : Nat} {w : World} {nd : GN} {vr vd : Value} (h : Held1 M w B nd vr vd) : NV (fun k => k < M) w (.agg #[.int .i64 nd.id, .int .i64 nd.cls, vr, vd, .bool nd.fin]) nd vr vd := ⟨rfl, h.refs, h.data⟩

theorem row_set {w : World} {v : Value} {n : Nat} {xs : List Int} (h : RowAt w 3 1 v n (xs.map (Value.int .i64))) (hl : xs.length = n) (i : Nat) (hi : i < n) (x : Int) :
    ∃ g o cap u, v = .slice (some ⟨g, o, none⟩) n cap ∧ w.cell? ⟨g, o + i, none⟩ = some u ∧ w.frozen? ⟨g, o + i, none⟩ = false ∧
      RowAt (w.setCell ⟨g, o + i, none⟩ (.int .i64 x)) 3 1 v n ((xs.set i x).map (Value.int .i64)) ∧ Ch (fun k => rblk v = some k) w (w.setCell ⟨g, o + i, none⟩ (.int .i64 x)) := by
  obtain ⟨g, o, cap, rfl, h1, h2, h3⟩ := h.set i hi (.int .i64 x)
  refine ⟨g, o, cap, (xs.map (Value.int .i64))[i]'(by simpa [hl] using hi), rfl, by rw [h2, List.getElem?_eq_getElem], h3, ?_, Ch.setCell (S := fun k => rblk (.slice (some ⟨g, o, none⟩) n cap) = some k) (Ch.refl _ _) (p := ⟨g, o + i, none⟩) (fun _ => rfl) _⟩
  rw [List.map_set]; exact h1

end Go.Proofs.Ytlmeponoadhheaa
