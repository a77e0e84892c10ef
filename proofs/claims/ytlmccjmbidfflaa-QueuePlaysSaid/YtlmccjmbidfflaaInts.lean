/-
  append of one integer to a slice of integers: at a step of a region that draws its order; at a plain operation.
-/
import Derived.Test.YtlmccjmbidfflaaRowAt
namespace Go.Proofs.Ytlmccjmbidfflaa
set_option linter.unusedVariables false
open Go.RowKit

theorem Try.info3 : (Try.prog.info? 3).map (fun i => (i.zero, i.size, i.bytes)) = some (some (.int .i64 0), 1, 8) := by kernel_rfl

/-- append of one integer, at a step of a region that draws its order -/
theorem step_int {w1 : World} {v : Value} {n : Nat} {xs : List Int} {x : Int} {a : Option Addr} {c : Nat} (hrow : RowAt w1 3 1 v n (xs.map (Value.int .i64))) (ev : v = .slice a n c) (hlen : n < 4294967296)
    {ops : Array Oper} {o : Oper} {aa : Act} {K : Act → World → Prop} {Q : Exit → Act → World → Prop} {E : Prop} (wx : World) (G : Nat) (hgd : o.guard = none) (s y : Operand)
    (ho : o.op = .call { callee := .builtin .append, args := #[s, y], argTypes := #[25, 25] }) (hs : aa.eval s = .slice a n c) (hy : aa.eval y = .slice (some ⟨G, 0, none⟩) 1 1)
    (hG : wx.heap[G]? = some (.cells #[.int .i64 x] 3 (0, 0))) (c0 : Ch0 w1 wx)
    (hK : ∀ a' c' w', RowAt w' 3 1 (.slice a' (n + 1) c') (n + 1) ((xs ++ [x]).map (Value.int .i64)) → Ch (fun k => rblk v = some k) wx w' → (rblk (.slice a' (n + 1) c') = rblk v ∨ rblk (.slice a' (n + 1) c') = some wx.heap.size) →
      Ch0 w1 wx → K (aa.put o.dst (.slice a' (n + 1) c')) w') :
    if Region.wanted o (yielded ops aa.tmps) = true then Oper.wp Try.prog o aa wx K Q else E := by
  obtain ⟨i0, hi, hz0, hz1, hz2⟩ := info_parts Try.info3
  refine step_append_at (P := Try.prog) hgd s y 25 ho 3 i0 _ 1 8 Try.underlying25 hi hz0 hz1 hz2 rfl v n (xs.map (Value.int .i64)) (hs.trans ev.symm) (hrow.keep c0 (fun _ _ q => q)) _ 1 [.int .i64 x] hy (sees_one_cell hG) (one_ints [x]) ?_ ?_ ?_
  · unfold maxLen; omega
  · omega
  · intro a' c' w' h2 h3 h4
    refine hK a' c' w' ?_ h3 h4 c0
    simpa using h2

/-- append of one integer, its run -/
theorem run_int {w : World} {v : Value} {n : Nat} {xs : List Int} (hrow : RowAt w 3 1 v n (xs.map (Value.int .i64))) (hlen : n < 4294967296) (G : Nat) (x : Int)
    (hG : w.heap[G]? = some (.cells #[.int .i64 x] 3 (0, 0))) (ty : TypeId) :
    ∃ a' c' w', (Builtin.append_ #[25, 25] ty #[v, .slice (some ⟨G, 0, none⟩) 1 1]).run Try.prog w = .ok (.slice a' (n + 1) c') w' ∧ RowAt w' 3 1 (.slice a' (n + 1) c') (n + 1) ((xs ++ [x]).map (Value.int .i64)) ∧
      Ch (fun k => rblk v = some k) w w' ∧ (rblk (.slice a' (n + 1) c') = rblk v ∨ rblk (.slice a' (n + 1) c') = some w.heap.size) := by
  obtain ⟨i0, hi, hz0, hz1, hz2⟩ := info_parts Try.info3
  obtain ⟨v', w', hrun, h2, h3, h4⟩ := append_at w 25 ty 3 i0 _ 1 8 Try.underlying25 hi hz0 hz1 hz2 rfl v n _ hrow _ 1 [.int .i64 x] (sees_one_cell hG) (one_ints [x]) (by unfold maxLen; omega) (by omega)
  obtain ⟨a', c', rfl, -, -⟩ := h2.isSlice
  exact ⟨a', c', w', hrun, by simpa using h2, h3, h4⟩

/-- append of all of a slice of integers, its run -/
theorem run_ints {w : World} {v : Value} {n : Nat} {xs : List Int} (hrow : RowAt w 3 1 v n (xs.map (Value.int .i64))) (hlen : n < 4294967296) {D : Nat → Prop} {y : Value} {ys : List Int}
    (hy : SeesI D w y ys) (hlen2 : ys.length < 4294967296) (ty : TypeId) :
    ∃ a' c' w', (Builtin.append_ #[25, 25] ty #[v, y]).run Try.prog w = .ok (.slice a' (n + ys.length) c') w' ∧ RowAt w' 3 1 (.slice a' (n + ys.length) c') (n + ys.length) ((xs ++ ys).map (Value.int .i64)) ∧
      Ch (fun k => rblk v = some k) w w' ∧ (rblk (.slice a' (n + ys.length) c') = rblk v ∨ rblk (.slice a' (n + ys.length) c') = some w.heap.size) := by
  obtain ⟨i0, hi, hz0, hz1, hz2⟩ := info_parts Try.info3
  obtain ⟨v', w', hrun, h2, h3, h4⟩ := append_at w 25 ty 3 i0 _ 1 8 Try.underlying25 hi hz0 hz1 hz2 rfl v n _ hrow _ _ _ hy (one_ints ys) (by unfold maxLen; omega) (by omega)
  obtain ⟨a', c', rfl, -, -⟩ := h2.isSlice
  exact ⟨a', c', w', hrun, by simpa using h2, h3, h4⟩

end Go.Proofs.Ytlmccjmbidfflaa
