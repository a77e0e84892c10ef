/-
  A range over a map from which what has come is deleted. General, of no program.
-/
import Derived.Test.YtlmeponoadhheaaMap2
namespace Go.Proofs.Ytlmeponoadhheaa
set_option linter.unusedVariables false
open Go.RowKit
open Go.MapKept (Stamped IsKey stamped_empty stamped_push stamped_modify stamped_erase stamped_iff findNow_spec)
open Go.ChangeMaps (setBlock)

section
variable {P : Program} {w : World} {r n : Nat} {f : Int → Option Value}

/-- What has come is deleted: the range goes on. -/
theorem IR.delete {b : Nat} {left : Int → Bool} {t kt et ty : TypeId} (h : IR w r b n f left) (ht : P.underlying t = some (.map kt et)) (hk : P.underlying kt = some (.int .i64)) (k : Int) (hf : (f k).isSome = true) (hl : left k = false) :
    ∃ w', (Builtin.delete_ #[t, kt] ty #[.map (some r), .int .i64 k]).run P w = .ok (.tuple #[]) w' ∧ IR w' r b (n - 1) (idel f k) left ∧ Ch (fun i => i = r) w w' ∧ w'.heap.size = w.heap.size ∧ iterLeft w' r b = iterLeft w r b := by
  have hlt := h.map.lt
  have hne := h.ne
  obtain ⟨es, clock, since, seen, c0, hb, hs, hn, h1, h2, hi, hold, hsc, hsk, hle, hl2⟩ := h
  rcases ifind h1 h2 k with ⟨a, bb, hne⟩ | ⟨j, e, a, bb, d, g⟩
  · rw [bb] at hf; cases hf
  · have hjl : j < es.toList.length := (List.getElem?_eq_some_iff.1 bb).1
    have hjs : j < es.size := by simpa using hjl
    have hsub : (es.eraseIdxIfInBounds j).toList = es.toList.eraseIdx j := by
      unfold Array.eraseIdxIfInBounds
      rw [dif_pos hjs]
      simp
    have hmem : e ∈ es.toList := List.mem_of_getElem? bb
    have hwho : ∀ x, x ∈ (es.eraseIdxIfInBounds j).toList ↔ (x ∈ es.toList ∧ x.key ≠ .int .i64 k) := by
      intro x
      rw [hsub, List.mem_eraseIdx_iff_getElem?]
      have h4 := List.pairwise_iff_getElem.1 ((stamped_iff es clock).1 hs).2.2
      obtain ⟨p2, q2⟩ := List.getElem?_eq_some_iff.1 bb
      constructor
      · rintro ⟨i, hne, hi⟩
        refine ⟨List.mem_of_getElem? hi, fun q => ?_⟩
        obtain ⟨p1, q1⟩ := List.getElem?_eq_some_iff.1 hi
        rcases Nat.lt_or_gt_of_ne hne with hlt' | hlt'
        · exact h4 i j p1 p2 hlt' (by rw [q1, q2, q, d])
        · exact h4 j i p2 p1 hlt' (by rw [q1, q2, q, d])
      · rintro ⟨hx, hne⟩
        obtain ⟨i, hi⟩ := List.getElem?_of_mem hx
        refine ⟨i, fun e1 => hne ?_, hi⟩
        rw [e1, bb] at hi
        cases hi
        exact d
    have hset := MapKept.heap_set (o' := .map (es.eraseIdxIfInBounds j) clock) hb
    have hi' : (setBlock w r (.map (es.eraseIdxIfInBounds j) clock)).heap[b]? = some (.mapIter (some r) since seen c0) := (hset.2 b hne).trans hi
    refine ⟨setBlock w r (.map (es.eraseIdxIfInBounds j) clock), ?_, ⟨_, _, since, seen, c0, hset.1, stamped_erase hs j, ?_, ?_, ?_, hi', ?_, hsc, hsk, ?_, ?_⟩, ch_setBlock hlt, by simp [setBlock], ?_⟩
    · simp [Builtin.delete_, run_underlying ht, MapKept.run_getObj_map hb, MapKept.run_checkKey (d := .int .i64) hk (k := .int .i64 k) rfl, MapKept.run_findKey hk a, MapKept.run_setObj_map _ hb, setBlock, Result.andThen]
    · have : (es.eraseIdxIfInBounds j).size = (es.toList.eraseIdx j).length := by rw [← hsub, Array.length_toList]
      rw [this, List.length_eraseIdx_of_lt hjl]
      simp [hn]
    · intro x hx
      obtain ⟨hx, hxk⟩ := (hwho x).1 hx
      obtain ⟨i, hi, hfi⟩ := h1 x hx
      refine ⟨i, hi, ?_⟩
      unfold idel
      rw [if_neg]
      · exact hfi
      · rintro rfl; exact hxk hi
    · intro i u hu
      unfold idel at hu
      by_cases hik : i = k
      · rw [if_pos hik] at hu; cases hu
      · rw [if_neg hik] at hu
        obtain ⟨x, hx, hxk⟩ := h2 i u hu
        exact ⟨x, (hwho x).2 ⟨hx, by rw [hxk]; intro q; cases q; exact hik rfl⟩, hxk⟩
    · exact fun x hx => hold x ((hwho x).1 hx).1
    · exact fun x hx => hle x ((hwho x).1 hx).1
    · intro i hi
      unfold idel
      rw [if_neg]
      · exact hl2 i hi
      · rintro rfl; rw [hl] at hi; cases hi
    · have e1 : iterLeft (setBlock w r (.map (es.eraseIdxIfInBounds j) clock)) r b = (leftOf (es.eraseIdxIfInBounds j) seen).size := by unfold iterLeft; rw [show (setBlock w r (.map (es.eraseIdxIfInBounds j) clock)).heap[r]? = some (.map (es.eraseIdxIfInBounds j) clock) from hset.1, hi']
      have e2 : iterLeft w r b = (leftOf es seen).size := by unfold iterLeft; rw [hb, hi]
      rw [e1, e2]
      have hse : seen.contains e.born = true := by
        have := hle e hmem k d
        rw [hl] at this
        cases h : seen.contains e.born with
        | true => rfl
        | false => rw [h] at this; cases this
      unfold leftOf
      have hfil : ((es.eraseIdxIfInBounds j).filter (fun e => !seen.contains e.born)).toList = (es.filter (fun e => !seen.contains e.born)).toList := by
        rw [Array.toList_filter, Array.toList_filter, hsub, List.eraseIdx_eq_take_drop_succ, List.filter_append]
        have hsp : es.toList = es.toList.take j ++ e :: es.toList.drop (j + 1) := by
          obtain ⟨p2, q2⟩ := List.getElem?_eq_some_iff.1 bb
          rw [← q2, List.getElem_cons_drop, List.take_append_drop]
        conv => rhs; rw [hsp]
        rw [List.filter_append, List.filter_cons]
        rw [hse]
        rfl
      rw [← Array.length_toList, hfil, Array.length_toList]

end

end Go.Proofs.Ytlmeponoadhheaa
