/-
  slices.SortFunc of rows by class.
-/
import Derived.Test.YtlmeponoadhheaaCShelf
import Derived.Test.YtlmeponoadhheaaCenV
namespace Go.Proofs.Ytlmeponoadhheaa
set_option linter.unusedVariables false
open Go.RowKit Go.Sort Go.Lib Go.Shelf

theorem flatK_rcells (d : Array R5) : (flatK R5.cells 5 d).toList = rcells d.toList := by
  apply List.ext_getElem?
  intro t
  by_cases ht : t < d.size * 5
  · rw [Array.getElem?_toList, Array.getElem?_eq_getElem (by simpa using ht)]
    have h1 := get_flatK R5.cells 5 d t ht
    rw [getElem!_pos _ t (by simpa using ht)] at h1
    rw [h1]
    have hj : t / 5 < d.toList.length := by rw [Array.length_toList]; omega
    have h2 := rcells_get d.toList (t / 5) hj (t % 5) (Nat.mod_lt _ (by omega))
    rw [show t / 5 * 5 + t % 5 = t by omega] at h2
    rw [h2, getElem!_pos d (t / 5) (by simpa using hj)]
    have h5 : t % 5 < (R5.cells d.toList[t / 5]).length := by simp [R5.cells]; omega
    rw [List.getElem?_eq_getElem h5, List.getElem!_eq_getElem?_getD, Array.getElem_toList]
    have h5' : t % 5 < (R5.cells d[t / 5]).length := by simp [R5.cells]; omega
    rw [List.getElem?_eq_getElem h5']
    rfl
  · rw [List.getElem?_eq_none (by simp; omega), List.getElem?_eq_none (by rw [rcells_length]; simp; omega)]

theorem putCells_take (F cur : Array Value) (o : Nat) (h : o + F.size ≤ cur.size) : (((putCells id o F cur).toList).drop o).take F.size = F.toList := by
  apply List.ext_getElem?
  intro t
  rw [List.getElem?_take]
  split
  · rename_i ht
    rw [List.getElem?_drop, Array.getElem?_toList, Array.getElem?_toList]
    unfold putCells
    rw [Array.getElem?_mapIdx, Array.getElem?_eq_getElem (show o + t < cur.size by omega), Option.map_some, if_pos (by omega), Array.getElem?_eq_getElem ht]
    simp only [id_eq, Nat.add_sub_cancel_left]
    rw [getElem!_pos F t ht]
  · rw [List.getElem?_eq_none (by simp; omega)]

theorem ltCls (x y : R5) : ltOf (fun x y : R5 => Lib.compareInt x.cls y.cls) x y = decide (x.cls < y.cls) := by
  unfold ltOf Lib.compareInt
  by_cases h1 : x.cls < y.cls
  · simp [h1]
  · by_cases h2 : y.cls < x.cls <;> simp [h1, h2]

theorem swoCls : SWO (ltOf fun x y : R5 => Lib.compareInt x.cls y.cls) where
  irrefl x := by rw [ltCls]; simp
  trans x y z h1 h2 := by rw [ltCls] at *; simp at *; omega
  ntrans x y z h1 h2 := by rw [ltCls] at *; simp at *; omega

set_option maxHeartbeats 1000000 in
theorem closureGB (x y : R5) (W : World) : Calls Try.prog 136 #[.agg #[.int .i64 x.cls, .int .i64 x.cnt, .int .i64 x.wds, .int .i64 x.refs, .int .i64 x.fin], .agg #[.int .i64 y.cls, .int .i64 y.cnt, .int .i64 y.wds, .int .i64 y.refs, .int .i64 y.fin]] W fun e w' => e = .returned (.int .i64 (Lib.compareInt x.cls y.cls)) ∧ ∃ q os', w' = grow (W.drewN q) os' := by
  have hcon := fun W' => AnyG.cmp_Compare_int cmpC x.cls y.cls W'
  change ∀ W', Calls Try.prog 137 _ _ _ at hcon
  generalize Lib.compareInt x.cls y.cls = r at hcon ⊢
  go_enter Try.func136, Try.ntmps136
  go_wp2_with (go_at_call 137; refine (hcon _).mono ?_; rintro e w' ⟨rfl, rfl⟩)
  go_ret
  exact ⟨rfl, 0, _, by rw [alloc_eq_grow, alloc_eq_grow, grow_grow]; rfl⟩

theorem cmpGB (blk off size : Nat) (w : World) : CmpLays Try.prog 136 #[] R5.cells 5 (fun x y => Lib.compareInt x.cls y.cls) blk off size w :=
  fun _ _ _ _ x y => closureGB x y _

theorem csort_of (w : World) (v : Value) (L : List R5) (h : RowAt w 106 5 v L.length (rcells L)) (hl : L.length ≤ 1000) :
    Calls Try.prog 135 #[v, .func (.func 136) #[] #[]] w fun e w' => e = .returned (.tuple #[]) ∧ ∃ L' : List R5, L'.Perm L ∧ L'.Pairwise (fun a b => ¬ b.cls < a.cls) ∧ RowAt w' 106 5 v L'.length (rcells L') ∧ Ch (fun k => rblk v = some k) w w' := by
  rcases Nat.eq_zero_or_pos L.length with h0 | hp
  · obtain ⟨a, c, rfl, -, -⟩ := h.isSlice
    have h1 := AnyF.slices_SortFunc_none srtC a c (.func (.func 136) #[] #[]) w
    change Calls Try.prog 135 _ _ _ at h1
    rw [h0]
    refine h1.mono ?_
    rintro e w' ⟨rfl, rfl⟩
    rw [h0] at h
    exact ⟨rfl, L, List.Perm.refl _, by rw [List.eq_nil_of_length_eq_zero h0]; exact List.Pairwise.nil, by rw [h0]; exact h, Ch.refl _ _⟩
  · rcases h.2 with ⟨_, hn⟩ | ⟨g, o, cap, cur, rfl, hg, hnc, hcm, hcs, htk⟩
    · omega
    · have eg : ∀ args w, (callFunc 136 args).run Try.prog w = .ok (.enter 136 args) w := enters_of Try.func136 (by kernel_rfl) rfl
      have hsz : o + L.length * 5 ≤ cur.size := by
        have := Nat.mul_le_mul_right 5 hnc
        omega
      have hH : HoldsK R5.cells 5 w g o L.toArray := by
        intro j hj
        have hj' : j < L.length * 5 := by simpa using hj
        refine ⟨?_, frozen_of_row w g _ _ _ hg⟩
        rw [cell_of_row w g _ _ _ _ hg]
        have h1 : (rcells L)[j]? = cur[o + j]? := by
          rw [← htk, List.getElem?_take, if_pos hj', List.getElem?_drop, Array.getElem?_toList]
        rw [← h1]
        have h2 := congrArg (fun l : List Value => l[j]?) (flatK_rcells L.toArray)
        simp only [Array.getElem?_toList] at h2
        rw [← h2, Array.getElem?_eq_getElem (by simpa using hj'), getElem!_pos _ j (by simpa using hj')]
        rfl
      have hcon := AnyQ.slices_SortFunc srtC 5 Try.isAgg106 Try.sizeOf106 R5.cells (fun _ => rfl) (fun x v hv => by simp [R5.cells] at hv; rcases hv with rfl | rfl | rfl | rfl | rfl <;> rfl) (fun x y => Lib.compareInt x.cls y.cls) swoCls 136 #[] g o cap L.toArray w eg (cmpGB g o _ w) hH (lt_of_block hg) (by simp; omega)
      change Calls Try.prog 135 _ _ _ at hcon
      rw [List.size_toArray] at hcon
      refine hcon.mono ?_
      rintro e w' ⟨rfl, d', n, os, hpm, hso, rfl⟩
      obtain ⟨hs1, -, hpm⟩ := hpm
      have hs1' : d'.size = L.length := hs1.trans (by simp)
      have e1 : d'.extract 0 L.length = d' := by rw [← hs1']; exact Array.extract_size
      have e2 : L.toArray.extract 0 L.length = L.toArray := by
        exact Array.extract_size (xs := L.toArray)
      rw [e1, e2] at hpm
      have hP : d'.toList.Perm L := by simpa using hpm
      have hb : (sortWorldK R5.cells 5 w g o n d' os).heap[g]? = some (.cells (putCells id o (flatK R5.cells 5 d') cur) 106 (0, 0)) := by
        have hlt := lt_of_block hg
        show ((putRowK R5.cells 5 (Sort.ahead w n) g o d').heap ++ os)[g]? = _
        rw [Array.getElem?_append_left (by rw [size_putRowK]; exact hlt)]
        show ((Sort.ahead w n).heap.modify g (onCells (putCells id o (flatK R5.cells 5 d'))))[g]? = _
        rw [Array.getElem?_modify, if_pos rfl]
        show Option.map _ (w.heap[g]?) = _
        rw [hg]
        rfl
      refine ⟨rfl, d'.toList, hP, ?_, ⟨by rw [rcells_length], .inr ⟨g, o, cap, _, ?_, hb, ?_, hcm, ?_, ?_⟩⟩, ?_⟩
      · rw [List.pairwise_iff_getElem]
        intro i j hi hj hij
        have hi' : i < d'.size := by simpa using hi
        have hj' : j < d'.size := by simpa using hj
        have := hso i j (Nat.zero_le _) hij (by omega)
        rw [ltCls, getElem!_pos d' j hj', getElem!_pos d' i hi'] at this
        simpa using this
      · rw [hP.length_eq]
      · rw [hP.length_eq]; exact hnc
      · show o + cap * 5 ≤ (putCells id o (flatK R5.cells 5 d') cur).size
        unfold putCells
        rw [Array.size_mapIdx]; exact hcs
      · rw [← flatK_rcells, hP.length_eq]
        have := putCells_take (flatK R5.cells 5 d') cur o (by rw [size_flatK, hs1']; exact hsz)
        rw [size_flatK, hs1'] at this
        exact this
      · refine ⟨rfl, rfl, rfl, ?_, fun k hk hn => ?_⟩
        · show w.heap.size ≤ ((putRowK R5.cells 5 (Sort.ahead w n) g o d').heap ++ os).size
          rw [Array.size_append, size_putRowK]
          exact Nat.le_add_right _ _
        · have hkg : g ≠ k := fun e => hn (by simp [rblk, e])
          show ((putRowK R5.cells 5 (Sort.ahead w n) g o d').heap ++ os)[k]? = _
          rw [Array.getElem?_append_left (by rw [size_putRowK]; exact hk)]
          show ((Sort.ahead w n).heap.modify g (onCells (putCells id o (flatK R5.cells 5 d'))))[k]? = _
          rw [Array.getElem?_modify, if_neg hkg]
          rfl

end Go.Proofs.Ytlmeponoadhheaa
