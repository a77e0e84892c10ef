/-
  Rows in memory; append on them.
-/
import Derived.Test.YtlmeponoadhheaaCen2
namespace Go.Proofs.Ytlmeponoadhheaa
set_option linter.unusedVariables false
open Go.RowKit

def R5.cells (r : R5) : List Value := [.int .i64 r.cls, .int .i64 r.cnt, .int .i64 r.wds, .int .i64 r.refs, .int .i64 r.fin]
def R5.val (r : R5) : Value := .agg #[.int .i64 r.cls, .int .i64 r.cnt, .int .i64 r.wds, .int .i64 r.refs, .int .i64 r.fin]
def rcells (L : List R5) : List Value := L.flatMap R5.cells

theorem rcells_length (L : List R5) : (rcells L).length = L.length * 5 := by
  induction L with
  | nil => rfl
  | cons a l ih => simp only [rcells, List.flatMap_cons, List.length_append, List.length_cons] at ih ⊢; rw [ih]; simp [R5.cells]; omega

theorem rcells_append (A B : List R5) : rcells (A ++ B) = rcells A ++ rcells B := by simp [rcells]

theorem rcells_get (L : List R5) (j : Nat) (h : j < L.length) (i : Nat) : i < 5 → (rcells L)[j * 5 + i]? = (L[j].cells)[i]? := by
  intro hi
  induction L generalizing j with
  | nil => simp at h
  | cons a l ih =>
    cases j with
    | zero =>
      show (a.cells ++ rcells l)[0 * 5 + i]? = _
      rw [List.getElem?_append_left (by simp [R5.cells]; omega)]
      simp
    | succ j =>
      show (a.cells ++ rcells l)[(j + 1) * 5 + i]? = _
      rw [List.getElem?_append_right (by simp [R5.cells]; omega)]
      have : (j + 1) * 5 + i - a.cells.length = j * 5 + i := by simp [R5.cells]; omega
      rw [this, ih j (by simpa using h)]
      simp

theorem one_rcells (L : List R5) : ∀ u ∈ rcells L, u.oneCell' = true := by
  intro u hu
  obtain ⟨r, hr, hu⟩ := List.mem_flatMap.1 hu
  simp [R5.cells] at hu
  rcases hu with rfl | rfl | rfl | rfl | rfl <;> rfl

/-- a slice of rows -/
def SeesR (D : Nat → Prop) (w : World) (v : Value) (L : List R5) : Prop := Sees D w v 5 L.length (rcells L)

theorem SeesR.len {D : Nat → Prop} {w : World} {v : Value} {L : List R5} (h : SeesR D w v L) : ∃ a c, v = .slice a L.length c ∧ L.length ≤ c := by
  obtain ⟨-, a, c, hv, hn, -, -⟩ := h
  exact ⟨a, c, hv, hn⟩

/-- its cells -/
theorem SeesR.row {D : Nat → Prop} {w : World} {v : Value} {L : List R5} (h : SeesR D w v L) (hp : 0 < L.length) : ∃ g o c, D g ∧ v = .slice (some ⟨g, o, none⟩) L.length c ∧ ∀ j (hj : j < L.length),
    w.cell? ⟨g, o + j * 5, none⟩ = some (.int .i64 L[j].cls) ∧ w.cell? ⟨g, o + j * 5 + 1, none⟩ = some (.int .i64 L[j].cnt) ∧ w.cell? ⟨g, o + j * 5 + 2, none⟩ = some (.int .i64 L[j].wds) ∧
      w.cell? ⟨g, o + j * 5 + 3, none⟩ = some (.int .i64 L[j].refs) ∧ w.cell? ⟨g, o + j * 5 + 4, none⟩ = some (.int .i64 L[j].fin) := by
  obtain ⟨h0, a, c, hv, hn, hm, hl⟩ := h
  rcases hl with hl | ⟨g, o, hg, rfl, hi⟩
  · omega
  · refine ⟨g, o, c, hg, hv, fun j hj => ⟨?_, ?_, ?_, ?_, ?_⟩⟩
    · exact hi (j * 5) _ (by rw [show j * 5 = j * 5 + 0 from rfl, rcells_get L j hj 0 (by omega)]; rfl)
    · rw [Nat.add_assoc]; exact hi (j * 5 + 1) _ (by rw [rcells_get L j hj 1 (by omega)]; rfl)
    · rw [Nat.add_assoc]; exact hi (j * 5 + 2) _ (by rw [rcells_get L j hj 2 (by omega)]; rfl)
    · rw [Nat.add_assoc]; exact hi (j * 5 + 3) _ (by rw [rcells_get L j hj 3 (by omega)]; rfl)
    · rw [Nat.add_assoc]; exact hi (j * 5 + 4) _ (by rw [rcells_get L j hj 4 (by omega)]; rfl)

theorem SeesR.keep {S D : Nat → Prop} {w w' : World} {v : Value} {L : List R5} (h : SeesR D w v L) (hc : Ch S w w') (hn : ∀ k, D k → ¬ S k) : SeesR D w' v L := Sees.keep h hc hn

theorem zeroC (w : World) : (zeroValue 106).run Try.prog w = .ok R5.zero.val w := by
  have : (Try.prog.info? 106).map (fun i => i.zero) = some (some R5.zero.val) := by kernel_rfl
  obtain ⟨i, hi, hz⟩ := Option.map_eq_some_iff.1 this
  simp [zeroValue, typeInfo, hi, hz]

theorem zeroR (w : World) : (zeroValue 110).run Try.prog w = .ok R5.zero.val w := by
  have : (Try.prog.info? 110).map (fun i => i.zero) = some (some R5.zero.val) := by kernel_rfl
  obtain ⟨i, hi, hz⟩ := Option.map_eq_some_iff.1 this
  simp [zeroValue, typeInfo, hi, hz]

theorem Try.info106 : (Try.prog.info? 106).map (fun i => (i.zero, i.size, i.bytes)) = some (some R5.zero.val, 5, 40) := by kernel_rfl
theorem Try.info110 : (Try.prog.info? 110).map (fun i => (i.zero, i.size, i.bytes)) = some (some R5.zero.val, 5, 40) := by kernel_rfl
theorem Try.under101 : Try.prog.underlying 101 = some (.slice 106) := by kernel_rfl
theorem Try.under103 : Try.prog.underlying 103 = some (.slice 110) := by kernel_rfl

/-- append of the program's rows, its run -/
theorem run_crows {w : World} {v : Value} {L : List R5} (hrow : RowAt w 106 5 v L.length (rcells L)) (hlen : L.length < 4294967296) {D : Nat → Prop} {y : Value} {M : List R5}
    (hy : SeesR D w y M) (hlen2 : M.length < 4294967296) (ty : TypeId) :
    ∃ a' c' w', (Builtin.append_ #[101, 101] ty #[v, y]).run Try.prog w = .ok (.slice a' (L.length + M.length) c') w' ∧ RowAt w' 106 5 (.slice a' (L.length + M.length) c') (L ++ M).length (rcells (L ++ M)) ∧
      Ch (fun k => rblk v = some k) w w' ∧ (rblk (.slice a' (L.length + M.length) c') = rblk v ∨ rblk (.slice a' (L.length + M.length) c') = some w.heap.size) := by
  obtain ⟨i0, hi, hz0, hz1, hz2⟩ := info_parts Try.info106
  obtain ⟨v', w', hrun, h2, h3, h4⟩ := append_at w 101 ty 106 i0 _ 5 40 Try.under101 hi hz0 hz1 hz2 rfl v _ _ hrow _ _ _ hy (one_rcells M) (by unfold maxLen; omega) (by omega)
  obtain ⟨a', c', rfl, -, -⟩ := h2.isSlice
  refine ⟨a', c', w', hrun, ?_, h3, h4⟩
  rw [rcells_append, List.length_append]
  exact h2

theorem run_rrows {w : World} {v : Value} {L : List R5} (hrow : RowAt w 110 5 v L.length (rcells L)) (hlen : L.length < 4294967296) {D : Nat → Prop} {y : Value} {M : List R5}
    (hy : SeesR D w y M) (hlen2 : M.length < 4294967296) (ty : TypeId) :
    ∃ a' c' w', (Builtin.append_ #[103, 103] ty #[v, y]).run Try.prog w = .ok (.slice a' (L.length + M.length) c') w' ∧ RowAt w' 110 5 (.slice a' (L.length + M.length) c') (L ++ M).length (rcells (L ++ M)) ∧
      Ch (fun k => rblk v = some k) w w' ∧ (rblk (.slice a' (L.length + M.length) c') = rblk v ∨ rblk (.slice a' (L.length + M.length) c') = some w.heap.size) := by
  obtain ⟨i0, hi, hz0, hz1, hz2⟩ := info_parts Try.info110
  obtain ⟨v', w', hrun, h2, h3, h4⟩ := append_at w 103 ty 110 i0 _ 5 40 Try.under103 hi hz0 hz1 hz2 rfl v _ _ hrow _ _ _ hy (one_rcells M) (by unfold maxLen; omega) (by omega)
  obtain ⟨a', c', rfl, -, -⟩ := h2.isSlice
  refine ⟨a', c', w', hrun, ?_, h3, h4⟩
  rw [rcells_append, List.length_append]
  exact h2

/-- a block of one row, as a slice of one element -/
theorem sees_one5 {w : World} {g : Nat} {r : R5} {T : TypeId} (h : w.heap[g]? = some (.cells #[.int .i64 r.cls, .int .i64 r.cnt, .int .i64 r.wds, .int .i64 r.refs, .int .i64 r.fin] T (0, 0))) : SeesR (fun k => k = g) w (.slice (some ⟨g, 0, none⟩) 1 1) [r] := by
  refine ⟨rfl, _, 1, rfl, Nat.le_refl _, by decide, .inr ⟨g, 0, rfl, rfl, fun i u hu => ?_⟩⟩
  rw [Nat.zero_add, cell_of_row w g i _ _ _ h]
  simpa [rcells, R5.cells] using hu

/-- rows of their own -/
def HasR (w : World) (T : TypeId) (D : Nat → Prop) (v : Value) (L : List R5) : Prop := RowAt w T 5 v L.length (rcells L) ∧ ∀ k, rblk v = some k → D k

theorem HasR.sees {w : World} {T : TypeId} {D : Nat → Prop} {v : Value} {L : List R5} (h : HasR w T D v L) : SeesR D w v L := by
  obtain ⟨h0, a, c, hv, hn, hm, hl⟩ := h.1.sees
  refine ⟨h0, a, c, hv, hn, hm, hl.imp id ?_⟩
  rintro ⟨g, o, hg, r⟩
  exact ⟨g, o, h.2 g hg, r⟩

theorem HasR.keep {S D : Nat → Prop} {w w' : World} {T : TypeId} {v : Value} {L : List R5} (h : HasR w T D v L) (hc : Ch S w w') (hn : ∀ k, D k → ¬ S k) : HasR w' T D v L :=
  ⟨h.1.keep hc (fun k hk => hn k (h.2 k hk)), h.2⟩

theorem HasR.mono {D E : Nat → Prop} {w : World} {T : TypeId} {v : Value} {L : List R5} (h : HasR w T D v L) (hd : ∀ k, D k → E k) : HasR w T E v L := ⟨h.1, fun k hk => hd k (h.2 k hk)⟩

/-- a row in a block: its cells -/
theorem cells5 {w : World} {b : Nat} {T : TypeId} {c0 c1 c2 c3 c4 : Value} (h : w.heap[b]? = some (.cells #[c0, c1, c2, c3, c4] T (0, 0))) :
    w.cell? ⟨b, 0, none⟩ = some c0 ∧ w.cell? ⟨b, 1, none⟩ = some c1 ∧ w.cell? ⟨b, 2, none⟩ = some c2 ∧ w.cell? ⟨b, 3, none⟩ = some c3 ∧ w.cell? ⟨b, 4, none⟩ = some c4 :=
  ⟨cell_of_row w b 0 _ _ _ h, cell_of_row w b 1 _ _ _ h, cell_of_row w b 2 _ _ _ h, cell_of_row w b 3 _ _ _ h, cell_of_row w b 4 _ _ _ h⟩

theorem free5 {w : World} {b : Nat} {T : TypeId} {cs : Array Value} (h : w.heap[b]? = some (.cells cs T (0, 0))) :
    w.frozen? ⟨b, 0, none⟩ = false ∧ w.frozen? ⟨b, 1, none⟩ = false ∧ w.frozen? ⟨b, 2, none⟩ = false ∧ w.frozen? ⟨b, 3, none⟩ = false ∧ w.frozen? ⟨b, 4, none⟩ = false :=
  ⟨frozen_of_row w b 0 _ _ h, frozen_of_row w b 1 _ _ h, frozen_of_row w b 2 _ _ h, frozen_of_row w b 3 _ _ h, frozen_of_row w b 4 _ _ h⟩

/-- .. stored anew -/
theorem set5 {w : World} {b : Nat} {T : TypeId} {c0 c1 c2 c3 c4 : Value} (h : w.heap[b]? = some (.cells #[c0, c1, c2, c3, c4] T (0, 0))) (v0 v1 v2 v3 v4 : Value) :
    (((((w.setCell ⟨b, 0, none⟩ v0).setCell ⟨b, 1, none⟩ v1).setCell ⟨b, 2, none⟩ v2).setCell ⟨b, 3, none⟩ v3).setCell ⟨b, 4, none⟩ v4).heap[b]? = some (.cells #[v0, v1, v2, v3, v4] T (0, 0)) ∧
      Ch (fun k => k = b) w (((((w.setCell ⟨b, 0, none⟩ v0).setCell ⟨b, 1, none⟩ v1).setCell ⟨b, 2, none⟩ v2).setCell ⟨b, 3, none⟩ v3).setCell ⟨b, 4, none⟩ v4) := by
  have h0 := heap_setCell_same w b 0 _ T v0 h
  have h1 := heap_setCell_same _ b 1 _ T v1 h0
  have h2 := heap_setCell_same _ b 2 _ T v2 h1
  have h3 := heap_setCell_same _ b 3 _ T v3 h2
  have h4 := heap_setCell_same _ b 4 _ T v4 h3
  refine ⟨h4, ?_⟩
  refine Ch.setCell (Ch.setCell (Ch.setCell (Ch.setCell (Ch.setCell (Ch.refl _ w) ?_ _) ?_ _) ?_ _) ?_ _) ?_ _ <;> exact fun _ => rfl

end Go.Proofs.Ytlmeponoadhheaa
