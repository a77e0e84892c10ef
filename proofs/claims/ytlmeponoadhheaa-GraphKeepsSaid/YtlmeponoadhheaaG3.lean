/-
  Contracts of slices.Clone at integers, (*graph.Graph).Node.
-/
import Derived.Test.YtlmeponoadhheaaG2
import Derived.Deep.RegionHeld3
import Derived.Deep.DrawnRows
namespace Go.Proofs.Ytlmeponoadhheaa
set_option linter.unusedVariables false
open Go.RowKit

theorem row_ne_cells {w : World} {e T : TypeId} {size : Nat} {v : Value} {n : Nat} {xs : List Value} {cs : Array Value} {k : Nat} (h : RowAt w e size v n xs) (hb : w.heap[k]? = some (.cells cs T (0, 0))) (hT : T ≠ e) : ∀ i, rblk v = some i → ¬ i = k := by
  rintro i hi rfl
  obtain ⟨cur, hc⟩ := h.block hi
  rw [hb] at hc; cases hc; exact hT rfl

set_option maxHeartbeats 400000 in
theorem clone_ints (D : Nat → Prop) (v : Value) (xs : List Int) (w : World) (h : SeesI D w v xs) (hb : xs.length ≤ 1000000) :
    Calls Try.prog 101 #[v] w fun e w' => ∃ u, e = .returned u ∧ RowAt w' 3 1 u xs.length (xs.map (Value.int .i64)) ∧ (∀ k, rblk u = some k → w.heap.size ≤ k) ∧ Ch0 w w' := by
  have hsees := h.keep (((Ch.refl (fun _ => False) w)).alloc (.cells #[] 3)) (fun _ _ q => q)
  obtain ⟨h0, a, c, rfl, hc, hm, hl⟩ := h
  cases a with
  | none =>
    have hx : xs.length = 0 := by
      rcases hl with hl | ⟨g, o, _, hn, _⟩
      · exact hl
      · cases hn
    obtain rfl : xs = [] := List.eq_nil_of_length_eq_zero hx
    have hnil : (binOp .eql 34 (.slice none 0 c) (.slice none 0 0)).run Try.prog w = .ok (.bool true) w := Lib.run_eql_slice_nil w 34 3 none 0 c 0 0 Try.underlying34
    clear h0 hl hx hsees
    go_enter Try.func101, Try.ntmps101
    go_wp2
    go_ret
    exact ⟨_, rfl, RowAt.nil, (fun k hk => by cases hk), Ch.refl _ _⟩
  | some a =>
    have hnil : (binOp .eql 34 (.slice (some a) xs.length c) (.slice none 0 0)).run Try.prog w = .ok (.bool false) w := Lib.run_eql_slice_nil w 34 3 (some a) _ c 0 0 Try.underlying34
    have hrow : RowAt (w.alloc (.cells #[] 3)) 3 1 (.slice (some ⟨w.heap.size, 0, none⟩) 0 0) 0 (([] : List Int).map (Value.int .i64)) :=
      ⟨rfl, .inr ⟨w.heap.size, 0, 0, _, rfl, heap_alloc_new w _, Nat.le_refl _, by decide, by simp, rfl⟩⟩
    obtain ⟨a', c', w', hrun, r4, d4, b4⟩ := run_ints hrow (by omega) hsees (by omega) 34
    have HE : Hid (RowAt w' 3 1 (.slice a' (0 + xs.length) c') xs.length (xs.map (Value.int .i64)) ∧ (∀ k, rblk (.slice a' (0 + xs.length) c') = some k → w.heap.size ≤ k) ∧ Ch0 w w') := by
      refine Lib.hid ⟨by simpa using r4, fun k hk => ?_, ((Ch.refl _ w).alloc _).trans' d4 (fun _ _ q => q) (fun i hi q => by simp [rblk] at q; omega)⟩
      rcases b4 with e | e
      · rw [hk] at e; simp [rblk] at e; omega
      · rw [hk] at e; simp at e; omega
    simp only [Nat.zero_add] at hrun HE
    clear hsees hrow r4 d4 b4 hl h0
    go_enter Try.func101, Try.ntmps101
    go_wp2_with (at_builtin; refine wpList_append_run rfl _ _ 34 34 rfl rfl rfl hrun ?_)
    go_wp2
    go_ret
    exact ⟨_, rfl, HE.out.1, HE.out.2.1, HE.out.2.2⟩

section
variable {w : World} {b : Nat} {O : Nat → Prop} {tv : Value} {L : List GN}

/-- a node's copy -/
structure Copy (w w' : World) (nd : GN) (v : Value) (vr vd : Value) : Prop where
  v : v = .agg #[.int .i64 nd.id, .int .i64 nd.cls, vr, vd, .bool nd.fin]
  refs : RowAt w' 3 1 vr nd.refs.length (nd.refs.map (Value.int .i64))
  data : RowAt w' 3 1 vd nd.data.length (nd.data.map (Value.int .i64))
  fr : ∀ k, rblk vr = some k → w.heap.size ≤ k
  fd : ∀ k, rblk vd = some k → w.heap.size ≤ k
  apart : ∀ k, rblk vr = some k → rblk vd ≠ some k

set_option maxRecDepth 100000 in
set_option maxHeartbeats 1000000 in
theorem node_yes (h : Gr w b O tv L) {nd : GN} (hnd : nd ∈ L) (hr : nd.refs.length ≤ 1000000) (hd : nd.data.length ≤ 1000000) :
    Calls Try.prog 33 #[.pointer (some ⟨b, 0, none⟩), .int .i64 nd.id] w fun e w' => ∃ v vr vd, e = .returned (.tuple #[v, .int .i64 0]) ∧ Copy w w' nd v vr vd ∧ Ch0 w w' := by
  obtain ⟨r, n, pn, vr, vd, ow, h⟩ := h
  have hid : nd.id ∈ ids L := List.mem_map.2 ⟨nd, hnd, rfl⟩
  have hN := h.node nd hnd
  have hz : (zeroValue 36).run Try.prog w = .ok (.agg #[.int .i64 0, .int .i64 0, .slice none 0 0, .slice none 0 0, .bool false]) w := by
    have h : ∃ i, Try.prog.info? 36 = some i ∧ i.zero = some (.agg #[.int .i64 0, .int .i64 0, .slice none 0 0, .slice none 0 0, .bool false]) := by
      have e : (Try.prog.info? 36).map (fun i => i.zero) = some (some (.agg #[.int .i64 0, .int .i64 0, .slice none 0 0, .slice none 0 0, .bool false])) := by kernel_rfl
      rw [Option.map_eq_some_iff] at e
      exact e
    obtain ⟨i, h1, h2⟩ := h
    simp [zeroValue, typeInfo, h1, h2, Result.andThen]
  have hlk : ∀ w', Ch0 w w' → Calls Try.prog 99 #[.pointer (some ⟨b, 0, none⟩), .int .i64 nd.id] w' fun e w'' => e = .returned (.pointer (some ⟨pn nd.id, 0, none⟩)) ∧ SameW w' w'' := fun w' c => look_yes (h.keep c (fun _ _ e => e)) hid
  generalize hp : pn nd.id = p at *
  obtain ⟨a1, c1, hV1, -, -⟩ := hN.refs.isSlice
  obtain ⟨a2, c2, hV2, -, -⟩ := hN.data.isSlice
  rw [hV1, hV2] at hN
  obtain ⟨k0, k1, k2, k3, k4⟩ := hN.cells
  have HL := Lib.hid hlk
  have HN := Lib.hid hN
  have HC1 : Hid (∀ w', Ch0 w w' → _) := Lib.hid (fun w' c => clone_ints _ (.slice a1 nd.refs.length c1) nd.refs w' (hN.refs.sees.keep c (fun _ _ e => e)) hr)
  have HC2 : Hid (∀ w', Ch0 w w' → _) := Lib.hid (fun w' c => clone_ints _ (.slice a2 nd.data.length c2) nd.data w' (hN.data.sees.keep c (fun _ _ e => e)) hd)
  clear h hid hN hlk hr hd hp hV1 hV2 hnd
  have hpl : p < w.heap.size := lt_of_block HN.out.blk
  have cA : Ch0 w (w.alloc (.cells #[.int .i64 0, .int .i64 0, .slice none 0 0, .slice none 0 0, .bool false] 36)) := (Ch.refl _ _).alloc _
  have j0 := cA.cell k0 (fun e => e)
  have j1 := cA.cell k1 (fun e => e)
  have j2 := cA.cell k2 (fun e => e)
  have j3 := cA.cell k3 (fun e => e)
  have j4 := cA.cell k4 (fun e => e)
  go_enter Try.func33, Try.ntmps33
  go_wp2_with fail
  refine (HL.out _ cA).mono ?_
  rintro e w1 ⟨rfl, hs⟩
  obtain rfl := hs
  have cB := cA.alloc (.cells #[.int .i64 nd.id, .int .i64 nd.cls, .slice a1 nd.refs.length c1, .slice a2 nd.data.length c2, .bool nd.fin] 36)
  have B7 := heap_alloc_new (w.alloc (.cells #[.int .i64 0, .int .i64 0, .slice none 0 0, .slice none 0 0, .bool false] 36)) (.cells #[.int .i64 nd.id, .int .i64 nd.cls, .slice a1 nd.refs.length c1, .slice a2 nd.data.length c2, .bool nd.fin] 36)
  have B4 := ((Ch.refl (fun _ => False) _).alloc (.cells #[.int .i64 nd.id, .int .i64 nd.cls, .slice a1 nd.refs.length c1, .slice a2 nd.data.length c2, .bool nd.fin] 36)).keep (heap_alloc_new w (.cells #[.int .i64 0, .int .i64 0, .slice none 0 0, .slice none 0 0, .bool false] 36)) (fun e => e)
  rw [World.size_alloc] at B7
  have i2 := cB.cell k2 (fun e => e)
  have i3 := cB.cell k3 (fun e => e)
  go_wp2_with fail
  clear cA j0 j1 j2 j3 j4 k0 k1 k2 k3 k4
  generalize (w.alloc (.cells #[.int .i64 0, .int .i64 0, .slice none 0 0, .slice none 0 0, .bool false] 36)).alloc (.cells #[.int .i64 nd.id, .int .i64 nd.cls, .slice a1 nd.refs.length c1, .slice a2 nd.data.length c2, .bool nd.fin] 36) = W2 at *
  have B7' : W2.drew.heap[w.heap.size + 1]? = _ := B7
  have i2' : W2.drew.cell? _ = _ := i2
  have i3' : W2.drew.cell? _ = _ := i3
  have hB7 := Lib.hid B7'
  have hB4 : Hid (W2.drew.heap[w.heap.size]? = _) := Lib.hid B4
  have cC := Lib.hid cB.drew
  clear B7 B7' B4 cB
  obtain ⟨B, hB⟩ : ∃ B, w.heap.size = B := ⟨_, rfl⟩
  rw [hB] at hB7 hB4 ⊢
  have hne : p ≠ B + 1 := by omega
  have hne' : B + 1 ≠ p := by omega
  replace hB := Lib.hid hB
  clear hpl
  go_region_held3 (fun w' => w'.cell? ⟨p, 2, none⟩ = some (.slice a1 nd.refs.length c1) ∧ w'.cell? ⟨p, 3, none⟩ = some (.slice a2 nd.data.length c2))
    (first | go_keep | exact ⟨cy.cell (cx.cell i2' (fun e => e)) (fun e => e), cy.cell (cx.cell i3' (fun e => e)) (fun e => e)⟩ | exact ⟨cx.cell (cy.cell i2' (fun e => e)) (fun e => e), cx.cell (cy.cell i3' (fun e => e)) (fun e => e)⟩ | exact ⟨cx.cell i2' (fun e => e), cx.cell i3' (fun e => e)⟩ | exact ⟨cy.cell i2' (fun e => e), cy.cell i3' (fun e => e)⟩)
    (first
      | (go_at_call_of 101 (Value.slice a1 nd.refs.length c1); refine (HC1.out _ ?_).mono ?_; (first | exact cC.out | exact cC.out.trans cy); rintro e wx ⟨u1, rfl, r1, f1, cx⟩; obtain ⟨a3, c3, rfl, -, -⟩ := r1.isSlice; (first | have gx := cx.keep gy (fun e => e) | have gx := cx.keep hB7.out (fun e => e)); have qx2 := cell_of_row wx _ 2 _ _ _ gx; have qx3 := cell_of_row wx _ 3 _ _ _ gx; have fx2 := frozen_of_row wx _ 2 _ _ gx; have fx3 := frozen_of_row wx _ 3 _ _ gx)
      | (go_at_call_of 101 (Value.slice a2 nd.data.length c2); refine (HC2.out _ ?_).mono ?_; (first | exact cC.out | exact cC.out.trans cx); rintro e wy ⟨u2, rfl, r2, f2, cy⟩; obtain ⟨a4, c4, rfl, -, -⟩ := r2.isSlice; (first | have gy := cy.keep gx (fun e => e) | have gy := cy.keep hB7.out (fun e => e)); have qy2 := cell_of_row wy _ 2 _ _ _ gy; have qy3 := cell_of_row wy _ 3 _ _ _ gy; have fy2 := frozen_of_row wy _ 2 _ _ gy; have fy3 := frozen_of_row wy _ 3 _ _ gy))
  have s2 : Ch (fun k => k = B + 1) wy ((wy.setCell ⟨B + 1, 2, none⟩ (.slice a3 nd.refs.length c3)).setCell ⟨B + 1, 3, none⟩ (.slice a4 nd.data.length c4)) :=
    (Ch.setCell (S := fun k => k = B + 1) (Ch.refl _ _) (p := ⟨B + 1, 2, none⟩) (fun _ => rfl) _).setCell (p := ⟨B + 1, 3, none⟩) (fun _ => rfl) _
  have gz := heap_setCell_same _ (B + 1) 3 _ _ (.slice a4 nd.data.length c4) (heap_setCell_same wy (B + 1) 2 _ _ (.slice a3 nd.refs.length c3) gy)
  have gB := s2.keep (cy.keep (cx.keep hB4.out (fun e => e)) (fun e => e)) (show ¬ B = B + 1 by omega)
  have e1 : RowAt _ 3 1 (.slice a3 nd.refs.length c3) nd.refs.length (nd.refs.map (Value.int .i64)) := (r1.keep cy (fun _ _ e => e)).keep s2 (row_ne_cells (r1.keep cy (fun _ _ e => e)) gy (by decide))
  have e2 : RowAt _ 3 1 (.slice a4 nd.data.length c4) nd.data.length (nd.data.map (Value.int .i64)) := r2.keep s2 (row_ne_cells r2 gy (by decide))
  have eW : Ch0 w _ := ((cC.out.trans cx).trans cy).trans' s2 (fun _ _ e => e) (fun k hk e => by have := hB.out; omega)
  have ew1 : ∀ k, rblk (.slice a3 nd.refs.length c3) = some k → w.heap.size ≤ k := fun k hk => by have := f1 k hk; have := cC.out.size; omega
  have ew2 : ∀ k, rblk (.slice a4 nd.data.length c4) = some k → wx.heap.size ≤ k := f2
  have ap : ∀ k, rblk (.slice a3 nd.refs.length c3) = some k → rblk (.slice a4 nd.data.length c4) ≠ some k := fun k h1 h2 => by have := r1.lt h1; have := f2 k h2; omega
  have ew3 : ∀ k, rblk (.slice a4 nd.data.length c4) = some k → w.heap.size ≤ k := fun k hk => by have := f2 k hk; have := (cC.out.trans cx).size; omega
  rename_i hheld
  clear hheld
  replace gz : ((wy.setCell ⟨B + 1, 2, none⟩ (.slice a3 nd.refs.length c3)).setCell ⟨B + 1, 3, none⟩ (.slice a4 nd.data.length c4)).heap[B + 1]? = some (.cells #[.int .i64 nd.id, .int .i64 nd.cls, .slice a3 nd.refs.length c3, .slice a4 nd.data.length c4, .bool nd.fin] 36 (0, 0)) := gz
  generalize ((wy.setCell ⟨B + 1, 2, none⟩ (.slice a3 nd.refs.length c3)).setCell ⟨B + 1, 3, none⟩ (.slice a4 nd.data.length c4)) = W3 at *
  clear r1 r2 f1 f2 ew2 gx gy qx2 qx3 fx2 fx3 qy2 qy3 fy2 fy3 cx cy s2 i2 i3 i2' i3'
  have sB : ∀ (W : World) (vv : Value), Ch0 w W → W.heap[B]? = some (.cells #[.int .i64 0, .int .i64 0, .slice none 0 0, .slice none 0 0, .bool false] 36 (0, 0)) → Ch (fun k => k = B) W (((((W.setCell ⟨B, 0, none⟩ (.int .i64 nd.id)).setCell ⟨B, 1, none⟩ (.int .i64 nd.cls)).setCell ⟨B, 2, none⟩ (.slice a3 nd.refs.length c3)).setCell ⟨B, 3, none⟩ (.slice a4 nd.data.length c4)).setCell ⟨B, 4, none⟩ (.bool nd.fin)) := fun W vv _ _ =>
    (((((Ch.refl (fun k => k = B) W).setCell (p := ⟨B, 0, none⟩) (fun _ => rfl) _).setCell (p := ⟨B, 1, none⟩) (fun _ => rfl) _).setCell (p := ⟨B, 2, none⟩) (fun _ => rfl) _).setCell (p := ⟨B, 3, none⟩) (fun _ => rfl) _).setCell (p := ⟨B, 4, none⟩) (fun _ => rfl) _
  have hs4 := sB W3 (.bool true) eW gB
  have q0 := cell_of_row W3 (B + 1) 0 _ _ _ gz
  have q1 := cell_of_row W3 (B + 1) 1 _ _ _ gz
  have q2 := cell_of_row W3 (B + 1) 2 _ _ _ gz
  have q3 := cell_of_row W3 (B + 1) 3 _ _ _ gz
  have q4 := cell_of_row W3 (B + 1) 4 _ _ _ gz
  have z0 := cell_of_row W3 B 0 _ _ _ gB
  have z1 := cell_of_row W3 B 1 _ _ _ gB
  have z2 := cell_of_row W3 B 2 _ _ _ gB
  have z3 := cell_of_row W3 B 3 _ _ _ gB
  have z4 := cell_of_row W3 B 4 _ _ _ gB
  have y0 := frozen_of_row W3 B 0 _ _ gB
  have y1 := frozen_of_row W3 B 1 _ _ gB
  have y2 := frozen_of_row W3 B 2 _ _ gB
  have y3 := frozen_of_row W3 B 3 _ _ gB
  have y4 := frozen_of_row W3 B 4 _ _ gB
  have HE := Lib.hid (And.intro (e1.keep hs4 (row_ne_cells e1 gB (by decide))) (And.intro (e2.keep hs4 (row_ne_cells e2 gB (by decide))) (And.intro ew1 (And.intro ew3 (And.intro ap (eW.trans' hs4 (fun _ _ e => e) (fun k hk e => by have := hB.out; omega)))))))
  clear e1 e2 ew1 ew3 ap eW hs4 sB gz gB
  simp at q0 q1 q2 q3 q4 z0 z1 z2 z3 z4
  go_wp2_with fail
  exact bodyPost_ret (v := .tuple #[.agg #[.int .i64 nd.id, .int .i64 nd.cls, .slice a3 nd.refs.length c3, .slice a4 nd.data.length c4, .bool nd.fin], .int .i64 0]) (by simp [results, Try.results33, go_sem, *]) rfl
    ⟨_, _, _, rfl, ⟨rfl, HE.out.1, HE.out.2.1, HE.out.2.2.1, HE.out.2.2.2.1, HE.out.2.2.2.2.1⟩, HE.out.2.2.2.2.2⟩

end

end Go.Proofs.Ytlmeponoadhheaa
