/-
  Contracts of the program's census: plus, Total, Most.
-/
import Derived.Test.YtlmeponoadhheaaCenV
namespace Go.Proofs.Ytlmeponoadhheaa
set_option linter.unusedVariables false
open Go.RowKit

theorem blk3 (w : World) (A B C : Obj) : (((w.alloc A).alloc B).alloc C).heap[w.heap.size + 1 + 1]? = some C := by
  have := heap_alloc_new ((w.alloc A).alloc B) C
  simpa using this

/-- small enough that two together are an int -/
def Fit5 (r : R5) : Prop := r.In 1152921504606846976

set_option maxRecDepth 100000 in
set_option maxHeartbeats 4000000 in
theorem plus_of (a b : R5) (t : Int) (ht : t = 1 ∨ t = -1) (ha : Fit5 a) (hb : Fit5 b) (w : World) :
    Calls Try.prog 118 #[a.val, b.val, .int .i64 t] w fun e w' => e = .returned (a.plus b t).val ∧ Ch0 w w' := by
  unfold R5.val R5.plus
  obtain ⟨a0, a1, a2, a3, a4⟩ := a
  obtain ⟨b0, b1, b2, b3, b4⟩ := b
  unfold Fit5 R5.In at ha hb
  simp only at *
  have w1 : wrap64 (t * b1) = t * b1 := IntWalk.wrap64_in _ (by rcases ht with rfl | rfl <;> omega)
  have w2 : wrap64 (t * b2) = t * b2 := IntWalk.wrap64_in _ (by rcases ht with rfl | rfl <;> omega)
  have w3 : wrap64 (t * b3) = t * b3 := IntWalk.wrap64_in _ (by rcases ht with rfl | rfl <;> omega)
  have w4 : wrap64 (t * b4) = t * b4 := IntWalk.wrap64_in _ (by rcases ht with rfl | rfl <;> omega)
  have v1 : wrap64 (a1 + t * b1) = a1 + t * b1 := IntWalk.wrap64_in _ (by rcases ht with rfl | rfl <;> omega)
  have v2 : wrap64 (a2 + t * b2) = a2 + t * b2 := IntWalk.wrap64_in _ (by rcases ht with rfl | rfl <;> omega)
  have v3 : wrap64 (a3 + t * b3) = a3 + t * b3 := IntWalk.wrap64_in _ (by rcases ht with rfl | rfl <;> omega)
  have v4 : wrap64 (a4 + t * b4) = a4 + t * b4 := IntWalk.wrap64_in _ (by rcases ht with rfl | rfl <;> omega)
  clear ha hb ht
  go_enter Try.func118, Try.ntmps118
  go_wp2_with fail
  refine bodyPost_ret (results_cell_row (t := 106) rfl _ _ (w.heap.size + 1 + 1) _ _ _ rfl (blk3 _ _ _ _) Try.underlying106 rfl (by kernel_rfl)) rfl ?_
  exact ⟨rfl, (((Ch.refl _ _).alloc _).alloc _).alloc _⟩
/-- rows of which sums are ints -/
def Few (L : List R5) : Prop := L.length ≤ 500 ∧ ∀ r ∈ L, r.In 1125899906842624

theorem Few.tot {L : List R5} (h : Few L) (j : Nat) : Fit5 (tot (L.take j)) :=
  (tot_in (fun r hr => h.2 r (List.mem_of_mem_take hr))).mono (by have := h.1; simp only [List.length_take]; omega)

theorem Few.fit {L : List R5} (h : Few L) {r : R5} (hr : r ∈ L) : Fit5 r := (h.2 r hr).mono (by omega)

theorem two_blocks (w : World) (A B : Obj) : ((w.alloc A).alloc B).heap[w.heap.size]? = some A ∧ ((w.alloc A).alloc B).heap[w.heap.size + 1]? = some B :=
  ⟨heap_alloc2_old w A B, heap_alloc2_new w A B⟩

set_option maxRecDepth 100000 in
set_option maxHeartbeats 4000000 in
theorem total_of (D : Nat → Prop) (v : Value) (L : List R5) (w : World) (hs : SeesR D w v L) (hd : ∀ k, D k → k < w.heap.size) (hf : Few L) :
    Calls Try.prog 83 #[v] w fun e w' => e = .returned (tot L).val ∧ Ch0 w w' := by
  obtain ⟨a, c, rfl, hc⟩ := hs.len
  have HS := Lib.hid hs
  have HF := Lib.hid hf
  have HL := Lib.hid hd
  have h500 : L.length ≤ 500 := hf.1
  clear hs hf hc hd
  go_enter Try.func83, Try.ntmps83
  have cA : Ch0 w ((w.alloc (.cells #[.int .i64 0, .int .i64 0, .int .i64 0, .int .i64 0, .int .i64 0] 106)).alloc (.cells #[.int .i64 0, .int .i64 0, .int .i64 0, .int .i64 0, .int .i64 0] 106)) := ((Ch.refl _ _).alloc _).alloc _
  obtain ⟨t1, t2⟩ := two_blocks w (.cells #[.int .i64 0, .int .i64 0, .int .i64 0, .int .i64 0, .int .i64 0] 106) (.cells #[.int .i64 0, .int .i64 0, .int .i64 0, .int .i64 0, .int .i64 0] 106)
  replace cA := Lib.hid cA
  replace t1 := Lib.hid t1
  replace t2 := Lib.hid t2
  go_wp2_with fail
  have hP : w.heap.size < ((w.alloc (.cells #[.int .i64 0, .int .i64 0, .int .i64 0, .int .i64 0, .int .i64 0] 106)).alloc (.cells #[.int .i64 0, .int .i64 0, .int .i64 0, .int .i64 0, .int .i64 0] 106)).heap.size := by simp only [World.size_alloc]; omega
  generalize (w.alloc (.cells #[.int .i64 0, .int .i64 0, .int .i64 0, .int .i64 0, .int .i64 0] 106)).alloc (.cells #[.int .i64 0, .int .i64 0, .int .i64 0, .int .i64 0, .int .i64 0] 106) = W0 at *
  generalize hB2 : w.heap.size = B2 at *
  generalize hB3 : B2 + 1 = B3 at *
  have hne : B3 ≠ B2 := by omega
  have hwB : w.heap.size < B3 := by omega
  replace hB2 := Lib.hid hB2
  replace hB3 := Lib.hid hB3
  go_loopw [8] (fun i wr => ∃ j : Nat, j ≤ L.length ∧ i = .int .i64 j ∧ wr.heap[B3]? = some (.cells (R5.cells (tot (L.take j))).toArray 106 (0, 0)) ∧ Ch (fun k => k = B3) W0 wr) (fun i _ => L.length - (intOf i).toNat)
  case atStart => exact ⟨0, Nat.zero_le _, rfl, t2.out, Ch.refl _ _⟩
  case round =>
    obtain ⟨j, hj, rfl, b3, d⟩ := hrel
    by_cases hlt : j < L.length
    · obtain ⟨g, o, c', hD, e2, hcell⟩ := ((HS.out.keep cA.out (fun _ _ e => e)).keep d (fun k hk e => by have := HL.out k hk; have := hB3.out; omega)).row (by omega)
      obtain ⟨rfl, rfl⟩ : a = some ⟨g, o, none⟩ ∧ c = c' := by simpa using e2
      obtain ⟨x0, x1, x2, x3, x4⟩ := hcell j hlt
      have i1 : (0 : Int) ≤ j := by omega
      have i2 : (j : Int) < L.length := by omega
      have hpl := fun w' => plus_of (tot (L.take j)) L[j] 1 (.inl rfl) (HF.out.tot j) (HF.out.fit (List.getElem_mem hlt)) w'
      have hsn : (tot (L.take j)).plus L[j] 1 = tot (L.take (j + 1)) := by rw [List.take_succ_eq_append_getElem hlt, tot_snoc]
      rw [hsn] at hpl
      simp only [R5.val] at hpl
      clear hcell e2 hsn
      generalize tot (L.take j) = T at *
      generalize hT : tot (L.take (j + 1)) = T' at *
      replace hT := Lib.hid hT
      generalize L[j] = r at *
      simp only [R5.cells] at b3
      have cX : Ch0 wr (wr.alloc (.cells #[.int .i64 r.cls, .int .i64 r.cnt, .int .i64 r.wds, .int .i64 r.refs, .int .i64 r.fin] 106)) := (Ch.refl _ _).alloc _
      have b4 := cX.keep b3 (fun e => e)
      obtain ⟨y0, y1, y2, y3, y4⟩ := cells5 b4
      replace cX := Lib.hid cX
      replace b4 := Lib.hid b4
      go_wp2_with fail
      refine (hpl _).mono ?_
      rintro e w1 ⟨rfl, c1⟩
      have b5 := c1.keep b4.out (fun e => e)
      obtain ⟨z0, z1, z2, z3, z4⟩ := cells5 b5
      obtain ⟨f0, f1, f2, f3, f4⟩ := free5 b5
      clear hpl x0 x1 x2 x3 x4 y0 y1 y2 y3 y4
      replace d := Lib.hid (d.trans' (cX.out.trans c1) (fun _ _ e => e) (fun _ _ e => e.elim))
      clear c1 b3 b4 cX
      replace b5 := Lib.hid b5
      go_wp2_with fail
      obtain ⟨q1, q2⟩ := set5 b5.out (.int .i64 T'.cls) (.int .i64 T'.cnt) (.int .i64 T'.wds) (.int .i64 T'.refs) (.int .i64 T'.fin)
      go_roundw
      case rel => exact ⟨j + 1, by omega, by go_num, by rw [q1, hT.out]; rfl, d.out.trans' q2 (fun _ _ e => e) (fun _ _ e => e)⟩
      case measure => simp [intOf]; omega
    · have i2 : (L.length : Int) ≤ j := by omega
      have e1 : L.take j = L := List.take_of_length_le (by omega)
      rw [e1] at b3
      clear e1
      generalize hT : tot L = T at *
      replace hT := Lib.hid hT
      have bb := d.keep t1.out (fun e => hne e.symm)
      simp only [R5.cells] at b3
      obtain ⟨y0, y1, y2, y3, y4⟩ := cells5 b3
      obtain ⟨z0, z1, z2, z3, z4⟩ := cells5 bb
      obtain ⟨f0, f1, f2, f3, f4⟩ := free5 bb
      replace bb := Lib.hid bb
      replace d := Lib.hid (cA.out.trans' d (fun _ _ e => e) (fun k hk e => by have := hB3.out; have := hB2.out; omega))
      clear t1 t2
      go_wp2_with fail
      obtain ⟨q1, q2⟩ := set5 bb.out (.int .i64 T.cls) (.int .i64 T.cnt) (.int .i64 T.wds) (.int .i64 T.refs) (.int .i64 T.fin)
      refine bodyPost_ret (results_cell_row (t := 106) rfl _ _ B2 _ _ _ rfl q1 Try.underlying106 rfl (by kernel_rfl)) rfl ?_
      exact ⟨by rw [hT.out]; rfl, d.out.trans' q2 (fun _ _ e => e) (fun k hk e => by have := hB2.out; omega)⟩

set_option maxRecDepth 100000 in
set_option maxHeartbeats 4000000 in
theorem most_of (D : Nat → Prop) (v : Value) (L : List R5) (w : World) (hs : SeesR D w v L) (hd : ∀ k, D k → k < w.heap.size) (h500 : L.length ≤ 500) :
    Calls Try.prog 87 #[v] w fun e w' => e = .returned (.int .i64 (mostR L).cls) ∧ Ch0 w w' := by
  obtain ⟨a, c, rfl, hc⟩ := hs.len
  have HS := Lib.hid hs
  have HL := Lib.hid hd
  clear hs hc hd
  go_enter Try.func87, Try.ntmps87
  have cA : Ch0 w (w.alloc (.cells #[.int .i64 0, .int .i64 0, .int .i64 0, .int .i64 0, .int .i64 0] 106)) := (Ch.refl _ _).alloc _
  have t2 := heap_alloc_new w (.cells #[.int .i64 0, .int .i64 0, .int .i64 0, .int .i64 0, .int .i64 0] 106)
  replace cA := Lib.hid cA
  replace t2 := Lib.hid t2
  go_wp2_with fail
  generalize w.alloc (.cells #[.int .i64 0, .int .i64 0, .int .i64 0, .int .i64 0, .int .i64 0] 106) = W0 at *
  generalize hB3 : w.heap.size = B3 at *
  replace hB3 := Lib.hid hB3
  go_loopw [8] (fun i wr => ∃ j : Nat, j ≤ L.length ∧ i = .int .i64 j ∧ wr.heap[B3]? = some (.cells (R5.cells (mostR (L.take j))).toArray 106 (0, 0)) ∧ Ch (fun k => k = B3) W0 wr) (fun i _ => L.length - (intOf i).toNat)
  case atStart => exact ⟨0, Nat.zero_le _, rfl, t2.out, Ch.refl _ _⟩
  case round =>
    obtain ⟨j, hj, rfl, b3, d⟩ := hrel
    by_cases hlt : j < L.length
    · obtain ⟨g, o, c', hD, e2, hcell⟩ := ((HS.out.keep cA.out (fun _ _ e => e)).keep d (fun k hk e => by have := HL.out k hk; have := hB3.out; omega)).row (by omega)
      obtain ⟨rfl, rfl⟩ : a = some ⟨g, o, none⟩ ∧ c = c' := by simpa using e2
      obtain ⟨x0, x1, x2, x3, x4⟩ := hcell j hlt
      have i1 : (0 : Int) ≤ j := by omega
      have i2 : (j : Int) < L.length := by omega
      have hsn : mostR (L.take (j + 1)) = if (mostR (L.take j)).wds < L[j].wds then L[j] else mostR (L.take j) := by rw [List.take_succ_eq_append_getElem hlt, mostR_snoc]
      clear hcell e2
      generalize mostR (L.take j) = T at *
      generalize L[j] = r at *
      simp only [R5.cells] at b3
      have cX : Ch0 wr (wr.alloc (.cells #[.int .i64 r.cls, .int .i64 r.cnt, .int .i64 r.wds, .int .i64 r.refs, .int .i64 r.fin] 106)) := (Ch.refl _ _).alloc _
      have b4 := cX.keep b3 (fun e => e)
      obtain ⟨y0, y1, y2, y3, y4⟩ := cells5 b4
      obtain ⟨f0, f1, f2, f3, f4⟩ := free5 b4
      replace d := Lib.hid (d.trans' cX (fun _ _ e => e) (fun _ _ e => e.elim))
      replace b4 := Lib.hid b4
      clear b3 cX
      by_cases hw : T.wds < r.wds
      · rw [if_pos hw] at hsn
        have g1 : decide (T.wds < r.wds) = true := decide_eq_true hw
        replace hsn := Lib.hid hsn
        clear hw
        go_wp2_with fail
        obtain ⟨q1, q2⟩ := set5 b4.out (.int .i64 r.cls) (.int .i64 r.cnt) (.int .i64 r.wds) (.int .i64 r.refs) (.int .i64 r.fin)
        go_roundw
        case rel => exact ⟨j + 1, by omega, by go_num, by rw [q1, hsn.out]; rfl, d.out.trans' q2 (fun _ _ e => e) (fun _ _ e => e)⟩
        case measure => simp [intOf]; omega
      · rw [if_neg hw] at hsn
        have g1 : decide (T.wds < r.wds) = false := decide_eq_false hw
        replace hsn := Lib.hid hsn
        clear hw f0 f1 f2 f3 f4
        go_wp2_with fail
        go_roundw
        case rel => exact ⟨j + 1, by omega, by go_num, by rw [b4.out, hsn.out]; rfl, d.out⟩
        case measure => simp [intOf]; omega
    · have i2 : (L.length : Int) ≤ j := by omega
      have e1 : L.take j = L := List.take_of_length_le (by omega)
      rw [e1] at b3
      clear e1
      generalize hT : mostR L = T at *
      replace hT := Lib.hid hT
      simp only [R5.cells] at b3
      obtain ⟨y0, y1, y2, y3, y4⟩ := cells5 b3
      replace d := Lib.hid (cA.out.trans' d (fun _ _ e => e) (fun k hk e => by have := hB3.out; omega))
      clear t2 b3
      go_wp2_with fail
      go_ret
      exact ⟨by rw [hT.out]; rfl, d.out⟩

end Go.Proofs.Ytlmeponoadhheaa
