/-
  Contracts of the laws' rows and back: rows of the one type as rows of the other.
-/
import Derived.Test.YtlmeponoadhheaaCP
namespace Go.Proofs.Ytlmeponoadhheaa
set_option linter.unusedVariables false
open Go.RowKit

set_option maxRecDepth 100000 in
set_option maxHeartbeats 4000000 in
theorem rows_of (D : Nat → Prop) (v : Value) (L : List R5) (w : World) (hs : SeesR D w v L) (hd : ∀ k, D k → k < w.heap.size) (h500 : L.length ≤ 500) :
    Calls Try.prog 85 #[v] w fun e w' => ∃ u, e = .returned u ∧ HasR w' 110 (fun k => w.heap.size ≤ k) u L ∧ Ch0 w w' := by
  obtain ⟨a, c, rfl, hc⟩ := hs.len
  have HS := Lib.hid hs
  have HD := Lib.hid hd
  clear hs hc hd
  go_enter Try.func85, Try.ntmps85
  go_wp2_with fail
  go_loopw [3, 7] (fun u i wr => ∃ j : Nat, j ≤ L.length ∧ i = .int .i64 j ∧ HasR wr 110 (fun k => w.heap.size ≤ k) u (L.take j) ∧ Ch0 w wr) (fun _ i _ => L.length - (intOf i).toNat)
  case atStart => exact ⟨0, Nat.zero_le _, rfl, ⟨RowAt.nil, fun k hk => by cases hk⟩, Ch.refl _ _⟩
  case round =>
    obtain ⟨j, hj, rfl, hR, d⟩ := hrel
    have hlj : (L.take j).length = j := by rw [List.length_take]; omega
    obtain ⟨av, cv, ev, -, -⟩ := hR.1.isSlice
    subst ev
    by_cases hlt : j < L.length
    · obtain ⟨g, o, c', hDg, e2, hcell⟩ := (HS.out.keep d (fun _ _ e => e)).row (by omega)
      obtain ⟨rfl, rfl⟩ : a = some ⟨g, o, none⟩ ∧ c = c' := by simpa using e2
      obtain ⟨x0, x1, x2, x3, x4⟩ := hcell j hlt
      have i1 : (0 : Int) ≤ j := by omega
      have i2 : (j : Int) < L.length := by omega
      have hsn : L.take j ++ [L[j]] = L.take (j + 1) := by rw [List.take_succ_eq_append_getElem hlt]
      clear hcell e2
      generalize L[j] = r at *
      have cX : Ch0 wr (wr.alloc (.cells #[.int .i64 r.cls, .int .i64 r.cnt, .int .i64 r.wds, .int .i64 r.refs, .int .i64 r.fin] 110)) := (Ch.refl _ _).alloc _
      have bX := heap_alloc_new wr (.cells #[.int .i64 r.cls, .int .i64 r.cnt, .int .i64 r.wds, .int .i64 r.refs, .int .i64 r.fin] 110)
      have hR2 := hR.keep cX (fun _ _ e => e)
      obtain ⟨a', c', w9, hrun, r9, d9, b9⟩ := run_rrows hR2.1 (by omega) (sees_one5 bX) (by simp) 103
      rw [hsn] at r9
      rw [hlj] at hrun r9 b9
      simp only [List.length_singleton] at hrun r9 b9
      have HE : Hid (HasR w9 110 (fun k => w.heap.size ≤ k) (.slice a' (j + 1) c') (L.take (j + 1)) ∧ Ch0 w w9) := by
        refine Lib.hid ⟨⟨r9, fun k hk => ?_⟩, (d.trans cX).trans' d9 (fun _ _ e => e) (fun k hk e => by have := hR2.2 k e; omega)⟩
        rcases b9 with e | e
        · rw [e] at hk; exact hR2.2 k (by rw [hlj]; exact hk)
        · rw [e] at hk; cases hk; have := d.size; simp only [World.size_alloc]; omega
      clear hR hR2 cX bX r9 d9 b9 hsn d
      rw [hlj]
      go_wp2_with (at_builtin; refine wpList_append_run rfl _ _ 103 103 rfl rfl rfl hrun ?_)
      go_roundw
      case rel => exact ⟨j + 1, by omega, by go_num, HE.out.1, HE.out.2⟩
      case measure => simp [intOf]; omega
    · have i2 : (L.length : Int) ≤ j := by omega
      have e1 : L.take j = L := List.take_of_length_le (by omega)
      rw [e1] at hR ⊢
      clear e1 hlj
      replace hR := Lib.hid hR
      replace d := Lib.hid d
      go_wp2_with fail
      go_ret
      exact ⟨_, rfl, hR.out, d.out⟩

set_option maxRecDepth 100000 in
set_option maxHeartbeats 4000000 in
theorem back_of (D : Nat → Prop) (v : Value) (L : List R5) (w : World) (hs : SeesR D w v L) (hd : ∀ k, D k → k < w.heap.size) (h500 : L.length ≤ 500) :
    Calls Try.prog 90 #[v] w fun e w' => ∃ u, e = .returned u ∧ HasR w' 106 (fun k => w.heap.size ≤ k) u L ∧ Ch0 w w' := by
  obtain ⟨a, c, rfl, hc⟩ := hs.len
  have HS := Lib.hid hs
  have HD := Lib.hid hd
  clear hs hc hd
  go_enter Try.func90, Try.ntmps90
  go_wp2_with fail
  go_loopw [3, 7] (fun u i wr => ∃ j : Nat, j ≤ L.length ∧ i = .int .i64 j ∧ HasR wr 106 (fun k => w.heap.size ≤ k) u (L.take j) ∧ Ch0 w wr) (fun _ i _ => L.length - (intOf i).toNat)
  case atStart => exact ⟨0, Nat.zero_le _, rfl, ⟨RowAt.nil, fun k hk => by cases hk⟩, Ch.refl _ _⟩
  case round =>
    obtain ⟨j, hj, rfl, hR, d⟩ := hrel
    have hlj : (L.take j).length = j := by rw [List.length_take]; omega
    obtain ⟨av, cv, ev, -, -⟩ := hR.1.isSlice
    subst ev
    by_cases hlt : j < L.length
    · obtain ⟨g, o, c', hDg, e2, hcell⟩ := (HS.out.keep d (fun _ _ e => e)).row (by omega)
      obtain ⟨rfl, rfl⟩ : a = some ⟨g, o, none⟩ ∧ c = c' := by simpa using e2
      obtain ⟨x0, x1, x2, x3, x4⟩ := hcell j hlt
      have i1 : (0 : Int) ≤ j := by omega
      have i2 : (j : Int) < L.length := by omega
      have hsn : L.take j ++ [L[j]] = L.take (j + 1) := by rw [List.take_succ_eq_append_getElem hlt]
      clear hcell e2
      generalize L[j] = r at *
      have cX : Ch0 wr (wr.alloc (.cells #[.int .i64 r.cls, .int .i64 r.cnt, .int .i64 r.wds, .int .i64 r.refs, .int .i64 r.fin] 106)) := (Ch.refl _ _).alloc _
      have bX := heap_alloc_new wr (.cells #[.int .i64 r.cls, .int .i64 r.cnt, .int .i64 r.wds, .int .i64 r.refs, .int .i64 r.fin] 106)
      have hR2 := hR.keep cX (fun _ _ e => e)
      obtain ⟨a', c', w9, hrun, r9, d9, b9⟩ := run_crows hR2.1 (by omega) (sees_one5 bX) (by simp) 101
      rw [hsn] at r9
      rw [hlj] at hrun r9 b9
      simp only [List.length_singleton] at hrun r9 b9
      have HE : Hid (HasR w9 106 (fun k => w.heap.size ≤ k) (.slice a' (j + 1) c') (L.take (j + 1)) ∧ Ch0 w w9) := by
        refine Lib.hid ⟨⟨r9, fun k hk => ?_⟩, (d.trans cX).trans' d9 (fun _ _ e => e) (fun k hk e => by have := hR2.2 k e; omega)⟩
        rcases b9 with e | e
        · rw [e] at hk; exact hR2.2 k (by rw [hlj]; exact hk)
        · rw [e] at hk; cases hk; have := d.size; simp only [World.size_alloc]; omega
      clear hR hR2 cX bX r9 d9 b9 hsn d
      rw [hlj]
      go_wp2_with (at_builtin; refine wpList_append_run rfl _ _ 101 101 rfl rfl rfl hrun ?_)
      go_roundw
      case rel => exact ⟨j + 1, by omega, by go_num, HE.out.1, HE.out.2⟩
      case measure => simp [intOf]; omega
    · have i2 : (L.length : Int) ≤ j := by omega
      have e1 : L.take j = L := List.take_of_length_le (by omega)
      rw [e1] at hR ⊢
      clear e1 hlj
      replace hR := Lib.hid hR
      replace d := Lib.hid d
      go_wp2_with fail
      go_ret
      exact ⟨_, rfl, hR.out, d.out⟩

end Go.Proofs.Ytlmeponoadhheaa
