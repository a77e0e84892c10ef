/-
  A processing that goes on, in memory; contracts of its is, lost, enter.
-/
import Derived.Test.YtlmeponoadhheaaSrch
import Derived.Test.YtlmeponoadhheaaConcat
namespace Go.Proofs.Ytlmeponoadhheaa
set_option linter.unusedVariables false
open Go.RowKit

/-- block r: a processing of the graph in block b: what is live, cleared, to be finalized; all of it behind M -/
structure RunS (M : Nat) (w : World) (r b : Nat) (lv cv fv : Value) (live cleared final : List Int) : Prop where
  blk : w.heap[r]? = some (.cells #[.pointer (some ⟨b, 0, none⟩), lv, cv, fv] 152 (0, 0))
  l : RowAt w 3 1 lv live.length (live.map (Value.int .i64))
  c : RowAt w 3 1 cv cleared.length (cleared.map (Value.int .i64))
  f : RowAt w 3 1 fv final.length (final.map (Value.int .i64))
  lb : ∀ k, rblk lv = some k → M ≤ k
  cb : ∀ k, rblk cv = some k → M ≤ k
  fb : ∀ k, rblk fv = some k → M ≤ k
  rb : M ≤ r
  ap : ∀ k, rblk cv = some k → rblk lv ≠ some k ∧ rblk fv ≠ some k
  ap2 : ∀ k, rblk fv = some k → rblk lv ≠ some k

section
variable {M r b : Nat} {w w' : World} {lv cv fv : Value} {live cleared final : List Int}

theorem RunS.keep {S : Nat → Prop} (h : RunS M w r b lv cv fv live cleared final) (c : Ch S w w') (hS : ∀ k, S k → False) : RunS M w' r b lv cv fv live cleared final :=
  ⟨c.keep h.blk (fun e => hS _ e), h.l.keep c (fun _ _ e => hS _ e), h.c.keep c (fun _ _ e => hS _ e), h.f.keep c (fun _ _ e => hS _ e), h.lb, h.cb, h.fb, h.rb, h.ap, h.ap2⟩

theorem RunS.new (h : RunS M w r b lv cv fv live cleared final) (c : Ch0 w w') : RunS M w' r b lv cv fv live cleared final := h.keep c (fun _ e => e)

theorem RunS.ne (h : RunS M w r b lv cv fv live cleared final) : (∀ k, rblk lv = some k → ¬ k = r) ∧ (∀ k, rblk cv = some k → ¬ k = r) ∧ (∀ k, rblk fv = some k → ¬ k = r) :=
  ⟨row_ne_cells h.l h.blk (by decide), row_ne_cells h.c h.blk (by decide), row_ne_cells h.f h.blk (by decide)⟩

theorem RunS.cells (h : RunS M w r b lv cv fv live cleared final) : w.cell? ⟨r, 0, none⟩ = some (.pointer (some ⟨b, 0, none⟩)) ∧ w.cell? ⟨r, 1, none⟩ = some lv ∧ w.cell? ⟨r, 2, none⟩ = some cv ∧ w.cell? ⟨r, 3, none⟩ = some fv :=
  ⟨cell_of_row w r 0 _ _ _ h.blk, cell_of_row w r 1 _ _ _ h.blk, cell_of_row w r 2 _ _ _ h.blk, cell_of_row w r 3 _ _ _ h.blk⟩

/-- what is live, stored -/
theorem RunS.stored {w0 : World} {lv' : Value} {live' : List Int} (h0 : RunS M w0 r b lv cv fv live cleared final) (c : Ch0 w0 w) (hM : M ≤ w0.heap.size) (hr : RowAt w 3 1 lv' live'.length (live'.map (Value.int .i64))) (hf : ∀ k, rblk lv' = some k → w0.heap.size ≤ k) :
    RunS M (w.setCell ⟨r, 1, none⟩ lv') r b lv' cv fv live' cleared final ∧ Ch (fun k => k = r) w0 (w.setCell ⟨r, 1, none⟩ lv') := by
  have h := h0.new c
  have hn := row_ne_cells hr h.blk (by decide)
  have hne := h.ne
  have cS : Ch (fun k => k = r) w (w.setCell ⟨r, 1, none⟩ lv') := (Ch.refl (fun k => k = r) w).setCell (p := ⟨r, 1, none⟩) (fun _ => rfl) lv'
  refine ⟨⟨?_, hr.keep cS hn, h.c.keep cS hne.2.1, h.f.keep cS hne.2.2, (fun k hk => Nat.le_trans hM (hf k hk)), h.cb, h.fb, h.rb, fun k hk => ⟨fun e => ?_, (h.ap k hk).2⟩, fun k hk e => ?_⟩, c.of0.trans cS⟩
  · rw [heap_setCell_same w r 1 _ _ _ h.blk]
    rfl
  · have := hf k e
    have := h0.c.lt hk
    omega
  · have := hf k e
    have := h0.f.lt hk
    omega

/-- one more is cleared, stored -/
theorem RunS.cleared1 {wx w4 : World} {cv' : Value} {cl' : List Int} (h : RunS M w r b lv cv fv live cleared final) (hM : M ≤ w.heap.size) (c5 : Ch0 w wx) (c4 : Ch (fun k => rblk cv = some k) wx w4) (r4 : RowAt w4 3 1 cv' cl'.length (cl'.map (Value.int .i64))) (b4 : rblk cv' = rblk cv ∨ rblk cv' = some wx.heap.size) :
    RunS M (w4.setCell ⟨r, 2, none⟩ cv') r b lv cv' fv live cl' final ∧ Ch (fun k => k = r ∨ rblk cv = some k) w (w4.setCell ⟨r, 2, none⟩ cv') := by
  have hx := h.new c5
  have hne := h.ne
  have hb4 : w4.heap[r]? = some (.cells #[.pointer (some ⟨b, 0, none⟩), lv, cv, fv] 152 (0, 0)) := c4.keep hx.blk (fun e => hne.2.1 _ e rfl)
  have hl4 := hx.l.keep c4 (fun k hk e => (h.ap k e).1 hk)
  have hf4 := hx.f.keep c4 (fun k hk e => (h.ap k e).2 hk)
  have hn4 := row_ne_cells r4 hb4 (by decide)
  have cS : Ch (fun k => k = r) w4 (w4.setCell ⟨r, 2, none⟩ cv') := (Ch.refl (fun k => k = r) w4).setCell (p := ⟨r, 2, none⟩) (fun _ => rfl) cv'
  have hnew : ∀ k, rblk cv' = some k → M ≤ k ∧ rblk lv ≠ some k ∧ rblk fv ≠ some k := fun k hk => by
    rcases b4 with e | e
    · rw [e] at hk
      exact ⟨h.cb k hk, h.ap k hk⟩
    · rw [e] at hk
      cases hk
      refine ⟨by have := c5.size; omega, fun q => ?_, fun q => ?_⟩
      · have := hx.l.lt q; omega
      · have := hx.f.lt q; omega
  refine ⟨⟨?_, hl4.keep cS hne.1, r4.keep cS hn4, hf4.keep cS hne.2.2, h.lb, fun k hk => (hnew k hk).1, h.fb, h.rb, fun k hk => (hnew k hk).2, h.ap2⟩, ?_⟩
  · rw [heap_setCell_same w4 r 2 _ _ _ hb4]
    rfl
  · exact (c5.of0.trans (c4.mono (fun k _ e => .inr e))).trans (cS.mono (fun k _ e => .inl e))

set_option maxHeartbeats 400000 in
theorem is_any (h : RunS M w r b lv cv fv live cleared final) (hup : live.Pairwise (· < ·)) (hn : live.length ≤ 1000000) (id : Int) :
    Calls Try.prog 134 #[.pointer (some ⟨r, 0, none⟩), .int .i64 id] w fun e w' => e = .returned (.bool (decide (id ∈ live))) ∧ SameW w w' := by
  have hb := bins_any _ _ live id w h.l.sees hup hn
  obtain ⟨-, k1, -, -⟩ := h.cells
  obtain ⟨a, c, rfl, -, -⟩ := h.l.isSlice
  generalize decide (id ∈ live) = y at *
  clear h
  go_enter Try.func134, Try.ntmps134
  go_wp2_with fail
  refine hb.mono ?_
  rintro e w1 ⟨⟨p, rfl⟩, hs⟩
  obtain rfl : w = w1 := hs
  clear hb
  go_wp2_with fail
  go_ret
  exact ⟨rfl, SameW.rfl' _⟩

end

section
variable {M r b : Nat} {w : World} {O : Nat → Prop} {cs : List Cls} {L : List GN} {p lo hi : Nat} {lv cv fv : Value} {live cleared final : List Int}

set_option maxHeartbeats 1000000 in
theorem lost_of (hg : Gt w b O cs L p lo hi) (h : RunS M w r b lv cv fv live cleared final) (hup : live.Pairwise (· < ·)) (hn : live.length ≤ 1000000) (id : Int) :
    Calls Try.prog 133 #[.pointer (some ⟨r, 0, none⟩), .int .i64 id] w fun e w' => e = .returned (.tuple #[.int .i64 (gaim cs L id).1, .int .i64 (gaim cs L id).2, .bool (lostB cs L live id)]) ∧ Ch0 w w' := by
  have ha := aim_of hg id
  have hi : Hid (∀ w', Ch0 w w' → _) := Lib.hid (fun w' (c : Ch0 w w') => is_any (h.new c) hup hn (gaim cs L id).1)
  obtain ⟨k0, -, -, -⟩ := h.cells
  have hlost : lostB cs L live id = (decide ((gaim cs L id).1 ≠ 0) && !decide ((gaim cs L id).1 ∈ live)) := rfl
  rw [hlost]
  clear hlost h hg
  generalize decide ((gaim cs L id).1 ∈ live) = y at *
  generalize (gaim cs L id).1 = to at *
  generalize (gaim cs L id).2 = kd at *
  go_enter Try.func133, Try.ntmps133
  go_wp2_with fail
  refine ha.mono ?_
  rintro e w1 ⟨rfl, c1⟩
  have hi2 := hi.out _ c1
  replace c1 := Lib.hid c1
  clear ha hi
  by_cases ht : to = 0
  · subst ht
    have t0 : ((0 : Int) != 0) = false := rfl
    clear hi2
    go_wp2_with fail
    go_ret3
    exact ⟨by simp, c1.out⟩
  · have t0 : (to != 0) = true := by simpa using ht
    have t1 : Hid ((decide (to ≠ 0) && !y) = !y) := Lib.hid (by simp [ht])
    clear ht
    go_wp2_with fail
    refine hi2.mono ?_
    rintro e w2 ⟨rfl, hs⟩
    obtain rfl : w1 = w2 := hs
    clear hi2
    go_wp2_with fail
    go_ret3
    exact ⟨by rw [t1.out]; rfl, c1.out⟩

/-- two lists, one behind the other -/
def pair2 (xs ys : List Int) : Nat → List Int := fun i => if i = 0 then xs else ys

theorem cat_pair (xs ys : List Int) : cat (pair2 xs ys) 2 = xs ++ ys := by simp [cat, pair2, List.range_succ]

set_option maxRecDepth 100000 in
set_option maxHeartbeats 1000000 in
theorem enter_of (hg : Gt w b O cs L p lo hi) (hL : L.length ≤ 1000) (h : RunS M w r b lv cv fv live cleared final) (hO : ¬ O r) (hT : ∀ k, lo ≤ k → k < hi → k ≠ r) (D : Nat → Prop) (v : Value) (from_ : List Int) (hv : SeesI D w v from_) (hl1 : live.length ≤ 1000) (hl2 : from_.length ≤ 1000) (hMw : M ≤ w.heap.size) :
    Calls Try.prog 113 #[.pointer (some ⟨r, 0, none⟩), v] w fun e w' => e = .returned (.tuple #[]) ∧ ∃ lv', RunS M w' r b lv' cv fv (closeL cs L 1 (live ++ from_)) cleared final ∧ Ch (fun k => k = r) w w' := by
  obtain ⟨k0, k1, -, -⟩ := h.cells
  obtain ⟨la, lc, rfl, -, -⟩ := h.l.isSlice
  obtain ⟨va, vc, rfl, -⟩ := hv.len
  have HG := Lib.hid hg
  have H := Lib.hid h
  have HV := Lib.hid hv
  clear hg h hv
  have hcl : (closeL cs L 1 (live ++ from_)).length ≤ 1000 := by
    have := rchL_len (V := ids L) (nx := nextL cs L 1) (S := fun x => x ∈ startL L 1 (live ++ from_))
    have e : (ids L).length = L.length := by simp [ids]
    unfold closeL
    omega
  have HCAT : Hid (∀ w' G, Ch0 w w' → w'.heap[G]? = some (Obj.cells #[Value.slice la live.length lc, Value.slice va from_.length vc] 34 (0, 0)) → _) := Lib.hid (fun w' G (c : Ch0 w w') (hb : w'.heap[G]? = some (Obj.cells #[Value.slice la live.length lc, Value.slice va from_.length vc] 34 (0, 0))) =>
    concat_any (D := fun _ => True) (w := w') (g := G) (o := 0) (n := 2) (c := 2) (vs := fun i => if i = 0 then .slice la live.length lc else .slice va from_.length vc) (q := pair2 live from_)
      (fun i hi => by
        rcases (show i = 0 ∨ i = 1 by omega) with rfl | rfl
        · exact cell_of_row w' G 0 _ _ _ hb
        · exact cell_of_row w' G 1 _ _ _ hb)
      (fun i hi => by
        rcases (show i = 0 ∨ i = 1 by omega) with rfl | rfl
        · exact (H.out.new c).l.sees.mono (fun _ _ => trivial)
        · exact (Sees.keep HV.out c (fun _ _ e => e)).mono (fun _ _ => trivial))
      (by decide) (by rw [cat_pair]; simp; omega))
  rw [cat_pair] at HCAT
  have HRE : Hid (∀ w' D' v', Ch0 w w' → SeesI D' w' v' (live ++ from_) → _) := Lib.hid (fun w' D' v' (c : Ch0 w w') (hs : SeesI D' w' v' (live ++ from_)) => reach_of (HG.out.new c) hL D' v' (live ++ from_) hs (by simp; omega))
  have hkeep : Hid (∀ w', Ch0 w w' → w'.cell? ⟨r, 0, none⟩ = some (.pointer (some ⟨b, 0, none⟩)) ∧ w'.cell? ⟨r, 1, none⟩ = some (.slice la live.length lc) ∧ w'.frozen? ⟨r, 1, none⟩ = false) := Lib.hid (fun w' c => ⟨c.cell k0 (fun e => e), c.cell k1 (fun e => e), frozen_of_row w' r 1 _ _ (H.out.new c).blk⟩)
  have q1 : ∀ A : Obj, (w.alloc A).cell? ⟨r, 0, none⟩ = some (.pointer (some ⟨b, 0, none⟩)) := fun A => (hkeep.out _ ((Ch.refl _ w).alloc _)).1
  generalize closeL cs L 1 (live ++ from_) = res at *
  generalize live ++ from_ = cc at *
  go_enter Try.func113, Try.ntmps113
  go_wp2_with fail
  go_region_law
    ((first
      | (go_simp; go_at_call 132; refine (HCAT.out _ _ (by exact (Ch.refl _ w).drew.alloc _) (by exact heap_alloc_new _ _)).mono ?_; rintro e wx ⟨vx, rfl, cx', rx, fx⟩; obtain ⟨ax, ccx, rfl, -, -⟩ := rx.isSlice; have cx : Ch0 w wx := ((Ch.refl _ w).drew.alloc _).trans cx'; obtain ⟨m0, m1, m2⟩ := hkeep.out _ cx)
      | (go_simp; go_at_call 59; refine (HRE.out _ _ _ cx rx.sees).mono ?_; rintro e wy ⟨vy, rfl, ry, fy, cy'⟩; obtain ⟨ay, ccy, rfl, -, -⟩ := ry.isSlice; have cy : Ch0 w wy := cx.trans cy'; obtain ⟨n0, n1, n2⟩ := hkeep.out _ cy)))
  all_goals
    have HE := Lib.hid (RunS.stored H.out cy hMw ry (fun k hk => by have := fy k hk; have := cx.size; omega))
    clear cx cy rx fx ry fy cx' cy' m0 m1 m2 n0 n1 n2 q1
    go_end0
    exact ⟨rfl, _, HE.out⟩

end

end Go.Proofs.Ytlmeponoadhheaa
