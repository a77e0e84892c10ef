/-
  Contracts of strength.goes, next, finals; slices.Index, Contains at integers.
-/
import Derived.Test.YtlmeponoadhheaaStrLaw
import Derived.Test.YtlmeponoadhheaaGl
import Derived.Test.YtlmeponoadhheaaGen
namespace Go.Proofs.Ytlmeponoadhheaa
set_option linter.unusedVariables false
open Go.RowKit

set_option maxHeartbeats 400000 in
theorem goes_any (k l : Int) (w : World) : Calls Try.prog 130 #[.int .i64 k, .int .i64 l] w fun e w' => e = .returned (.bool (goesB k l)) ∧ SameW w w' := by
  by_cases k3 : k = 3
  · subst k3
    obtain ⟨y, hy⟩ : ∃ y, y = decide (2 ≤ l) := ⟨_, rfl⟩
    have h : goesB 3 l = y := by rw [hy]; simp [goesB]
    rw [h]
    have hy' : decide (2 ≤ l) = y := hy.symm
    clear h hy
    go_enter Try.func130, Try.ntmps130
    go_wp2_with fail
    go_ret
    exact ⟨rfl, SameW.rfl' _⟩
  · have e3 : (k == 3) = false := by simpa using k3
    by_cases k4 : k = 4
    · subst k4
      obtain ⟨y, hy⟩ : ∃ y, y = decide (3 ≤ l) := ⟨_, rfl⟩
      have h : goesB 4 l = y := by rw [hy]; simp [goesB]
      rw [h]
      have hy' : decide (3 ≤ l) = y := hy.symm
      clear h hy
      go_enter Try.func130, Try.ntmps130
      go_wp2_with fail
      go_ret
      exact ⟨rfl, SameW.rfl' _⟩
    · have e4 : (k == 4) = false := by simpa using k4
      by_cases k5 : k = 5
      · subst k5
        obtain ⟨y, hy⟩ : ∃ y, y = decide (5 ≤ l) := ⟨_, rfl⟩
        have h : goesB 5 l = y := by rw [hy]; simp [goesB]
        rw [h]
        have hy' : decide (5 ≤ l) = y := hy.symm
        clear h hy
        go_enter Try.func130, Try.ntmps130
        go_wp2_with fail
        go_ret
        exact ⟨rfl, SameW.rfl' _⟩
      · have e5 : (k == 5) = false := by simpa using k5
        have h : goesB k l = false := by simp [goesB, k3, k4, k5]
        rw [h]
        clear h k3 k4 k5
        go_enter Try.func130, Try.ntmps130
        go_wp2_with fail
        go_ret
        exact ⟨rfl, SameW.rfl' _⟩

section
variable {w : World} {b : Nat} {O : Nat → Prop} {cs : List Cls} {L : List GN} {p lo hi : Nat}

set_option maxRecDepth 100000 in
set_option maxHeartbeats 1000000 in
theorem next_of (h : Gt w b O cs L p lo hi) (id level : Int) :
    Calls Try.prog 111 #[.pointer (some ⟨b, 0, none⟩), .int .i64 id, .int .i64 level] w fun e w' => ∃ v, e = .returned v ∧ RowAt w' 3 1 v (nextL cs L level id).length ((nextL cs L level id).map (Value.int .i64)) ∧ (∀ k, rblk v = some k → w.heap.size ≤ k) ∧ Ch0 w w' := by
  have hh := holds_of h id
  have HM : Hid (∀ w', Ch0 w w' → _) := Lib.hid (fun w' (c : Ch0 w w') => aim_of (h.new c) id)
  have hlen := gholds_len h.wf id
  have hnx : nextL cs L level id = gholds cs L id ++ (if (gaim cs L id).1 ≠ 0 ∧ goesB (gaim cs L id).2 level = true then [(gaim cs L id).1] else []) := rfl
  rw [hnx]
  clear h hnx
  generalize gholds cs L id = gh at *
  generalize (gaim cs L id).1 = to at *
  generalize (gaim cs L id).2 = kd at *
  obtain ⟨res, hres⟩ : ∃ res, res = gh ++ (if to ≠ 0 ∧ goesB kd level = true then [to] else []) := ⟨_, rfl⟩
  rw [← hres]
  replace hres := Lib.hid hres
  go_enter Try.func111, Try.ntmps111
  go_wp2_with fail
  refine hh.mono ?_
  rintro e w1 ⟨v1, rfl, r1, f1, c1⟩
  obtain ⟨a, c, rfl, -, -⟩ := r1.isSlice
  have hm := HM.out _ c1
  replace c1 := Lib.hid c1
  replace r1 := Lib.hid r1
  replace f1 := Lib.hid f1
  clear hh HM
  go_wp2_with fail
  refine hm.mono ?_
  rintro e w2 ⟨rfl, c2⟩
  have r2 := r1.out.keep c2 (fun _ _ e => e)
  replace c2 := Lib.hid (c1.out.trans c2)
  clear hm c1
  by_cases hto : to = 0
  · have t0 : (to != 0) = false := by simp [hto]
    have hr : Hid (res = gh) := Lib.hid (by rw [hres.out, if_neg (fun q => q.1 hto), List.append_nil])
    replace r2 := Lib.hid r2
    clear hto
    go_wp2_with fail
    go_ret
    exact ⟨_, rfl, by rw [hr.out]; exact r2.out, f1.out, c2.out⟩
  · have t0 : (to != 0) = true := by simpa using hto
    have hg := goes_any kd level w2
    cases hgo : goesB kd level with
    | false =>
      rw [hgo] at hg
      have hr : Hid (res = gh) := Lib.hid (by rw [hres.out, if_neg (by simp [hgo]), List.append_nil])
      replace r2 := Lib.hid r2
      clear hto hgo
      go_wp2_with fail
      refine hg.mono ?_
      rintro e w3 ⟨rfl, hs⟩
      obtain rfl : w2 = w3 := hs
      clear hg
      go_wp2_with fail
      go_ret
      exact ⟨_, rfl, by rw [hr.out]; exact r2.out, f1.out, c2.out⟩
    | true =>
      rw [hgo] at hg
      have hr : res = gh ++ [to] := by rw [hres.out, if_pos ⟨hto, hgo⟩]
      have ca : Ch0 w2 (w2.alloc (.cells #[.int .i64 to] 3)) := (Ch.refl _ _).alloc _
      obtain ⟨a4, c4, w4, hrun, r4, d4, b4⟩ := run_int (r2.keep ca (fun _ _ e => e)) (by omega) w2.heap.size to (heap_alloc_new w2 _) 34
      have HF : Hid (RowAt w4 3 1 (.slice a4 (gh.length + 1) c4) res.length (res.map (Value.int .i64)) ∧ (∀ k, rblk (.slice a4 (gh.length + 1) c4) = some k → w.heap.size ≤ k) ∧ Ch0 w w4) := by
        refine Lib.hid ⟨by rw [hr, List.length_append]; exact r4, ?_, (c2.out.trans ca).trans' d4 (fun _ _ e => e) (fun k hk e => by have := f1.out k e; omega)⟩
        intro k hk
        rcases b4 with e | e
        · rw [e] at hk; exact f1.out k hk
        · rw [e] at hk; cases hk; rw [World.size_alloc]; have := c2.out.size; omega
      clear hto hgo r2 r1 ca r4 d4 b4 hr
      go_wp2_with fail
      refine hg.mono ?_
      rintro e w3 ⟨rfl, hs⟩
      obtain rfl : w2 = w3 := hs
      clear hg
      go_wp2_with (at_builtin; refine wpList_append_run rfl _ _ 34 34 rfl rfl rfl hrun ?_)
      go_ret
      exact ⟨_, rfl, HF.out⟩

theorem finalsL_snoc (L : List GN) (nd : GN) : finalsL (L ++ [nd]) = finalsL L ++ (if nd.fin = true then [nd.id] else []) := by
  unfold finalsL ids
  rw [List.filter_append, List.map_append]
  congr 1
  cases h : nd.fin <;> simp [h]

set_option maxRecDepth 100000 in
set_option maxHeartbeats 1000000 in
theorem finals_of (h : Gt w b O cs L p lo hi) (hL : L.length ≤ 1000000) :
    Calls Try.prog 109 #[.pointer (some ⟨b, 0, none⟩)] w fun e w' => ∃ v, e = .returned v ∧ RowAt w' 3 1 v (finalsL L).length ((finalsL L).map (Value.int .i64)) ∧ (∀ k, rblk v = some k → w.heap.size ≤ k) ∧ Ch0 w w' := by
  have hi := ids_of h hL
  have HG := Lib.hid h
  clear h
  go_enter Try.func109, Try.ntmps109
  go_wp2_with fail
  refine hi.mono ?_
  rintro e w6 ⟨vi, rfl, r6, -, c6⟩
  obtain ⟨la, lc, ev, -, -⟩ := r6.isSlice
  rw [show (ids L).length = L.length by simp [ids]] at ev r6
  subst ev
  have hG6 := Lib.hid (HG.out.new c6)
  replace r6 := Lib.hid r6
  have hsz := c6.size
  replace c6 := Lib.hid c6
  clear hi HG
  go_wp2_with fail
  go_loopw [3, 11] (fun out i wr => ∃ j : Nat, j ≤ L.length ∧ i = .int .i64 j ∧ Ch0 w6 wr ∧ RowAt wr 3 1 out (finalsL (L.take j)).length ((finalsL (L.take j)).map (Value.int .i64)) ∧ ∀ k, rblk out = some k → w6.heap.size ≤ k) (fun _ i _ => L.length - (intOf i).toNat)
  case atStart => exact ⟨0, Nat.zero_le _, rfl, Ch.refl _ _, RowAt.nil, (fun k hk => by cases hk)⟩
  case round =>
    obtain ⟨j, hj, rfl, d, hr, hf⟩ := hrel
    have hfl := finalsL_len (L.take j)
    have hfl2 : (L.take j).length ≤ L.length := by simp; omega
    obtain ⟨a3, c3, rfl, -, -⟩ := hr.isSlice
    by_cases hlt : j < L.length
    · have hnd : L[j] ∈ L := List.getElem_mem hlt
      have hs : SeesI (fun k => rblk (.slice la L.length lc) = some k) wr (.slice la L.length lc) (ids L) := by
        have := (r6.out.keep d (fun _ _ e => e)).sees
        rw [show L.length = (ids L).length by simp [ids]] at this ⊢
        exact this
      have hil : (ids L).length = L.length := by simp [ids]
      obtain ⟨g, o, c5, -, e1, hcell⟩ := hs.cell (by omega)
      rw [hil] at e1
      obtain ⟨rfl, rfl⟩ : la = some ⟨g, o, none⟩ ∧ lc = c5 := by simpa using e1
      have hx := hcell j (by omega)
      rw [show (ids L).getD j 0 = L[j].id by simp [ids, List.getD_eq_getElem?_getD, hlt]] at hx
      have hsn := finalsL_snoc (L.take j) L[j]
      rw [← take_snocG L j hlt] at hsn
      clear hs e1 hcell hil
      generalize L[j] = nd at *
      have hwf := hG6.out.wf _ hnd
      have hr60 := hwf.refs
      have hd60 := hwf.data
      have hny := node_yes (hG6.out.new d).g hnd (by omega) (by omega)
      have i1 : (0 : Int) ≤ j := by omega
      have i2 : (j : Int) < L.length := by omega
      replace d := Lib.hid d
      replace hr := Lib.hid hr
      replace hf := Lib.hid hf
      replace hsn := Lib.hid hsn
      clear hwf hnd
      go_wp2_with fail
      refine hny.mono ?_
      rintro e w1 ⟨nv, vr, vd, rfl, hcp, c1⟩
      obtain ⟨ar, cr, rfl, -, -⟩ := hcp.refs.isSlice
      obtain ⟨ad, cd, rfl, -, -⟩ := hcp.data.isSlice
      obtain rfl : nv = .agg #[.int .i64 nd.id, .int .i64 nd.cls, .slice ar nd.refs.length cr, .slice ad nd.data.length cd, .bool nd.fin] := hcp.v
      have cb : Ch0 w1 (w1.alloc (.cells #[.int .i64 nd.id, .int .i64 nd.cls, .slice ar nd.refs.length cr, .slice ad nd.data.length cd, .bool nd.fin] 36)) := (Ch.refl _ _).alloc _
      have y4 := (Held1.new hcp).y4
      have c2 := c1.trans cb
      have hW1s : (w1.alloc (.cells #[.int .i64 nd.id, .int .i64 nd.cls, .slice ar nd.refs.length cr, .slice ad nd.data.length cd, .bool nd.fin] 36)).heap.size = w1.heap.size + 1 := World.size_alloc _ _
      obtain ⟨W1, hW1⟩ : ∃ W1, W1 = w1.alloc (.cells #[.int .i64 nd.id, .int .i64 nd.cls, .slice ar nd.refs.length cr, .slice ad nd.data.length cd, .bool nd.fin] 36) := ⟨_, rfl⟩
      rw [← hW1] at c2 y4 hW1s
      have hr2 := hr.out.keep c2 (fun _ _ e => e)
      have d2 := d.out.trans c2
      have hx2 := c2.cell hx (fun e => e)
      clear hny hcp c1 cb c2 hr d hx
      cases hfin : nd.fin with
      | false =>
        have hst : Hid (finalsL (L.take (j + 1)) = finalsL (L.take j)) := Lib.hid (by rw [hsn.out, hfin]; simp)
        rw [hfin] at y4 hW1
        have HE := Lib.hid (And.intro d2 hr2)
        clear d2 hr2 hsn hfin hx2
        subst hW1
        go_wp2_with fail
        go_roundw
        case rel => exact ⟨j + 1, by omega, by go_num, HE.out.1, by rw [hst.out]; exact HE.out.2, hf.out⟩
        case measure => simp [intOf]; omega
      | true =>
        have hst : finalsL (L.take (j + 1)) = finalsL (L.take j) ++ [nd.id] := by rw [hsn.out, hfin]; simp
        rw [hfin] at y4 hW1
        have ca : Ch0 W1 (W1.alloc (.cells #[.int .i64 nd.id] 3)) := (Ch.refl _ _).alloc _
        obtain ⟨a4, c4, w4, hrun, r4, d4, b4⟩ := run_int (hr2.keep ca (fun _ _ e => e)) (by omega) W1.heap.size nd.id (heap_alloc_new W1 _) 34
        have HF : Hid (Ch0 w6 w4 ∧ RowAt w4 3 1 (.slice a4 ((finalsL (L.take j)).length + 1) c4) (finalsL (L.take (j + 1))).length ((finalsL (L.take (j + 1))).map (Value.int .i64)) ∧ ∀ k, rblk (.slice a4 ((finalsL (L.take j)).length + 1) c4) = some k → w6.heap.size ≤ k) := by
          refine Lib.hid ⟨(d2.trans ca).trans' d4 (fun _ _ e => e) (fun k hk e => by have := hf.out k e; omega), ?_, ?_⟩
          · rw [hst, List.length_append]; exact r4
          · intro k hk
            rcases b4 with e | e
            · rw [e] at hk; exact hf.out k hk
            · rw [e] at hk; cases hk; rw [World.size_alloc]; have := d2.size; omega
        rw [hW1s] at hrun
        clear d2 hr2 hsn hfin hx2 hst ca r4 d4 b4
        subst hW1
        go_wp2_with (at_builtin; refine wpList_append_run rfl _ _ 34 34 rfl rfl rfl hrun ?_)
        go_roundw
        case rel => exact ⟨j + 1, by omega, by go_num, HF.out⟩
        case measure => simp [intOf]; omega
    · obtain rfl : j = L.length := by omega
      rw [List.take_length] at hr hf ⊢
      have HE := Lib.hid (And.intro hr (And.intro (fun k hk => Nat.le_trans c6.out.size (hf k hk)) (c6.out.trans d)))
      clear hr hf d
      go_wp2_with fail
      go_ret
      exact ⟨_, rfl, HE.out⟩

end

end Go.Proofs.Ytlmeponoadhheaa
