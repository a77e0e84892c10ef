/-
  CensusMore: the walk.
-/
import Derived.Test.YtlmeponoadhheaaCounts19
namespace Go.Proofs.Ytlmeponoadhheaa
set_option linter.unusedVariables false
open Go.RowKit

theorem Try.infoU5 : (Try.prog.info? 5).map (fun i => (i.zero, i.size, i.bytes)) = some (some (.int .u8 0), 1, 1) := by kernel_rfl
theorem Try.underU23 : Try.prog.underlying 23 = some (.slice 5) := by kernel_rfl

theorem one_u8 (xs : List Int) : ∀ u ∈ xs.map (Value.int .u8), u.oneCell' = true := by
  intro u hu
  obtain ⟨x, -, rfl⟩ := List.mem_map.1 hu
  rfl

theorem run_u8s {w : World} {v : Value} {n : Nat} {xs : List Value} (hrow : RowAt w 5 1 v n xs) {D : Nat → Prop} {y : Value} {ys : List Int} (hy : Sees D w y 1 ys.length (ys.map (Value.int .u8))) (hroom : n + ys.length ≤ 140737488355328) (ty : TypeId) :
    ∃ a' c' w', (Builtin.append_ #[23, 23] ty #[v, y]).run Try.prog w = .ok (.slice a' (n + ys.length) c') w' ∧ RowAt w' 5 1 (.slice a' (n + ys.length) c') (n + ys.length) (xs ++ ys.map (Value.int .u8)) ∧
      Ch (fun k => rblk v = some k) w w' ∧ (rblk (.slice a' (n + ys.length) c') = rblk v ∨ rblk (.slice a' (n + ys.length) c') = some w.heap.size) := by
  obtain ⟨i0, hi, hz0, hz1, hz2⟩ := info_parts Try.infoU5
  obtain ⟨v', w', hrun, h2, h3, h4⟩ := append_at w 23 ty 5 i0 _ 1 1 Try.underU23 hi hz0 hz1 hz2 rfl v n _ hrow _ _ _ hy (one_u8 ys) (by unfold maxLen; omega) (by omega)
  obtain ⟨a', c', rfl, -, -⟩ := h2.isSlice
  exact ⟨a', c', w', hrun, h2, h3, h4⟩

theorem copy_u8s {D : Nat → Prop} {w : World} {y : Value} {ys : List Int} (hy : Sees D w y 1 ys.length (ys.map (Value.int .u8))) (hroom : ys.length ≤ 140737488355328) (ty : TypeId) :
    ∃ a' c' w', (Builtin.append_ #[23, 23] ty #[.slice (some ⟨w.heap.size, 0, none⟩) 0 0, y]).run Try.prog (w.alloc (.cells #[] 5)) = .ok (.slice a' ys.length c') w' ∧ RowAt w' 5 1 (.slice a' ys.length c') ys.length (ys.map (Value.int .u8)) ∧
      Ch0 w w' ∧ (∀ k, rblk (.slice a' ys.length c') = some k → w.heap.size ≤ k) := by
  have hrow : RowAt (w.alloc (.cells #[] 5)) 5 1 (.slice (some ⟨w.heap.size, 0, none⟩) 0 0) 0 [] :=
    ⟨rfl, .inr ⟨w.heap.size, 0, 0, #[], rfl, heap_alloc_new w _, Nat.le_refl _, by decide, by simp, by simp⟩⟩
  obtain ⟨a', c', w2, hrun, r2, d2, b2⟩ := run_u8s hrow (Sees.keep hy ((Ch.refl (fun _ => False) w).alloc (.cells #[] 5)) (fun _ _ e => e)) (by omega) ty
  simp only [Nat.zero_add, List.nil_append] at hrun r2 b2
  refine ⟨a', c', w2, hrun, r2, ((Ch.refl (fun _ => False) w).alloc _).trans' d2 (fun _ _ e => e) (fun k hk e => ?_), fun k hk => ?_⟩
  · have e' : w.heap.size = k := by simpa [rblk] using e
    omega
  · rcases b2 with q | q
    · rw [q] at hk
      have e' : w.heap.size = k := by simpa [rblk] using hk
      omega
    · rw [q] at hk; cases hk; rw [World.size_alloc]; omega

theorem madB_less {cs : List Cls} {ns : List Int} {x : Int} (h : madB cs ns = false) : madB cs (ns ++ [x]) = false := by
  unfold madB at *
  cases hb : decide (1 ≤ cs.length) && (decide (cs.length ≤ 63) && decide (newC cs = 0)) with
  | false => simp
  | true =>
    rw [hb, Bool.and_true] at h
    have : ¬ ns.length ≤ 60 := by simpa using h
    rw [Bool.and_true, List.length_append, List.length_singleton]
    exact decide_eq_false (by omega)

/-- the row of the node that is more -/
theorem more_row {L : List GN} {nd : GN} {D : List R5} (h : IsRows (dr (grows (L ++ [nd])) (grows L)) D) : D = [⟨nd.cls, 1, 2 + nd.refs.length + nd.data.length, live5 nd.refs, if nd.fin then 1 else 0⟩] := by
  refine h.eq (t := dr (grows (L ++ [nd])) (grows L)) ⟨List.pairwise_singleton _ _, fun r => ?_⟩ (fun _ => rfl)
  rw [List.mem_singleton]
  constructor
  · rintro rfl
    refine ⟨by rw [grows_snoc, if_pos rfl], rfl⟩
  · rintro ⟨h1, h2⟩
    rw [grows_snoc] at h1
    by_cases e : nd.cls = r.cls
    · rw [if_pos e] at h1
      rw [h1]
      exact R5.ext4 e.symm rfl rfl rfl rfl
    · rw [if_neg e] at h1
      rw [h1] at h2; cases h2

set_option maxRecDepth 100000 in
set_option maxHeartbeats 4000000 in
theorem more19_walk (cs : List Cls) (ns : List Int) (cv nv : Value) (x : Int) (w : World) (hs : SeesN (fun k => k < w.heap.size) w cv nv cs ns) (hf : Fit cs) (hx : isU8 x) (hroom : ns.length ≤ 140737488351232) :
    Calls Try.prog 26 #[cv, nv, .int .u8 x] w fun e w' => e = .returned (.bool true) ∧ Ch0 w w' := by
  have HM := Lib.hid (mad_at hs hf w (Ch.refl _ _))
  have hnf := Lib.hid (u8_le hs.nf)
  have HS := Lib.hid hs
  have HF := Lib.hid hf
  have HX := Lib.hid hx
  obtain ⟨ca, cc, rfl, -⟩ := hs.c.len
  obtain ⟨na, nc, rfl, hnl⟩ := hs.n.len
  clear hs hf hx hnl
  go_enter Try.func26, Try.ntmps26
  go_wp2_with fail
  refine HM.out.mono ?_
  rintro e w1 ⟨c1, h1⟩
  obtain ⟨a3, c3, w3, hrun1, r3, d3, f3⟩ := copy_u8s (HS.out.n.keep c1 (fun _ _ e => e)) (by omega) 23
  have cX : Ch0 w3 (w3.alloc (.cells #[.int .u8 x] 5)) := (Ch.refl _ _).alloc _
  obtain ⟨a4, c4, w4, hrun2, r4, d4, b4⟩ := run_u8s (r3.keep cX (fun _ _ e => e)) (D := fun k => k = w3.heap.size) (y := .slice (some ⟨w3.heap.size, 0, none⟩) 1 1) (ys := [x]) (sees_one_cell (heap_alloc_new w3 _)) (by simp only [List.length_singleton]; omega) 23
  simp only [List.length_singleton, ← List.map_append] at hrun2 r4 b4
  have c14 : Ch0 w1 w4 := (d3.trans cX).trans' d4 (fun _ _ e => e) (fun k hk e => by have := f3 k e; omega)
  have c04 := c1.trans c14
  have HM2 := mad_of cs (ns ++ [x]) (.slice ca cs.length cc) (.slice a4 (ns.length + 1) c4) w4 ⟨Sees.mono (HS.out.c.keep c04 (fun _ _ e => e)) (fun k hk => Nat.lt_of_lt_of_le hk c04.size), by
    rw [List.length_append, List.length_singleton]
    exact Sees.mono r4.sees (fun k hk => r4.lt hk), fun y hy => by
      rcases List.mem_append.1 hy with h | h
      · exact HS.out.nf y h
      · rw [List.mem_singleton.1 h]; exact HX.out⟩ HF.out
  replace c14 := Lib.hid c14
  replace c04 := Lib.hid c04
  replace HM2 := Lib.hid HM2
  clear r3 d3 f3 cX r4 d4 b4 HM
  rcases h1 with ⟨hB, rfl⟩ | ⟨hB, b1, b2, p, lo, hi, O1, O2, D1, rfl, hD1⟩
  · have hB2 : madB cs (ns ++ [x]) = false := madB_less hB
    clear hB c1
    go_wp2_with (at_builtin; first | (refine wpList_append_run rfl _ _ 23 23 rfl rfl rfl hrun1 ?_; clear hrun1) | (refine wpList_append_run rfl _ _ 23 23 rfl rfl rfl hrun2 ?_; clear hrun2))
    refine HM2.out.mono ?_
    rintro e w5 (⟨-, rfl, d5⟩ | ⟨h2, -⟩)
    case inr => rw [hB2] at h2; cases h2
    have c5 := Lib.hid (c04.out.trans d5)
    clear HM2 hB2 d5
    go_wp2_with fail
    refine (awake_at w5 c5.out).mono ?_
    rintro e w6 ⟨rfl, c6⟩
    replace c6 := Lib.hid c6
    go_wp2_with fail
    refine (awake_at w6 c6.out).mono ?_
    rintro e w7 ⟨rfl, c7⟩
    replace c7 := Lib.hid c7
    go_wp2_with fail
    go_ret
    exact ⟨rfl, c7.out⟩
  have hD14 := Lib.hid (hD1.new c14.out)
  have hD1w := Lib.hid hD1
  clear hD1 c1
  go_wp2_with (at_builtin; first | (refine wpList_append_run rfl _ _ 23 23 rfl rfl rfl hrun1 ?_; clear hrun1) | (refine wpList_append_run rfl _ _ 23 23 rfl rfl rfl hrun2 ?_; clear hrun2))
  refine HM2.out.mono ?_
  rintro e w5 (⟨hB2, rfl, d5⟩ | ⟨hB2, e1, e2, p', lo', hi', P1, P2, rfl, hE⟩)
  · have c5 := Lib.hid (c04.out.trans d5)
    clear HM2 hB2 d5 hB hD14 hD1w
    go_wp2_with fail
    refine (awake_at w5 c5.out).mono ?_
    rintro e w6 ⟨rfl, c6⟩
    replace c6 := Lib.hid c6
    go_wp2_with fail
    refine (awake_at w6 c6.out).mono ?_
    rintro e w7 ⟨rfl, c7⟩
    replace c7 := Lib.hid c7
    go_wp2_with fail
    go_ret
    exact ⟨rfl, c7.out⟩
  obtain ⟨hn60, hcs0, hcs63, hal⟩ := mad_ok hB2
  rw [List.length_append, List.length_singleton] at hn60
  have hxr : 0 ≤ x ∧ x ≤ 255 := ⟨HX.out.1, by have := HX.out.2; omega⟩
  have hsn := graphC_snoc hcs0 hnf.out hxr
  have hid := graphC_ids hcs0 hnf.out
  have hlen := graphC_len hcs0 hnf.out
  have hks := keep_snoc hcs0 hnf.out x
  rw [hsn] at hE
  rw [← hid] at hks
  have hndid : (nodeC cs ns.length x).id = (ns.length : Int) + 1 := rfl
  have hndw : WfN cs (nodeC cs ns.length x) := hE.g.wf _ (List.mem_append_right _ (List.mem_singleton.2 rfl))
  have hdis : Hid (∀ k, O1 k → ¬ P1 k) := Lib.hid (fun k h1 h2 => by have := hD14.out.g.g.small k h1; have := hE.f1 k h2; omega)
  have hdis2 : Hid (∀ k, lo ≤ k → k < hi → ¬ P1 k) := Lib.hid (fun k h1 h2 h3 => by have := hD14.out.g.hiw; have := hE.f1 k h3; omega)
  have hP4 : Hid (∀ k, P1 k → w.heap.size ≤ k) := Lib.hid (fun k h => by have := hE.f1 k h; have := c04.out.size; omega)
  generalize graphC cs ns = L at *
  generalize nodeC cs ns.length x = nd at *
  have c5 := Lib.hid (c04.out.trans hE.ch)
  have G5 := Lib.hid (hD14.out.g.new hE.ch)
  have E5 := Lib.hid hE.g
  have q1 := hndw.refs
  have q2 := hndw.data
  have hL2 : (L ++ [nd]).length ≤ 60 := by rw [List.length_append, List.length_singleton]; omega
  replace hks := Lib.hid hks
  replace hid := Lib.hid hid
  replace hndid := Lib.hid hndid
  replace hsn := Lib.hid hsn
  clear HM2 hE hD14 hD1w c04 c14 hndw hB hB2 hxr
  go_wp2_with fail
  refine (awake_at w5 (Ch.refl _ _)).mono ?_
  rintro e w6 ⟨rfl, d6⟩
  have c6 := Lib.hid (c5.out.trans d6)
  have G6 := Lib.hid (G5.out.new d6)
  have E6 := Lib.hid (E5.out.new d6)
  have h1 := cof_of E6.out (by omega)
  clear d6 c5 G5 E5
  go_wp2_with fail
  refine h1.mono ?_
  rintro e w7 ⟨v7, R2, rfl, hR2, hr7, hl7, d7⟩
  have c7 := Lib.hid (c6.out.trans d7)
  have G7 := Lib.hid (G6.out.new d7)
  have E7 := Lib.hid (E6.out.new d7)
  have F7 := few_of_rows E7.out.wf (by omega) hR2 (by omega)
  have S7 := Lib.hid (stay hr7.seesB)
  have h2 := cof_of G7.out (by omega)
  replace F7 := Lib.hid F7
  replace hR2 := Lib.hid hR2
  have hl7' : R2.length ≤ 60 := by omega
  obtain ⟨za, zc, rfl, -⟩ := hr7.seesB.len
  clear h1 hr7 hl7 d7 c6 G6 E6
  go_wp2_with fail
  refine h2.mono ?_
  rintro e w8 ⟨v8, R1, rfl, hR1, hr8, hl8, d8⟩
  have c8 := Lib.hid (c7.out.trans d8)
  have G8 := Lib.hid (G7.out.new d8)
  have E8 := Lib.hid (E7.out.new d8)
  have F8 := few_of_rows G8.out.wf (by omega) hR1 (by omega)
  have h3 := cdiff_of _ _ _ R2 R1 w8 (S7.out w8 d8) hr8.seesB (fun _ h => h) F7.out F8
  clear h2 hr8 hl8 d8 c7 G7 E7 S7 F7 F8
  go_wp2_with fail
  refine h3.mono ?_
  rintro e w9 ⟨v9, Df, rfl, hDf, hr9, -, d9⟩
  have c9 := Lib.hid (c8.out.trans d9)
  have G9 := Lib.hid (G8.out.new d9)
  have E9 := Lib.hid (E8.out.new d9)
  obtain rfl := more_row (L := L) (nd := nd) (D := Df) ⟨hDf.1, fun r => by rw [hDf.2 r, dr_rows hR2.out hR1]⟩
  have S9 := Lib.hid (stay hr9.seesB)
  obtain ⟨ga, gc, rfl, -⟩ := hr9.seesB.len
  have h1 := node_yes E9.out.g (nd := nd) (List.mem_append_right _ (List.mem_singleton.2 rfl)) (by omega) (by omega)
  rw [hndid.out] at h1
  have t1 : IntKind.i64.wrap ((ns.length : Int) + 1) = (ns.length : Int) + 1 := IntWalk.i64_in _ (by omega)
  clear h3 hr9 d9 c8 G8 E8 hDf hR1 hR2
  simp only [List.length_singleton]
  go_wp2_with fail
  refine h1.mono ?_
  rintro e w10 ⟨v, vr, vd, rfl, hcp, d10⟩
  obtain ⟨rfl, hcr, hcd, -, -, -⟩ := hcp
  obtain ⟨ar, cr, rfl, -, -⟩ := hcr.isSlice
  obtain ⟨ad, cd, rfl, -, -⟩ := hcd.isSlice
  have cX : Ch0 w10 (w10.alloc (.cells #[.int .i64 nd.id, .int .i64 nd.cls, .slice ar nd.refs.length cr, .slice ad nd.data.length cd, .bool nd.fin] 36)) := (Ch.refl _ _).alloc _
  have bX := heap_alloc_new w10 (.cells #[.int .i64 nd.id, .int .i64 nd.cls, .slice ar nd.refs.length cr, .slice ad nd.data.length cd, .bool nd.fin] 36)
  have d11 := d10.trans cX
  have c11 := Lib.hid (c9.out.trans d11)
  have G11 := Lib.hid (G9.out.new d11)
  have E11 := Lib.hid (E9.out.new d11)
  obtain ⟨g, o, c', -, e2', hcell⟩ := (S9.out _ d11).row (by simp)
  simp only [List.length_singleton] at e2'
  obtain ⟨rfl, rfl⟩ : ga = some ⟨g, o, none⟩ ∧ gc = c' := by simpa using e2'
  obtain ⟨x0, x1, x2, x3, x4⟩ := hcell 0 (by simp)
  simp only [List.getElem_cons_zero, Nat.zero_mul, Nat.add_zero] at x0 x1 x2 x3 x4
  obtain ⟨y0, y1, y2, y3, y4⟩ := cells5 bX
  have i0 : (0 : Int) < 1 := by decide
  have m1 : IntKind.i64.wrap (2 + (nd.refs.length : Int)) = 2 + (nd.refs.length : Int) := IntWalk.i64_in _ (by omega)
  have m2 : IntKind.i64.wrap (2 + (nd.refs.length : Int) + (nd.data.length : Int)) = 2 + (nd.refs.length : Int) + (nd.data.length : Int) := IntWalk.i64_in _ (by omega)
  clear h1 hcr hcd d10 cX bX d11 c9 G9 E9 S9 hcell e2' t1
  go_wp2_with fail
  generalize w10.alloc (.cells #[.int .i64 nd.id, .int .i64 nd.cls, .slice ar nd.refs.length cr, .slice ad nd.data.length cd, .bool nd.fin] 36) = w11 at *
  generalize w10.heap.size = B at *
  go_quiet (fail)
  rename_i nq
  have c12 := Lib.hid (c11.out.drewN nq)
  have G12 := Lib.hid (G11.out.new (ch_drewN9 w11 nq))
  have E12 := Lib.hid (E11.out.new (ch_drewN9 w11 nq))
  clear c11 G11 E11 x0 x1 x2 x3 x4 y0 y1 y2 y3 y4 m1 m2
  generalize w11.drewN nq = w12 at *
  have h1 := ids_of G12.out (by omega)
  go_wp2_with fail
  refine h1.mono ?_
  rintro e w13 ⟨v13, rfl, hr13, -, d13⟩
  have c13 := Lib.hid (c12.out.trans d13)
  have G13 := Lib.hid (G12.out.new d13)
  have E13 := Lib.hid (E12.out.new d13)
  have h2 := keep_of E13.out (by omega) _ v13 (ids L) hr13.sees
  rw [hks.out] at h2
  obtain ⟨ia, ic, rfl, -, -⟩ := hr13.isSlice
  clear h1 hr13 d13 c12 G12 E12
  go_wp2_with fail
  refine h2.mono ?_
  rintro e w14 ⟨rfl, hE14, t14⟩
  have c14 := Lib.hid (c13.out.trans' t14.1 (fun _ _ e => e) (fun k hk e => by have := hP4.out k e; omega))
  have G14 := Lib.hid (G13.out.keep t14.1 hdis.out hdis2.out)
  have h3 := cof_of hE14 (by omega)
  replace hE14 := Lib.hid hE14
  clear h2 t14 c13 G13 E13
  go_wp2_with fail
  refine h3.mono ?_
  rintro e w15 ⟨v15, R3, rfl, hR3, hr15, hl15, d15⟩
  have c15 := Lib.hid (c14.out.trans d15)
  have G15 := Lib.hid (G14.out.new d15)
  have F15 := few_of_rows G15.out.wf (by omega) hR3 (by omega)
  have S15 := Lib.hid (stay hr15.seesB)
  have h1 := cof_of G15.out (by omega)
  obtain ⟨ya, yc, rfl, -⟩ := hr15.seesB.len
  replace F15 := Lib.hid F15
  replace hR3 := Lib.hid hR3
  clear h3 hr15 hl15 d15 c14 G14 hE14
  go_wp2_with fail
  refine h1.mono ?_
  rintro e w16 ⟨v16, R4, rfl, hR4, hr16, hl16, d16⟩
  obtain rfl : R3 = R4 := hR3.out.eq hR4 (fun _ => rfl)
  have c16 := Lib.hid (c15.out.trans d16)
  have h2 := cdiff_of _ _ _ R3 R3 w16 (S15.out w16 d16) hr16.seesB (fun _ h => h) F15.out F15.out
  clear h1 hr16 hl16 d16 c15 G15 S15 hR4
  go_wp2_with fail
  refine h2.mono ?_
  rintro e w17 ⟨v17, R5', rfl, hR5, hr17, -, d17⟩
  obtain rfl := hR5.nil (dr_self R3)
  obtain ⟨wa, wc, rfl, -⟩ := hr17.seesB.len
  have c17 := Lib.hid (c16.out.trans d17)
  clear h2 hr17 d17 c16 hR5
  go_wp2_with fail
  go_ret
  exact ⟨rfl, c17.out⟩

end Go.Proofs.Ytlmeponoadhheaa
