/-
  CensusDiffs: the walk.
-/
import Derived.Test.YtlmeponoadhheaaRows19
namespace Go.Proofs.Ytlmeponoadhheaa
set_option linter.unusedVariables false
open Go.RowKit

theorem rows_in {A Bs R : List R5} (ha : Few60 A) (hb : Few60 Bs) (h : IsRows (dr A Bs) R) : ∀ r ∈ R, r.In 140737488355328 := by
  intro r hr
  rw [((h.2 r).1 hr).1]
  refine (dr_in (by decide) ha.i hb.i r.cls).mono ?_
  have := ha.n
  have := hb.n
  omega

set_option maxRecDepth 100000 in
set_option maxHeartbeats 4000000 in
theorem diffs19_walk (A Bs : List R5) (va vb : Value) (w : World) (hsa : SeesR (fun k => k < w.heap.size) w va A) (hsb : SeesR (fun k => k < w.heap.size) w vb Bs) :
    Calls Try.prog 24 #[va, vb] w fun e w' => e = .returned (.bool true) ∧ Ch0 w w' := by
  obtain ⟨aa, ca, rfl, -⟩ := hsa.len
  obtain ⟨ab, cb, rfl, -⟩ := hsb.len
  have HSA := Lib.hid (stay hsa)
  have HSB := Lib.hid (stay hsb)
  clear hsa hsb
  go_enter Try.func24, Try.ntmps24
  go_wp2_with fail
  refine (awake_at w (Ch.refl _ _)).mono ?_
  rintro e w1 ⟨rfl, c1⟩
  replace c1 := Lib.hid c1
  by_cases hfa : fewR A = true
  case neg =>
    have hfa' : fewR A = false := by simpa using hfa
    have hF := few_at HSA.out w1 c1.out
    rw [hfa'] at hF
    clear hfa hfa'
    go_wp2_with fail
    refine hF.mono ?_
    rintro e w2 ⟨rfl, c2⟩
    replace c2 := Lib.hid c2
    clear hF
    go_wp2_with fail
    refine (awake_at w2 c2.out).mono ?_
    rintro e w3 ⟨rfl, c3⟩
    replace c3 := Lib.hid c3
    go_wp2_with fail
    go_ret
    exact ⟨rfl, c3.out⟩
  have hF := few_at HSA.out w1 c1.out
  rw [hfa] at hF
  go_wp2_with fail
  refine hF.mono ?_
  rintro e w2 ⟨rfl, c2⟩
  replace c2 := Lib.hid c2
  clear hF c1
  by_cases hfb : fewR Bs = true
  case neg =>
    have hfb' : fewR Bs = false := by simpa using hfb
    have hF := few_at HSB.out w2 c2.out
    rw [hfb'] at hF
    clear hfb hfb'
    go_wp2_with fail
    refine hF.mono ?_
    rintro e w3 ⟨rfl, c3⟩
    replace c3 := Lib.hid c3
    clear hF
    go_wp2_with fail
    refine (awake_at w3 c3.out).mono ?_
    rintro e w4 ⟨rfl, c4⟩
    replace c4 := Lib.hid c4
    go_wp2_with fail
    go_ret
    exact ⟨rfl, c4.out⟩
  have hF := few_at HSB.out w2 c2.out
  rw [hfb] at hF
  have HA := Lib.hid (few60 hfa)
  have HB := Lib.hid (few60 hfb)
  clear hfa hfb
  go_wp2_with fail
  refine hF.mono ?_
  rintro e w3 ⟨rfl, c3⟩
  have h1 := back_of _ _ A w3 (HSA.out w3 c3) (fun _ h => h) (by have := HA.out.n; omega)
  replace c3 := Lib.hid c3
  clear hF c2
  go_wp2_with fail
  refine h1.mono ?_
  rintro e w4 ⟨u4, rfl, hx, d4⟩
  have h2 := back_of _ _ Bs w4 (HSB.out w4 (c3.out.trans d4)) (fun _ h => h) (by have := HB.out.n; omega)
  have c4 := Lib.hid (c3.out.trans d4)
  have SX := Lib.hid (stay hx.seesB)
  obtain ⟨xa, xc, rfl, -⟩ := hx.seesB.len
  clear h1 c3 hx d4
  go_wp2_with fail
  refine h2.mono ?_
  rintro e w5 ⟨u5, rfl, hy, d5⟩
  have c5 := Lib.hid (c4.out.trans d5)
  have hw5 := Lib.hid c5.out.size
  have SX5 := Lib.hid (SX.out.on d5)
  have SY5 := Lib.hid (stay hy.seesB)
  obtain ⟨ya, yc, rfl, -⟩ := hy.seesB.len
  have h3 := cdiff_of _ _ _ A Bs w5 SX5.out.here SY5.out.here (fun _ h => h) HA.out.few HB.out.few
  clear h2 d5 c4 SX hy
  go_wp2_with fail
  refine h3.mono ?_
  rintro e w6 ⟨u6, R, rfl, hR, hd, hl6, d6⟩
  have c6 := Lib.hid (c5.out.trans d6)
  have hR5 := hR
  have hlR : R.length ≤ 120 := by have := HA.out.n; have := HB.out.n; omega
  have h1 := cdiff_of _ _ _ Bs A w6 (SY5.out w6 d6) (SX5.out w6 d6) (fun _ h => h) HB.out.few HA.out.few
  have HD := Lib.hid hd
  have c56 := Lib.hid d6
  obtain ⟨da, dc, rfl, -⟩ := hd.seesB.len
  replace hR := Lib.hid hR
  clear h3 c5 hl6 hd d6
  go_wp2_with fail
  refine h1.mono ?_
  rintro e w7 ⟨u7, R2, rfl, hR2, hu, -, d7⟩
  obtain rfl := rows_neg hR.out hR2
  have c7 := Lib.hid (c6.out.trans d7)
  have c57 := Lib.hid (c56.out.trans d7)
  have h2 := cdiff_of _ _ _ A A w7 (SX5.out w7 c57.out) (SX5.out w7 c57.out) (fun _ h => h) HA.out.few HA.out.few
  have HD7 := Lib.hid (HD.out.keep d7 (fun _ _ e => e))
  have HU7 := Lib.hid hu
  obtain ⟨ua, uc, eu, -⟩ := hu.seesB.len
  rw [List.length_map] at eu
  subst eu
  clear h1 d7 c6 c56 hR2 hu HD hR5
  go_wp2_with fail
  refine h2.mono ?_
  rintro e w8 ⟨u8, R3, rfl, hR3, hz, -, d8⟩
  obtain rfl := hR3.nil (dr_self A)
  obtain ⟨za, zc, rfl, -⟩ := hz.seesB.len
  have c8 := Lib.hid (c7.out.trans d8)
  have c58 := Lib.hid (c57.out.trans d8)
  have HD8 := Lib.hid (HD7.out.keep d8 (fun _ _ e => e))
  have HU8 := Lib.hid (HU7.out.keep d8 (fun _ _ e => e))
  have hi := rows_in HA.out HB.out hR.out
  replace hi := Lib.hid hi
  have g0 : ((R.length : Int) != (R.length : Int)) = false := by simp
  clear h2 d8 c7 c57 hR3 hz HD7 HU7
  go_wp2_with fail
  clear g0
  go_loopw [47] (fun i wr => ∃ j : Nat, j ≤ R.length ∧ i = .int .i64 j ∧ Ch0 w8 wr) (fun i _ => R.length - (intOf i).toNat)
  case atStart => exact ⟨0, Nat.zero_le _, rfl, Ch.refl _ _⟩
  case round =>
    obtain ⟨j, hj, rfl, d⟩ := hrel
    by_cases hlt : j < R.length
    · obtain ⟨g, o, c', -, e2, hcell⟩ := (SeesR.keep HD8.out.seesB d (fun _ _ e => e)).row (by omega)
      obtain ⟨rfl, rfl⟩ : da = some ⟨g, o, none⟩ ∧ dc = c' := by simpa using e2
      obtain ⟨x0, x1, x2, x3, x4⟩ := hcell j hlt
      obtain ⟨g', o', c'', -, e3, hcell'⟩ := (SeesR.keep HU8.out.seesB d (fun _ _ e => e)).row (by rw [List.length_map]; omega)
      rw [List.length_map] at e3
      obtain ⟨rfl, rfl⟩ : ua = some ⟨g', o', none⟩ ∧ uc = c'' := by simpa using e3
      obtain ⟨y0, y1, y2, y3, y4⟩ := hcell' j (by rw [List.length_map]; exact hlt)
      simp only [List.getElem_map] at y0 y1 y2 y3 y4
      have hri := hi.out _ (List.getElem_mem hlt)
      have hri2 := hi.out _ (List.getElem_mem hlt)
      unfold R5.In at hri
      simp only [R5.neg] at y0 y1 y2 y3 y4
      have i1 : (0 : Int) ≤ j := by omega
      have i2 : (j : Int) < R.length := by omega
      have hpre : (j = 0) ∨ ∃ m : Nat, ∃ hm : m < R.length, m + 1 = j ∧ R[m].cls < R[j].cls ∧ wr.cell? ⟨g, o + m * 5, none⟩ = some (.int .i64 R[m].cls) := by
        rcases Nat.eq_zero_or_pos j with h | h
        · exact .inl h
        · refine .inr ⟨j - 1, by omega, by omega, ?_, (hcell (j - 1) (by omega)).1⟩
          exact List.pairwise_iff_getElem.1 hR.out.1 (j - 1) j (by omega) hlt (by omega)
      clear e2 e3 hcell hcell' hri2
      generalize R[j] = r at *
      have m1 : IntKind.i64.wrap r.cnt = r.cnt := IntWalk.i64_in _ (by omega)
      have m2 : IntKind.i64.wrap r.wds = r.wds := IntWalk.i64_in _ (by omega)
      have m3 : IntKind.i64.wrap r.refs = r.refs := IntWalk.i64_in _ (by omega)
      have m4 : IntKind.i64.wrap r.fin = r.fin := IntWalk.i64_in _ (by omega)
      have n1 : IntKind.i64.wrap (-(-r.cnt)) = r.cnt := by rw [Int.neg_neg]; exact m1
      have n2 : IntKind.i64.wrap (-(-r.wds)) = r.wds := by rw [Int.neg_neg]; exact m2
      have n3 : IntKind.i64.wrap (-(-r.refs)) = r.refs := by rw [Int.neg_neg]; exact m3
      have n4 : IntKind.i64.wrap (-(-r.fin)) = r.fin := by rw [Int.neg_neg]; exact m4
      replace d := Lib.hid d
      clear hri
      replace hpre := Lib.hid hpre
      go_wp2_with fail
      refine wp_region_quiet_lit (by kernel_rfl) (by kernel_rfl) ?_
      simp only [List.append_eq, List.cons_append, List.nil_append]

      rcases hpre.out with h0 | ⟨m, hm, hmj, hlc, z0⟩
      · have g3 : decide (0 < j) = false := decide_eq_false (by omega)
        clear h0 hpre
        repeat (go_big_quiet_step (fail))
        refine wpQuiet_nil ?_
        intro w9 hw9
        obtain ⟨nq, rfl⟩ := hw9
        have cq := Lib.hid (d.out.drewN nq)
        clear d x0 x1 x2 x3 x4 y0 y1 y2 y3 y4 g3
        generalize wr.drewN nq = w9 at *
        go_wp2_with fail
        go_roundw
        case rel => exact ⟨j + 1, by omega, by go_num, cq.out⟩
        case measure => simp [intOf]; omega
      · have g3 : decide (0 < j) = true := decide_eq_true (by omega)
        have t1 : IntKind.i64.wrap ((j : Int) - 1) = m := (congrArg _ (by omega)).trans (IntWalk.i64_in m (by omega))
        have i3 : (0 : Int) ≤ m := by omega
        have i4 : (m : Int) < R.length := by omega
        generalize R[m].cls = pc at *
        have g4 : decide (r.cls ≤ pc) = false := decide_eq_false (by omega)
        clear hmj hlc hpre
        repeat (go_big_quiet_step (fail))
        refine wpQuiet_nil ?_
        intro w9 hw9
        obtain ⟨nq, rfl⟩ := hw9
        have cq := Lib.hid (d.out.drewN nq)
        clear d x0 x1 x2 x3 x4 y0 y1 y2 y3 y4 g3 g4 t1 z0
        generalize wr.drewN nq = w9 at *
        go_wp2_with fail
        go_roundw
        case rel => exact ⟨j + 1, by omega, by go_num, cq.out⟩
        case measure => simp [intOf]; omega
    · have i2 : (R.length : Int) ≤ j := by omega
      have HD9 := HD8.out.keep d (fun _ _ e => e)
      have c59 := c58.out.trans d
      obtain ⟨a', cc', w9, hrun, r9, d9, b9⟩ := run_crows HD9.1 (by omega) (SY5.out wr c59) (by have := HB.out.n; omega) 101
      have hbl : Bs.length ≤ 60 := HB.out.n
      have hal : (R ++ Bs).length = R.length + Bs.length := List.length_append
      have sx : SeesR (fun k => k < w9.heap.size) w9 (.slice xa A.length xc) A := by
        have h1 := SX5.out.here.keep c59 (fun _ _ e => e)
        have h2 : SeesR _ w9 _ A := h1.keep d9 (fun k hk e => by have := HD9.2 k e; omega)
        exact Sees.mono h2 (fun k hk => by have := c59.size; have := d9.size; omega)
      have hcd := cdiff_of _ _ _ (R ++ Bs) A w9 (HasR.seesB (T := 106) (D := fun _ => True) ⟨r9, fun _ _ => trivial⟩) sx (fun _ h => h) ⟨by rw [hal]; omega, fun r hr => by
        rcases List.mem_append.1 hr with h | h
        · exact (hi.out r h).mono (by decide)
        · exact (HB.out.i r h).mono (by decide)⟩ HA.out.few
      have cW : Ch0 w w9 := (c8.out.trans d).trans' d9 (fun _ _ e => e) (fun k hk e => by have := HD9.2 k e; have := hw5.out; omega)
      replace cW := Lib.hid cW
      replace hal := Lib.hid hal
      clear HD9 c59 r9 d9 b9 sx d
      go_wp2_with (at_builtin; refine wpList_append_run rfl _ _ 101 101 rfl rfl rfl hrun ?_)
      rw [hal.out] at hcd
      go_wp2_with fail
      refine hcd.mono ?_
      rintro e w10 ⟨v, L, rfl, hL, hv, -, d10⟩
      obtain rfl := hL.nil (rows_back hR.out)
      obtain ⟨ya', yc', rfl, -⟩ := hv.seesB.len
      have HE := Lib.hid (cW.out.trans d10)
      clear hcd d10 hv hL
      go_wp2_with fail
      go_ret
      exact ⟨rfl, HE.out⟩

end Go.Proofs.Ytlmeponoadhheaa
