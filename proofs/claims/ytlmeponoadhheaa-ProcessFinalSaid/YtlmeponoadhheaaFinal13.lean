/-
  gleaninglaw13.ProcessFinal answers true: the walk. (Printed by pfinal.py.)
-/
import Derived.Test.YtlmeponoadhheaaPAwake
import Derived.Test.YtlmeponoadhheaaKeepF
import Derived.Test.YtlmeponoadhheaaApply
namespace Go.Proofs.Ytlmeponoadhheaa
set_option linter.unusedVariables false
open Go.RowKit Go.Sort

set_option maxRecDepth 100000 in
set_option maxHeartbeats 4000000 in
theorem final13_walk (cs : List Cls) (ns : List Int) (rs : List (Int × Int × Int)) (cv nv rv u : Value) (roots : List Int) (w : World) (hs : SeesW (fun k => k < w.heap.size) w cv nv rv cs ns rs) (hf : Fit cs) (hu : SeesI (fun k => k < w.heap.size) w u roots) :
    Calls Try.prog 21 #[.agg #[cv, nv, rv], u] w fun e w' => e = .returned (.bool true) ∧ Ch0 w w' := by
  obtain ⟨na, nc, rfl, hnl⟩ := hs.n.len
  obtain ⟨ca, cc, rfl, -⟩ := hs.c.len
  obtain ⟨ra, rc, rfl, -⟩ := hs.r.len
  have HA := Lib.hid awake13
  have HM : Hid (∀ W, Ch0 w W → _) := Lib.hid (fun W (c : Ch0 w W) => pmade_at hs hf c)
  obtain ⟨ua, uc, rfl, hul⟩ := hu.len
  have HU := Lib.hid hu
  clear hs hf hu
  have cA : Ch0 w (w.alloc (.cells #[.slice ca cs.length cc, .slice na ns.length nc, .slice ra rs.length rc] 84)) := (Ch.refl _ _).alloc _
  have x1 : (w.alloc (.cells #[.slice ca cs.length cc, .slice na ns.length nc, .slice ra rs.length rc] 84)).cell? ⟨w.heap.size, 1, none⟩ = some (.slice na ns.length nc) := (by first | (simp; done) | simpa using cell_of_row _ w.heap.size 1 _ _ _ (heap_alloc_new w (.cells #[.slice ca cs.length cc, .slice na ns.length nc, .slice ra rs.length rc] 84)))
  replace cA := Lib.hid cA
  go_enter Try.func21, Try.ntmps21
  go_wp2_with fail
  generalize w.alloc (.cells #[.slice ca cs.length cc, .slice na ns.length nc, .slice ra rs.length rc] 84) = W0 at *
  generalize w.heap.size = P at *
  refine (HM.out _ cA.out).mono ?_
  rintro e w1 (⟨hmB, rfl, d1⟩ | ⟨hmB, b1, b2, p, lo, hi, O1, O2, D, rfl, hD⟩)
  · have HE := Lib.hid (cA.out.trans d1)
    clear d1 HM hmB
    go_wp2_with fail
    refine (HA.out _).mono ?_
    rintro e w2 ⟨rfl, d2⟩
    have HE2 := Lib.hid (HE.out.trans d2)
    clear d2
    go_wp2_with fail
    refine (HA.out _).mono ?_
    rintro e w3 ⟨rfl, d3⟩
    have HE3 := Lib.hid (HE2.out.trans d3)
    clear d3
    go_wp2_with fail
    go_ret
    exact ⟨rfl, HE3.out⟩
  have hmW := madeW_of hmB
  have hnn := hmW.n
  have hLn := hmW.ok.len
  have hL40 : (madeL cs ns rs).length ≤ 40 := by omega
  replace hLn := Lib.hid hLn
  replace hmW := Lib.hid hmW
  replace hD := Lib.hid hD
  clear hmB HM
  generalize madeL cs ns rs = L at *
  go_wp2_with fail
  refine (HA.out _).mono ?_
  rintro e w2 ⟨rfl, d2⟩
  have hD2 := Lib.hid (hD.out.new d2)
  clear hD d2
  by_cases b4 : roots.length ≤ 40
  case neg =>
    have g4 : decide ((40 : Int) < roots.length) = true := decide_eq_true (by omega)
    clear b4
    go_wp2_with fail
    refine (HA.out _).mono ?_
    rintro e w3 ⟨rfl, d3⟩
    have HE3 := Lib.hid (cA.out.trans (hD2.out.new d3).ch)
    clear d3
    go_wp2_with fail
    go_ret
    exact ⟨rfl, HE3.out⟩
  have g4 : decide ((40 : Int) < roots.length) = false := decide_eq_false (by omega)
  have hlow : Hid (Low L) := Lib.hid (fun nd hnd => by
    have h1 := (hmW.out.ok.mem).1 (mem_ids.2 ⟨nd, hnd, rfl⟩)
    have := hmW.out.n
    omega)
  have hrise : Hid (Rising L) := Lib.hid hD2.out.r.rise
  have hcl := rclose_of hD2.out.r hmW.out.right (by omega) _ _ roots (HU.out.keep (cA.out.trans hD2.out.ch) (fun _ _ e => e)) 1
  go_wp2_with fail
  refine hcl.mono ?_
  rintro e w3 ⟨v3, rfl, r3, -, c3⟩
  have hSl : (closeL cs L 1 roots).length ≤ 40 := Nat.le_trans closeL_len hL40
  obtain ⟨S, hS⟩ : ∃ S, S = closeL cs L 1 roots := ⟨_, rfl⟩
  rw [← hS] at r3 hSl
  obtain ⟨a3, cc3, rfl, -, -⟩ := r3.isSlice
  have hD3 := Lib.hid (hD2.out.new c3)
  have HS := Lib.hid r3
  replace hS := Lib.hid hS
  clear hcl c3 r3 hD2
  have hr1 := prun_res hD3.out.g (by omega) (hmW.out.right) (hmW.out.ok.refs) _ _ (show KeepOk .nilFunc (fun _ => false) _ _ from .inl ⟨rfl, rfl⟩) _ _ (roots := roots) (HU.out.keep (cA.out.trans hD3.out.ch) (fun _ _ e => e)) (by omega)
  go_wp2_with fail
  refine hr1.mono ?_
  rintro e v1 ⟨la1, lc1, ca1, cc1, fa1, fc1, s1, t1, C1, F1, rfl, hPR1, hRA1, hRO1, c1⟩
  have hNO1 := Lib.hid (hRO1.off hD3.out.g.small c1)
  have dd : Ch0 _ (v1.alloc (.cells #[.slice la1 t1.length lc1, .slice ca1 C1.length cc1, .slice fa1 F1.length fc1] 86)) := c1.alloc _
  replace HS := Lib.hid (HS.out.keep dd (fun _ _ e => e))
  have hD4 := Lib.hid (hD3.out.new dd)
  replace hRA1 := Lib.hid hRA1
  replace hPR1 := Lib.hid hPR1
  clear hr1 hRO1 c1 dd
  obtain ⟨nv, vr, vd, ow, gg⟩ := hD4.out.r.g
  obtain ⟨aN, cN, rfl, -, -⟩ := gg.row.isSlice
  have k1 := gg.cells.2
  have z1 := k1
  have HG := Lib.hid gg
  clear gg hD3
  go_wp2_with fail
  generalize v1.alloc (.cells #[.slice la1 t1.length lc1, .slice ca1 C1.length cc1, .slice fa1 F1.length fc1] 86) = W1 at *
  generalize v1.heap.size = Q1 at *
  have hs1 : Hid (s1 = S) := Lib.hid (by rw [hPR1.out.es, live_none, hS.out])
  have hNF : Hid (∀ nd ∈ L, (nd.fin = true → nd.id ∈ t1) ∧ (nd.id ∈ F1 ↔ nd.fin = true ∧ nd.id ∉ S)) := Lib.hid (fun nd hnd => by
    have hin := mem_ids.2 ⟨nd, hnd, rfl⟩
    have hfi : isFin L nd.id = nd.fin := by unfold isFin; rw [gat_at hrise.out hnd]
    have hm := hPR1.out.mem_f (id := nd.id)
    rw [hfi, hs1.out] at hm
    refine ⟨fun hf => ?_, by rw [hm]; exact ⟨fun q => q.2, fun q => ⟨hin, q⟩⟩⟩
    by_cases hs : nd.id ∈ S
    · exact hPR1.out.sub _ (hs1.out ▸ hs)
    · exact hPR1.out.f_in _ (hm.2 ⟨hin, hf, hs⟩))
  go_loopw [43] (fun i wr => ∃ j : Nat, j ≤ L.length ∧ i = .int .i64 j ∧ Ch0 W1 wr) (fun i _ => L.length - (intOf i).toNat)
  case atStart => exact ⟨0, Nat.zero_le _, rfl, Ch.refl _ _⟩
  case round =>
    clear z1
    obtain ⟨j, hj, rfl, c⟩ := hrel
    have z1 := c.cell k1 (fun e => e)
    by_cases hlt : j < L.length
    · have gg := HG.out.keep c (fun _ _ e => e)
      obtain ⟨gn, on, cn, e1, -, hnode⟩ := gg.node (by omega)
      obtain ⟨rfl, rfl⟩ : aN = some ⟨gn, on, none⟩ ∧ cN = cn := by simpa using e1
      obtain ⟨n0, n1, n2, n3, n4⟩ := hnode j hlt
      obtain ⟨ar, cr, ev, -, -⟩ := (gg.refs _ (List.getElem_mem hlt)).isSlice
      obtain ⟨ad, cd, ew, -, -⟩ := (gg.data _ (List.getElem_mem hlt)).isSlice
      rw [ev] at n2
      rw [ew] at n3
      have hnf := hNF.out _ (List.getElem_mem hlt)
      have i1 : (0 : Int) ≤ j := by omega
      have i2 : (j : Int) < L.length := by omega
      clear hnode e1 gg ev ew
      generalize L[j].id = X at *
      generalize L[j].cls = K at *
      generalize L[j].refs.length = nr at *
      generalize L[j].data.length = na' at *
      generalize L[j].fin = fin at *
      have cB : Ch0 wr (wr.alloc (.cells #[.int .i64 X, .int .i64 K, .slice ar nr cr, .slice ad na' cd, .bool fin] 36)) := (Ch.refl _ _).alloc _
      have bN := heap_alloc_new wr (.cells #[.int .i64 X, .int .i64 K, .slice ar nr cr, .slice ad na' cd, .bool fin] 36)
      have d7 := Lib.hid (c.trans cB)
      have y0 := cell_of_row _ wr.heap.size 0 _ _ _ bN
      have y4 := cell_of_row _ wr.heap.size 4 _ _ _ bN
      simp only [List.getElem?_toArray, List.getElem?_cons_zero, List.getElem?_cons_succ] at y0 y4
      replace hnf := Lib.hid hnf
      clear bN cB c
      go_wp2_with fail
      generalize wr.alloc (.cells #[.int .i64 X, .int .i64 K, .slice ar nr cr, .slice ad na' cd, .bool fin] 36) = w7 at *
      generalize wr.heap.size = Q7 at *
      clear n0 n1 n2 n3 n4 z1
      have q0 := cellB (hRA1.out.new d7.out).cells.1
      have q2 := cellB (hRA1.out.new d7.out).cells.2.2
      replace y0 := cellB y0
      replace y4 := cellB y4
      have HH1 : Hid (∀ (d : Nat) (os : Array Obj), _) := Lib.hid (fun d os => has_any _ _ t1 X _ ((hRA1.out.new (d7.out.trans (chB w7 d os))).l.sees))
      have HH2 : Hid (∀ (d : Nat) (os : Array Obj), _) := Lib.hid (fun d os => has_any _ _ F1 X _ ((hRA1.out.new (d7.out.trans (chB w7 d os))).f.sees))
      have HH3 : Hid (∀ (d : Nat) (os : Array Obj), _) := Lib.hid (fun d os => has_any _ _ S X _ ((HS.out.keep (d7.out.trans (chB w7 d os)) (fun _ _ e => e)).sees))
      cases fin with
      | true =>
        rw [decide_eq_true (hnf.out.1 rfl)] at HH1
        have hb : decide (X ∈ F1) = !decide (X ∈ S) := by
          have := hnf.out.2
          by_cases q : X ∈ S
          · rw [decide_eq_true q, decide_eq_false (fun h => (this.1 h).2 q)]; rfl
          · rw [decide_eq_false q, decide_eq_true (this.2 ⟨rfl, q⟩)]; rfl
        rw [hb] at HH2
        clear hb hnf
        generalize decide (X ∈ S) = inS at *
        cases inS
        all_goals
          go_wp2_with fail
          refine wp_region_quiet_below (by kernel_rfl) (by kernel_rfl) ?_
          repeat (go_big_quiet_step ((go_at_call 54; first | with_reducible exact quietS (HH1.out _ _) | with_reducible exact quietS (HH2.out _ _) | with_reducible exact quietS (HH3.out _ _))))
          refine wpQuiet_nil ?_
          intro _ hw'
          obtain ⟨⟨dq, osq⟩, hw''⟩ := hw'
          subst hw''
          have d9 := Lib.hid (d7.out.trans (chB w7 dq osq))
          clear q0 q2 y0 y4
          go_wp2_with fail
          go_roundw
          case rel => exact ⟨j + 1, by omega, by go_num, d9.out⟩
          case measure => simp [intOf]; omega
      | false =>
        rw [decide_eq_false (fun h => by have := (hnf.out.2.1 h).1; cases this)] at HH2
        clear hnf HH3 HH1
        go_wp2_with fail
        refine wp_region_quiet_below (by kernel_rfl) (by kernel_rfl) ?_
        repeat (go_big_quiet_step ((go_at_call 54; exact quietS (HH2.out _ _))))
        refine wpQuiet_nil ?_
        intro _ hw'
        obtain ⟨⟨dq, osq⟩, hw''⟩ := hw'
        subst hw''
        have d9 := Lib.hid (d7.out.trans (chB w7 dq osq))
        clear q0 q2 y0 y4
        go_wp2_with fail
        go_roundw
        case rel => exact ⟨j + 1, by omega, by go_num, d9.out⟩
        case measure => simp [intOf]; omega
    · obtain rfl : j = L.length := by omega
      have hD5 := Lib.hid (hD4.out.new c)
      have R1 := Lib.hid (hRA1.out.new c)
      have hbx := R1.out.blk
      obtain ⟨p0, p1, p2⟩ := R1.out.cells
      obtain ⟨s0, s1', s2⟩ := R1.out.sees3
      have hap := papply_of hD5.out.g (by omega) _ _ _ _ t1 C1 F1 s0 s1' s2 (fun k e => hNO1.out k (.inr e)) R1.out.lt
      rw [hPR1.out.behind hrise.out hmW.out.right hmW.out.ok.wf hmW.out.ok.refs] at hap
      clear c hRA1 HG hD4 z1 k1 s0 s1' s2 hbx
      go_wp2_with fail
      refine hap.mono ?_
      rintro e w8 ⟨rfl, hg8, tu8⟩
      have hD6 := Lib.hid (hD5.out.first hg8 tu8)
      have R2 := Lib.hid (R1.out.turn tu8.1 hNO1.out)
      have hL2 : (behind cs L t1 C1 F1).length ≤ 40 := by
        rw [behind_len hPR1.out hrise.out]
        have := nodup_len ((hPR1.out.t_up hrise.out).imp (fun q => by omega)) hPR1.out.t_ids
        have e : (ids L).length = L.length := by simp [ids]
        omega
      have hrf2 := behind_refs hPR1.out hrise.out hmW.out.right hmW.out.ok.wf hmW.out.ok.refs
      have hri2 : Rising (behind cs L t1 C1 F1) := behind_rising hrise.out
      have hag := hPR1.out.again (keep' := fun _ => false) (roots' := roots) hrise.out (fun _ h => h) (fun _ h => h)
      obtain ⟨L2, hL2e⟩ : ∃ L2, L2 = behind cs L t1 C1 F1 := ⟨_, rfl⟩
      rw [← hL2e] at hD6 hL2 hrf2 hri2 hag
      replace hrf2 := Lib.hid hrf2
      replace hri2 := Lib.hid hri2
      replace hag := Lib.hid hag
      replace hL2e := Lib.hid hL2e
      clear hap hg8 tu8 p0 p1 p2 R1 hD5 hNF HS
      have hr2 := prun_res hD6.out.g (by omega) (hmW.out.right) (hrf2.out) _ _ (show KeepOk .nilFunc (fun _ => false) _ _ from .inl ⟨rfl, rfl⟩) _ _ (roots := roots) (HU.out.keep (cA.out.trans hD6.out.ch) (fun _ _ e => e)) (by omega)
      go_wp2_with fail
      refine hr2.mono ?_
      rintro e v2 ⟨la2, lc2, ca2, cc2, fa2, fc2, s2, t2, C2, F2, rfl, hPR2, hRA2, hRO2, c2⟩
      have hNO2 := Lib.hid (hRO2.off hD6.out.g.small c2)
      have dd : Ch0 _ (v2.alloc (.cells #[.slice la2 t2.length lc2, .slice ca2 C2.length cc2, .slice fa2 F2.length fc2] 86)) := c2.alloc _
      replace R2 := Lib.hid (R2.out.new dd)
      have hD7 := Lib.hid (hD6.out.new dd)
      replace hRA2 := Lib.hid hRA2
      replace hPR2 := Lib.hid hPR2
      clear hr2 hRO2 c2 dd
      have p0 := R2.out.cells.2.2
      go_wp2_with fail
      generalize v2.alloc (.cells #[.slice la2 t2.length lc2, .slice ca2 C2.length cc2, .slice fa2 F2.length fc2] 86) = W2 at *
      generalize v2.heap.size = Q2 at *
      have hs2 : s2 = closeL cs L2 1 roots := by rw [hPR2.out.es, live_none]
      obtain rfl : F2 = [] := by rw [hPR2.out.ef, hPR2.out.es]; exact hag.out
      have ht2 : Hid (t2 = closeL cs L2 1 roots) := Lib.hid (by rw [hPR2.out.et, hPR2.out.es, end_nofin hri2.out hag.out, ← hPR2.out.es, hs2])
      have hF1l : F1.length ≤ 40 := Nat.le_trans hPR1.out.f_len hL40
      clear hs2 p0 hD6
      go_loopw [90] (fun i wr2 => ∃ j : Nat, j ≤ F1.length ∧ i = .int .i64 j ∧ Ch0 W2 wr2) (fun i _ => F1.length - (intOf i).toNat)
      case atStart => exact ⟨0, Nat.zero_le _, rfl, Ch.refl _ _⟩
      case round =>
        obtain ⟨j, hj, rfl, c⟩ := hrel
        by_cases hlt : j < F1.length
        · obtain ⟨g, o, c1, -, e1, hcell⟩ := SeesI.cell (R2.out.new c).f.sees (by omega)
          obtain ⟨rfl, rfl⟩ : fa1 = some ⟨g, o, none⟩ ∧ fc1 = c1 := by simpa using e1
          have hx := cellB (hcell j hlt)
          have i1 : (0 : Int) ≤ j := by omega
          have i2 : (j : Int) < F1.length := by omega
          have HH : Hid (∀ (d : Nat) (os : Array Obj), _) := Lib.hid (fun d os => has_any _ _ [] (F1.getD j 0) _ ((hRA2.out.new (c.trans (chB _ d os))).f.sees))
          rw [decide_eq_false (by simp)] at HH
          have z2 := cellB (hRA2.out.new c).cells.2.2
          have z1 := cellB (R2.out.new c).cells.2.2
          clear hcell e1
          generalize F1.getD j 0 = X at *
          replace c := Lib.hid c
          go_wp2_with fail
          refine wp_region_quiet_below (by kernel_rfl) (by kernel_rfl) ?_
          repeat (go_big_quiet_step ((go_at_call 54; exact quietS (HH.out _ _))))
          refine wpQuiet_nil ?_
          intro _ hw'
          obtain ⟨⟨dq, osq⟩, hw''⟩ := hw'
          subst hw''
          have d9 := Lib.hid (c.out.trans (chB _ dq osq))
          clear hx z1 z2
          go_wp2_with fail
          go_roundw
          case rel => exact ⟨j + 1, by omega, by go_num, d9.out⟩
          case measure => simp [intOf]; omega
        · obtain rfl : j = F1.length := by omega
          have hD8 := Lib.hid (hD7.out.new c)
          have R3 := Lib.hid (hRA2.out.new c)
          clear c hRA2 R2 hD7
          have hcl : Hid (∀ w', Ch0 wr w' → _) := Lib.hid (fun w' (c : Ch0 wr w') => reach_of (hD8.out.new c).g (by omega) _ _ roots (HU.out.keep (cA.out.trans (hD8.out.new c).ch) (fun _ _ e => e)) (by omega))
          have hsa : Hid (∀ w' D v xs, Ch0 wr w' → SeesI D w' v xs → xs = closeL cs L2 1 roots → Calls Try.prog 41 #[.slice la2 t2.length lc2, v] w' fun e w'' => e = .returned (.bool true) ∧ Ch0 w' w'') := Lib.hid (fun w' D v xs c hs e => by
            have := same_any _ _ _ _ _ _ w' (R3.out.new c).l.sees hs
            rw [e, ← ht2.out, decide_eq_true rfl] at this
            exact this.mono (fun _ _ ⟨a, n, b⟩ => ⟨a, b ▸ ch_drewN' w' n⟩))
          have xx : Hid (∀ w', Ch0 wr w' → w'.cell? ⟨Q2, 0, none⟩ = some (.slice la2 t2.length lc2) ∧ w'.cell? ⟨Q2, 2, none⟩ = some (.slice fa2 0 fc2)) := Lib.hid (fun w' c => ⟨(R3.out.new c).cells.1, (R3.out.new c).cells.2.2⟩)
          obtain ⟨z0, z2⟩ := xx.out wr (Ch.refl _ _)
          have hce : Hid (Ch0 w wr) := Lib.hid (cA.out.trans hD8.out.ch)
          go_wp2_with fail
          go_region_held3 (fun w' => w'.cell? ⟨Q2, 0, none⟩ = some (.slice la2 t2.length lc2) ∧ w'.cell? ⟨Q2, 2, none⟩ = some (.slice fa2 0 fc2))
            (first | exact xx.out _ d3 | exact xx.out _ d2 | exact xx.out _ (Ch.refl _ wr).drew | go_keep)
            ((first
              | (go_at_call 59; refine (hcl.out _ (Ch.refl _ wr).drew).mono ?_; rintro e wx ⟨vx, rfl, rx, fx, cx⟩; obtain ⟨ax, ccx, rfl, -, -⟩ := rx.isSlice; have d2 : Ch0 wr wx := (Ch.refl _ wr).drew.trans cx)
              | (go_at_call 41; refine (hsa.out _ _ _ _ d2 rx.sees rfl).mono ?_; rintro e wy ⟨rfl, cy⟩; have d3 : Ch0 wr wy := d2.trans cy)))
          rename_i hheld
          have HE := Lib.hid (hce.out.trans d3)
          clear hheld
          go_wp2_with fail
          go_ret
          exact ⟨rfl, HE.out⟩

end Go.Proofs.Ytlmeponoadhheaa
