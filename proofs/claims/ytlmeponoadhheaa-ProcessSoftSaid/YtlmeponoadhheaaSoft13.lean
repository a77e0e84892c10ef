/-
  gleaninglaw13.ProcessSoft answers true: the walk. (Printed by psoft.py.)
-/
import Derived.Test.YtlmeponoadhheaaPAwake
import Derived.Test.YtlmeponoadhheaaKeepF
namespace Go.Proofs.Ytlmeponoadhheaa
set_option linter.unusedVariables false
open Go.RowKit Go.Sort

set_option maxRecDepth 100000 in
set_option maxHeartbeats 4000000 in
theorem soft13_walk (cs : List Cls) (ns : List Int) (rs : List (Int × Int × Int)) (cv nv rv u : Value) (roots : List Int) (bits more : Int) (w : World) (hs : SeesW (fun k => k < w.heap.size) w cv nv rv cs ns rs) (hf : Fit cs) (hu : SeesI (fun k => k < w.heap.size) w u roots) (hb0 : 0 ≤ bits) (hb1 : bits < 18446744073709551616) (hm0 : 0 ≤ more) (hm1 : more < 18446744073709551616) :
    Calls Try.prog 16 #[.agg #[cv, nv, rv], u, .int .u64 bits, .int .u64 more] w fun e w' => e = .returned (.bool true) ∧ Ch0 w w' := by
  obtain ⟨na, nc, rfl, hnl⟩ := hs.n.len
  obtain ⟨ca, cc, rfl, -⟩ := hs.c.len
  obtain ⟨ra, rc, rfl, -⟩ := hs.r.len
  have HA := Lib.hid awake13
  have HM : Hid (∀ W, Ch0 w W → _) := Lib.hid (fun W (c : Ch0 w W) => pmade_at hs hf c)
  obtain ⟨ua, uc, rfl, hul⟩ := hu.len
  have HU := Lib.hid hu
  clear hs hf hu
  have cA : Ch0 w (((w.alloc (.cells #[.slice ca cs.length cc, .slice na ns.length nc, .slice ra rs.length rc] 84)).alloc (.cells #[.int .u64 bits] 90)).alloc (.cells #[.int .u64 more] 90)) := (((Ch.refl _ _).alloc _).alloc _).alloc _
  have x1 : (((w.alloc (.cells #[.slice ca cs.length cc, .slice na ns.length nc, .slice ra rs.length rc] 84)).alloc (.cells #[.int .u64 bits] 90)).alloc (.cells #[.int .u64 more] 90)).cell? ⟨w.heap.size, 1, none⟩ = some (.slice na ns.length nc) := ((((Ch.refl (fun _ => False) (w.alloc (.cells #[.slice ca cs.length cc, .slice na ns.length nc, .slice ra rs.length rc] 84)))).alloc _).alloc _ : Ch0 _ _).cell ((by first | (simp; done) | simpa using cell_of_row _ w.heap.size 1 _ _ _ (heap_alloc_new w (.cells #[.slice ca cs.length cc, .slice na ns.length nc, .slice ra rs.length rc] 84)))) (fun e => e)
  have xb0 : (((w.alloc (.cells #[.slice ca cs.length cc, .slice na ns.length nc, .slice ra rs.length rc] 84)).alloc (.cells #[.int .u64 bits] 90)).alloc (.cells #[.int .u64 more] 90)).cell? ⟨w.heap.size + 1, 0, none⟩ = some (.int .u64 bits) := (((Ch.refl (fun _ => False) ((w.alloc (.cells #[.slice ca cs.length cc, .slice na ns.length nc, .slice ra rs.length rc] 84)).alloc (.cells #[.int .u64 bits] 90)))).alloc _ : Ch0 _ _).cell ((by first | (simp; done) | simpa using cell_of_one (heap_alloc_new (w.alloc (.cells #[.slice ca cs.length cc, .slice na ns.length nc, .slice ra rs.length rc] 84)) (.cells #[.int .u64 bits] 90)))) (fun e => e)
  have xb1 : (((w.alloc (.cells #[.slice ca cs.length cc, .slice na ns.length nc, .slice ra rs.length rc] 84)).alloc (.cells #[.int .u64 bits] 90)).alloc (.cells #[.int .u64 more] 90)).cell? ⟨w.heap.size + 1 + 1, 0, none⟩ = some (.int .u64 more) := (by first | (simp; done) | simpa using cell_of_one (heap_alloc_new ((w.alloc (.cells #[.slice ca cs.length cc, .slice na ns.length nc, .slice ra rs.length rc] 84)).alloc (.cells #[.int .u64 bits] 90)) (.cells #[.int .u64 more] 90)))
  replace cA := Lib.hid cA
  have hmf : ∀ (fn : Fn) (first cap : Array Value) (w : World), (Instr.makeFunc fn first cap).run Try.prog w = .ok (.func fn first cap) w := fun _ _ _ _ => rfl
  go_enter Try.func16, Try.ntmps16
  go_wp2_with fail
  generalize ((w.alloc (.cells #[.slice ca cs.length cc, .slice na ns.length nc, .slice ra rs.length rc] 84)).alloc (.cells #[.int .u64 bits] 90)).alloc (.cells #[.int .u64 more] 90) = W0 at *
  generalize w.heap.size = P at *
  refine (HM.out _ cA.out).mono ?_
  rintro e w1 (⟨hmB, rfl, d1⟩ | ⟨hmB, b1, b2, p, lo, hi, O1, O2, D, rfl, hD⟩)
  · have HE := Lib.hid (cA.out.trans d1)
    clear d1 HM hmB
    go_wp2_with fail
    refine (HA.out _).mono ?_
    rintro e w2 ⟨rfl, d2⟩
    have HE2 := Lib.hid (HE.out.trans d2)
    clear d2
    go_wp2_with fail
    refine (HA.out _).mono ?_
    rintro e w3 ⟨rfl, d3⟩
    have HE3 := Lib.hid (HE2.out.trans d3)
    clear d3
    go_wp2_with fail
    go_ret
    exact ⟨rfl, HE3.out⟩
  have hmW := madeW_of hmB
  have hnn := hmW.n
  have hLn := hmW.ok.len
  have hL40 : (madeL cs ns rs).length ≤ 40 := by omega
  replace hLn := Lib.hid hLn
  replace hmW := Lib.hid hmW
  replace hD := Lib.hid hD
  clear hmB HM
  generalize madeL cs ns rs = L at *
  go_wp2_with fail
  refine (HA.out _).mono ?_
  rintro e w2 ⟨rfl, d2⟩
  have hD2 := Lib.hid (hD.out.new d2)
  clear hD d2
  by_cases b4 : roots.length ≤ 40
  case neg =>
    have g4 : decide ((40 : Int) < roots.length) = true := decide_eq_true (by omega)
    clear b4
    go_wp2_with fail
    refine (HA.out _).mono ?_
    rintro e w3 ⟨rfl, d3⟩
    have HE3 := Lib.hid (cA.out.trans (hD2.out.new d3).ch)
    clear d3
    go_wp2_with fail
    go_ret
    exact ⟨rfl, HE3.out⟩
  have g4 : decide ((40 : Int) < roots.length) = false := decide_eq_false (by omega)
  have hlow : Hid (Low L) := Lib.hid (fun nd hnd => by
    have h1 := (hmW.out.ok.mem).1 (mem_ids.2 ⟨nd, hnd, rfl⟩)
    have := hmW.out.n
    omega)
  have hrise : Hid (Rising L) := Lib.hid hD2.out.r.rise
  have hr1 := prun_res hD2.out.g (by omega) (hmW.out.right) (hmW.out.ok.refs) _ _ (keepOk_of hlow.out (enters_of Try.func67 (by kernel_rfl) rfl) (clo_soft1 bits hb0 hb1 (P + 1) w2 (hD2.out.ch.cell xb0 (fun e => e)))) _ _ (roots := roots) (HU.out.keep (cA.out.trans hD2.out.ch) (fun _ _ e => e)) (by omega)
  go_wp2_with fail
  refine hr1.mono ?_
  rintro e v1 ⟨la1, lc1, ca1, cc1, fa1, fc1, s1, t1, C1, F1, rfl, hPR1, hRA1, -, c1⟩
  have dd : Ch0 _ (v1.alloc (.cells #[.slice la1 t1.length lc1, .slice ca1 C1.length cc1, .slice fa1 F1.length fc1] 86)) := c1.alloc _
  have hD3 := Lib.hid (hD2.out.new dd)
  replace hRA1 := Lib.hid hRA1
  replace hPR1 := Lib.hid hPR1
  clear hr1 c1 dd
  go_wp2_with fail
  generalize v1.alloc (.cells #[.slice la1 t1.length lc1, .slice ca1 C1.length cc1, .slice fa1 F1.length fc1] 86) = W1 at *
  generalize v1.heap.size = Q1 at *
  have hr2 := prun_res hD3.out.g (by omega) (hmW.out.right) (hmW.out.ok.refs) _ _ (keepOk_of hlow.out (enters_of Try.func69 (by kernel_rfl) rfl) (clo_soft2 bits more hb0 hb1 hm0 hm1 (P + 1) (P + 1 + 1) W1 (hD3.out.ch.cell xb0 (fun e => e)) (hD3.out.ch.cell xb1 (fun e => e)))) _ _ (roots := roots) (HU.out.keep (cA.out.trans hD3.out.ch) (fun _ _ e => e)) (by omega)
  refine hr2.mono ?_
  rintro e v2 ⟨la2, lc2, ca2, cc2, fa2, fc2, s2, t2, C2, F2, rfl, hPR2, hRA2, -, c2⟩
  have dd : Ch0 _ (v2.alloc (.cells #[.slice la2 t2.length lc2, .slice ca2 C2.length cc2, .slice fa2 F2.length fc2] 86)) := c2.alloc _
  replace hRA1 := Lib.hid (hRA1.out.new dd)
  have hD4 := Lib.hid (hD3.out.new dd)
  replace hRA2 := Lib.hid hRA2
  replace hPR2 := Lib.hid hPR2
  clear hr2 c2 dd
  go_wp2_with fail
  generalize v2.alloc (.cells #[.slice la2 t2.length lc2, .slice ca2 C2.length cc2, .slice fa2 F2.length fc2] 86) = W2 at *
  generalize v2.heap.size = Q2 at *
  have hr3 := prun_res hD4.out.g (by omega) (hmW.out.right) (hmW.out.ok.refs) _ _ (keepOk_of (kp := fun _ => true) hlow.out (enters_of Try.func70 (by kernel_rfl) rfl) (fun W id cls ar nr cr ad na cd f _ _ _ => clo_soft3 W id cls ar nr cr ad na cd f)) _ _ (roots := roots) (HU.out.keep (cA.out.trans hD4.out.ch) (fun _ _ e => e)) (by omega)
  refine hr3.mono ?_
  rintro e v3 ⟨la3, lc3, ca3, cc3, fa3, fc3, s3, t3, C3, F3, rfl, hPR3, hRA3, -, c3⟩
  have dd : Ch0 _ (v3.alloc (.cells #[.slice la3 t3.length lc3, .slice ca3 C3.length cc3, .slice fa3 F3.length fc3] 86)) := c3.alloc _
  replace hRA1 := Lib.hid (hRA1.out.new dd)
  replace hRA2 := Lib.hid (hRA2.out.new dd)
  have hD5 := Lib.hid (hD4.out.new dd)
  replace hRA3 := Lib.hid hRA3
  replace hPR3 := Lib.hid hPR3
  clear hr3 c3 dd
  go_wp2_with fail
  generalize v3.alloc (.cells #[.slice la3 t3.length lc3, .slice ca3 C3.length cc3, .slice fa3 F3.length fc3] 86) = W3 at *
  generalize v3.heap.size = Q3 at *
  have hre := reach_of hD5.out.g (by omega) _ _ roots (HU.out.keep (cA.out.trans hD5.out.ch) (fun _ _ e => e)) (by omega)
  refine hre.mono ?_
  rintro e w6 ⟨v6, rfl, r6, f6, c6⟩
  have hslen := hPR3.out.strong_len hrise.out
  obtain ⟨S, hS⟩ : ∃ S, S = closeL cs L 1 roots := ⟨_, rfl⟩
  rw [← hS] at r6 hslen
  obtain ⟨a6, cc6, rfl, -, -⟩ := r6.isSlice
  have hD6 := Lib.hid (hD5.out.new c6)
  have HS := Lib.hid r6.sees
  have R1 := Lib.hid (hRA1.out.new c6)
  have R2 := Lib.hid (hRA2.out.new c6)
  have R3 := Lib.hid (hRA3.out.new c6)
  have HX : Hid (∀ x ∈ S, ((gaim cs L x).2 = 3 ∨ (gaim cs L x).2 = 4 → x ∈ C2 → x ∈ C1) ∧ ((gaim cs L x).2 = 3 → x ∉ C3)) := Lib.hid (fun x hx =>
    ⟨fun hk hC => hPR1.out.soft_mono hPR2.out (fun y hy => kept_or y bits more hb0 hb1 hm0 hm1 hy) (hS ▸ hx) hk hC, fun hk => hPR3.out.soft_all hmW.out.right hmW.out.ok.wf hmW.out.ok.refs (hS ▸ hx) hk⟩)
  have g9 : decide ((S.length : Int) ≤ t3.length) = true := decide_eq_true (by omega)
  have g9' : decide (S.length ≤ t3.length) = true := decide_eq_true (by omega)
  have hSl : S.length ≤ 40 := by have := closeL_len (cs := cs) (L := L) (lv := 1) (r := roots); rw [hS]; omega
  replace hS := Lib.hid hS
  clear hre r6 f6 hRA1 hRA2 hRA3 hD5 hslen xb0 xb1 x1 hmf hPR1 hPR2 hPR3
  go_wp2_with fail
  go_loopw [55] (fun i wr => ∃ j : Nat, j ≤ S.length ∧ i = .int .i64 j ∧ Ch0 w6 wr) (fun i _ => S.length - (intOf i).toNat)
  case atStart => exact ⟨0, Nat.zero_le _, rfl, Ch.refl _ _⟩
  case round =>
    obtain ⟨j, hj, rfl, c⟩ := hrel
    by_cases hlt : j < S.length
    · obtain ⟨g, o, c1, -, e1, hcell⟩ := SeesI.cell (Sees.keep HS.out c (fun _ _ e => e)) (by omega)
      obtain ⟨rfl, rfl⟩ : a6 = some ⟨g, o, none⟩ ∧ cc6 = c1 := by simpa using e1
      have hx := hcell j hlt
      have hXm : S.getD j 0 ∈ S := by simp [List.getD_eq_getElem?_getD, hlt]
      have hXf := HX.out _ hXm
      have i1 : (0 : Int) ≤ j := by omega
      have i2 : (j : Int) < S.length := by omega
      have hai := aim_of (hD6.out.new c).g (S.getD j 0)
      clear hcell e1 hXm
      generalize (gaim cs L (S.getD j 0)).1 = to at *
      generalize (gaim cs L (S.getD j 0)).2 = kd at *
      generalize S.getD j 0 = X at *
      replace c := Lib.hid c
      replace hXf := Lib.hid hXf
      go_wp2_with fail
      refine hai.mono ?_
      rintro e w7 ⟨rfl, c7⟩
      have d7 := Lib.hid (c.out.trans c7)
      have q1 := cellB (R1.out.new d7.out).cells.2.1
      have q2 := cellB (R2.out.new d7.out).cells.2.1
      have q3 := cellB (R3.out.new d7.out).cells.2.1
      have qx := cellB (c7.cell hx (fun e => e))
      have HH : Hid (∀ (d : Nat) (os : Array Obj), _) := Lib.hid (fun d os => has_any _ _ C1 X _ ((R1.out.new (d7.out.trans (chB w7 d os))).c.sees))
      have HH2 : Hid (∀ (d : Nat) (os : Array Obj), _) := Lib.hid (fun d os => has_any _ _ C2 X _ ((R2.out.new (d7.out.trans (chB w7 d os))).c.sees))
      have HH3 : Hid (∀ (d : Nat) (os : Array Obj), _) := Lib.hid (fun d os => has_any _ _ C3 X _ ((R3.out.new (d7.out.trans (chB w7 d os))).c.sees))
      have hx7 := c7.cell hx (fun e => e)
      clear hai hx c7 c q3
      go_wp2_with fail
      refine wp_region_quiet_below (by kernel_rfl) (by kernel_rfl) ?_
      repeat (go_big_quiet_step ((go_at_call 54; first | with_reducible exact quietS (HH.out _ _) | with_reducible exact quietS (HH2.out _ _))))
      refine wpQuiet_nil ?_
      intro _ hw'
      obtain ⟨⟨dq, osq⟩, hw''⟩ := hw'
      subst hw''
      have d8 := Lib.hid (d7.out.trans (chB w7 dq osq))
      have q3 := cellB (R3.out.new d8.out).cells.2.1
      have qx := cellB ((chB w7 dq osq).cell hx7 (fun e => e))
      have HH3 : Hid (∀ (d : Nat) (os : Array Obj), _) := Lib.hid (fun d os => has_any _ _ C3 X _ ((R3.out.new (d8.out.trans (chB (grow (redrawn w7 dq) osq) d os))).c.sees))
      clear q1 q2 HH HH2 hx7
      generalize grow (redrawn w7 dq) osq = w8 at *
      by_cases h3 : kd = 3
      · have e3 : (kd == 3) = true := by simpa using h3
        have e4 := decide_eq_false (hXf.out.2 h3)
        rw [e4] at HH3
        by_cases hy : X ∈ C2
        · have e5 := decide_eq_true hy
          have e6 := decide_eq_true (hXf.out.1 (.inl h3) hy)
          rw [e5, e6]
          clear h3 e4 e5 e6 hy hXf
          go_wp2_with fail
          refine wp_region_quiet_below (by kernel_rfl) (by kernel_rfl) ?_
          repeat (go_big_quiet_step ((go_at_call 54; exact quietS (HH3.out _ _))))
          refine wpQuiet_nil ?_
          intro _ hw'
          obtain ⟨⟨dq2, osq2⟩, hw''⟩ := hw'
          subst hw''
          have d9 := Lib.hid (d8.out.trans (chB w8 dq2 osq2))
          clear q3 qx
          go_wp2_with fail
          go_roundw
          case rel => exact ⟨j + 1, by omega, by go_num, d9.out⟩
          case measure => simp [intOf]; omega
        · have e5 := decide_eq_false hy
          rw [e5]
          generalize decide (X ∈ C1) = xx at *
          clear h3 e4 e5 hy hXf
          go_wp2_with fail
          refine wp_region_quiet_below (by kernel_rfl) (by kernel_rfl) ?_
          repeat (go_big_quiet_step ((go_at_call 54; exact quietS (HH3.out _ _))))
          refine wpQuiet_nil ?_
          intro _ hw'
          obtain ⟨⟨dq2, osq2⟩, hw''⟩ := hw'
          subst hw''
          have d9 := Lib.hid (d8.out.trans (chB w8 dq2 osq2))
          clear q3 qx
          go_wp2_with fail
          go_roundw
          case rel => exact ⟨j + 1, by omega, by go_num, d9.out⟩
          case measure => simp [intOf]; omega
      · have e3 : (kd == 3) = false := by simpa using h3
        clear HH3
        by_cases h4 : kd = 4
        · have e4 : (kd == 4) = true := by simpa using h4
          by_cases hy : X ∈ C2
          · have e5 := decide_eq_true hy
            have e6 := decide_eq_true (hXf.out.1 (.inr h4) hy)
            rw [e5, e6]
            clear h3 h4 e5 e6 hy hXf
            go_wp2_with fail
            refine wp_region_quiet_below (by kernel_rfl) (by kernel_rfl) ?_
            repeat (go_big_quiet_step ((go_at_call 54; exact quietS (HH3.out _ _))))
            refine wpQuiet_nil ?_
            intro _ hw'
            obtain ⟨⟨dq2, osq2⟩, hw''⟩ := hw'
            subst hw''
            have d9 := Lib.hid (d8.out.trans (chB w8 dq2 osq2))
            clear q3 qx
            go_wp2_with fail
            go_roundw
            case rel => exact ⟨j + 1, by omega, by go_num, d9.out⟩
            case measure => simp [intOf]; omega
          · have e5 := decide_eq_false hy
            rw [e5]
            generalize decide (X ∈ C1) = xx at *
            clear h3 h4 e5 hy hXf
            go_wp2_with fail
            refine wp_region_quiet_below (by kernel_rfl) (by kernel_rfl) ?_
            repeat (go_big_quiet_step ((go_at_call 54; exact quietS (HH3.out _ _))))
            refine wpQuiet_nil ?_
            intro _ hw'
            obtain ⟨⟨dq2, osq2⟩, hw''⟩ := hw'
            subst hw''
            have d9 := Lib.hid (d8.out.trans (chB w8 dq2 osq2))
            clear q3 qx
            go_wp2_with fail
            go_roundw
            case rel => exact ⟨j + 1, by omega, by go_num, d9.out⟩
            case measure => simp [intOf]; omega
        · have e4 : (kd == 4) = false := by simpa using h4
          generalize decide (X ∈ C1) = xx at *
          generalize decide (X ∈ C2) = yy at *
          clear h3 h4 hXf
          go_wp2_with fail
          refine wp_region_quiet_below (by kernel_rfl) (by kernel_rfl) ?_
          repeat (go_big_quiet_step ((go_at_call 54; exact quietS (HH3.out _ _))))
          refine wpQuiet_nil ?_
          intro _ hw'
          obtain ⟨⟨dq2, osq2⟩, hw''⟩ := hw'
          subst hw''
          have d9 := Lib.hid (d8.out.trans (chB w8 dq2 osq2))
          clear q3 qx
          go_wp2_with fail
          go_roundw
          case rel => exact ⟨j + 1, by omega, by go_num, d9.out⟩
          case measure => simp [intOf]; omega
    · obtain rfl : j = S.length := by omega
      have HE := Lib.hid (cA.out.trans (hD6.out.new c).ch)
      have y0 := (R3.out.new c).cells.1
      clear c
      go_wp2_with fail
      go_ret
      exact ⟨rfl, HE.out⟩

end Go.Proofs.Ytlmeponoadhheaa
