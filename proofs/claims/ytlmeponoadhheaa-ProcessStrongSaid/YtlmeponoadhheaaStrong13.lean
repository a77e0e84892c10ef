/-
  gleaninglaw13.ProcessStrong answers true: the walk. (Printed by pstrong.py.)
-/
import Derived.Test.YtlmeponoadhheaaPAwake
import Derived.Test.YtlmeponoadhheaaKeepF
namespace Go.Proofs.Ytlmeponoadhheaa
set_option linter.unusedVariables false
open Go.RowKit Go.Sort

set_option maxRecDepth 100000 in
set_option maxHeartbeats 4000000 in
theorem strong13_walk (cs : List Cls) (ns : List Int) (rs : List (Int × Int × Int)) (cv nv rv u : Value) (roots : List Int) (bits : Int) (all : Bool) (w : World) (hs : SeesW (fun k => k < w.heap.size) w cv nv rv cs ns rs) (hf : Fit cs) (hu : SeesI (fun k => k < w.heap.size) w u roots) (hb0 : 0 ≤ bits) (hb1 : bits < 18446744073709551616) :
    Calls Try.prog 17 #[.agg #[cv, nv, rv], u, .int .u64 bits, .bool all] w fun e w' => e = .returned (.bool true) ∧ Ch0 w w' := by
  obtain ⟨na, nc, rfl, hnl⟩ := hs.n.len
  obtain ⟨ca, cc, rfl, -⟩ := hs.c.len
  obtain ⟨ra, rc, rfl, -⟩ := hs.r.len
  have HA := Lib.hid awake13
  have HM : Hid (∀ W, Ch0 w W → _) := Lib.hid (fun W (c : Ch0 w W) => pmade_at hs hf c)
  obtain ⟨ua, uc, rfl, hul⟩ := hu.len
  have HU := Lib.hid hu
  clear hs hf hu
  have cA : Ch0 w (((w.alloc (.cells #[.slice ca cs.length cc, .slice na ns.length nc, .slice ra rs.length rc] 84)).alloc (.cells #[.int .u64 bits] 90)).alloc (.cells #[.bool all] 4)) := (((Ch.refl _ _).alloc _).alloc _).alloc _
  have x1 : (((w.alloc (.cells #[.slice ca cs.length cc, .slice na ns.length nc, .slice ra rs.length rc] 84)).alloc (.cells #[.int .u64 bits] 90)).alloc (.cells #[.bool all] 4)).cell? ⟨w.heap.size, 1, none⟩ = some (.slice na ns.length nc) := ((((Ch.refl (fun _ => False) (w.alloc (.cells #[.slice ca cs.length cc, .slice na ns.length nc, .slice ra rs.length rc] 84)))).alloc _).alloc _ : Ch0 _ _).cell ((by first | (simp; done) | simpa using cell_of_row _ w.heap.size 1 _ _ _ (heap_alloc_new w (.cells #[.slice ca cs.length cc, .slice na ns.length nc, .slice ra rs.length rc] 84)))) (fun e => e)
  have xb0 : (((w.alloc (.cells #[.slice ca cs.length cc, .slice na ns.length nc, .slice ra rs.length rc] 84)).alloc (.cells #[.int .u64 bits] 90)).alloc (.cells #[.bool all] 4)).cell? ⟨w.heap.size + 1, 0, none⟩ = some (.int .u64 bits) := (((Ch.refl (fun _ => False) ((w.alloc (.cells #[.slice ca cs.length cc, .slice na ns.length nc, .slice ra rs.length rc] 84)).alloc (.cells #[.int .u64 bits] 90)))).alloc _ : Ch0 _ _).cell ((by first | (simp; done) | simpa using cell_of_one (heap_alloc_new (w.alloc (.cells #[.slice ca cs.length cc, .slice na ns.length nc, .slice ra rs.length rc] 84)) (.cells #[.int .u64 bits] 90)))) (fun e => e)
  have xb1 : (((w.alloc (.cells #[.slice ca cs.length cc, .slice na ns.length nc, .slice ra rs.length rc] 84)).alloc (.cells #[.int .u64 bits] 90)).alloc (.cells #[.bool all] 4)).cell? ⟨w.heap.size + 1 + 1, 0, none⟩ = some (.bool all) := (by first | (simp; done) | simpa using cell_of_one (heap_alloc_new ((w.alloc (.cells #[.slice ca cs.length cc, .slice na ns.length nc, .slice ra rs.length rc] 84)).alloc (.cells #[.int .u64 bits] 90)) (.cells #[.bool all] 4)))
  replace cA := Lib.hid cA
  have hmf : ∀ (fn : Fn) (first cap : Array Value) (w : World), (Instr.makeFunc fn first cap).run Try.prog w = .ok (.func fn first cap) w := fun _ _ _ _ => rfl
  go_enter Try.func17, Try.ntmps17
  go_wp2_with fail
  generalize ((w.alloc (.cells #[.slice ca cs.length cc, .slice na ns.length nc, .slice ra rs.length rc] 84)).alloc (.cells #[.int .u64 bits] 90)).alloc (.cells #[.bool all] 4) = W0 at *
  generalize w.heap.size = P at *
  refine (HM.out _ cA.out).mono ?_
  rintro e w1 (⟨hmB, rfl, d1⟩ | ⟨hmB, b1, b2, p, lo, hi, O1, O2, D, rfl, hD⟩)
  · have HE := Lib.hid (cA.out.trans d1)
    clear d1 HM hmB
    go_wp2_with fail
    refine (HA.out _).mono ?_
    rintro e w2 ⟨rfl, d2⟩
    have HE2 := Lib.hid (HE.out.trans d2)
    clear d2
    go_wp2_with fail
    refine (HA.out _).mono ?_
    rintro e w3 ⟨rfl, d3⟩
    have HE3 := Lib.hid (HE2.out.trans d3)
    clear d3
    go_wp2_with fail
    go_ret
    exact ⟨rfl, HE3.out⟩
  have hmW := madeW_of hmB
  have hnn := hmW.n
  have hLn := hmW.ok.len
  have hL40 : (madeL cs ns rs).length ≤ 40 := by omega
  replace hLn := Lib.hid hLn
  replace hmW := Lib.hid hmW
  replace hD := Lib.hid hD
  clear hmB HM
  generalize madeL cs ns rs = L at *
  go_wp2_with fail
  refine (HA.out _).mono ?_
  rintro e w2 ⟨rfl, d2⟩
  have hD2 := Lib.hid (hD.out.new d2)
  clear hD d2
  by_cases b4 : roots.length ≤ 40
  case neg =>
    have g4 : decide ((40 : Int) < roots.length) = true := decide_eq_true (by omega)
    clear b4
    go_wp2_with fail
    refine (HA.out _).mono ?_
    rintro e w3 ⟨rfl, d3⟩
    have HE3 := Lib.hid (cA.out.trans (hD2.out.new d3).ch)
    clear d3
    go_wp2_with fail
    go_ret
    exact ⟨rfl, HE3.out⟩
  have g4 : decide ((40 : Int) < roots.length) = false := decide_eq_false (by omega)
  have hlow : Hid (Low L) := Lib.hid (fun nd hnd => by
    have h1 := (hmW.out.ok.mem).1 (mem_ids.2 ⟨nd, hnd, rfl⟩)
    have := hmW.out.n
    omega)
  have hrise : Hid (Rising L) := Lib.hid hD2.out.r.rise
  have hr1 := prun_res hD2.out.g (by omega) (hmW.out.right) (hmW.out.ok.refs) _ _ (keepOk_of (kp := fun id => all || keptB id bits) hlow.out (enters_of Try.func71 (by kernel_rfl) rfl) (clo_strong1 bits all hb0 hb1 (P + 1 + 1) (P + 1) w2 (hD2.out.ch.cell xb1 (fun e => e)) (hD2.out.ch.cell xb0 (fun e => e)))) _ _ (roots := roots) (HU.out.keep (cA.out.trans hD2.out.ch) (fun _ _ e => e)) (by omega)
  go_wp2_with fail
  refine hr1.mono ?_
  rintro e v1 ⟨la1, lc1, ca1, cc1, fa1, fc1, s1, t1, C1, F1, rfl, hPR1, hRA1, hRO1, c1⟩
  have hNO1 := Lib.hid (hRO1.off hD2.out.g.small c1)
  have dd : Ch0 _ (v1.alloc (.cells #[.slice la1 t1.length lc1, .slice ca1 C1.length cc1, .slice fa1 F1.length fc1] 86)) := c1.alloc _
  have hD3 := Lib.hid (hD2.out.new dd)
  replace hRA1 := Lib.hid hRA1
  replace hPR1 := Lib.hid hPR1
  clear hr1 hRO1 c1 dd
  go_wp2_with fail
  generalize v1.alloc (.cells #[.slice la1 t1.length lc1, .slice ca1 C1.length cc1, .slice fa1 F1.length fc1] 86) = W1 at *
  generalize v1.heap.size = Q1 at *
  have hCl := hPR1.out.c_len hrise.out
  have hFl := hPR1.out.f_len
  have HC : Hid (∀ x ∈ C1, (gaim cs L x).2 ≠ 0 ∧ (gaim cs L x).1 ≠ 0 ∧ ofL cs L (gaim cs L x).1 roots ≠ 1 ∧ (all = true → ofL cs L (gaim cs L x).1 roots ≠ 2) ∧ ((gaim cs L x).2 = 5 → (gaim cs L x).1 ∉ t1 ∧ (gaim cs L x).1 ∉ closeL cs L 1 F1)) := Lib.hid (fun x hx => by
    obtain ⟨h1, h2, h3⟩ := hPR1.out.c_kind hmW.out.right hmW.out.ok.wf hmW.out.ok.refs hx
    refine ⟨h1, h2, hPR1.out.not_strong h3, fun ha => ?_, fun h5 => hPR1.out.c_phantom hx h5⟩
    have hp := hPR1.out
    rw [ha] at hp
    exact hp.not_soft h3)
  have HF : Hid (∀ x ∈ F1, x ∈ ids L ∧ isFin L x = true ∧ ofL cs L x roots ≠ 1 ∧ (all = true → ofL cs L x roots ≠ 2)) := Lib.hid (fun x hx => by
    obtain ⟨h1, h2, h3⟩ := hPR1.out.mem_f.1 hx
    refine ⟨h1, h2, hPR1.out.not_strong h3, fun ha => ?_⟩
    have hp := hPR1.out
    rw [ha] at hp
    exact hp.not_soft h3)
  have HT : Hid (∀ x ∈ closeL cs L 1 roots, x ∈ t1) := Lib.hid hPR1.out.strong_in
  have xa : Hid (W1.cell? ⟨P + 1 + 1, 0, none⟩ = some (.bool all)) := Lib.hid (hD3.out.ch.cell xb1 (fun e => e))
  have z1 := hRA1.out.cells.2.1
  clear hPR1 xb0 xb1 x1 hmf hD2 hNO1
  go_wp2_with fail
  go_loopw [48] (fun i wr => ∃ j : Nat, j ≤ C1.length ∧ i = .int .i64 j ∧ Ch0 W1 wr) (fun i _ => C1.length - (intOf i).toNat)
  case atStart => exact ⟨0, Nat.zero_le _, rfl, Ch.refl _ _⟩
  case round =>
    clear z1
    obtain ⟨j, hj, rfl, c⟩ := hrel
    by_cases hlt : j < C1.length
    · obtain ⟨g, o, c1, -, e1, hcell⟩ := SeesI.cell (hRA1.out.new c).c.sees (by omega)
      obtain ⟨rfl, rfl⟩ : ca1 = some ⟨g, o, none⟩ ∧ cc1 = c1 := by simpa using e1
      have hx := hcell j hlt
      have hXf := HC.out (C1.getD j 0) (by simp [List.getD_eq_getElem?_getD, hlt])
      have i1 : (0 : Int) ≤ j := by omega
      have i2 : (j : Int) < C1.length := by omega
      have hai := aim_of (hD3.out.new c).g (C1.getD j 0)
      have z1 := (hRA1.out.new c).cells.2.1
      clear hcell e1
      generalize (gaim cs L (C1.getD j 0)).1 = to at *
      generalize (gaim cs L (C1.getD j 0)).2 = kd at *
      generalize C1.getD j 0 = X at *
      replace c := Lib.hid c
      obtain ⟨f1, f2, f3, f4, f5⟩ := hXf
      replace f5 := Lib.hid f5
      have t1' : (kd == 0) = false := by simpa using f1
      have t2' : (to == 0) = false := by simpa using f2
      have t3' : (ofL cs L to roots == 1) = false := by simpa using f3
      have t4' : all = true → (ofL cs L to roots == 2) = false := fun h => by simpa using f4 h
      replace t4' := Lib.hid t4'
      clear f1 f2 f3 f4
      go_wp2_with fail
      refine hai.mono ?_
      rintro e w7 ⟨rfl, c7⟩
      have hD7 := Lib.hid (hD3.out.new (c.out.trans c7))
      have d7 := Lib.hid (c.out.trans c7)
      have hof := of_of hD7.out.g (by omega) _ _ roots (HU.out.keep (cA.out.trans hD7.out.ch) (fun _ _ e => e)) (by omega) to
      clear hai hx z1 c7 c
      generalize ofL cs L to roots = x at *
      go_wp2_with fail
      refine hof.mono ?_
      rintro e w8 ⟨rfl, c8⟩
      have d8 := Lib.hid (d7.out.trans c8)
      have y1 := d8.out.cell xa.out (fun e => e)
      obtain ⟨z0, -, z2⟩ := (hRA1.out.new d8.out).cells
      clear hof c8 d7 hD7
      have main : ∀ bb : Bool, bb = all → (bb = true → (x == 2) = false) := fun bb hbb h => t4'.out (hbb ▸ h)
      have h12 : Hid (kd = 5 ∨ kd ≠ 5) := Lib.hid (by omega)
      by_cases h5 : kd = 5
      · have e5 : (kd == 5) = true := by simpa using h5
        obtain ⟨f6, f7⟩ := f5.out h5
        have hh1 := has_any _ _ t1 to w8 (hRA1.out.new d8.out).l.sees
        rw [decide_eq_false f6] at hh1
        have hcl := rclose_of (hD3.out.new d8.out).r hmW.out.right (by omega) _ _ F1 (hRA1.out.new d8.out).f.sees 1
        replace f7 := Lib.hid f7
        clear f6 h5 f5 main h12
        cases all with
        | true =>
          have t5' := t4'.out rfl
          go_wp2_with fail
          refine hh1.mono ?_
          rintro e w9 ⟨rfl, hs9⟩
          obtain rfl : w8 = w9 := hs9
          clear hh1
          go_wp2_with fail
          refine hcl.mono ?_
          rintro e w9 ⟨v9, rfl, r9, -, c9⟩
          obtain ⟨a9, cc9, rfl, -, -⟩ := r9.isSlice
          have hh2 := has_any _ _ (closeL cs L 1 F1) to w9 r9.sees
          rw [decide_eq_false f7.out] at hh2
          have d9 := Lib.hid (d8.out.trans c9)
          clear hcl r9 c9
          go_wp2_with fail
          refine hh2.mono ?_
          rintro e w10 ⟨rfl, hs10⟩
          obtain rfl : w9 = w10 := hs10
          clear hh2
          go_wp2_with fail
          go_roundw
          case rel => exact ⟨j + 1, by omega, by go_num, d9.out⟩
          case measure => simp [intOf]; omega
        | false =>
          go_wp2_with fail
          refine hh1.mono ?_
          rintro e w9 ⟨rfl, hs9⟩
          obtain rfl : w8 = w9 := hs9
          clear hh1
          go_wp2_with fail
          refine hcl.mono ?_
          rintro e w9 ⟨v9, rfl, r9, -, c9⟩
          obtain ⟨a9, cc9, rfl, -, -⟩ := r9.isSlice
          have hh2 := has_any _ _ (closeL cs L 1 F1) to w9 r9.sees
          rw [decide_eq_false f7.out] at hh2
          have d9 := Lib.hid (d8.out.trans c9)
          clear hcl r9 c9
          go_wp2_with fail
          refine hh2.mono ?_
          rintro e w10 ⟨rfl, hs10⟩
          obtain rfl : w9 = w10 := hs10
          clear hh2
          go_wp2_with fail
          go_roundw
          case rel => exact ⟨j + 1, by omega, by go_num, d9.out⟩
          case measure => simp [intOf]; omega
      · have e5 : (kd == 5) = false := by simpa using h5
        clear h5 f5 main h12
        cases all with
        | true =>
          have t5' := t4'.out rfl
          go_wp2_with fail
          go_roundw
          case rel => exact ⟨j + 1, by omega, by go_num, d8.out⟩
          case measure => simp [intOf]; omega
        | false =>
          go_wp2_with fail
          go_roundw
          case rel => exact ⟨j + 1, by omega, by go_num, d8.out⟩
          case measure => simp [intOf]; omega
    · obtain rfl : j = C1.length := by omega
      have hD4 := Lib.hid (hD3.out.new c)
      have R1 := Lib.hid (hRA1.out.new c)
      have xa2 : Hid (wr.cell? ⟨P + 1 + 1, 0, none⟩ = some (.bool all)) := Lib.hid (c.cell xa.out (fun e => e))
      have z2 := R1.out.cells.2.2
      clear c hD3 hRA1 xa HC
      go_wp2_with fail
      go_loopw [102] (fun i wr2 => ∃ j : Nat, j ≤ F1.length ∧ i = .int .i64 j ∧ Ch0 wr wr2) (fun i _ => F1.length - (intOf i).toNat)
      case atStart => exact ⟨0, Nat.zero_le _, rfl, Ch.refl _ _⟩
      case round =>
        clear z2
        obtain ⟨j, hj, rfl, c⟩ := hrel
        rename_i wr2 _ _ _ _ _
        by_cases hlt : j < F1.length
        · obtain ⟨g, o, c1, -, e1, hcell⟩ := SeesI.cell (R1.out.new c).f.sees (by omega)
          obtain ⟨rfl, rfl⟩ : fa1 = some ⟨g, o, none⟩ ∧ fc1 = c1 := by simpa using e1
          have hx := hcell j hlt
          obtain ⟨g1, g2, g3, g5⟩ := HF.out (F1.getD j 0) (by simp [List.getD_eq_getElem?_getD, hlt])
          have i1 : (0 : Int) ≤ j := by omega
          have i2 : (j : Int) < F1.length := by omega
          have z2 := (R1.out.new c).cells.2.2
          have hD5 := Lib.hid (hD4.out.new c)
          obtain ⟨nd, hnd, hid⟩ := List.mem_map.1 g1
          have hfin : nd.fin = true := by
            rw [← hid] at g2
            unfold isFin at g2
            rw [gat_at hrise.out hnd] at g2
            exact g2
          have hwf := hmW.out.ok.wf _ hnd
          have hr60 := hwf.refs
          have hd60 := hwf.data
          have hny := node_yes hD5.out.g.g hnd (by omega) (by omega)
          rw [hid] at hny
          replace hid := Lib.hid hid
          replace hnd := Lib.hid hnd
          have t3' : (ofL cs L (F1.getD j 0) roots == 1) = false := by simpa using g3
          have t4' : Hid (all = true → (ofL cs L (F1.getD j 0) roots == 2) = false) := Lib.hid (fun h => by simpa using g5 h)
          clear hcell e1 g1 g2 g3 g5 hwf
          generalize F1.getD j 0 = X at *
          replace c := Lib.hid c
          go_wp2_with fail
          refine hny.mono ?_
          rintro e w7 ⟨nv, vr, vd, rfl, hcp, c7⟩
          obtain ⟨ar, cr, rfl, -, -⟩ := hcp.refs.isSlice
          obtain ⟨ad, cd, rfl, -, -⟩ := hcp.data.isSlice
          obtain rfl : nv = .agg #[.int .i64 nd.id, .int .i64 nd.cls, .slice ar nd.refs.length cr, .slice ad nd.data.length cd, .bool true] := hfin ▸ hcp.v
          have d8 := c7.alloc (.cells #[.int .i64 nd.id, .int .i64 nd.cls, .slice ar nd.refs.length cr, .slice ad nd.data.length cd, .bool true] 36)
          have hx8 := d8.cell hx (fun e => e)
          have z8 := d8.cell z2 (fun e => e)
          have bN := heap_alloc_new w7 (.cells #[.int .i64 nd.id, .int .i64 nd.cls, .slice ar nd.refs.length cr, .slice ad nd.data.length cd, .bool true] 36)
          have y4 := cell_of_row _ w7.heap.size 4 _ _ _ bN
          simp only [List.getElem?_toArray, List.getElem?_cons_zero, List.getElem?_cons_succ] at y4
          have hD8 := Lib.hid (hD5.out.new d8)
          have c8 := Lib.hid (c.out.trans d8)
          have xa8 := (c.out.trans d8).cell xa2.out (fun e => e)
          have hof := of_of hD8.out.g (by omega) _ _ roots (HU.out.keep (cA.out.trans hD8.out.ch) (fun _ _ e => e)) (by omega) X
          clear hny hcp c7 d8 bN hx z2 c
          go_wp2_with fail
          generalize w7.alloc (.cells #[.int .i64 nd.id, .int .i64 nd.cls, .slice ar nd.refs.length cr, .slice ad nd.data.length cd, .bool true] 36) = w8 at *
          generalize w7.heap.size = Q8 at *
          generalize ofL cs L X roots = x at *
          refine hof.mono ?_
          rintro e w9 ⟨rfl, c9⟩
          have d9 := Lib.hid (c8.out.trans c9)
          have y4' := c9.cell y4 (fun e => e)
          have xa9 := c9.cell xa8 (fun e => e)
          clear hof c9 hx8 z8 y4 xa8
          cases all with
          | true =>
            have t5' := t4'.out rfl
            go_wp2_with fail
            go_roundw
            case rel => exact ⟨j + 1, by omega, by go_num, d9.out⟩
            case measure => simp [intOf]; omega
          | false =>
            go_wp2_with fail
            go_roundw
            case rel => exact ⟨j + 1, by omega, by go_num, d9.out⟩
            case measure => simp [intOf]; omega
        · obtain rfl : j = F1.length := by omega
          have hD5 := Lib.hid (hD4.out.new c)
          have R2 := Lib.hid (R1.out.new c)
          have hre := reach_of hD5.out.g (by omega) _ _ roots (HU.out.keep (cA.out.trans hD5.out.ch) (fun _ _ e => e)) (by omega)
          have hSl : (closeL cs L 1 roots).length ≤ 40 := Nat.le_trans closeL_len hL40
          clear c R1 hD4 xa2
          go_wp2_with fail
          refine hre.mono ?_
          rintro e w6 ⟨v6, rfl, r6, -, c6⟩
          obtain ⟨S, hS⟩ : ∃ S, S = closeL cs L 1 roots := ⟨_, rfl⟩
          rw [← hS] at r6 hSl HT
          obtain ⟨a6, cc6, rfl, -, -⟩ := r6.isSlice
          have hD6 := Lib.hid (hD5.out.new c6)
          have HS := Lib.hid r6.sees
          have R3 := Lib.hid (R2.out.new c6)
          clear hre r6 c6 hS hD5 R2
          go_wp2_with fail
          go_loopw [143] (fun i wr2 => ∃ j : Nat, j ≤ S.length ∧ i = .int .i64 j ∧ Ch0 w6 wr2) (fun i _ => S.length - (intOf i).toNat)
          case atStart => exact ⟨0, Nat.zero_le _, rfl, Ch.refl _ _⟩
          case round =>
            obtain ⟨j, hj, rfl, c⟩ := hrel
            rename_i w7 _ _ _ _ _
            by_cases hlt : j < S.length
            · obtain ⟨g, o, c1, -, e1, hcell⟩ := SeesI.cell (Sees.keep HS.out c (fun _ _ e => e)) (by omega)
              obtain ⟨rfl, rfl⟩ : a6 = some ⟨g, o, none⟩ ∧ cc6 = c1 := by simpa using e1
              have hx := cellB (hcell j hlt)
              have hXm := HT.out (S.getD j 0) (by simp [List.getD_eq_getElem?_getD, hlt])
              have i1 : (0 : Int) ≤ j := by omega
              have i2 : (j : Int) < S.length := by omega
              have HH : Hid (∀ (d : Nat) (os : Array Obj), _) := Lib.hid (fun d os => has_any _ _ t1 (S.getD j 0) _ ((R3.out.new (c.trans (chB _ d os))).l.sees))
              rw [decide_eq_true hXm] at HH
              have z0 := cellB (R3.out.new c).cells.1
              clear hcell e1 hXm
              generalize S.getD j 0 = X at *
              replace c := Lib.hid c
              go_wp2_with fail
              refine wp_region_quiet_below (by kernel_rfl) (by kernel_rfl) ?_
              repeat (go_big_quiet_step ((go_at_call 54; exact quietS (HH.out _ _))))
              refine wpQuiet_nil ?_
              intro _ hw'
              obtain ⟨⟨dq, osq⟩, hw''⟩ := hw'
              subst hw''
              have d9 := Lib.hid (c.out.trans (chB _ dq osq))
              clear hx z0
              go_wp2_with fail
              go_roundw
              case rel => exact ⟨j + 1, by omega, by go_num, d9.out⟩
              case measure => simp [intOf]; omega
            · obtain rfl : j = S.length := by omega
              have HE := Lib.hid (cA.out.trans (hD6.out.new c).ch)
              clear c
              go_wp2_with fail
              go_ret
              exact ⟨rfl, HE.out⟩

end Go.Proofs.Ytlmeponoadhheaa
