/-
  gleaninglaw13.ProcessCloses answers true: the walk. (Printed by pcloses.py.)
-/
import Derived.Test.YtlmeponoadhheaaPAwake
import Derived.Test.YtlmeponoadhheaaKeepF
import Derived.Test.YtlmeponoadhheaaApply
namespace Go.Proofs.Ytlmeponoadhheaa
set_option linter.unusedVariables false
open Go.RowKit Go.Sort

theorem lt_cell {w : World} {a : Addr} {v : Value} (h : w.cell? a = some v) : a.block < w.heap.size := by
  rcases Nat.lt_or_ge a.block w.heap.size with q | q
  · exact q
  · have : w.heap[a.block]? = none := Array.getElem?_eq_none q
    unfold World.cell? at h
    simp [this] at h

theorem sees_drop {D : Nat → Prop} {w : World} {g o c : Nat} {xs : List Int} (h : SeesI D w (.slice (some ⟨g, o, none⟩) xs.length c) xs) (k : Nat) (hk : k ≤ xs.length) : SeesI D w (.slice (if c = k then some ⟨g, o, none⟩ else some ⟨g, o + k, none⟩) (xs.length - k) (c - k)) (xs.drop k) := by
  obtain ⟨h0, a, c', hv, hn, hm, hl⟩ := h
  cases hv
  refine ⟨by simp, _, c - k, by rw [List.length_drop], by rw [List.length_drop]; omega, by omega, ?_⟩
  by_cases hz : xs.length = k
  · exact .inl (by rw [List.length_drop]; omega)
  · refine .inr ?_
    rw [if_neg (by omega)]
    rcases hl with hl | ⟨g', o', hg, e, hi⟩
    · omega
    · cases e
      refine ⟨g, o + k, hg, rfl, fun i u hu => ?_⟩
      rw [List.map_drop, List.getElem?_drop] at hu
      have := hi (k + i) u hu
      rwa [← Nat.add_assoc] at this

theorem nodup_drop {xs : List Int} (h : xs.Nodup) {j : Nat} (hj : j < xs.length) : xs.getD j 0 ∉ xs.drop (j + 1) := by
  have h1 := List.Nodup.sublist (List.drop_sublist j xs) h
  rw [List.drop_eq_getElem_cons hj] at h1
  have e : xs.getD j 0 = xs[j] := by rw [List.getD_eq_getElem?_getD, List.getElem?_eq_getElem hj]; rfl
  rw [e]
  exact (List.nodup_cons.1 h1).1

set_option maxRecDepth 100000 in
set_option maxHeartbeats 4000000 in
theorem closes13_walk (cs : List Cls) (ns : List Int) (rs : List (Int × Int × Int)) (cv nv rv u : Value) (roots : List Int) (bits : Int) (w : World) (hs : SeesW (fun k => k < w.heap.size) w cv nv rv cs ns rs) (hf : Fit cs) (hu : SeesI (fun k => k < w.heap.size) w u roots) (hb0 : 0 ≤ bits) (hb1 : bits < 18446744073709551616) :
    Calls Try.prog 19 #[.agg #[cv, nv, rv], u, .int .u64 bits] w fun e w' => e = .returned (.bool true) ∧ Ch0 w w' := by
  obtain ⟨na, nc, rfl, hnl⟩ := hs.n.len
  obtain ⟨ca, cc, rfl, -⟩ := hs.c.len
  obtain ⟨ra, rc, rfl, -⟩ := hs.r.len
  have HA := Lib.hid awake13
  have HM : Hid (∀ W, Ch0 w W → _) := Lib.hid (fun W (c : Ch0 w W) => pmade_at hs hf c)
  obtain ⟨ua, uc, rfl, hul⟩ := hu.len
  have HU := Lib.hid hu
  clear hs hf hu
  have cA : Ch0 w ((w.alloc (.cells #[.slice ca cs.length cc, .slice na ns.length nc, .slice ra rs.length rc] 84)).alloc (.cells #[.int .u64 bits] 90)) := ((Ch.refl _ _).alloc _).alloc _
  have x1 : ((w.alloc (.cells #[.slice ca cs.length cc, .slice na ns.length nc, .slice ra rs.length rc] 84)).alloc (.cells #[.int .u64 bits] 90)).cell? ⟨w.heap.size, 1, none⟩ = some (.slice na ns.length nc) := (((Ch.refl (fun _ => False) (w.alloc (.cells #[.slice ca cs.length cc, .slice na ns.length nc, .slice ra rs.length rc] 84)))).alloc _ : Ch0 _ _).cell ((by first | (simp; done) | simpa using cell_of_row _ w.heap.size 1 _ _ _ (heap_alloc_new w (.cells #[.slice ca cs.length cc, .slice na ns.length nc, .slice ra rs.length rc] 84)))) (fun e => e)
  have xb0 : ((w.alloc (.cells #[.slice ca cs.length cc, .slice na ns.length nc, .slice ra rs.length rc] 84)).alloc (.cells #[.int .u64 bits] 90)).cell? ⟨w.heap.size + 1, 0, none⟩ = some (.int .u64 bits) := (by first | (simp; done) | simpa using cell_of_one (heap_alloc_new (w.alloc (.cells #[.slice ca cs.length cc, .slice na ns.length nc, .slice ra rs.length rc] 84)) (.cells #[.int .u64 bits] 90)))
  replace cA := Lib.hid cA
  have hmf : ∀ (fn : Fn) (first cap : Array Value) (w : World), (Instr.makeFunc fn first cap).run Try.prog w = .ok (.func fn first cap) w := fun _ _ _ _ => rfl
  go_enter Try.func19, Try.ntmps19
  go_wp2_with fail
  generalize (w.alloc (.cells #[.slice ca cs.length cc, .slice na ns.length nc, .slice ra rs.length rc] 84)).alloc (.cells #[.int .u64 bits] 90) = W0 at *
  generalize w.heap.size = P at *
  refine (HM.out _ cA.out).mono ?_
  rintro e w1 (⟨hmB, rfl, d1⟩ | ⟨hmB, b1, b2, p, lo, hi, O1, O2, D, rfl, hD⟩)
  · have HE := Lib.hid (cA.out.trans d1)
    clear d1 HM hmB
    go_wp2_with fail
    refine (HA.out _).mono ?_
    rintro e w2 ⟨rfl, d2⟩
    have HE2 := Lib.hid (HE.out.trans d2)
    clear d2
    go_wp2_with fail
    refine (HA.out _).mono ?_
    rintro e w3 ⟨rfl, d3⟩
    have HE3 := Lib.hid (HE2.out.trans d3)
    clear d3
    go_wp2_with fail
    go_ret
    exact ⟨rfl, HE3.out⟩
  have hmW := madeW_of hmB
  have hnn := hmW.n
  have hLn := hmW.ok.len
  have hL40 : (madeL cs ns rs).length ≤ 40 := by omega
  replace hLn := Lib.hid hLn
  replace hmW := Lib.hid hmW
  replace hD := Lib.hid hD
  clear hmB HM
  generalize madeL cs ns rs = L at *
  go_wp2_with fail
  refine (HA.out _).mono ?_
  rintro e w2 ⟨rfl, d2⟩
  have hD2 := Lib.hid (hD.out.new d2)
  clear hD d2
  by_cases b4 : roots.length ≤ 40
  case neg =>
    have g4 : decide ((40 : Int) < roots.length) = true := decide_eq_true (by omega)
    clear b4
    go_wp2_with fail
    refine (HA.out _).mono ?_
    rintro e w3 ⟨rfl, d3⟩
    have HE3 := Lib.hid (cA.out.trans (hD2.out.new d3).ch)
    clear d3
    go_wp2_with fail
    go_ret
    exact ⟨rfl, HE3.out⟩
  have g4 : decide ((40 : Int) < roots.length) = false := decide_eq_false (by omega)
  have hlow : Hid (Low L) := Lib.hid (fun nd hnd => by
    have h1 := (hmW.out.ok.mem).1 (mem_ids.2 ⟨nd, hnd, rfl⟩)
    have := hmW.out.n
    omega)
  have hrise : Hid (Rising L) := Lib.hid hD2.out.r.rise
  have hr1 := prun_res hD2.out.g (by omega) (hmW.out.right) (hmW.out.ok.refs) _ _ (keepOk_of (kp := fun id => keptB id bits) hlow.out (enters_of Try.func76 (by kernel_rfl) rfl) (clo_closes1 bits hb0 hb1 (P + 1) w2 (hD2.out.ch.cell xb0 (fun e => e)))) _ _ (roots := roots) (HU.out.keep (cA.out.trans hD2.out.ch) (fun _ _ e => e)) (by omega)
  go_wp2_with fail
  refine hr1.mono ?_
  rintro e v1 ⟨la1, lc1, ca1, cc1, fa1, fc1, s1, t1, C1, F1, rfl, hPR1, hRA1, hRO1, c1⟩
  have hNO1 := Lib.hid (hRO1.off hD2.out.g.small c1)
  have dd : Ch0 _ (v1.alloc (.cells #[.slice la1 t1.length lc1, .slice ca1 C1.length cc1, .slice fa1 F1.length fc1] 86)) := c1.alloc _
  have hD3 := Lib.hid (hD2.out.new dd)
  replace hRA1 := Lib.hid hRA1
  replace hPR1 := Lib.hid hPR1
  clear hr1 hRO1 c1 dd
  go_wp2_with fail
  generalize v1.alloc (.cells #[.slice la1 t1.length lc1, .slice ca1 C1.length cc1, .slice fa1 F1.length fc1] 86) = W1 at *
  generalize v1.heap.size = Q1 at *
  have hPl : Hid (P < W0.heap.size) := Lib.hid (lt_cell x1)
  have hsa : Hid (∀ (w' : World) (D E : Nat → Prop) u v, SeesI D w' u t1 → SeesI E w' v t1 → Calls Try.prog 41 #[u, v] w' fun e w'' => e = .returned (.bool true) ∧ Ch0 w' w'') := Lib.hid (fun w' D E u v h1 h2 => by
    have := same_any _ _ _ _ _ _ w' h1 h2
    rw [decide_eq_true rfl] at this
    exact this.mono (fun _ _ ⟨a, n, b⟩ => ⟨a, b ▸ ch_drewN' w' n⟩))
  have hCl : C1.length ≤ 40 := Nat.le_trans (hPR1.out.c_len hrise.out) hL40
  have ht1 : t1.length ≤ 40 := Nat.le_trans (hPR1.out.t_len hrise.out) hL40
  have hcc1 : C1.length ≤ cc1 := by obtain ⟨_, _, e0, hle, _⟩ := hRA1.out.c.isSlice; cases e0; exact hle
  have hnd : Hid C1.Nodup := Lib.hid (hPR1.out.c_once hrise.out)
  have hci : Hid (∀ x ∈ C1, x ∈ t1) := Lib.hid hPR1.out.c_in
  have hx1 : Hid (W1.cell? ⟨P, 1, none⟩ = some (.slice na ns.length nc)) := Lib.hid (hD3.out.ch.cell x1 (fun e => e))
  clear hD2 x1 xb0 hmf
  go_loopw [44] (fun i wr => ∃ j : Nat, j ≤ C1.length ∧ i = .int .i64 j ∧ Ch0 W1 wr) (fun i _ => C1.length - (intOf i).toNat)
  case atStart => exact ⟨0, Nat.zero_le _, rfl, Ch.refl _ _⟩
  case round =>
    obtain ⟨j, hj, rfl, c⟩ := hrel
    by_cases hlt : j < C1.length
    · obtain ⟨g, o, c1, -, e1, hcell⟩ := SeesI.cell (hRA1.out.new c).c.sees (by omega)
      obtain ⟨rfl, rfl⟩ : ca1 = some ⟨g, o, none⟩ ∧ cc1 = c1 := by simpa using e1
      have hx := cellB (hcell j hlt)
      have i1 : (0 : Int) ≤ j := by omega
      have i2 : (j : Int) < C1.length := by omega
      have i3 : (0 : Int) ≤ (j : Int) + 1 := by omega
      have i4 : (j : Int) + 1 ≤ C1.length := by omega
      have i5 : (C1.length : Int) ≤ cc1 := by omega
      have t1' : IntKind.i64.wrap ((j : Int) + 1) = (j : Int) + 1 := IntWalk.i64_in _ (by omega)
      have z1 := cellB (hRA1.out.new c).cells.2.1
      have z0 := cellB (hRA1.out.new c).cells.1
      have HH1 : Hid (∀ (d : Nat) (os : Array Obj), _) := Lib.hid (fun d os => has_any _ _ (C1.drop (j + 1)) (C1.getD j 0) _ (sees_drop (hRA1.out.new (c.trans (chB wr d os))).c.sees (j + 1) (by omega)))
      rw [decide_eq_false (nodup_drop hnd.out hlt)] at HH1
      have HH2 : Hid (∀ (d : Nat) (os : Array Obj), _) := Lib.hid (fun d os => has_any _ _ t1 (C1.getD j 0) _ (hRA1.out.new (c.trans (chB wr d os))).l.sees)
      rw [decide_eq_true (hci.out (C1.getD j 0) (by simp [List.getD_eq_getElem?_getD, hlt]))] at HH2
      clear hcell e1
      generalize C1.getD j 0 = X at *
      replace c := Lib.hid c
      go_wp2_with fail
      refine wp_region_quiet_below (by kernel_rfl) (by kernel_rfl) ?_
      repeat (go_big_quiet_step ((go_at_call 54; first | with_reducible exact quietS (HH1.out _ _) | with_reducible exact quietS (HH2.out _ _))))
      refine wpQuiet_nil ?_
      intro _ hw'
      obtain ⟨⟨dq, osq⟩, hw''⟩ := hw'
      subst hw''
      have d9 := Lib.hid (c.out.trans (chB wr dq osq))
      clear hx z1 z0
      go_wp2_with fail
      go_roundw
      case rel => exact ⟨j + 1, by omega, by go_num, d9.out⟩
      case measure => simp [intOf]; omega
    · obtain rfl : j = C1.length := by omega
      have hD4 := Lib.hid (hD3.out.new c)
      have R1 := Lib.hid (hRA1.out.new c)
      have hx2 := c.cell hx1.out (fun e => e)
      have hPO : Hid (¬ O1 P) := Lib.hid (fun e => by have := hD4.out.f1 P e; have := hPl.out; omega)
      clear c hD3 hRA1 hx1 hcc1 hnd hci
      have hap : Hid (∀ w', Ch0 wr w' → _) := Lib.hid (fun w' (c : Ch0 wr w') => papply_of (hD4.out.new c).g (by omega) _ _ _ _ t1 C1 F1 (R1.out.new c).sees3.1 (R1.out.new c).sees3.2.1 (R1.out.new c).sees3.2.2 (fun k e => hNO1.out k (.inr e)) (R1.out.new c).lt)
      rw [hPR1.out.behind hrise.out hmW.out.right hmW.out.ok.wf hmW.out.ok.refs, behind_len hPR1.out hrise.out, hLn.out] at hap
      have hid2 : Hid (ids (behind cs L t1 C1 F1) = t1) := Lib.hid (behind_ids hrise.out (hPR1.out.t_up hrise.out) hPR1.out.t_ids)
      have hl2 : Hid ((behind cs L t1 C1 F1).length ≤ 40) := Lib.hid (by rw [behind_len hPR1.out hrise.out]; exact ht1)
      have hN2 : Hid (∀ X ∈ t1, ∀ nd, nd ∈ L → nd.id = X → ∃ nd2 ∈ behind cs L t1 C1 F1, nd2.id = X ∧ nd2.refs.length = nd.refs.length ∧ (∀ k, k < nd.refs.length → nd2.refs.getD k 0 = if k = 0 ∧ X ∈ C1 then 0 else nd.refs.getD k 0) ∧ nd2.fin = (nd.fin && !decide (X ∈ F1))) := Lib.hid (fun X hX nd hnd e => by
        subst e
        exact ⟨_, mem_behind.2 ⟨nd, hnd, hX, rfl⟩, rfl, cut_len nd, fun k hk => cut_ref hPR1.out hrise.out hmW.out.right hmW.out.ok.wf hmW.out.ok.refs hnd k hk, rfl⟩)
      have hti : Hid (∀ X ∈ t1, X ∈ ids L) := Lib.hid hPR1.out.t_ids
      generalize behind cs L t1 C1 F1 = L2 at *
      clear hPR1
      have hwr : IntKind.i64.wrap ((ns.length : Int) - t1.length) = (ns.length : Int) - t1.length := IntWalk.i64_in _ (by omega)
      obtain ⟨z0, z1, z2⟩ := R1.out.cells
      have xx : Hid (∀ w', Ch0 wr w' → w'.cell? ⟨P, 1, none⟩ = some (.slice na ns.length nc) ∧ w'.cell? ⟨Q1, 0, none⟩ = some (.slice la1 t1.length lc1) ∧ w'.cell? ⟨Q1, 1, none⟩ = some (.slice ca1 C1.length cc1) ∧ w'.cell? ⟨Q1, 2, none⟩ = some (.slice fa1 F1.length fc1)) := Lib.hid (fun w' c => ⟨c.cell hx2 (fun e => e), (R1.out.new c).cells⟩)
      go_wp2_with fail
      go_region_held3 (fun w' => w'.cell? ⟨P, 1, none⟩ = some (.slice na ns.length nc) ∧ w'.cell? ⟨Q1, 0, none⟩ = some (.slice la1 t1.length lc1) ∧ w'.cell? ⟨Q1, 1, none⟩ = some (.slice ca1 C1.length cc1) ∧ w'.cell? ⟨Q1, 2, none⟩ = some (.slice fa1 F1.length fc1))
        (first | exact yy.out _ (cy.trans cz) | exact yy.out _ cy | exact yy.out _ (Ch.refl _ _) | exact xx.out _ (Ch.refl _ wr).drew | go_keep)
        ((first
          | (go_at_call 74; refine (hap.out _ (Ch.refl _ wr).drew).mono ?_; rintro e wx ⟨rfl, hgx, tux⟩; have hDx := Lib.hid ((hD4.out.new (Ch.refl _ wr).drew).first hgx tux); have Rx := Lib.hid ((R1.out.new (Ch.refl _ wr).drew).turn tux.1 hNO1.out); have yy : Hid (∀ w', Ch0 wx w' → w'.cell? ⟨P, 1, none⟩ = some (.slice na ns.length nc) ∧ w'.cell? ⟨Q1, 0, none⟩ = some (.slice la1 t1.length lc1) ∧ w'.cell? ⟨Q1, 1, none⟩ = some (.slice ca1 C1.length cc1) ∧ w'.cell? ⟨Q1, 2, none⟩ = some (.slice fa1 F1.length fc1)) := Lib.hid (fun w' c => ⟨c.cell (tux.1.cell ((Ch.refl (fun _ => False) wr).drew.cell hx2 (fun e => e)) hPO.out) (fun e => e), (Rx.out.new c).cells⟩))
          | (go_at_call 35; refine (ids_of hDx.out.g (by have := hl2.out; omega)).mono ?_; rw [hid2.out]; rintro e wy ⟨vy, rfl, ry, fy, cy⟩; obtain ⟨ay, ccy, rfl, -, -⟩ := ry.isSlice)
          | (go_at_call 41; refine (hsa.out _ _ _ _ _ ry.sees (Rx.out.new cy).l.sees).mono ?_; rintro e wz ⟨rfl, cz⟩)))
      rename_i hheld
      have hD5 := Lib.hid (hDx.out.new (cy.trans cz))
      have R2 := Lib.hid (Rx.out.new (cy.trans cz))
      clear hheld hap xx yy z0 z1 z2 hx2 hwr ry fy cy cz hDx Rx hgx tux R1 hD4 hsa hid2
      obtain ⟨nv, vr, vd, ow, gg⟩ := hD5.out.r.g
      obtain ⟨aN, cN, rfl, -, -⟩ := gg.row.isSlice
      have k1 := gg.cells.2
      have HG := Lib.hid gg
      have z0 := R2.out.cells.1
      clear gg
      go_wp2_with fail
      go_loopw [92] (fun i wr => ∃ j : Nat, j ≤ t1.length ∧ i = .int .i64 j ∧ Ch0 wz wr) (fun i _ => t1.length - (intOf i).toNat)
      case atStart => exact ⟨0, Nat.zero_le _, rfl, Ch.refl _ _⟩
      case round =>
        clear z0
        obtain ⟨j, hj, rfl, c⟩ := hrel
        by_cases hlt : j < t1.length
        · obtain ⟨g, o, c1, -, e1, hcell⟩ := SeesI.cell (R2.out.new c).l.sees (by omega)
          obtain ⟨rfl, rfl⟩ : la1 = some ⟨g, o, none⟩ ∧ lc1 = c1 := by simpa using e1
          have hx := hcell j hlt
          have i1 : (0 : Int) ≤ j := by omega
          have i2 : (j : Int) < t1.length := by omega
          have z0 := (R2.out.new c).cells.1
          have hXt : t1.getD j 0 ∈ t1 := by simp [List.getD_eq_getElem?_getD, hlt]
          clear hcell e1
          generalize t1.getD j 0 = X at *
          have hXI := hti.out X hXt
          obtain ⟨ip, hip, hgp, hidX, -⟩ := gpos_some hXI
          obtain ⟨nd2, hnd2, hi2, hl22, hrf, hfn⟩ := hN2.out X hXt L[ip] (List.getElem_mem hip) hidX
          have hD6 := Lib.hid (hD5.out.new c)
          have hwf := hD6.out.g.wf _ hnd2
          have hr60 := hwf.refs
          have hd60 := hwf.data
          have hny := node_yes hD6.out.g.g hnd2 (by omega) (by omega)
          rw [hi2] at hny
          replace hrf := Lib.hid hrf
          replace hfn := Lib.hid hfn
          replace hi2 := Lib.hid hi2
          replace hl22 := Lib.hid hl22
          clear hwf hnd2 hXt hXI
          go_wp2_with fail
          refine hny.mono ?_
          rintro e w7 ⟨nv', vr', vd', rfl, hcp, c7⟩
          obtain ⟨ar, cr, rfl, -, -⟩ := hcp.refs.isSlice
          obtain ⟨ad, cd, rfl, -, -⟩ := hcp.data.isSlice
          obtain rfl : nv' = .agg #[.int .i64 X, .int .i64 nd2.cls, .slice ar nd2.refs.length cr, .slice ad nd2.data.length cd, .bool nd2.fin] := hi2.out ▸ hcp.v
          have cA7 : Ch0 w7 (w7.alloc (.cells #[.int .i64 X, .int .i64 nd2.cls, .slice ar nd2.refs.length cr, .slice ad nd2.data.length cd, .bool nd2.fin] 36)) := (Ch.refl _ _).alloc _
          have c8 := c7.trans cA7
          have hx8 := c8.cell hx (fun e => e)
          have z8 := c8.cell z0 (fun e => e)
          have bN := heap_alloc_new w7 (.cells #[.int .i64 X, .int .i64 nd2.cls, .slice ar nd2.refs.length cr, .slice ad nd2.data.length cd, .bool nd2.fin] 36)
          have y2 := Lib.hid (cell_of_row _ w7.heap.size 2 _ _ _ bN)
          have y4 := Lib.hid (cell_of_row _ w7.heap.size 4 _ _ _ bN)
          simp only [List.getElem?_toArray, List.getElem?_cons_zero, List.getElem?_cons_succ] at y2 y4
          have HCR := Lib.hid (hcp.refs.keep cA7 (fun _ _ e => e))
          have hD8 := Lib.hid (hD6.out.new c8)
          have d8 := Lib.hid (c.trans c8)
          have gg8 := HG.out.keep (c.trans c8) (fun _ _ e => e)
          obtain ⟨gn, on, cn, e2, -, hnode⟩ := gg8.node (by omega)
          obtain ⟨rfl, rfl⟩ : aN = some ⟨gn, on, none⟩ ∧ cN = cn := by simpa using e2
          obtain ⟨n0, n1, n2, n3, n4⟩ := hnode ip hip
          obtain ⟨br, er, ev, -, -⟩ := (gg8.refs _ (List.getElem_mem hip)).isSlice
          obtain ⟨bd, ed, ew, -, -⟩ := (gg8.data _ (List.getElem_mem hip)).isSlice
          rw [ev] at n2
          rw [ew] at n3
          have HRR := Lib.hid (gg8.refs _ (List.getElem_mem hip))
          rw [ev] at HRR
          have k8 := gg8.cells.2
          have j1 : (0 : Int) ≤ ip := by omega
          have j2 : (ip : Int) < L.length := by omega
          rw [hidX] at n0
          clear hny hcp c7 c8 bN hx z0 e2 hnode ev ew gg8 cA7 c hD6
          go_wp2_with fail
          generalize w7.alloc (.cells #[.int .i64 X, .int .i64 nd2.cls, .slice ar nd2.refs.length cr, .slice ad nd2.data.length cd, .bool nd2.fin] 36) = w8 at *
          generalize w7.heap.size = Q8 at *
          have hat : Hid (∀ w', Ch0 w8 w' → _) := Lib.hid (fun w' (c : Ch0 w8 w') => rat_any (hD8.out.new c).r X)
          rw [hgp] at hat
          have hold : Hid (L[ip].refs.length = nd2.refs.length ∧ (∀ k, k < nd2.refs.length → nd2.refs.getD k 0 = if k = 0 ∧ X ∈ C1 then 0 else L[ip].refs.getD k 0) ∧ nd2.fin = (L[ip].fin && !decide (X ∈ F1))) := Lib.hid ⟨hl22.out.symm, fun k hk => hrf.out k (by have := hl22.out; omega), hfn.out⟩
          clear hgp hrf hfn hl22 hidX
          generalize L[ip] = nd at *
          have xx : Hid (∀ w', Ch0 w8 w' → w'.cell? ⟨b2, 1, none⟩ = some (.slice (some ⟨gn, on, none⟩) L.length cN) ∧ w'.cell? ⟨Q1, 0, none⟩ = some (.slice (some ⟨g, o, none⟩) t1.length lc1) ∧ w'.cell? ⟨g, o + j, none⟩ = some (.int .i64 X) ∧ w'.cell? ⟨gn, on + ip * 5, none⟩ = some (.int .i64 X) ∧ w'.cell? ⟨gn, on + ip * 5 + 1, none⟩ = some (.int .i64 nd.cls) ∧ w'.cell? ⟨gn, on + ip * 5 + 2, none⟩ = some (.slice br nd.refs.length er) ∧ w'.cell? ⟨gn, on + ip * 5 + 3, none⟩ = some (.slice bd nd.data.length ed) ∧ w'.cell? ⟨gn, on + ip * 5 + 4, none⟩ = some (.bool nd.fin)) :=
            Lib.hid (fun w' c => ⟨c.cell k8 (fun e => e), c.cell z8 (fun e => e), c.cell hx8 (fun e => e), c.cell n0 (fun e => e), c.cell n1 (fun e => e), c.cell n2 (fun e => e), c.cell n3 (fun e => e), c.cell n4 (fun e => e)⟩)
          go_region_held3 (fun w' => w'.cell? ⟨b2, 1, none⟩ = some (.slice (some ⟨gn, on, none⟩) L.length cN) ∧ w'.cell? ⟨Q1, 0, none⟩ = some (.slice (some ⟨g, o, none⟩) t1.length lc1) ∧ w'.cell? ⟨g, o + j, none⟩ = some (.int .i64 X) ∧ w'.cell? ⟨gn, on + ip * 5, none⟩ = some (.int .i64 X) ∧ w'.cell? ⟨gn, on + ip * 5 + 1, none⟩ = some (.int .i64 nd.cls) ∧ w'.cell? ⟨gn, on + ip * 5 + 2, none⟩ = some (.slice br nd.refs.length er) ∧ w'.cell? ⟨gn, on + ip * 5 + 3, none⟩ = some (.slice bd nd.data.length ed) ∧ w'.cell? ⟨gn, on + ip * 5 + 4, none⟩ = some (.bool nd.fin))
            (first | exact xx.out _ (Ch.refl _ w8).drew | exact xx.out _ ((Ch.refl _ w8).alloc _).drew | exact xx.out _ ((Ch.refl _ w8).drew.alloc _) | exact xx.out _ ((Ch.refl _ w8).alloc _) | go_keep)
            ((go_at_call 47; refine (hat.out _ (by first | exact (Ch.refl _ w8).drew | exact ((Ch.refl _ w8).alloc _).drew | exact (Ch.refl _ w8).drew.alloc _)).mono ?_; rintro e wx ⟨rfl, hs⟩; obtain rfl := hs))
          all_goals
            rename_i hheld
            clear hheld
            have cA8 : Ch0 w8 (w8.alloc (.cells #[.int .i64 X, .int .i64 nd.cls, .slice br nd.refs.length er, .slice bd nd.data.length ed, .bool nd.fin] 36)).drew := ((Ch.refl _ _).alloc _).drew
            have bO : (w8.alloc (.cells #[.int .i64 X, .int .i64 nd.cls, .slice br nd.refs.length er, .slice bd nd.data.length ed, .bool nd.fin] 36)).drew.heap[w8.heap.size]? = some (.cells #[.int .i64 X, .int .i64 nd.cls, .slice br nd.refs.length er, .slice bd nd.data.length ed, .bool nd.fin] 36 (0, 0)) := heap_alloc_new w8 _
            have p2 := cell_of_row _ w8.heap.size 2 _ _ _ bO
            have p4 := cell_of_row _ w8.heap.size 4 _ _ _ bO
            simp only [List.getElem?_toArray, List.getElem?_cons_zero, List.getElem?_cons_succ] at p2 p4
            have d9 := Lib.hid (d8.out.trans cA8)
            have e89 := Lib.hid cA8
            have x9 := cA8.cell hx8 (fun e => e)
            clear bO n0 n1 n2 n3 n4 k8 z8 hx8 xx cA8 hat
            generalize (w8.alloc (.cells #[.int .i64 X, .int .i64 nd.cls, .slice br nd.refs.length er, .slice bd nd.data.length ed, .bool nd.fin] 36)).drew = w9 at *
            generalize w8.heap.size = Q9 at *
            have q0 := cellB (R2.out.new d9.out).cells.1
            have q1 := cellB (R2.out.new d9.out).cells.2.1
            have qx := cellB x9
            have HH : Hid (∀ (d : Nat) (os : Array Obj), _) := Lib.hid (fun d os => has_any _ _ C1 X _ ((R2.out.new (d9.out.trans (chB w9 d os))).c.sees))
            go_wp2_with fail
            refine wp_region_quiet_below (by kernel_rfl) (by kernel_rfl) ?_
            repeat (go_big_quiet_step ((go_at_call 54; exact quietS (HH.out _ _))))
            refine wpQuiet_nil ?_
            intro _ hw'
            obtain ⟨⟨dq, osq⟩, hw''⟩ := hw'
            subst hw''
            have d10 := Lib.hid (d9.out.trans (chB w9 dq osq))
            have e810 := Lib.hid (e89.out.trans (chB w9 dq osq))
            have y2' := e810.out.cell y2.out (fun e => e)
            have y4' := e810.out.cell y4.out (fun e => e)
            replace p2 := (chB w9 dq osq).cell p2 (fun e => e)
            replace p4 := (chB w9 dq osq).cell p4 (fun e => e)
            have x10 := (chB w9 dq osq).cell x9 (fun e => e)
            clear q0 q1 qx HH y2 y4 e89 x9
            generalize grow (redrawn w9 dq) osq = w10 at *
            have hold2 : Hid (∀ k, k < nd2.refs.length → nd2.refs.getD k 0 = if k = 0 ∧ decide (X ∈ C1) = true then 0 else nd.refs.getD k 0) := Lib.hid (fun k hk => by rw [hold.out.2.1 k hk]; simp)
            have hfin2 := hold.out.2.2
            replace hfin2 := Lib.hid hfin2
            have hlen2 := hold.out.1
            generalize decide (X ∈ C1) = gone at *
            clear hold hN2 hti
            have HY := Lib.hid (And.intro y2' (And.intro y4' (And.intro p2 (And.intro p4 x10))))
            replace hlen2 := Lib.hid hlen2
            go_wp2_with fail
            go_loopw [129] (fun i wr => ∃ k : Nat, k ≤ nd2.refs.length ∧ i = .int .i64 k ∧ Ch0 w10 wr) (fun i _ => nd2.refs.length - (intOf i).toNat)
            case atStart => exact ⟨0, Nat.zero_le _, rfl, Ch.refl _ _⟩
            case round =>
              clear y2' y4' p2 p4 x10
              obtain ⟨k, hk, rfl, c10⟩ := hrel
              by_cases hlt2 : k < nd2.refs.length
              · have hlen3 := hlen2.out
                obtain ⟨g2, o2, c2, -, e2, hcell2⟩ := SeesI.cell (HRR.out.keep (e810.out.trans c10) (fun _ _ e => e)).sees (by omega)
                obtain ⟨rfl, rfl⟩ : br = some ⟨g2, o2, none⟩ ∧ er = c2 := by simpa using e2
                have hu := hcell2 k (by omega)
                obtain ⟨g3, o3, c3, -, e3, hcell3⟩ := SeesI.cell (HCR.out.keep (e810.out.trans c10) (fun _ _ e => e)).sees (by omega)
                obtain ⟨rfl, rfl⟩ : ar = some ⟨g3, o3, none⟩ ∧ cr = c3 := by simpa using e3
                have hv := hcell3 k hlt2
                have y2 := c10.cell HY.out.1 (fun e => e)
                have p2 := c10.cell HY.out.2.2.1 (fun e => e)
                have l1 : (0 : Int) ≤ k := by omega
                have l2 : (k : Int) < nd2.refs.length := by omega
                have l3 : (k : Int) < nd.refs.length := by omega
                have hVU := hold2.out k hlt2
                clear hcell2 hcell3 e2 e3 hlen3
                generalize nd2.refs.getD k 0 = V at *
                generalize nd.refs.getD k 0 = U at *
                replace c10 := Lib.hid c10
                rcases (show (k = 0 ∧ gone = true) ∨ (k = 0 ∧ gone = false) ∨ k ≠ 0 by cases gone <;> simp <;> omega) with ⟨h0, rfl⟩ | ⟨h0, rfl⟩ | h0
                · rw [if_pos ⟨h0, rfl⟩] at hVU
                  have t0 : ((k : Int) == 0) = true := by simp [h0]
                  have t1' : (V != 0) = false := by simp [hVU]
                  clear h0 hVU
                  go_wp2_with fail
                  go_roundw
                  case rel => exact ⟨k + 1, by omega, by go_num, c10.out⟩
                  case measure => simp [intOf]; omega
                · rw [if_neg (by simp)] at hVU
                  have t0 : ((k : Int) == 0) = true := by simp [h0]
                  have t1' : (V != U) = false := by simp [hVU]
                  clear h0 hVU
                  go_wp2_with fail
                  go_roundw
                  case rel => exact ⟨k + 1, by omega, by go_num, c10.out⟩
                  case measure => simp [intOf]; omega
                · rw [if_neg (fun q => h0 q.1)] at hVU
                  have t0 : ((k : Int) == 0) = false := by simpa using h0
                  have t1' : (V != U) = false := by simp [hVU]
                  clear h0 hVU
                  go_wp2_with fail
                  go_roundw
                  case rel => exact ⟨k + 1, by omega, by go_num, c10.out⟩
                  case measure => simp [intOf]; omega
              · obtain rfl : k = nd2.refs.length := by omega
                rename_i wq _ _ _ _ _
                have d11 := Lib.hid (d10.out.trans c10)
                have u4 := cellB (c10.cell HY.out.2.1 (fun e => e))
                have v4 := cellB (c10.cell HY.out.2.2.2.1 (fun e => e))
                have w4 := cellB (c10.cell HY.out.2.2.2.2 (fun e => e))
                have q0 := cellB (R2.out.new d11.out).cells.1
                have q2 := cellB (R2.out.new d11.out).cells.2.2
                have HH : Hid (∀ (d : Nat) (os : Array Obj), _) := Lib.hid (fun d os => has_any _ _ F1 X _ ((R2.out.new (d11.out.trans (chB _ d os))).f.sees))
                clear c10
                have hfin3 := hfin2.out
                generalize nd2.fin = fa2 at *
                generalize nd.fin = fb2 at *
                generalize decide (X ∈ F1) = inF at *
                clear HY
                subst hfin3
                clear hfin2
                go_wp2_with fail
                cases fb2 with
                | true =>
                  cases inF with
                  | true =>
                    refine wp_region_quiet_below (by kernel_rfl) (by kernel_rfl) ?_
                    repeat (go_big_quiet_step ((go_at_call 54; exact quietS (HH.out _ _))))
                    refine wpQuiet_nil ?_
                    intro _ hw'
                    obtain ⟨⟨dq2, osq2⟩, hw''⟩ := hw'
                    subst hw''
                    have d12 := Lib.hid (d11.out.trans (chB _ dq2 osq2))
                    clear u4 v4 w4 q0 q2
                    go_wp2_with fail
                    go_roundw
                    case rel => exact ⟨j + 1, by omega, by go_num, d12.out⟩
                    case measure => simp [intOf]; omega
                  | false =>
                    refine wp_region_quiet_below (by kernel_rfl) (by kernel_rfl) ?_
                    repeat (go_big_quiet_step ((go_at_call 54; exact quietS (HH.out _ _))))
                    refine wpQuiet_nil ?_
                    intro _ hw'
                    obtain ⟨⟨dq2, osq2⟩, hw''⟩ := hw'
                    subst hw''
                    have d12 := Lib.hid (d11.out.trans (chB _ dq2 osq2))
                    clear u4 v4 w4 q0 q2
                    go_wp2_with fail
                    go_roundw
                    case rel => exact ⟨j + 1, by omega, by go_num, d12.out⟩
                    case measure => simp [intOf]; omega
                | false =>
                  clear HH
                  refine wp_region_quiet_below (by kernel_rfl) (by kernel_rfl) ?_
                  repeat (go_big_quiet_step ((go_at_call 54; exact quietS (HH.out _ _))))
                  refine wpQuiet_nil ?_
                  intro _ hw'
                  obtain ⟨⟨dq2, osq2⟩, hw''⟩ := hw'
                  subst hw''
                  have d12 := Lib.hid (d11.out.trans (chB _ dq2 osq2))
                  clear u4 v4 w4 q0 q2
                  go_wp2_with fail
                  go_roundw
                  case rel => exact ⟨j + 1, by omega, by go_num, d12.out⟩
                  case measure => simp [intOf]; omega
        · obtain rfl : j = t1.length := by omega
          have HE := Lib.hid (cA.out.trans (hD5.out.new c).ch)
          clear c
          go_wp2_with fail
          go_ret
          exact ⟨rfl, HE.out⟩

end Go.Proofs.Ytlmeponoadhheaa
