/-
  Contract of the document's Apply.
-/
import Derived.Test.YtlmeponoadhheaaApply
import Derived.Test.YtlmeponoadhheaaS4
import Derived.Test.YtlmeponoadhheaaGl
namespace Go.Proofs.Ytlmeponoadhheaa
set_option linter.unusedVariables false
open Go.RowKit

section
variable {w : World} {b : Nat} {O D : Nat → Prop} {cs : List Cls} {cv : Value} {L : List GN}

/-- a node's first reference, set to none -/
theorem ref0_set (h : Rt w b O D cs cv L) {i : Nat} (hi : i < L.length) (hn : 0 < L[i].refs.length) :
    ∃ gn on cn g2 o2 c2, w.cell? ⟨b, 1, none⟩ = some (.slice (some ⟨gn, on, none⟩) L.length cn) ∧ w.cell? ⟨gn, on + i * 5 + 2, none⟩ = some (.slice (some ⟨g2, o2, none⟩) L[i].refs.length c2) ∧ (∃ u, w.cell? ⟨g2, o2, none⟩ = some u) ∧ w.frozen? ⟨g2, o2, none⟩ = false ∧
      Rt (w.setCell ⟨g2, o2, none⟩ (.int .i64 0)) b O D cs cv (setRefL L L[i].id 0 0) ∧ Turn w (w.setCell ⟨g2, o2, none⟩ (.int .i64 0)) O O := by
  obtain ⟨nv, vr, vd, ow, g⟩ := h.g
  obtain ⟨-, k1⟩ := g.cells
  obtain ⟨gn, o, c, rfl, -, hcell⟩ := g.node (by omega)
  obtain ⟨-, -, x2, -, -⟩ := hcell i hi
  have hnd := List.getElem_mem hi
  have hR := g.refs _ hnd
  obtain ⟨g2, o2, cap2, u2, e2, q1, q2, hR', cS'⟩ := row_set hR rfl 0 hn 0
  rw [e2] at x2
  obtain ⟨t1, t2⟩ := g.turn hnd (g := fun nd => { nd with refs := nd.refs.set 0 0 }) (fun _ => ⟨rfl, rfl, rfl⟩) (cS'.mono (fun k _ e => .inl e))
    (by simpa using hR') ((g.data _ hnd).keep cS' (fun k e1 e2 => g.apart _ hnd k e2 e1))
  have hE : setRefE L L[i].id 0 0 = 0 := by
    unfold setRefE
    rw [gat_at g.rise hnd]
    simp only
    rw [if_pos ⟨by omega, by omega⟩, if_neg (by simp)]
  have t3 : setRefL L L[i].id 0 0 = upd L L[i].id (fun nd => { nd with refs := nd.refs.set 0 0 }) := by
    unfold setRefL
    rw [if_pos hE]
    rfl
  refine ⟨gn, o, c, g2, o2, cap2, k1, x2, ⟨u2, q1⟩, q2, ?_, t2⟩
  rw [t3]
  exact h.turn ⟨_, _, _, _, t1⟩ t2 (by rw [← t3]; exact setRefL_wf h.wf L[i].id 0 0)

set_option maxRecDepth 100000 in
set_option maxHeartbeats 4000000 in
theorem rapply_of (h : Rt w b O D cs cv L) (hr : allRight cs = true) (hL : L.length ≤ 1000) (Dq : Nat → Prop) (lv kv fv : Value) (t C F : List Int) (ht : SeesI Dq w lv t) (hc : SeesI Dq w kv C) (hf : SeesI Dq w fv F) (hD : ∀ k, Dq k → ¬ O k) :
    Calls Try.prog 75 #[.pointer (some ⟨b, 0, none⟩), .agg #[lv, kv, fv]] w fun e w' => e = .returned (.int .i64 ((L.length : Int) - (applyL cs L C F t).length)) ∧ ∃ O', Rt w' b O' D cs cv (applyL cs L C F t) ∧ Turn w w' O O' := by
  obtain ⟨la, lc, rfl, -⟩ := ht.len
  obtain ⟨ca, cc, rfl, hcl⟩ := hc.len
  obtain ⟨fa, fc, rfl, hfl⟩ := hf.len
  have cA : Ch0 w (w.alloc (.cells #[.slice la t.length lc, .slice ca C.length cc, .slice fa F.length fc] 94)) := (Ch.refl _ _).alloc _
  have bx := heap_alloc_new w (.cells #[.slice la t.length lc, .slice ca C.length cc, .slice fa F.length fc] 94)
  have x0 := cell_of_row _ w.heap.size 0 _ _ _ bx
  have x1 := cell_of_row _ w.heap.size 1 _ _ _ bx
  have x2 := cell_of_row _ w.heap.size 2 _ _ _ bx
  simp only [List.getElem?_toArray, List.getElem?_cons_zero, List.getElem?_cons_succ] at x0 x1 x2
  have HG := Lib.hid (h.new cA)
  have HT := Lib.hid (Sees.keep ht cA (fun _ _ e => e))
  have HC := Lib.hid (Sees.keep hc cA (fun _ _ e => e))
  have HF := Lib.hid (Sees.keep hf cA (fun _ _ e => e))
  have hPO : Hid (¬ O w.heap.size) := Lib.hid (fun e => by have := h.small _ e; omega)
  have HD := Lib.hid hD
  have hT0 : Hid (∀ w' O', Turn (w.alloc (.cells #[.slice la t.length lc, .slice ca C.length cc, .slice fa F.length fc] 94)) w' O O' → Turn w w' O O') := Lib.hid (fun w' O' tu => (Turn.of0 O cA).trans tu)
  replace cA := Lib.hid cA
  clear bx h ht hc hf hD
  go_enter Try.func75, Try.ntmps75
  go_wp2_with fail
  generalize w.alloc (.cells #[.slice la t.length lc, .slice ca C.length cc, .slice fa F.length fc] 94) = W0 at *
  generalize w.heap.size = P at *
  go_loopw [13] (fun i wr => ∃ j : Nat, j ≤ C.length ∧ i = .int .i64 j ∧ Rt wr b O D cs cv (clearTo cs L C j) ∧ Turn W0 wr O O) (fun i _ => C.length - (intOf i).toNat)
  case atStart => exact ⟨0, Nat.zero_le _, rfl, HG.out, Turn.refl _ _⟩
  case round =>
    obtain ⟨j, hj, rfl, hg, tu⟩ := hrel
    by_cases hlt : j < C.length
    · obtain ⟨g, o, c1, -, e1, hcell⟩ := SeesI.cell (Sees.keep HC.out tu.1 HD.out) (by omega)
      obtain ⟨rfl, rfl⟩ : ca = some ⟨g, o, none⟩ ∧ cc = c1 := by simpa using e1
      have hx := hcell j hlt
      have z1 := tu.1.cell x1 hPO.out
      have hst : Hid (clearTo cs L C (j + 1) = clr1 cs (clearTo cs L C j) (C.getD j 0)) := Lib.hid rfl
      have i1 : (0 : Int) ≤ j := by omega
      have i2 : (j : Int) < C.length := by omega
      have ha := raim_any hg hr (C.getD j 0)
      clear hcell e1
      generalize clearTo cs L C j = L1 at *
      generalize hX : C.getD j 0 = X at *
      have hk1 : Hid ((gaim cs L1 X).2 ≠ 0 → clr1 cs L1 X = setRefL L1 X 0 0) := Lib.hid (fun q => by unfold clr1; rw [if_pos q])
      have hk2 : Hid ((gaim cs L1 X).2 = 0 → clr1 cs L1 X = L1) := Lib.hid (fun q => by unfold clr1; rw [if_neg (fun e => e q)])
      have hkn : Hid ((gaim cs L1 X).2 ≠ 0 → ∃ (i : Nat) (hi : i < L1.length), gpos L1 X = i ∧ L1[i].id = X ∧ 0 < L1[i].refs.length) := Lib.hid (fun q => by
        by_cases hin : X ∈ ids L1
        · obtain ⟨i, hi, hp, hid, hat⟩ := gpos_some hin
          refine ⟨i, hi, hp, hid, ?_⟩
          have hw := hg.wf _ (List.getElem_mem hi)
          by_cases hh : holdsC cs L1[i].cls 0 = true
          · exfalso
            apply q
            unfold gaim
            rw [hat]
            simp [hh]
          · exact hw.aim (by simpa using hh)
        · exfalso
          apply q
          unfold gaim
          have : gat L1 X = none := by
            cases hat : gat L1 X with
            | none => rfl
            | some nd => obtain ⟨q1, q2⟩ := gat_mem hat; exact absurd (mem_ids.2 ⟨nd, q1, q2⟩) hin
          rw [this])
      generalize (gaim cs L1 X).1 = to at *
      generalize (gaim cs L1 X).2 = kd at *
      replace hX := Lib.hid hX
      replace hg := Lib.hid hg
      replace tu := Lib.hid tu
      go_wp2_with fail
      refine ha.mono ?_
      rintro e w1 ⟨rfl, n1, hw1⟩
      have c1' : Ch0 wr w1 := hw1 ▸ ch_drewN' wr n1
      have hg1 := Lib.hid (hg.out.new c1')
      have tu1 := Lib.hid (tu.out.trans (Turn.of0 O c1'))
      have z1' := c1'.cell z1 (fun e => e)
      have hx' := c1'.cell hx (fun e => e)
      clear ha hw1 c1' z1 hx
      by_cases hk : kd = 0
      · have t0 : (kd != 0) = false := by simp [hk]
        have hst2 : Hid (clearTo cs L C (j + 1) = L1) := Lib.hid (by rw [hst.out, hk2.out hk])
        clear hk
        go_wp2_with fail
        go_roundw
        case rel => exact ⟨j + 1, by omega, by go_num, by rw [hst2.out]; exact hg1.out, tu1.out⟩
        case measure => simp [intOf]; omega
      · have t0 : (kd != 0) = true := by simpa using hk
        have hst2 : Hid (clearTo cs L C (j + 1) = setRefL L1 X 0 0) := Lib.hid (by rw [hst.out, hk1.out hk])
        obtain ⟨i, hi, hp, hid, hn0⟩ := hkn.out hk
        obtain ⟨gn, on, cn, g2, o2, c2, y1, y2, ⟨u, y3⟩, y4, hS, tS⟩ := ref0_set (hg1.out.new (Ch.refl _ w1).drew) hi hn0
        have hat := rat_any (hg1.out.new (Ch.refl _ w1).drew) X
        rw [hp] at hat
        rw [hid] at hS
        have j1 : (0 : Int) ≤ i := by omega
        have j2 : (i : Int) < L1.length := by omega
        have j3 : (0 : Int) < L1[i].refs.length := by omega
        have j4 : 0 < L1[i].refs.length := hn0
        have HE := Lib.hid (And.intro hS (tu1.out.trans ((Turn.of0 O (Ch.refl _ w1).drew).trans tS)))
        clear hk hp hid hS tS hn0
        generalize L1[i].refs.length = nr at *
        go_wp2_with fail
        have HH : Hid (w1.drew.cell? ⟨b, 1, none⟩ = some (.slice (some ⟨gn, on, none⟩) L1.length cn) ∧ w1.drew.cell? ⟨gn, on + i * 5 + 2, none⟩ = some (.slice (some ⟨g2, o2, none⟩) nr c2) ∧ w1.drew.cell? ⟨P, 1, none⟩ = some (.slice (some ⟨g, o, none⟩) C.length cc) ∧ w1.drew.cell? ⟨g, o + j, none⟩ = some (.int .i64 X) ∧ w1.drew.cell? ⟨g2, o2, none⟩ = some u) := Lib.hid ⟨y1, y2, z1', hx', y3⟩
        obtain ⟨y1', y2', z1'', hx'', y3'⟩ := HH.out
        go_region_law
          ((go_simp; go_at_call 47; refine hat.mono ?_; rintro e wx ⟨rfl, hs⟩; obtain rfl : w1.drew = wx := hs))
        all_goals
          clear y1 y2 y3 y4 y1' y2' z1'' hx'' y3' z1' hx' hat HH
          go_wp2_with fail
          go_roundw
          case rel => exact ⟨j + 1, by omega, by go_num, by rw [hst2.out]; exact HE.out.1, HE.out.2⟩
          case measure => simp [intOf]; omega
    · obtain rfl : j = C.length := by omega
      have y2 := tu.1.cell x2 hPO.out
      have hg0 := Lib.hid hg
      replace tu := Lib.hid tu
      clear hg
      go_wp2_with fail
      obtain ⟨LC, hLC⟩ : ∃ LC, LC = clearTo cs L C C.length := ⟨_, rfl⟩
      rw [← hLC] at hg0
      replace hLC := Lib.hid hLC
      go_loopw [47] (fun i wr => ∃ j : Nat, j ≤ F.length ∧ i = .int .i64 j ∧ Rt wr b O D cs cv (doneTo LC F j) ∧ Turn W0 wr O O) (fun i _ => F.length - (intOf i).toNat)
      case atStart => exact ⟨0, Nat.zero_le _, rfl, hg0.out, tu.out⟩
      case round =>
        clear hg0 tu y2
        obtain ⟨j, hj, rfl, hg, tu⟩ := hrel
        by_cases hlt : j < F.length
        · obtain ⟨g, o, c1, -, e1, hcell⟩ := SeesI.cell (Sees.keep HF.out tu.1 HD.out) (by omega)
          obtain ⟨rfl, rfl⟩ : fa = some ⟨g, o, none⟩ ∧ fc = c1 := by simpa using e1
          have hx := hcell j hlt
          have z2 := tu.1.cell x2 hPO.out
          have hst : Hid (doneTo LC F (j + 1) = doneL (doneTo LC F j) (F.getD j 0)) := Lib.hid rfl
          have i1 : (0 : Int) ≤ j := by omega
          have i2 : (j : Int) < F.length := by omega
          have hat := rat_any hg (F.getD j 0)
          clear hcell e1
          generalize doneTo LC F j = L1 at *
          generalize F.getD j 0 = X at *
          by_cases hin : X ∈ ids L1
          · obtain ⟨i, hi, hp, hid, -⟩ := gpos_some hin
            rw [hp] at hat
            have t0 : decide (0 ≤ (i : Int)) = true := decide_eq_true (by omega)
            have j1 : (0 : Int) ≤ i := by omega
            have j2 : (i : Int) < L1.length := by omega
            obtain ⟨nv, vr, vd, ow, gx⟩ := hg.g
            obtain ⟨gb, ob, c', rfl, -, hcell⟩ := gx.node (by omega)
            obtain ⟨t1, t2, t3⟩ := gx.fin hi
            obtain ⟨-, -, -, -, n4⟩ := hcell i hi
            have zk := gx.cells.2
            rw [hid] at t1
            have HE := Lib.hid (And.intro (hg.turn ⟨_, _, _, _, t1⟩ t2 (doneL_wf hg.wf X)) (tu.trans t2))
            clear t1 t2 hcell gx hin hp hid hg tu
            go_wp2_with fail
            refine hat.mono ?_
            rintro e wx ⟨rfl, hs⟩
            obtain rfl : wr = wx := hs
            clear hat
            go_wp2_with fail
            go_roundw
            case rel => exact ⟨j + 1, by omega, by go_num, by rw [hst.out]; exact HE.out.1, HE.out.2⟩
            case measure => simp [intOf]; omega
          · rw [gpos_none hin] at hat
            have hsame : doneL L1 X = L1 := upd_out hin
            have HE := Lib.hid (And.intro hg tu)
            clear hg tu hin
            go_wp2_with fail
            refine hat.mono ?_
            rintro e wx ⟨rfl, hs⟩
            obtain rfl : wr = wx := hs
            clear hat
            go_wp2_with fail
            go_roundw
            case rel => exact ⟨j + 1, by omega, by go_num, by rw [hst.out, hsame]; exact HE.out.1, HE.out.2⟩
            case measure => simp [intOf]; omega
        · obtain rfl : j = F.length := by omega
          have y0 := tu.1.cell x0 hPO.out
          have hlen : (doneTo LC F F.length).length = L.length := by rw [doneTo_len, hLC.out, clearTo_len]
          have hk := rkeep_of hg (by omega) Dq (.slice la t.length lc) t (Sees.keep HT.out tu.1 HD.out) HD.out
          rw [hlen] at hk
          have happ : Hid (applyL cs L C F t = keepL (doneTo LC F F.length) t) := Lib.hid (by unfold applyL; rw [hLC.out])
          rw [← happ.out] at hk
          replace tu := Lib.hid tu
          clear hg hlen happ
          go_wp2_with fail
          refine hk.mono ?_
          rintro e w2 ⟨rfl, O', hg2, t2⟩
          have HE := Lib.hid (show ∃ O', Rt w2 b O' D cs cv (applyL cs L C F t) ∧ Turn w w2 O O' from ⟨O', hg2, hT0.out _ _ (tu.out.trans t2)⟩)
          clear hk hg2 t2
          go_wp2_with fail
          go_ret
          exact ⟨rfl, HE.out⟩

end

end Go.Proofs.Ytlmeponoadhheaa
