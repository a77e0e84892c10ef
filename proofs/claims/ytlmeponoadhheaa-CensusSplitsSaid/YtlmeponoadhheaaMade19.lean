/-
  gleaninglaw19.made: the two graphs of some classes and nodes.
-/
import Derived.Test.YtlmeponoadhheaaMadeW
import Derived.Test.YtlmeponoadhheaaCenM
import Derived.Test.YtlmeponoadhheaaQuietTail
namespace Go.Proofs.Ytlmeponoadhheaa
set_option linter.unusedVariables false
open Go.RowKit Go.Sort

def madB (cs : List Cls) (ns : List Int) : Bool := decide (ns.length ≤ 60) && (decide (1 ≤ cs.length) && (decide (cs.length ≤ 63) && decide (newC cs = 0)))

/-- classes and nodes, somewhere -/
structure SeesN (D : Nat → Prop) (w : World) (cv nv : Value) (cs : List Cls) (ns : List Int) : Prop where
  c : SeesC D w cv cs
  n : Sees D w nv 1 ns.length (ns.map (Value.int .u8))
  nf : ∀ x ∈ ns, isU8 x

theorem SeesN.keep {D S : Nat → Prop} {w w' : World} {cv nv : Value} {cs : List Cls} {ns : List Int} (h : SeesN D w cv nv cs ns) (c : Ch S w w') (hd : ∀ k, D k → ¬ S k) : SeesN D w' cv nv cs ns :=
  ⟨h.c.keep c hd, h.n.keep c hd, h.nf⟩

set_option maxRecDepth 100000 in
set_option maxHeartbeats 4000000 in
theorem mad_of (cs : List Cls) (ns : List Int) (cv nv : Value) (w : World) (hs : SeesN (fun k => k < w.heap.size) w cv nv cs ns) (hf : Fit cs) :
    Calls Try.prog 79 #[cv, nv] w fun e w' => (madB cs ns = false ∧ e = .returned (.tuple #[.pointer none, .pointer none, .bool false]) ∧ Ch0 w w') ∨
      (madB cs ns = true ∧ ∃ b1 b2 p lo hi O1 O2, e = .returned (.tuple #[.pointer (some ⟨b1, 0, none⟩), .pointer (some ⟨b2, 0, none⟩), .bool true]) ∧ Duo w w' cs p lo hi b1 O1 (graphC cs ns) b2 O2 (fun k => k < w.heap.size) cv (graphC cs ns)) := by
  obtain ⟨ca, cc, rfl, hcl⟩ := hs.c.len
  obtain ⟨na, nc, rfl, hnl⟩ := hs.n.len
  have HS := Lib.hid hs
  have HF := Lib.hid hf
  clear hs hf
  go_enter Try.func79, Try.ntmps79
  by_cases b1 : ns.length ≤ 60
  case neg =>
    have g1 : decide ((60 : Int) < ns.length) = true := decide_eq_true (by omega)
    have HE : Hid (madB cs ns = false) := Lib.hid (by unfold madB; rw [decide_eq_false b1]; rfl)
    clear b1
    go_wp2_with fail
    go_ret3
    exact .inl ⟨HE.out, rfl, Ch.refl _ _⟩
  have g1 : decide ((60 : Int) < ns.length) = false := decide_eq_false (by omega)
  by_cases b3 : 1 ≤ cs.length
  case neg =>
    have g3 : ((cs.length : Int) == 0) = true := by rw [show cs.length = 0 by omega]; rfl
    have HE : Hid (madB cs ns = false) := Lib.hid (by unfold madB; rw [decide_eq_false b3]; simp)
    clear b3
    go_wp2_with fail
    go_ret3
    exact .inl ⟨HE.out, rfl, Ch.refl _ _⟩
  have g3 : ((cs.length : Int) == 0) = false := beq_eq_false_iff_ne.2 (by omega)
  by_cases b4 : cs.length ≤ 63
  case neg =>
    have g4 : decide ((63 : Int) < cs.length) = true := decide_eq_true (by omega)
    have HE : Hid (madB cs ns = false) := Lib.hid (by unfold madB; rw [decide_eq_false b4]; simp)
    clear b4
    go_wp2_with fail
    go_ret3
    exact .inl ⟨HE.out, rfl, Ch.refl _ _⟩
  have g4 : decide ((63 : Int) < cs.length) = false := decide_eq_false (by omega)
  have HR : Hid (∀ w', Ch0 w w' → _) := Lib.hid (fun w' (c : Ch0 w w') => rnew_cls _ _ cs w' (HS.out.c.keep c (fun _ _ e => e)))
  have HN : Hid (∀ w', Ch0 w w' → _) := Lib.hid (fun w' (c : Ch0 w w') => newcls_any _ _ cs w' (HS.out.c.keep c (fun _ _ e => e)) HF.out)
  by_cases b5 : newC cs = 0
  case neg =>
    have g5 : (newC cs != 0) = true := by simpa using b5
    have HE : Hid (madB cs ns = false) := Lib.hid (by unfold madB; rw [decide_eq_false b5]; simp)
    clear b5 HN
    generalize newC cs = ec at *
    go_wp2_with fail
    refine (HR.out _ (Ch.refl _ _)).mono ?_
    rintro e w3 ⟨rfl, d3⟩
    have HD := Lib.hid d3
    clear d3
    go_wp2_with fail
    go_ret3
    exact .inl ⟨HE.out, rfl, HD.out⟩
  have HB : Hid (madB cs ns = true) := Lib.hid (by unfold madB; rw [decide_eq_true b1, decide_eq_true b3, decide_eq_true b4, decide_eq_true b5]; rfl)
  rw [b5] at HR HN
  have g5 : ((0 : Int) != 0) = false := rfl
  have hcz := Lib.hid (newC_zero b5)
  replace b5 := Lib.hid b5
  go_wp2_with fail
  generalize hPe : w.heap.size = P at *
  replace hPe := Lib.hid hPe
  refine (HR.out _ (Ch.refl _ _)).mono ?_
  rintro e w3 ⟨rfl, d3⟩
  replace d3 := Lib.hid d3
  clear HR
  go_wp2_with fail
  refine (HN.out _ d3.out).mono ?_
  rintro e w5 ⟨t, rfl, hT, d5⟩
  obtain ⟨p, rfl, hTab⟩ := newT_zero hT b5.out
  have d6 := Lib.hid (d3.out.trans d5)
  have hn := Lib.hid (fun w' (c : Ch0 w5 w') => gnew_of (hTab.keep c (fun _ _ _ e => e)) c.size)
  have hhi := Lib.hid (Nat.le_refl w5.heap.size)
  clear hT d5 d3 HN hTab
  generalize w3.heap.size = lo at *
  generalize hiD : w5.heap.size = hi at *
  replace hiD := Lib.hid hiD
  go_wp2_with fail
  refine (hn.out _ (Ch.refl _ _)).mono ?_
  rintro e wx ⟨b1, rfl, O1, hG, hO1, cx⟩
  have cX : Ch0 wx (wx.alloc (.cells #[.slice ca cs.length cc, .slice none 0 0] 59)) := (Ch.refl _ _).alloc _
  have hD0 : Duo w (wx.alloc (.cells #[.slice ca cs.length cc, .slice none 0 0] 59)) cs p lo hi b1 O1 [] wx.heap.size (fun k => k = wx.heap.size) (fun k => k < P) (.slice ca cs.length cc) [] :=
    duo_start (hG.new cX) (heap_alloc_new wx _) (HS.out.c.keep ((d6.out.trans cx).trans cX) (fun _ _ e => e)) (fun k hk => by have := hPe.out; omega) (fun k hk => by have := hO1 k hk; have := d6.out.size; omega) (fun e => by have := hG.small _ e; omega) (by have := d6.out.size; have := cx.size; omega) (by have := cx.size; have := hiD.out; omega) ((d6.out.trans cx).trans cX)
  generalize hb2 : wx.heap.size = b2 at *
  replace hD0 := Lib.hid hD0
  clear cX hn hG hO1 cx hhi d6
  go_wp2_with fail
  generalize wx.alloc (.cells #[.slice ca cs.length cc, .slice none 0 0] 59) = W1 at *
  generalize (fun k => k = b2) = O2 at *
  clear hb2
  go_loopw [44] (fun i wr => ∃ j : Nat, j ≤ ns.length ∧ i = .int .i64 j ∧ ∃ O1 O2, Duo w wr cs p lo hi b1 O1 (madC cs ns j) b2 O2 (fun k => k < P) (.slice ca cs.length cc) (madC cs ns j)) (fun i _ => ns.length - (intOf i).toNat)
  case atStart => exact ⟨0, Nat.zero_le _, rfl, _, _, hD0.out⟩
  case round =>
    obtain ⟨j, hj, rfl, O1, O2, hD⟩ := hrel
    clear hD0
    by_cases hlt : j < ns.length
    · have hSW := HS.out.keep hD.ch (fun _ _ e => e)
      obtain ⟨g, o, c1, -, e1, hcell⟩ := sees_u8 HS.out.n (by omega)
      obtain ⟨rfl, rfl⟩ : na = some ⟨g, o, none⟩ ∧ nc = c1 := by simpa using e1
      have hx0 := hcell j hlt
      have hx := hD.ch.cell hx0 (fun e => e)
      have hxr : isU8 (ns.getD j 0) := HS.out.nf _ (by rw [List.getD_eq_getElem?_getD, List.getElem?_eq_getElem hlt]; exact List.getElem_mem _)
      obtain ⟨g2, o2, c2, -, e2, hcc⟩ := SeesC.cells hSW.c (by omega)
      obtain ⟨rfl, rfl⟩ : ca = some ⟨g2, o2, none⟩ ∧ cc = c2 := by simpa using e2
      have hk := kM_in (cs := cs) (by omega) (ns.getD j 0)
      have hst : Hid (madC cs ns (j + 1) = stepC cs (madC cs ns j) j (ns.getD j 0)) := Lib.hid rfl
      have hkM : kM cs (ns.getD j 0) = 1 + (ns.getD j 0) % (cs.length : Int) := rfl
      obtain ⟨m, hm, hkm, hkd⟩ := kM_get hk.1 hk.2
      obtain ⟨c0, -, -, -⟩ := hcc m hm
      rw [← hkd] at c0
      have i1 : (0 : Int) ≤ j := by omega
      have i2 : (j : Int) < ns.length := by omega
      have i3 : (0 : Int) ≤ m := by omega
      have i4 : (m : Int) < cs.length := by omega
      have hLen : (madC cs ns j).length = j := by
        have := congrArg List.length (madC_ids (cs := cs) (by omega) (fun x hx => by have := HS.out.nf x hx; exact ⟨this.1, by have := this.2; omega⟩) (ns := ns) j).1
        simpa [ids, idsTo] using this
      have hidn := Lib.hid (madC_ids (cs := cs) (by omega) (fun x hx => by have := HS.out.nf x hx; exact ⟨this.1, by have := this.2; omega⟩) (ns := ns) (j + 1)).1
      clear hcell e1 e2 hcc hSW
      obtain ⟨x1', x2'⟩ := hxr
      generalize ns.getD j 0 = X at *
      have t1 : IntKind.i64.wrap X = X := IntWalk.i64_in _ (by omega)
      have t2 : X.tmod (cs.length : Int) = X % (cs.length : Int) := Int.tmod_eq_emod_of_nonneg x1'
      have t3 : IntKind.i64.wrap (1 + X % (cs.length : Int)) = kM cs X := by rw [← hkM]; exact IntWalk.i64_in _ (by omega)
      have t4 : IntKind.i64.wrap (X % (cs.length : Int)) = X % (cs.length : Int) := IntWalk.i64_in _ (by omega)
      have t5 : IntKind.i64.wrap (kM cs X - 1) = m := by rw [hkm]; exact (congrArg _ (by omega)).trans (IntWalk.i64_in _ (by omega))
      have t6 : IntKind.i64.wrap ((j : Int) + 1) = (j : Int) + 1 := IntWalk.i64_in _ (by omega)
      have HA := Lib.hid (fun LEN => add_of hD.g ((j : Int) + 1) (kM cs X) LEN (by omega))
      replace hD := Lib.hid hD
      replace hkM := Lib.hid hkM
      have hst' : Hid (∀ LEN, LEN = lenC cs (kM cs X) X → madC cs ns (j + 1) = if X % 5 = 0 then doneL (setRefL (addL cs (madC cs ns j) ((j : Int) + 1) (kM cs X) LEN) ((j : Int) + 1) 0 j) ((j : Int) + 1) else setRefL (addL cs (madC cs ns j) ((j : Int) + 1) (kM cs X) LEN) ((j : Int) + 1) 0 j) := Lib.hid (fun LEN e => by rw [hst.out, e]; rfl)
      have hLN : Hid (lenC cs (kM cs X) X = if kindOf cs (kM cs X) = 2 then X / 64 else 0) := Lib.hid rfl
      clear hk hkm hkd hst
      generalize hLC : lenC cs (kM cs X) X = LC at *
      generalize kindOf cs (kM cs X) = KD at *
      generalize kM cs X = K at *
      clear hLC
      generalize madC cs ns j = L0 at *
      have u1 : X.tdiv 64 = X / 64 := Int.tdiv_eq_ediv_of_nonneg x1'
      have u2 : IntKind.u8.wrap (X / 64) = X / 64 := by simp [IntKind.wrap, IntKind.bits, IntKind.signed]; omega
      have u3 : IntKind.i64.wrap (X / 64) = X / 64 := IntWalk.i64_in _ (by omega)
      have v1 : X.tmod 5 = X % 5 := Int.tmod_eq_emod_of_nonneg x1'
      have v2 : IntKind.u8.wrap (X % 5) = X % 5 := by simp [IntKind.wrap, IntKind.bits, IntKind.signed]; omega
      have hgk : (LC = X / 64 ∧ (KD == 2) = true) ∨ (LC = 0 ∧ (KD == 2) = false) := by
        rw [hLN.out]
        by_cases q : KD = 2
        · left; rw [if_pos q]; exact ⟨rfl, by simpa using q⟩
        · right; rw [if_neg q]; exact ⟨rfl, by simpa using q⟩
      have hst2 := Lib.hid (hst'.out LC rfl)
      have HA2 := Lib.hid (HA.out LC)
      clear hst' HA hLN
      rcases hgk with ⟨hLX, g6⟩ | ⟨rfl, g6⟩
      · rw [← hLX] at u1 u2 u3
        clear hLX
        go_wp2_with fail
        refine HA2.out.mono ?_
        rintro e wa ⟨rfl, Oa, hGa, ta⟩
        have hDa := hD.out.first hGa ta
        have hR := fun len => radd_of hDa.r hcz.out.1 hcz.out.2 (by omega) ((j : Int) + 1) K len (by omega)
        have hLr : (addL cs L0 ((j : Int) + 1) K LC).length ≤ 1000000 := by
          have : ∀ id cls len, (addL cs L0 id cls len).length ≤ L0.length + 1 := fun id cls len => by
            unfold addL
            split
            · rw [ins_len]; omega
            · omega
          have := this ((j : Int) + 1) K LC
          omega
        replace hDa := Lib.hid hDa
        clear HA2 hGa ta c0 hD hx
        go_wp2_with fail
        refine (hR _).mono ?_
        rintro e wb ⟨rfl, Ob, hRb, tb⟩
        have hDb := hDa.out.second hRb tb
        clear hR hRb tb hDa
        generalize addL cs L0 ((j : Int) + 1) K LC = L1 at *
        have hS := setref_of hDb.g ((j : Int) + 1) 0 j
        replace hDb := Lib.hid hDb
        go_wp2_with fail
        refine hS.mono ?_
        rintro e wc ⟨rfl, hGc, tc⟩
        have hDc := hDb.out.first hGc tc
        have hRS := rsetref_any hDc.r ((j : Int) + 1) 0 j
        replace hDc := Lib.hid hDc
        clear hS hGc tc hDb
        go_wp2_with fail
        refine hRS.mono ?_
        rintro e wd ⟨rfl, hRd, td⟩
        have hDd := hDc.out.second hRd td
        have hxd := hDd.ch.cell hx0 (fun e => e)
        clear hRS hRd td hDc
        generalize setRefL L1 ((j : Int) + 1) 0 j = L2 at *
        by_cases hm5 : X % 5 = 0
        · have g7 : (X % 5 == 0) = true := by simpa using hm5
          rw [if_pos hm5] at hst2
          have hdn := done_of hDd.g ((j : Int) + 1)
          have hin2 : ((j : Int) + 1) ∈ ids L2 := by
            rw [← doneL_ids L2 ((j : Int) + 1), ← hst2.out, hidn.out, mem_idsTo]; omega
          replace hDd := Lib.hid hDd
          clear hm5
          go_wp2_with fail
          refine hdn.mono ?_
          rintro e we ⟨rfl, hGe, te⟩
          have hDe := hDd.out.first hGe te
          obtain ⟨i, hi, hp, hid, -⟩ := gpos_some hin2
          have HAT : Hid (∀ w', Ch0 we w' → Calls Try.prog 47 #[.pointer (some ⟨b2, 0, none⟩), .int .i64 ((j : Int) + 1)] w' fun e w'' => e = .returned (.int .i64 (i : Int)) ∧ Ch0 w' w'') := Lib.hid (fun w' c => (rat_any (hDe.r.new c) ((j : Int) + 1)).mono (fun e w'' ⟨h1, h2⟩ => ⟨by rw [h1, hp], by rw [show w' = w'' from h2]; exact Ch.refl _ _⟩))
          obtain ⟨nv, vr, vd, ow, gx⟩ := hDe.r.g
          obtain ⟨gb, ob, c', rfl, -, hcell⟩ := gx.node (by omega)
          have zk := cellB gx.cells.2
          have HG := Lib.hid gx
          have HDe := Lib.hid hDe
          have k1 : (0 : Int) ≤ i := by omega
          have k2 : (i : Int) < L2.length := by omega
          clear hdn hDd hGe te hcell gx hDe hp hxd hin2
          go_wp2_with fail
          refine wp_region_tailB 10 (by kernel_rfl) (by kernel_rfl) ?_
          simp only [List.take_succ_cons, List.take_zero, List.drop_succ_cons, List.drop_zero]
          repeat (go_big_quiet_step ((go_at_call 47; exact quietB (HAT.out _ (chB _ _ _)))))
          refine wpQuiet_nil ?_
          intro _ hw1
          obtain ⟨⟨dq, osq⟩, hw2⟩ := hw1
          subst hw2
          have cB := chB we dq osq
          generalize grow (redrawn we dq) osq = w6 at *
          have hDf := HDe.out.new cB
          have gy := HG.out.keep cB (fun _ _ e => e)
          obtain ⟨t1, t2, t3⟩ := gy.fin hi
          obtain ⟨g', o', c'', e3, -, hcell⟩ := gy.node (by omega)
          obtain ⟨⟨rfl, rfl⟩, rfl⟩ : (gb = g' ∧ ob = o') ∧ c' = c'' := by simpa using e3
          obtain ⟨-, -, -, -, n4⟩ := hcell i hi
          rw [hid] at t1
          have hDy := hDf.second (hDf.r.turn ⟨_, _, _, _, t1⟩ t2 (doneL_wf hDf.r.wf ((j : Int) + 1))) t2
          rw [← hst2.out] at hDy
          replace hDy := Lib.hid hDy
          clear cB gy t1 t2 e3 hcell hDf zk HAT HG HDe hid
          go_wp2_with fail
          go_roundw
          case rel => exact ⟨j + 1, by omega, by go_num, _, _, hDy.out⟩
          case measure => simp [intOf]; omega
        · have g7 : (X % 5 == 0) = false := by simpa using hm5
          rw [if_neg hm5] at hst2
          rw [← hst2.out] at hDd
          replace hDd := Lib.hid hDd
          clear hm5
          go_wp2_with fail
          go_roundw
          case rel => exact ⟨j + 1, by omega, by go_num, _, _, hDd.out⟩
          case measure => simp [intOf]; omega
      · go_wp2_with fail
        refine HA2.out.mono ?_
        rintro e wa ⟨rfl, Oa, hGa, ta⟩
        have hDa := hD.out.first hGa ta
        have hR := fun len => radd_of hDa.r hcz.out.1 hcz.out.2 (by omega) ((j : Int) + 1) K len (by omega)
        have hLr : (addL cs L0 ((j : Int) + 1) K 0).length ≤ 1000000 := by
          have : ∀ id cls len, (addL cs L0 id cls len).length ≤ L0.length + 1 := fun id cls len => by
            unfold addL
            split
            · rw [ins_len]; omega
            · omega
          have := this ((j : Int) + 1) K 0
          omega
        replace hDa := Lib.hid hDa
        clear HA2 hGa ta c0 hD hx
        go_wp2_with fail
        refine (hR _).mono ?_
        rintro e wb ⟨rfl, Ob, hRb, tb⟩
        have hDb := hDa.out.second hRb tb
        clear hR hRb tb hDa
        generalize addL cs L0 ((j : Int) + 1) K 0 = L1 at *
        have hS := setref_of hDb.g ((j : Int) + 1) 0 j
        replace hDb := Lib.hid hDb
        go_wp2_with fail
        refine hS.mono ?_
        rintro e wc ⟨rfl, hGc, tc⟩
        have hDc := hDb.out.first hGc tc
        have hRS := rsetref_any hDc.r ((j : Int) + 1) 0 j
        replace hDc := Lib.hid hDc
        clear hS hGc tc hDb
        go_wp2_with fail
        refine hRS.mono ?_
        rintro e wd ⟨rfl, hRd, td⟩
        have hDd := hDc.out.second hRd td
        have hxd := hDd.ch.cell hx0 (fun e => e)
        clear hRS hRd td hDc
        generalize setRefL L1 ((j : Int) + 1) 0 j = L2 at *
        by_cases hm5 : X % 5 = 0
        · have g7 : (X % 5 == 0) = true := by simpa using hm5
          rw [if_pos hm5] at hst2
          have hdn := done_of hDd.g ((j : Int) + 1)
          have hin2 : ((j : Int) + 1) ∈ ids L2 := by
            rw [← doneL_ids L2 ((j : Int) + 1), ← hst2.out, hidn.out, mem_idsTo]; omega
          replace hDd := Lib.hid hDd
          clear hm5
          go_wp2_with fail
          refine hdn.mono ?_
          rintro e we ⟨rfl, hGe, te⟩
          have hDe := hDd.out.first hGe te
          obtain ⟨i, hi, hp, hid, -⟩ := gpos_some hin2
          have HAT : Hid (∀ w', Ch0 we w' → Calls Try.prog 47 #[.pointer (some ⟨b2, 0, none⟩), .int .i64 ((j : Int) + 1)] w' fun e w'' => e = .returned (.int .i64 (i : Int)) ∧ Ch0 w' w'') := Lib.hid (fun w' c => (rat_any (hDe.r.new c) ((j : Int) + 1)).mono (fun e w'' ⟨h1, h2⟩ => ⟨by rw [h1, hp], by rw [show w' = w'' from h2]; exact Ch.refl _ _⟩))
          obtain ⟨nv, vr, vd, ow, gx⟩ := hDe.r.g
          obtain ⟨gb, ob, c', rfl, -, hcell⟩ := gx.node (by omega)
          have zk := cellB gx.cells.2
          have HG := Lib.hid gx
          have HDe := Lib.hid hDe
          have k1 : (0 : Int) ≤ i := by omega
          have k2 : (i : Int) < L2.length := by omega
          clear hdn hDd hGe te hcell gx hDe hp hxd hin2
          go_wp2_with fail
          refine wp_region_tailB 10 (by kernel_rfl) (by kernel_rfl) ?_
          simp only [List.take_succ_cons, List.take_zero, List.drop_succ_cons, List.drop_zero]
          repeat (go_big_quiet_step ((go_at_call 47; exact quietB (HAT.out _ (chB _ _ _)))))
          refine wpQuiet_nil ?_
          intro _ hw1
          obtain ⟨⟨dq, osq⟩, hw2⟩ := hw1
          subst hw2
          have cB := chB we dq osq
          generalize grow (redrawn we dq) osq = w6 at *
          have hDf := HDe.out.new cB
          have gy := HG.out.keep cB (fun _ _ e => e)
          obtain ⟨t1, t2, t3⟩ := gy.fin hi
          obtain ⟨g', o', c'', e3, -, hcell⟩ := gy.node (by omega)
          obtain ⟨⟨rfl, rfl⟩, rfl⟩ : (gb = g' ∧ ob = o') ∧ c' = c'' := by simpa using e3
          obtain ⟨-, -, -, -, n4⟩ := hcell i hi
          rw [hid] at t1
          have hDy := hDf.second (hDf.r.turn ⟨_, _, _, _, t1⟩ t2 (doneL_wf hDf.r.wf ((j : Int) + 1))) t2
          rw [← hst2.out] at hDy
          replace hDy := Lib.hid hDy
          clear cB gy t1 t2 e3 hcell hDf zk HAT HG HDe hid
          go_wp2_with fail
          go_roundw
          case rel => exact ⟨j + 1, by omega, by go_num, _, _, hDy.out⟩
          case measure => simp [intOf]; omega
        · have g7 : (X % 5 == 0) = false := by simpa using hm5
          rw [if_neg hm5] at hst2
          rw [← hst2.out] at hDd
          replace hDd := Lib.hid hDd
          clear hm5
          go_wp2_with fail
          go_roundw
          case rel => exact ⟨j + 1, by omega, by go_num, _, _, hDd.out⟩
          case measure => simp [intOf]; omega
    · obtain rfl : j = ns.length := by omega
      have HE : Hid (Duo w wr cs p lo hi b1 O1 (graphC cs ns) b2 O2 (fun k => k < P) (.slice ca cs.length cc) (graphC cs ns)) := Lib.hid hD
      clear hD
      go_wp2_with fail
      go_ret3
      obtain rfl := hPe.out
      exact .inr ⟨HB.out, _, _, _, _, _, _, _, rfl, HE.out⟩

end Go.Proofs.Ytlmeponoadhheaa
