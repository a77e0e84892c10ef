/-
  gleaninglaw09.GraphPlays answers true: the walk.
-/
import Derived.Test.YtlmeponoadhheaaDuo
import Derived.Test.YtlmeponoadhheaaRg
namespace Go.Proofs.Ytlmeponoadhheaa
set_option linter.unusedVariables false
open Go.RowKit

def stepP (cs : List Cls) (L : List GN) (o : OpG) : List GN := if o.kind = 5 then keepL L o.ls else stepL cs L o

def playP (cs : List Cls) (l : List OpG) : List GN := l.foldl (stepP cs) []

theorem playP_snoc (cs : List Cls) (l : List OpG) (o : OpG) : playP cs (l ++ [o]) = stepP cs (playP cs l) o := by simp [playP]

theorem playP_len (cs : List Cls) (l : List OpG) : (playP cs l).length ≤ l.length := by
  unfold playP
  suffices h : ∀ (l : List OpG) (L : List GN), (l.foldl (stepP cs) L).length ≤ L.length + l.length by simpa using h l []
  intro l
  induction l with
  | nil => intro L; simp
  | cons o l ih =>
    intro L
    have h1 := ih (stepP cs L o)
    have h2 : (stepP cs L o).length ≤ L.length + 1 := by
      unfold stepP
      split
      · have := keepL_len L o.ls; omega
      · exact stepL_len cs L o
    rw [List.foldl_cons, List.length_cons]
    omega

set_option maxRecDepth 100000 in
set_option maxHeartbeats 8000000 in
theorem plays_walk (cs : List Cls) (l : List OpG) (v u : Value) (w : World) (hv : SeesC (fun k => k < w.heap.size) w v cs) (hfit : Fit cs) (hu : SeesG (fun k => k < w.heap.size) w u l) (hof : ∀ o ∈ l, o.Fits) :
    Calls Try.prog 6 #[v, u] w fun e w' => e = .returned (.bool true) ∧ Ch0 w w' := by
  have HA := Lib.hid awake9
  have hlen := hv.len
  obtain ⟨a, c, rfl, hlen⟩ := hlen
  obtain ⟨ua, uc, rfl, hul⟩ := hu.row.len
  have HV := Lib.hid hv
  have HU := Lib.hid hu
  have HF := Lib.hid hfit
  have HO := Lib.hid hof
  clear hv hu hfit hof
  have HW : Hid (∀ w', Ch0 w w' → _) := Lib.hid (fun w' (c : Ch0 w w') => few_any _ _ l w' (HU.out.keep c (fun _ _ e => e)))
  obtain ⟨fw, hfw⟩ : ∃ y, y = fewB l := ⟨_, rfl⟩
  rw [← hfw] at HW
  have hl100 : Hid (fw = true → l.length ≤ 100) := Lib.hid (fun h => few_len (by rw [← hfw]; exact h))
  clear hfw
  go_enter Try.func6, Try.ntmps6
  go_wp2_with fail
  refine (HA.out _).mono ?_
  rintro e w1 ⟨rfl, d1⟩
  replace d1 := Lib.hid d1
  go_wp2_with fail
  refine (HW.out _ d1.out).mono ?_
  rintro e w2 ⟨rfl, hs⟩
  obtain rfl := hs
  cases fw
  case false =>
    go_wp2_with fail
    refine (HA.out _).mono ?_
    rintro e w2 ⟨rfl, d2⟩
    have HE := Lib.hid (d1.out.trans d2)
    clear d2
    go_wp2_with fail
    go_ret
    exact ⟨rfl, HE.out⟩
  by_cases b3 : cs.length ≤ 100
  case neg =>
    have g3 : decide ((100 : Int) < cs.length) = true := decide_eq_true (by omega)
    go_wp2_with fail
    refine (HA.out _).mono ?_
    rintro e w2 ⟨rfl, d2⟩
    have HE := Lib.hid (d1.out.trans d2)
    clear d2
    go_wp2_with fail
    go_ret
    exact ⟨rfl, HE.out⟩
  have g3 : decide ((100 : Int) < cs.length) = false := decide_eq_false (by omega)
  have HR : Hid (∀ w', Ch0 w w' → _) := Lib.hid (fun w' (c : Ch0 w w') => rnew_cls _ _ cs w' (HV.out.keep c (fun _ _ e => e)))
  have HN : Hid (∀ w', Ch0 w w' → _) := Lib.hid (fun w' (c : Ch0 w w') => newcls_any _ _ cs w' (HV.out.keep c (fun _ _ e => e)) HF.out)
  by_cases b4 : newC cs = 0
  case neg =>
    have g4 : (newC cs != 0) = true := by simpa using b4
    clear b4 HN
    generalize newC cs = nc at *
    go_wp2_with fail
    refine (HR.out _ d1.out).mono ?_
    rintro e w3 ⟨rfl, d3⟩
    replace d3 := Lib.hid (d1.out.trans d3)
    go_wp2_with fail
    refine (HA.out _).mono ?_
    rintro e w4 ⟨rfl, d4⟩
    have HE := Lib.hid (d3.out.trans d4)
    clear d4
    go_wp2_with fail
    go_ret
    exact ⟨rfl, HE.out⟩
  rw [b4] at HR HN
  have g4 : ((0 : Int) != 0) = false := rfl
  have hcz := Lib.hid (newC_zero b4)
  replace b4 := Lib.hid b4
  go_wp2_with fail
  refine (HR.out _ d1.out).mono ?_
  rintro e w3 ⟨rfl, d3⟩
  have d4 := Lib.hid (d1.out.trans d3)
  clear d3 HR
  go_wp2_with fail
  refine (HN.out _ d4.out).mono ?_
  rintro e w5 ⟨t, rfl, hT, d5⟩
  obtain ⟨p, rfl, hTab⟩ := newT_zero hT b4.out
  have hn := gnew_of hTab (Nat.le_refl _)
  have d6 := Lib.hid (d4.out.trans d5)
  clear hT d5 d4 HN HW hTab
  generalize w3.heap.size = lo at *
  go_wp2_with fail
  refine hn.mono ?_
  rintro e w6 ⟨b1, rfl, O1, hG, hO1, d7⟩
  have hs6 := d6.out.size
  have hs7 := d7.size
  generalize hhi : w5.heap.size = hi at *
  go_wp2_with fail
  have hD0 : Duo w (w6.alloc (.cells #[.slice a cs.length c, .slice none 0 0] 59)) cs p lo hi b1 O1 [] w6.heap.size (fun k => k = w6.heap.size) (fun k => k < w.heap.size) (.slice a cs.length c) [] := by
    have ca : Ch0 w6 (w6.alloc (.cells #[.slice a cs.length c, .slice none 0 0] 59)) := (Ch.refl _ _).alloc _
    refine ⟨hG.new ca, ⟨⟨.slice none 0 0, fun _ => .slice none 0 0, fun _ => .slice none 0 0, fun _ => none, heap_alloc_new w6 _, rfl, RowAt.nil, (fun k hk => by cases hk), (fun k hk => by rw [hk, World.size_alloc]; omega), (fun nd h => by cases h), (fun nd h => by cases h), (fun nd h => by cases h), (fun nd h => by cases h), List.Pairwise.nil⟩,
      HV.out.keep ((d6.out.trans d7).trans ca) (fun _ _ e => e), (fun k hk e => by omega), (fun k hk => by rw [World.size_alloc]; omega), (fun nd h => by cases h)⟩, (fun k h1 h2 => by have := hG.small k h1; omega), (fun k h1 h2 e => by have := hG.hiw; omega), (fun k hk => hk), (d6.out.trans d7).trans ca, (fun k hk => by have := hO1 k hk; omega), (fun k hk => by omega)⟩
  replace hD0 := Lib.hid hD0
  clear hn hG hO1 d7 d6 hs6 hs7 hhi d1
  generalize w6.heap.size = b2 at *
  generalize (fun k => k = b2) = O2 at *
  generalize w6.alloc (.cells #[.slice a cs.length c, .slice none 0 0] 59) = W0 at *
  go_loopw [45] (fun i wr => ∃ j : Nat, j ≤ l.length ∧ i = .int .i64 j ∧ ∃ O1 O2, Duo w wr cs p lo hi b1 O1 (playP cs (l.take j)) b2 O2 (fun k => k < w.heap.size) (.slice a cs.length c) (playP cs (l.take j))) (fun i _ => l.length - (intOf i).toNat)
  case atStart => exact ⟨0, Nat.zero_le _, rfl, O1, O2, hD0.out⟩
  case round =>
    obtain ⟨j, hj, rfl, O1, O2, hD⟩ := hrel
    clear hD0
    have hpl := playP_len cs (l.take j)
    have hl := hl100.out trivial
    by_cases hlt : j < l.length
    · obtain ⟨o, ho⟩ : ∃ o, l[j]? = some o := ⟨_, List.getElem?_eq_getElem hlt⟩
      have hSr := HU.out.keep hD.ch (fun k _ e => e)
      obtain ⟨g, off, c1, hDg, e1, hcell⟩ := hSr.cell (by omega)
      obtain ⟨rfl, rfl⟩ : ua = some ⟨g, off, none⟩ ∧ uc = c1 := by simpa using e1
      obtain ⟨k0, k1, k2, k3, k4⟩ := hcell j o ho
      have hfo := HO.out o (List.mem_of_getElem? ho)
      have hols := HU.out.ls o (List.mem_of_getElem? ho)
      have hst : Hid (playP cs (l.take (j + 1)) = stepP cs (playP cs (l.take j)) o) := Lib.hid (by rw [take_snocO l j o ho, playP_snoc])
      have hLen : (playP cs (l.take j)).length ≤ 100 := by simp at hpl; omega
      have hLen2 := playP_len cs (l.take (j + 1))
      have hLen3 : (playP cs (l.take (j + 1))).length ≤ 100 := by simp at hLen2; omega
      have him := hfo.a1
      have i1 : (0 : Int) ≤ j := by omega
      have i2 : (j : Int) < l.length := by omega
      clear hSr e1 hcell hfo ho hpl hLen2
      obtain ⟨LN, hLNe⟩ : ∃ LN, LN = playP cs (l.take (j + 1)) := ⟨_, rfl⟩
      rw [← hLNe] at hst hLen3
      replace hLNe := Lib.hid hLNe
      generalize playP cs (l.take j) = LL at *
      obtain ⟨ok, oa, ob, oc, ov, ols⟩ := o
      simp only at k0 k1 k2 k3 k4 him hols
      obtain ⟨va, vc, ev, -⟩ := hols.len
      subst ev
      have hPl : wr.heap.size < (wr.alloc (.cells #[.int .i64 ok, .int .i64 oa, .int .i64 ob, .int .i64 oc, .slice va ols.length vc] 54)).heap.size := by rw [World.size_alloc]; omega
      have cA : Ch0 wr (wr.alloc (.cells #[.int .i64 ok, .int .i64 oa, .int .i64 ob, .int .i64 oc, .slice va ols.length vc] 54)) := (Ch.refl _ _).alloc _
      have bx := heap_alloc_new wr (.cells #[.int .i64 ok, .int .i64 oa, .int .i64 ob, .int .i64 oc, .slice va ols.length vc] 54)
      have hDA := Lib.hid (hD.new cA)
      have hP1 : ¬ O1 wr.heap.size := fun e => by have := hD.g.small _ e; omega
      have hP2 : ¬ O2 wr.heap.size := fun e => by have := hD.r.small _ e; omega
      have x0 := cell_of_row _ wr.heap.size 0 _ _ _ bx
      have x1 := cell_of_row _ wr.heap.size 1 _ _ _ bx
      have x2 := cell_of_row _ wr.heap.size 2 _ _ _ bx
      have x3 := cell_of_row _ wr.heap.size 3 _ _ _ bx
      have x4 := cell_of_row _ wr.heap.size 4 _ _ _ bx
      simp only [List.getElem?_toArray, List.getElem?_cons_zero, List.getElem?_cons_succ] at x0 x1 x2 x3 x4
      have hFew : Hid True := Lib.hid trivial
      have wfz := Lib.hid (fun (k : Nat) (_ : Unit) => trivial)
      clear hFew wfz hD bx cA hPl
      replace hols := Lib.hid hols
      refine (if q1 : ok = 1 then ?k1 else if q2 : ok = 2 then ?k2 else if q3 : ok = 3 then ?k3 else if q4 : ok = 4 then ?k4 else if q5 : ok = 5 then ?k5 else ?k6)
      case' k1 =>
        have hLN : LN = addL cs LL oa ob oc := by rw [hst.out]; unfold stepP stepL; simp only; rw [if_neg (by omega), if_pos (by omega)]
        have e1 : (ok == 1) = true := by simp [q1]
        clear q1
        go_wp2_with fail
        generalize wr.heap.size = P at *
        generalize wr.alloc (.cells #[.int .i64 ok, .int .i64 oa, .int .i64 ob, .int .i64 oc, .slice va ols.length vc] 54) = WA at *
        have H1 : Hid (∀ w', Ch0 WA w' → _) := Lib.hid (fun w' (c : Ch0 WA w') => add_of (hDA.out.g.new c) oa ob oc him)
        go_region_held3 (fun w' => w'.cell? ⟨P, 1, none⟩ = some (.int .i64 oa) ∧ w'.cell? ⟨P, 2, none⟩ = some (.int .i64 ob) ∧ w'.cell? ⟨P, 3, none⟩ = some (.int .i64 oc))
          (first | go_keep | exact ⟨cy.cell (cx.cell (by simpa using x1) hP1) hP2, cy.cell (cx.cell (by simpa using x2) hP1) hP2, cy.cell (cx.cell (by simpa using x3) hP1) hP2⟩ | exact ⟨cx.cell (by simpa using x1) hP1, cx.cell (by simpa using x2) hP1, cx.cell (by simpa using x3) hP1⟩)
          ((first
            | (go_at_call 32; refine (H1.out _ ?_).mono ?_; exact (Ch.refl _ _).drew; rintro e wx ⟨rfl, Ox, hGx, tx⟩; have hDx := (hDA.out.new (Ch.refl _ WA).drew).first hGx tx; have cx := tx.1)
            | (go_at_call 44; refine (radd_of hDx.r hcz.out.1 hcz.out.2 (by omega) oa ob oc him).mono ?_; rintro e wy ⟨rfl, Oy, hRy, ty⟩; have hDy := hDx.second hRy ty; have cy := ty.1)))
        rename_i hheld
        clear hheld
        have z1 : wy.cell? ⟨P, 1, none⟩ = some (.int .i64 oa) := cy.cell (cx.cell (show WA.drew.cell? ⟨P, 1, none⟩ = some (.int .i64 oa) from x1) hP1) hP2
        rw [← hLN] at hDy
        replace hDy := Lib.hid hDy
        clear hDx cx cy tx ty hGx hRy H1 hLN x1 x2 x3 x0 x4 hst
        generalize wy = wz at *
        go_wp2_with fail
      case' k2 =>
        have hLN : LN = setRefL LL oa ob oc := by rw [hst.out]; unfold stepP stepL; simp only; rw [if_neg (by omega), if_neg q1, if_pos (by omega)]
        have e1 : (ok == 1) = false := by simpa using q1
        have e2 : (ok == 2) = true := by simp [q2]
        clear q1 q2
        go_wp2_with fail
        generalize wr.heap.size = P at *
        generalize wr.alloc (.cells #[.int .i64 ok, .int .i64 oa, .int .i64 ob, .int .i64 oc, .slice va ols.length vc] 54) = WA at *
        have H1 : Hid (∀ w', Ch0 WA w' → _) := Lib.hid (fun w' (c : Ch0 WA w') => setref_of (hDA.out.g.new c) oa ob oc)
        go_region_held3 (fun w' => w'.cell? ⟨P, 1, none⟩ = some (.int .i64 oa) ∧ w'.cell? ⟨P, 2, none⟩ = some (.int .i64 ob) ∧ w'.cell? ⟨P, 3, none⟩ = some (.int .i64 oc))
          (first | go_keep | exact ⟨cy.cell (cx.cell (by simpa using x1) hP1) hP2, cy.cell (cx.cell (by simpa using x2) hP1) hP2, cy.cell (cx.cell (by simpa using x3) hP1) hP2⟩ | exact ⟨cx.cell (by simpa using x1) hP1, cx.cell (by simpa using x2) hP1, cx.cell (by simpa using x3) hP1⟩)
          ((first
            | (go_at_call 42; refine (H1.out _ ?_).mono ?_; exact (Ch.refl _ _).drew; rintro e wx ⟨rfl, hGx, tx⟩; have hDx := (hDA.out.new (Ch.refl _ WA).drew).first hGx tx; have cx := tx.1)
            | (go_at_call 45; refine (rsetref_any hDx.r oa ob oc).mono ?_; rintro e wy ⟨rfl, hRy, ty⟩; have hDy := hDx.second hRy ty; have cy := ty.1)))
        rename_i hheld
        clear hheld
        have z1 : wy.cell? ⟨P, 1, none⟩ = some (.int .i64 oa) := cy.cell (cx.cell (show WA.drew.cell? ⟨P, 1, none⟩ = some (.int .i64 oa) from x1) hP1) hP2
        rw [← hLN] at hDy
        replace hDy := Lib.hid hDy
        clear hDx cx cy tx ty hGx hRy H1 hLN x1 x2 x3 x0 x4 hst
        generalize wy = wz at *
        go_wp2_with fail
      case' k3 =>
        have hLN : LN = setNumL LL oa ob oc := by rw [hst.out]; unfold stepP stepL; simp only; rw [if_neg (by omega), if_neg q1, if_neg q2, if_pos (by omega)]
        have e1 : (ok == 1) = false := by simpa using q1
        have e2 : (ok == 2) = false := by simpa using q2
        have e3 : (ok == 3) = true := by simp [q3]
        clear q1 q2 q3
        go_wp2_with fail
        generalize wr.heap.size = P at *
        generalize wr.alloc (.cells #[.int .i64 ok, .int .i64 oa, .int .i64 ob, .int .i64 oc, .slice va ols.length vc] 54) = WA at *
        have H1 : Hid (∀ w', Ch0 WA w' → _) := Lib.hid (fun w' (c : Ch0 WA w') => setnum_of (hDA.out.g.new c) oa ob oc)
        go_region_held3 (fun w' => w'.cell? ⟨P, 1, none⟩ = some (.int .i64 oa) ∧ w'.cell? ⟨P, 2, none⟩ = some (.int .i64 ob) ∧ w'.cell? ⟨P, 3, none⟩ = some (.int .i64 oc))
          (first | go_keep | exact ⟨cy.cell (cx.cell (by simpa using x1) hP1) hP2, cy.cell (cx.cell (by simpa using x2) hP1) hP2, cy.cell (cx.cell (by simpa using x3) hP1) hP2⟩ | exact ⟨cx.cell (by simpa using x1) hP1, cx.cell (by simpa using x2) hP1, cx.cell (by simpa using x3) hP1⟩)
          ((first
            | (go_at_call 43; refine (H1.out _ ?_).mono ?_; exact (Ch.refl _ _).drew; rintro e wx ⟨rfl, hGx, tx⟩; have hDx := (hDA.out.new (Ch.refl _ WA).drew).first hGx tx; have cx := tx.1)
            | (go_at_call 46; refine (rsetnum_any hDx.r oa ob oc).mono ?_; rintro e wy ⟨rfl, hRy, ty⟩; have hDy := hDx.second hRy ty; have cy := ty.1)))
        rename_i hheld
        clear hheld
        have z1 : wy.cell? ⟨P, 1, none⟩ = some (.int .i64 oa) := cy.cell (cx.cell (show WA.drew.cell? ⟨P, 1, none⟩ = some (.int .i64 oa) from x1) hP1) hP2
        rw [← hLN] at hDy
        replace hDy := Lib.hid hDy
        clear hDx cx cy tx ty hGx hRy H1 hLN x1 x2 x3 x0 x4 hst
        generalize wy = wz at *
        go_wp2_with fail
      case' k4 =>
        have hLN : LN = doneL LL oa := by rw [hst.out]; unfold stepP stepL; simp only; rw [if_neg (by omega), if_neg q1, if_neg q2, if_neg q3, if_pos (by omega)]
        have e1 : (ok == 1) = false := by simpa using q1
        have e2 : (ok == 2) = false := by simpa using q2
        have e3 : (ok == 3) = false := by simpa using q3
        have e4 : (ok == 4) = true := by simp [q4]
        clear q1 q2 q3 q4
        have hat := rat_any hDA.out.r oa
        go_wp2_with fail
        generalize wr.heap.size = P at *
        generalize wr.alloc (.cells #[.int .i64 ok, .int .i64 oa, .int .i64 ob, .int .i64 oc, .slice va ols.length vc] 54) = WA at *
        refine hat.mono ?_
        rintro e wx ⟨rfl, hs⟩
        obtain rfl : WA = wx := hs
        clear hat
        have hdn := done_of hDA.out.g oa
        refine (if hin : oa ∈ ids LL then ?k4a else ?k4b)
      case' k4a =>
        obtain ⟨i, hi, hp, hid, -⟩ := gpos_some hin
        rw [hp]
        rw [show doneE LL oa = 0 from if_pos hin] at hdn
        have y1 : decide (0 ≤ (i : Int)) = true := decide_eq_true (by omega)
        have y2 : (0 : Int) ≤ i := by omega
        have y3 : (i : Int) < LL.length := by omega
        clear hin hp
        go_wp2_with fail
        refine hdn.mono ?_
        rintro e wx ⟨rfl, hGx, tx⟩
        have hDx := hDA.out.first hGx tx
        obtain ⟨nv, vr, vd, ow, gx⟩ := hDx.r.g
        obtain ⟨gb, o, c', rfl, -, hcell⟩ := gx.node (by omega)
        obtain ⟨t1, t2, t3⟩ := gx.fin hi
        obtain ⟨-, -, -, -, n4⟩ := hcell i hi
        have zk := gx.cells.2
        rw [hid] at t1
        have hDy := hDx.second (hDx.r.turn ⟨_, _, _, _, t1⟩ t2 (doneL_wf hDx.r.wf oa)) t2
        have z1 : (wx.setCell ⟨gb, o + i * 5 + 4, none⟩ (.bool false)).cell? ⟨P, 1, none⟩ = some (.int .i64 oa) := t2.1.cell (tx.1.cell x1 hP1) hP2
        rw [← hLN] at hDy
        replace hDy := Lib.hid hDy
        have hPg : P ≠ gb := fun e => hP2 (by rw [e]; exact gx.ownV gb rfl)
        have hPg2 : gb ≠ P := fun e => hPg e.symm
        have zx := tx.1.cell x1 hP1
        clear hDx hGx tx t1 t2 hcell gx hLN x1 x2 x3 x0 x4 hst hdn
        go_wp2_with fail
        generalize wx.setCell ⟨gb, o + i * 5 + 4, none⟩ (.bool false) = wz at *
      case' k4b =>
        rw [gpos_none hin]
        rw [show doneE LL oa = 7 from if_neg hin] at hdn
        have hsame : doneL LL oa = LL := upd_out hin
        clear hin
        go_wp2_with fail
        refine hdn.mono ?_
        rintro e wx ⟨rfl, hGx, tx⟩
        have hDy := hDA.out.first hGx tx
        have z1 : wx.cell? ⟨P, 1, none⟩ = some (.int .i64 oa) := tx.1.cell x1 hP1
        have hLL : LN = LL := hLN.trans hsame
        rw [hsame, ← hLL] at hDy
        clear hLL
        replace hDy := Lib.hid hDy
        clear hGx tx hLN x1 x2 x3 x0 x4 hst hdn hsame
        go_wp2_with fail
        generalize wx = wz at *
      case' k5 =>
        have hLN : LN = keepL LL ols := by rw [hst.out]; unfold stepP; simp only; rw [if_pos q5]
        have e1 : (ok == 1) = false := by simpa using q1
        have e2 : (ok == 2) = false := by simpa using q2
        have e3 : (ok == 3) = false := by simpa using q3
        have e4 : (ok == 4) = false := by simpa using q4
        have e5 : (ok == 5) = true := by simp [q5]
        clear q1 q2 q3 q4 q5
        go_wp2_with fail
        generalize wr.heap.size = P at *
        generalize wr.alloc (.cells #[.int .i64 ok, .int .i64 oa, .int .i64 ob, .int .i64 oc, .slice va ols.length vc] 54) = WA at *
        have H1 : Hid (∀ w', Ch0 WA w' → _) := Lib.hid (fun w' (c : Ch0 WA w') => keep_of (hDA.out.g.new c) (by omega) _ _ ols (hols.out.keep (hDA.out.ch.trans c) (fun _ _ e => e)))
        go_region_held3 (fun w' => w'.cell? ⟨P, 4, none⟩ = some (.slice va ols.length vc))
          (first | go_keep | exact cy.cell (cx.cell (by simpa using x4) hP1) hP2 | exact cx.cell (by simpa using x4) hP1)
          ((first
            | (go_at_call 49; refine (H1.out _ ?_).mono ?_; exact (Ch.refl _ _).drew; rintro e wx ⟨rfl, hGx, tx⟩; have hDx := (hDA.out.new (Ch.refl _ WA).drew).first hGx tx; have cx := tx.1)
            | (go_at_call 50; refine (rkeep_of hDx.r (by omega) _ _ ols (hols.out.keep hDx.ch (fun _ _ e => e)) (fun k h1 h2 => by have := hDx.f2 k h2; omega)).mono ?_; rintro e wy ⟨rfl, Oy, hRy, ty⟩; have hDy := hDx.second hRy ty; have cy := ty.1)))
        rename_i hheld
        clear hheld
        have z1 : wy.cell? ⟨P, 1, none⟩ = some (.int .i64 oa) := cy.cell (cx.cell (show WA.drew.cell? ⟨P, 1, none⟩ = some (.int .i64 oa) from x1) hP1) hP2
        rw [← hLN] at hDy
        replace hDy := Lib.hid hDy
        clear hDx cx cy tx ty hGx hRy H1 hLN x1 x2 x3 x0 x4 hst
        generalize wy = wz at *
        go_wp2_with fail
      case' k6 =>
        have hLN : LN = LL := by rw [hst.out]; unfold stepP stepL; simp only; rw [if_neg q5, if_neg q1, if_neg q2, if_neg q3, if_neg q4]
        have e1 : (ok == 1) = false := by simpa using q1
        have e2 : (ok == 2) = false := by simpa using q2
        have e3 : (ok == 3) = false := by simpa using q3
        have e4 : (ok == 4) = false := by simpa using q4
        have e5 : (ok == 5) = false := by simpa using q5
        clear q1 q2 q3 q4 q5
        go_wp2_with fail
        generalize wr.heap.size = P at *
        generalize wr.alloc (.cells #[.int .i64 ok, .int .i64 oa, .int .i64 ob, .int .i64 oc, .slice va ols.length vc] 54) = WA at *
        have hDy := hDA
        rw [← hLN] at hDy
        have z1 := x1
        clear hLN x1 x2 x3 x0 x4 hst
        generalize WA = wz at *
      all_goals
        refine (samen_any hDy.out hcz.out.1 oa).mono ?_
        rintro e wa ⟨rfl, ca⟩
        have hDa := Lib.hid (hDy.out.new ca)
        clear ca hDy z1 hols hP1 hP2
        go_wp2_with fail
        refine (ids_of hDa.out.g (by omega)).mono ?_
        rintro e wb ⟨v5, rfl, r5, -, cb⟩
        have hDb := Lib.hid (hDa.out.new cb)
        replace r5 := Lib.hid r5
        clear cb hDa
        go_wp2_with fail
        refine (rids_of hDb.out.r (by omega)).mono ?_
        rintro e wc ⟨v6, rfl, r6, -, cc⟩
        have hsm := same_any _ _ _ _ _ _ wc (r5.out.keep cc (fun _ _ e => e)).sees r6.sees
        rw [decide_eq_true (rfl : ids LN = ids LN)] at hsm
        have hDc := Lib.hid (hDb.out.new cc)
        clear cc hDb r5 r6
        go_wp2_with fail
        refine hsm.mono ?_
        rintro e wd ⟨rfl, nd, rfl⟩
        have hDd := Lib.hid (hDc.out.new ((Ch.refl _ wc).drewN nd))
        clear hsm hDc
        generalize wc.drewN nd = wd at *
        go_wp2_with fail
        refine (words_of hDd.out.g (by omega)).mono ?_
        rintro e we ⟨rfl, ce⟩
        have hDe := Lib.hid (hDd.out.new ce)
        clear ce hDd
        go_wp2_with fail
        refine (rwords_of hDe.out.r (by omega)).mono ?_
        rintro e wf ⟨rfl, cf⟩
        have hDf := Lib.hid (hDe.out.new cf)
        clear cf hDe
        have t9 : (gwords LN != gwords LN) = false := by simp
        generalize gwords LN = GW at *
        go_wp2_with fail
        go_roundw
        case rel => exact ⟨j + 1, by omega, by go_num, _, _, by rw [← hLNe.out]; exact hDf.out⟩
        case measure => simp [intOf]; omega
    · obtain rfl : j = l.length := by omega
      rw [List.take_length] at hD hpl
      generalize playP cs l = L at *
      have hids := rids_of hD.r (by omega)
      replace hD := Lib.hid hD
      go_wp2_with fail
      refine hids.mono ?_
      rintro e wa ⟨vi, rfl, r6, -, ca⟩
      obtain ⟨la, lc, ev, -, -⟩ := r6.isSlice
      rw [show (ids L).length = L.length by simp [ids]] at ev r6
      subst ev
      have hDa := Lib.hid (hD.out.new ca)
      replace r6 := Lib.hid r6
      clear hids ca hD
      go_wp2_with fail
      go_loopw [175] (fun i wr => ∃ j : Nat, j ≤ L.length ∧ i = .int .i64 j ∧ Ch0 wa wr) (fun i _ => L.length - (intOf i).toNat)
      case atStart => exact ⟨0, Nat.zero_le _, rfl, Ch.refl _ _⟩
      case round =>
        obtain ⟨j, hj, rfl, d⟩ := hrel
        generalize wr = wR at *
        by_cases hlt : j < L.length
        · have hs : SeesI (fun k => rblk (.slice la L.length lc) = some k) wR (.slice la L.length lc) (ids L) := by
            have := (r6.out.keep d (fun _ _ e => e)).sees
            rw [show L.length = (ids L).length by simp [ids]] at this ⊢
            exact this
          have hil : (ids L).length = L.length := by simp [ids]
          obtain ⟨g, o, c5, -, e1, hcell⟩ := hs.cell (by omega)
          rw [hil] at e1
          obtain ⟨rfl, rfl⟩ : la = some ⟨g, o, none⟩ ∧ lc = c5 := by simpa using e1
          have hx := hcell j (by omega)
          have hsn := samen_any (hDa.out.new d) hcz.out.1 ((ids L).getD j 0)
          generalize (ids L).getD j 0 = X at *
          replace d := Lib.hid d
          have i1 : (0 : Int) ≤ j := by omega
          have i2 : (j : Int) < L.length := by omega
          clear hs e1 hcell hil
          go_wp2_with fail
          refine hsn.mono ?_
          rintro e w1 ⟨rfl, c1⟩
          have HE := Lib.hid (d.out.trans c1)
          clear hsn c1
          go_wp2_with fail
          go_roundw
          case rel => exact ⟨j + 1, by omega, by go_num, HE.out⟩
          case measure => simp [intOf]; omega
        · obtain rfl : j = L.length := by omega
          have HE := Lib.hid (hDa.out.ch.trans d)
          clear d
          go_wp2_with fail
          go_ret
          exact ⟨rfl, HE.out⟩

end Go.Proofs.Ytlmeponoadhheaa
