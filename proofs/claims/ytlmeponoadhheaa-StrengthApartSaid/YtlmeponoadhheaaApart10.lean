/-
  gleaninglaw10.StrengthApart answers true: the walk.
-/
import Derived.Test.YtlmeponoadhheaaTells10
import Derived.Test.YtlmeponoadhheaaProc2
import Derived.Test.YtlmeponoadhheaaStillQ
import Derived.Test.YtlmeponoadhheaaTellsM
import Derived.Test.YtlmeponoadhheaaGl
namespace Go.Proofs.Ytlmeponoadhheaa
set_option linter.unusedVariables false
open Go.RowKit

set_option maxRecDepth 100000 in
set_option maxHeartbeats 4000000 in
theorem apart10_walk (cs : List Cls) (ns : List Int) (rs : List (Int × Int × Int)) (cv nv rv u : Value) (roots : List Int) (w : World) (hs : SeesW (fun k => k < w.heap.size) w cv nv rv cs ns rs) (hf : Fit cs) (hu : SeesI (fun k => k < w.heap.size) w u roots) :
    Calls Try.prog 14 #[.agg #[cv, nv, rv], u] w fun e w' => e = .returned (.bool true) ∧ Ch0 w w' := by
  obtain ⟨na, nc, rfl, hnl⟩ := hs.n.len
  obtain ⟨ca, cc, rfl, -⟩ := hs.c.len
  obtain ⟨ra, rc, rfl, -⟩ := hs.r.len
  have HA := Lib.hid awake10
  have HM : Hid (∀ W, Ch0 w W → _) := Lib.hid (fun W (c : Ch0 w W) => made_at hs hf c)
  obtain ⟨ua, uc, rfl, hul⟩ := hu.len
  have HU := Lib.hid hu
  clear hs hf hu
  have cA : Ch0 w (w.alloc (.cells #[.slice ca cs.length cc, .slice na ns.length nc, .slice ra rs.length rc] 72)) := (Ch.refl _ _).alloc _
  have x1 := cell_of_row _ w.heap.size 1 _ _ _ (heap_alloc_new w (.cells #[.slice ca cs.length cc, .slice na ns.length nc, .slice ra rs.length rc] 72))
  simp only [List.getElem?_toArray, List.getElem?_cons_zero, List.getElem?_cons_succ] at x1
  replace cA := Lib.hid cA
  go_enter Try.func14, Try.ntmps14
  go_wp2_with fail
  generalize w.alloc (.cells #[.slice ca cs.length cc, .slice na ns.length nc, .slice ra rs.length rc] 72) = W0 at *
  generalize w.heap.size = P at *
  refine (HM.out _ cA.out).mono ?_
  rintro e w1 (⟨hmB, rfl, d1⟩ | ⟨hmB, b1, b2, p, lo, hi, O1, O2, D, rfl, hD⟩)
  · have HE := Lib.hid (cA.out.trans d1)
    clear d1 HM hmB
    go_wp2_with fail
    refine (HA.out _).mono ?_
    rintro e w2 ⟨rfl, d2⟩
    have HE2 := Lib.hid (HE.out.trans d2)
    clear d2
    go_wp2_with fail
    refine (HA.out _).mono ?_
    rintro e w3 ⟨rfl, d3⟩
    have HE3 := Lib.hid (HE2.out.trans d3)
    clear d3
    go_wp2_with fail
    go_ret
    exact ⟨rfl, HE3.out⟩
  have hmW := madeW_of hmB
  have hnn := hmW.n
  have hLn := hmW.ok.len
  have hL40 : (madeL cs ns rs).length ≤ 40 := by omega
  replace hLn := Lib.hid hLn
  replace hmW := Lib.hid hmW
  replace hD := Lib.hid hD
  clear hmB HM
  generalize madeL cs ns rs = L at *
  go_wp2_with fail
  refine (HA.out _).mono ?_
  rintro e w2 ⟨rfl, d2⟩
  have hD2 := Lib.hid (hD.out.new d2)
  clear hD d2
  by_cases b4 : roots.length ≤ 40
  case neg =>
    have g4 : decide ((40 : Int) < roots.length) = true := decide_eq_true (by omega)
    clear b4
    go_wp2_with fail
    refine (HA.out _).mono ?_
    rintro e w3 ⟨rfl, d3⟩
    have HE3 := Lib.hid (cA.out.trans (hD2.out.new d3).ch)
    clear d3
    go_wp2_with fail
    go_ret
    exact ⟨rfl, HE3.out⟩
  have g4 : decide ((40 : Int) < roots.length) = false := decide_eq_false (by omega)
  obtain ⟨nv, vr, vd, ow, gg⟩ := hD2.out.r.g
  obtain ⟨aN, cN, rfl, -, -⟩ := gg.row.isSlice
  have k1 := gg.cells.2
  have HG := Lib.hid gg
  clear gg
  have mk := TellsM.made w2
  have mk2 : (Instr.makeMap 32 none).run Try.prog w2 = .ok (.map (some w2.heap.size)) (w2.alloc (.map #[] 0)) := by simp [Instr.makeMap, Result.andThen]
  have cm : Ch0 w2 (w2.alloc (.map #[] 0)) := (Ch.refl _ _).alloc _
  replace mk := Lib.hid mk
  replace cm := Lib.hid cm
  go_wp2_with fail
  generalize w2.alloc (.map #[] 0) = w3 at *
  generalize hR : w2.heap.size = R at *
  clear mk2
  replace hR := Lib.hid hR
  have hup : Hid (∀ wr S (x : Int) (b : Bool), Ch0 w2 wr → TellsM wr R S → (b = false → x ∉ S) → ∃ w', (Instr.mapUpdate 32 (.map (some R)) (.int .i64 x) (.bool b)).run Try.prog wr = .ok () w' ∧ TellsM w' R (if b = true then x :: S else S) ∧ Ch0 w2 w') := Lib.hid (fun wr S x b c h hb => by
    obtain ⟨w', h1, h2, h3⟩ := h.update x b hb
    exact ⟨w', h1, h2, c.trans' h3 (fun _ _ e => e) (fun k hk e => by have e' : k = R := e; have := hR.out; omega)⟩)
  go_loopw [35] (fun i wr => ∃ (j : Nat) (S : List Int), j ≤ roots.length ∧ i = .int .i64 j ∧ (∀ x ∈ roots.take j, x ∈ S) ∧ TellsM wr R S ∧ Ch0 w2 wr) (fun i _ => roots.length - (intOf i).toNat)
  case atStart => exact ⟨0, [], Nat.zero_le _, rfl, (fun x hx => by simp at hx), mk.out, cm.out⟩
  case round =>
    clear mk cm
    obtain ⟨j, S, hj, rfl, hS, hM, c⟩ := hrel
    by_cases hlt : j < roots.length
    · obtain ⟨g, o, c1, -, e1, hcell⟩ := SeesI.cell (HU.out.keep (cA.out.trans (hD2.out.ch.trans c)) (fun _ _ e => e)) (by omega)
      obtain ⟨rfl, rfl⟩ : ua = some ⟨g, o, none⟩ ∧ uc = c1 := by simpa using e1
      have hx := hcell j hlt
      have i1 : (0 : Int) ≤ j := by omega
      have i2 : (j : Int) < roots.length := by omega
      have htk := take_snocI roots hlt
      obtain ⟨w4, hrun, hM4, c4⟩ := hup.out wr S (roots.getD j 0) true c hM (fun h => by cases h)
      rw [if_pos rfl] at hM4
      have HE : Hid ((∀ x ∈ roots.take (j + 1), x ∈ roots.getD j 0 :: S) ∧ TellsM w4 R (roots.getD j 0 :: S) ∧ Ch0 w2 w4) := Lib.hid ⟨fun x hx => by
        rw [htk] at hx
        rcases List.mem_append.1 hx with q | q
        · exact List.mem_cons_of_mem _ (hS x q)
        · rw [List.mem_singleton.1 q]; simp, hM4, c4⟩
      clear hcell e1 hS hM c hM4 c4 htk
      generalize roots.getD j 0 = X at *
      go_wp2_with (at_mapUpdate; refine wpList_mapUpdate_run rfl _ _ _ 32 rfl rfl rfl rfl hrun ?_)
      go_roundw
      case rel => exact ⟨j + 1, _, by omega, by go_num, HE.out⟩
      case measure => simp [intOf]; omega
    · obtain rfl : j = roots.length := by omega
      rw [List.take_length] at hS
      have z1 := c.cell k1 (fun e => e)
      have hM0 := Lib.hid hM
      have hS0 := Lib.hid hS
      replace c := Lib.hid c
      clear hM hS
      go_wp2_with fail
      go_loopw [49] (fun i wr => ∃ (j : Nat) (S : List Int), j ≤ L.length ∧ i = .int .i64 j ∧ (∀ x ∈ roots, x ∈ S) ∧ (∀ nd ∈ L.take j, nd.fin = true → nd.id ∈ S) ∧ TellsM wr R S ∧ Ch0 w2 wr) (fun i _ => L.length - (intOf i).toNat)
      case atStart => exact ⟨0, S, Nat.zero_le _, rfl, hS0.out, (fun x hx => by simp at hx), hM0.out, c.out⟩
      case round =>
        clear hM0 hS0 c z1
        obtain ⟨j, S, hj, rfl, hS, hF, hM, c⟩ := hrel
        have z1 := c.cell k1 (fun e => e)
        by_cases hlt : j < L.length
        · obtain ⟨gn, on, cn, e1, -, hnode⟩ := (HG.out.keep c (fun _ _ e => e)).node (by omega)
          obtain ⟨rfl, rfl⟩ : aN = some ⟨gn, on, none⟩ ∧ cN = cn := by simpa using e1
          obtain ⟨n0, -, -, -, n4⟩ := hnode j hlt
          have i1 : (0 : Int) ≤ j := by omega
          have i2 : (j : Int) < L.length := by omega
          have htk := take_snocG L j hlt
          have cdr : Ch0 wr wr.drew := (Ch.refl _ _).drew
          have hMd := hM.keep cdr (fun e => e)
          have hlk := hMd.lookup L[j].id
          have hb0 : ∀ b : Bool, (decide (L[j].id ∈ S) || L[j].fin) = b → ∃ w', (Instr.mapUpdate 32 (.map (some R)) (.int .i64 L[j].id) (.bool b)).run Try.prog wr.drew = .ok () w' ∧ TellsM w' R (if b = true then L[j].id :: S else S) ∧ Ch0 w2 w' := fun b hb => hup.out wr.drew S L[j].id b (c.trans cdr) hMd (fun h => by rw [h] at hb; simp at hb; exact hb.1)
          have hnew : ∀ b : Bool, (decide (L[j].id ∈ S) || L[j].fin) = b → (∀ x ∈ roots, x ∈ (if b = true then L[j].id :: S else S)) ∧ (∀ nd ∈ L.take (j + 1), nd.fin = true → nd.id ∈ (if b = true then L[j].id :: S else S)) := fun b hb => by
            have hsub : ∀ x ∈ S, x ∈ (if b = true then L[j].id :: S else S) := fun x hx => by cases b <;> simp [hx]
            refine ⟨fun x hx => hsub x (hS x hx), fun nd hnd hf => ?_⟩
            rw [htk] at hnd
            rcases List.mem_append.1 hnd with q | q
            · exact hsub _ (hF nd q hf)
            · rw [List.mem_singleton.1 q] at hf ⊢
              rw [hf] at hb
              simp at hb
              rw [← hb]; simp
          clear hnode e1 htk hMd cdr
          replace hS := Lib.hid hS
          replace hF := Lib.hid hF
          replace hM := Lib.hid hM
          generalize hXe : L[j].id = X at *
          replace hXe := Lib.hid hXe
          generalize L[j].fin = F at *
          cases hd : decide (X ∈ S) with
          | true =>
            rw [hd] at hlk hb0 hnew
            obtain ⟨w4, hrun, hM4, c4⟩ := hb0 true rfl
            have HE := Lib.hid (And.intro (hnew true rfl) (And.intro hM4 c4))
            clear hb0 hnew hM4 c4 hd
            replace c := Lib.hid c
            go_wp2_with fail
            refine wp_region_still_tail 29 (by kernel_rfl) (by kernel_rfl) ?_
            simp only [List.take_succ_cons, List.take_zero, List.drop_succ_cons, List.drop_zero]
            refine still_of_quiet _ _ ?_
            iterate 18 (go_big_quiet_step (fail))
            refine quiet_lookup rfl _ _ 32 rfl rfl rfl hlk ?_
            go_simp
            repeat (go_big_quiet_step (fail))
            refine wpQuiet_nil ?_
            change wpList _ _ _ _ _ wr.drew
            go_wp2_with (at_mapUpdate; refine wpList_mapUpdate_run rfl _ _ _ 32 rfl rfl rfl rfl hrun ?_)
            go_roundw
            case rel => exact ⟨j + 1, _, by omega, by go_num, HE.out.1.1, HE.out.1.2, HE.out.2.1, HE.out.2.2⟩
            case measure => simp [intOf]; omega
          | false =>
            rw [hd] at hlk hb0 hnew
            obtain ⟨w4, hrun, hM4, c4⟩ := hb0 F rfl
            have HE := Lib.hid (And.intro (hnew F rfl) (And.intro hM4 c4))
            clear hb0 hnew hM4 c4 hd
            replace c := Lib.hid c
            go_wp2_with fail
            refine wp_region_still_tail 29 (by kernel_rfl) (by kernel_rfl) ?_
            simp only [List.take_succ_cons, List.take_zero, List.drop_succ_cons, List.drop_zero]
            refine still_of_quiet _ _ ?_
            iterate 18 (go_big_quiet_step (fail))
            refine quiet_lookup rfl _ _ 32 rfl rfl rfl hlk ?_
            go_simp
            repeat (go_big_quiet_step (fail))
            refine wpQuiet_nil ?_
            change wpList _ _ _ _ _ wr.drew
            go_wp2_with (at_mapUpdate; refine wpList_mapUpdate_run rfl _ _ _ 32 rfl rfl rfl rfl hrun ?_)
            go_roundw
            case rel => exact ⟨j + 1, _, by omega, by go_num, HE.out.1.1, HE.out.1.2, HE.out.2.1, HE.out.2.2⟩
            case measure => simp [intOf]; omega
        · obtain rfl : j = L.length := by omega
          rw [List.take_length] at hF
          have hstart : ∀ x ∈ startL L 5 roots, x ∈ S := fun x hx => by
            unfold startL at hx
            rw [if_pos (by omega)] at hx
            rcases List.mem_append.1 hx with q | q
            · exact hS x q
            · unfold finalsL at q
              obtain ⟨nd, hnd, rfl⟩ := mem_ids.1 q
              obtain ⟨h1, h2⟩ := List.mem_filter.1 hnd
              exact hF nd h1 h2
          have HS0 := Lib.hid (And.intro hstart (And.intro hM c))
          replace c := Lib.hid c
          clear hS hF hM hstart
          go_wp2_with fail
          go_loopw [87] (fun i wr => ∃ (q : Nat) (S : List Int), q ≤ L.length ∧ i = .int .i64 q ∧ (∀ x ∈ startL L 5 roots, x ∈ S) ∧ Passed cs L roots q S ∧ TellsM wr R S ∧ Ch0 w2 wr) (fun i _ => L.length - (intOf i).toNat)
          case atStart => exact ⟨0, S, Nat.zero_le _, rfl, HS0.out.1, .inr (Nat.zero_le _), HS0.out.2.1, HS0.out.2.2⟩
          case round =>
            clear HS0 c z1
            obtain ⟨q, S, hq, rfl, hS, hP, hM, c⟩ := hrel
            have z1 := c.cell k1 (fun e => e)
            by_cases hlt : q < L.length
            · have HS := Lib.hid (And.intro hS hP)
              have HM0 := Lib.hid (And.intro hM c)
              have i5 : (q : Int) < L.length := by omega
              clear hS hP hM c
              go_wp2_with fail
              go_loopw [94] (fun i wr => ∃ (ii : Nat) (T : List Int), ii ≤ L.length ∧ i = .int .i64 ii ∧ (∀ x ∈ S, x ∈ T) ∧ (∀ nd ∈ L.take ii, nd.id ∈ S → ∀ t ∈ nd.refs, t ∈ T) ∧ TellsM wr R T ∧ Ch0 w2 wr) (fun i _ => L.length - (intOf i).toNat)
              case atStart => exact ⟨0, S, Nat.zero_le _, rfl, fun _ h => h, (fun x hx => by simp at hx), HM0.out.1, HM0.out.2⟩
              case round =>
                clear HM0 z1
                obtain ⟨ii, T, hii, rfl, hST, hT, hM, c⟩ := hrel
                have z1 := c.cell k1 (fun e => e)
                by_cases hlt2 : ii < L.length
                · have gg := HG.out.keep c (fun _ _ e => e)
                  obtain ⟨gn, on, cn, e1, -, hnode⟩ := gg.node (by omega)
                  obtain ⟨rfl, rfl⟩ : aN = some ⟨gn, on, none⟩ ∧ cN = cn := by simpa using e1
                  obtain ⟨-, -, n2, -, -⟩ := hnode ii hlt2
                  obtain ⟨ar, cr, ev, -, -⟩ := (gg.refs _ (List.getElem_mem hlt2)).isSlice
                  rw [ev] at n2
                  have i3 : (0 : Int) ≤ ii := by omega
                  have i4 : (ii : Int) < L.length := by omega
                  have HT := Lib.hid (And.intro hST hT)
                  have HM1 := Lib.hid (And.intro hM c)
                  have hrl : L[ii].refs.length ≤ 60 := (hmW.out.ok.wf _ (List.getElem_mem hlt2)).refs
                  have htk := Lib.hid (take_snocG L ii hlt2)
                  have hrow := Lib.hid (fun (w' : World) (c : Ch0 w2 w') => (HG.out.keep c (fun _ _ e => e)).refs _ (List.getElem_mem hlt2))
                  clear hnode e1 gg hST hT hM c
                  generalize hnd : L[ii] = nd at *
                  replace hnd := Lib.hid hnd
                  go_wp2_with fail
                  go_loopw [106] (fun i wr => ∃ (kk : Nat) (U : List Int), kk ≤ nd.refs.length ∧ i = .int .i64 kk ∧ (∀ x ∈ T, x ∈ U) ∧ (nd.id ∈ S → ∀ t ∈ nd.refs.take kk, t ∈ U) ∧ TellsM wr R U ∧ Ch0 w2 wr) (fun i _ => nd.refs.length - (intOf i).toNat)
                  case atStart => exact ⟨0, T, Nat.zero_le _, rfl, fun _ h => h, (fun _ x hx => by simp at hx), HM1.out.1, HM1.out.2⟩
                  case round =>
                    clear HM1 z1 n2
                    obtain ⟨kk, U, hkk, rfl, hTU, hU, hM, c⟩ := hrel
                    have z1 := c.cell k1 (fun e => e)
                    by_cases hlt3 : kk < nd.refs.length
                    · have gg := HG.out.keep c (fun _ _ e => e)
                      obtain ⟨gn', on', cn', e1', -, hnode⟩ := gg.node (by omega)
                      cases e1'
                      obtain ⟨n0, -, n2, -, -⟩ := hnode ii hlt2
                      rw [hnd.out] at n0 n2
                      obtain ⟨g, o, c1, -, e2, hcell⟩ := SeesI.cell (hrow.out _ c).sees (by omega)
                      rw [ev] at n2 e2
                      obtain ⟨rfl, rfl⟩ : ar = some ⟨g, o, none⟩ ∧ cr = c1 := by simpa using e2
                      have hx := hcell kk hlt3
                      have htk2 := take_snocI nd.refs hlt3
                      have hlk := hM.lookup nd.id
                      have i6 : (0 : Int) ≤ kk := by omega
                      have i7 : (kk : Int) < nd.refs.length := by omega
                      clear hcell e2 hnode gg
                      generalize nd.refs.getD kk 0 = X at *
                      generalize nd.id = ND at *
                      cases hd : decide (ND ∈ U) with
                      | true =>
                        rw [hd] at hlk
                        obtain ⟨w4, hrun, hM4, c4⟩ := hup.out wr U (X) true c hM (fun h => by cases h)
                        rw [if_pos rfl] at hM4
                        have HE : Hid ((∀ x ∈ T, x ∈ X :: U) ∧ (ND ∈ S → ∀ t ∈ nd.refs.take (kk + 1), t ∈ X :: U) ∧ TellsM w4 R (X :: U) ∧ Ch0 w2 w4) := Lib.hid ⟨fun x hx => List.mem_cons_of_mem _ (hTU x hx), fun hin t ht => by
                          rw [htk2] at ht
                          rcases List.mem_append.1 ht with q' | q'
                          · exact List.mem_cons_of_mem _ (hU hin t q')
                          · rw [List.mem_singleton.1 q']; simp, hM4, c4⟩
                        clear hd hTU hU hM c hM4 c4 htk2
                        go_wp2_with (first | (at_lookup; refine wpList_lookup_run rfl _ _ 32 rfl rfl rfl hlk ?_) | (at_mapUpdate; refine wpList_mapUpdate_run rfl _ _ _ 32 rfl rfl rfl rfl hrun ?_))
                        go_roundw
                        case rel =>
                          exact ⟨kk + 1, X :: U, by omega, by go_num, HE.out⟩
                        case measure => simp [intOf]; omega
                      | false =>
                        rw [hd] at hlk
                        have hnot : ND ∉ S := fun h => of_decide_eq_false hd (hTU _ (HT.out.1 _ h))
                        have HE : Hid ((∀ x ∈ T, x ∈ U) ∧ (ND ∈ S → ∀ t ∈ nd.refs.take (kk + 1), t ∈ U) ∧ TellsM wr R U ∧ Ch0 w2 wr) := Lib.hid ⟨hTU, fun hin => absurd hin hnot, hM, c⟩
                        clear hd hTU hU hM c htk2 hnot
                        go_wp2_with (first | (at_lookup; refine wpList_lookup_run rfl _ _ 32 rfl rfl rfl hlk ?_))
                        go_roundw
                        case rel =>
                          exact ⟨kk + 1, U, by omega, by go_num, HE.out⟩
                        case measure => simp [intOf]; omega
                    · obtain rfl : kk = nd.refs.length := by omega
                      rw [List.take_length] at hU
                      have HE : Hid ((∀ x ∈ S, x ∈ U) ∧ (∀ nd ∈ L.take (ii + 1), nd.id ∈ S → ∀ t ∈ nd.refs, t ∈ U) ∧ TellsM wr R U ∧ Ch0 w2 wr) := Lib.hid ⟨fun x hx => hTU x (HT.out.1 x hx), fun nd' hnd' hin t ht => by
                        rw [htk.out] at hnd'
                        rcases List.mem_append.1 hnd' with q' | q'
                        · exact hTU _ (HT.out.2 nd' q' hin t ht)
                        · rw [List.mem_singleton.1 q'] at hin ht
                          exact hU hin t ht, hM, c⟩
                      clear hTU hU hM c
                      go_wp2_with fail
                      go_roundw
                      case rel => exact ⟨ii + 1, U, by omega, by go_num, HE.out⟩
                      case measure => simp [intOf]; omega
                · obtain rfl : ii = L.length := by omega
                  rw [List.take_length] at hT
                  have HE : Hid ((∀ x ∈ startL L 5 roots, x ∈ T) ∧ Passed cs L roots (q + 1) T ∧ TellsM wr R T ∧ Ch0 w2 wr) := Lib.hid ⟨fun x hx => hST x (HS.out.1 x hx), passed_next HG.out.rise HS.out.2 HS.out.1 hST hT, hM, c⟩
                  clear hST hT hM c
                  go_wp2_with fail
                  go_roundw
                  case rel => exact ⟨q + 1, T, by omega, by go_num, HE.out⟩
                  case measure => simp [intOf]; omega
            · obtain rfl : q = L.length := by omega
              have HP := Lib.hid (And.intro (passed_end hP) (And.intro hM c))
              clear hS hP hM c
              go_wp2_with fail
              go_loopw [139] (fun i wr => ∃ k : Nat, k ≤ L.length ∧ i = .int .i64 k ∧ TellsM wr R S ∧ Ch0 w2 wr) (fun i _ => L.length - (intOf i).toNat)
              case atStart => exact ⟨0, Nat.zero_le _, rfl, HP.out.2⟩
              case round =>
                clear z1
                obtain ⟨k, hk, rfl, hM, c⟩ := hrel
                have z1 := c.cell k1 (fun e => e)
                by_cases hlt2 : k < L.length
                · have gg := HG.out.keep c (fun _ _ e => e)
                  obtain ⟨gn, on, cn, e1, -, hnode⟩ := gg.node (by omega)
                  obtain ⟨rfl, rfl⟩ : aN = some ⟨gn, on, none⟩ ∧ cN = cn := by simpa using e1
                  obtain ⟨n0, -, -, -, -⟩ := hnode k hlt2
                  have i3 : (0 : Int) ≤ k := by omega
                  have i4 : (k : Int) < L.length := by omega
                  have hlk := hM.lookup L[k].id
                  have hDk := hD2.out.new c
                  have hof := of_of hDk.g (by omega) _ _ roots (HU.out.keep (cA.out.trans hDk.ch) (fun _ _ e => e)) (by omega) L[k].id
                  have hap : L[k].id ∉ S → ofL cs L L[k].id roots = 0 := fun h => ofL_apart HP.out.1 h
                  clear hnode e1 gg hDk
                  cases hd : decide (L[k].id ∈ S) with
                  | true =>
                    rw [hd] at hlk
                    have HE := Lib.hid (And.intro hM c)
                    clear hd hM c hof hap
                    go_wp2_with (first | (at_lookup; refine wpList_lookup_run rfl _ _ 32 rfl rfl rfl hlk ?_))
                    go_roundw
                    case rel => exact ⟨k + 1, by omega, by go_num, HE.out⟩
                    case measure => simp [intOf]; omega
                  | false =>
                    rw [hd] at hlk
                    rw [hap (of_decide_eq_false hd)] at hof
                    have HE := Lib.hid (And.intro hM c)
                    clear hd hM c hap
                    go_wp2_with (first | (at_lookup; refine wpList_lookup_run rfl _ _ 32 rfl rfl rfl hlk ?_))
                    refine hof.mono ?_
                    rintro e w5 ⟨rfl, c5⟩
                    have HE2 := Lib.hid (And.intro (HE.out.1.keep c5 (fun e => e)) (HE.out.2.trans c5))
                    clear hof c5
                    go_wp2_with fail
                    go_roundw
                    case rel => exact ⟨k + 1, by omega, by go_num, HE2.out⟩
                    case measure => simp [intOf]; omega
                · obtain rfl : k = L.length := by omega
                  have HE := Lib.hid (cA.out.trans (hD2.out.new c).ch)
                  clear hM c
                  go_wp2_with fail
                  go_ret
                  exact ⟨rfl, HE.out⟩

end Go.Proofs.Ytlmeponoadhheaa
