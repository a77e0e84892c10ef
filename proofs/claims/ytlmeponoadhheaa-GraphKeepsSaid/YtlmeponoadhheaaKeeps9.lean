/-
  gleaninglaw09.GraphKeeps answers true: the walk.
-/
import Derived.Test.YtlmeponoadhheaaTwo9
namespace Go.Proofs.Ytlmeponoadhheaa
set_option linter.unusedVariables false
open Go.RowKit

set_option maxRecDepth 100000 in
set_option maxHeartbeats 8000000 in
theorem keeps_walk (cs : List Cls) (l : List OpG) (ks : List Int) (v u q : Value) (w : World) (hv : SeesC (fun k => k < w.heap.size) w v cs) (hfit : Fit cs) (hu : SeesG (fun k => k < w.heap.size) w u l) (hof : ∀ o ∈ l, o.Fits)
    (hq : SeesI (fun k => k < w.heap.size) w q ks) :
    Calls Try.prog 7 #[v, u, q] w fun e w' => e = .returned (.bool true) ∧ Ch0 w w' := by
  have HA := Lib.hid awake9
  have hlen := hv.len
  obtain ⟨a, c, rfl, hlen⟩ := hlen
  obtain ⟨qa, qc, rfl, hqlen⟩ := hq.len
  have HV := Lib.hid hv
  have HU := Lib.hid hu
  have HF := Lib.hid hfit
  have HO := Lib.hid hof
  have HQ := Lib.hid hq
  clear hv hu hfit hof hq
  have HW : Hid (∀ w', Ch0 w w' → _) := Lib.hid (fun w' (c : Ch0 w w') => few_any _ _ l w' (HU.out.keep c (fun _ _ e => e)))
  obtain ⟨fw, hfw⟩ : ∃ y, y = fewB l := ⟨_, rfl⟩
  rw [← hfw] at HW
  have hl100 : Hid (fw = true → l.length ≤ 100) := Lib.hid (fun h => few_len (by rw [← hfw]; exact h))
  clear hfw
  go_enter Try.func7, Try.ntmps7
  go_wp2_with fail
  refine (HA.out _).mono ?_
  rintro e w1 ⟨rfl, d1⟩
  replace d1 := Lib.hid d1
  go_wp2_with fail
  refine (HW.out _ d1.out).mono ?_
  rintro e w2 ⟨rfl, hs⟩
  obtain rfl := hs
  cases fw
  case false =>
    go_wp2_with fail
    refine (HA.out _).mono ?_
    rintro e w2 ⟨rfl, d2⟩
    have HE := Lib.hid (d1.out.trans d2)
    clear d2
    go_wp2_with fail
    go_ret
    exact ⟨rfl, HE.out⟩
  by_cases b2 : ks.length ≤ 100
  case neg =>
    have g3 : decide ((100 : Int) < ks.length) = true := decide_eq_true (by omega)
    go_wp2_with fail
    refine (HA.out _).mono ?_
    rintro e w2 ⟨rfl, d2⟩
    have HE := Lib.hid (d1.out.trans d2)
    clear d2
    go_wp2_with fail
    go_ret
    exact ⟨rfl, HE.out⟩
  have g2 : decide ((100 : Int) < ks.length) = false := decide_eq_false (by omega)
  by_cases b3 : cs.length ≤ 100
  case neg =>
    have g3 : decide ((100 : Int) < cs.length) = true := decide_eq_true (by omega)
    go_wp2_with fail
    refine (HA.out _).mono ?_
    rintro e w2 ⟨rfl, d2⟩
    have HE := Lib.hid (d1.out.trans d2)
    clear d2
    go_wp2_with fail
    go_ret
    exact ⟨rfl, HE.out⟩
  have g3 : decide ((100 : Int) < cs.length) = false := decide_eq_false (by omega)
  have HR : Hid (∀ w', Ch0 w w' → _) := Lib.hid (fun w' (c : Ch0 w w') => rnew_cls _ _ cs w' (HV.out.keep c (fun _ _ e => e)))
  have HN : Hid (∀ w', Ch0 w w' → _) := Lib.hid (fun w' (c : Ch0 w w') => newcls_any _ _ cs w' (HV.out.keep c (fun _ _ e => e)) HF.out)
  by_cases b4 : newC cs = 0
  case neg =>
    have g4 : (newC cs != 0) = true := by simpa using b4
    clear b4 HN
    generalize newC cs = nc at *
    go_wp2_with fail
    refine (HR.out _ d1.out).mono ?_
    rintro e w3 ⟨rfl, d3⟩
    replace d3 := Lib.hid (d1.out.trans d3)
    go_wp2_with fail
    refine (HA.out _).mono ?_
    rintro e w4 ⟨rfl, d4⟩
    have HE := Lib.hid (d3.out.trans d4)
    clear d4
    go_wp2_with fail
    go_ret
    exact ⟨rfl, HE.out⟩
  rw [b4] at HR HN
  have g4 : ((0 : Int) != 0) = false := rfl
  replace b4 := Lib.hid b4
  go_wp2_with fail
  refine (HR.out _ d1.out).mono ?_
  rintro e w3 ⟨rfl, d3⟩
  have d4 := Lib.hid (d1.out.trans d3)
  clear d3 HR
  go_wp2_with fail
  refine (HN.out _ d4.out).mono ?_
  rintro e w5 ⟨t, rfl, hT, d5⟩
  obtain ⟨p, rfl, hTab⟩ := newT_zero hT b4.out
  have hn := gnew_of hTab (Nat.le_refl _)
  have d6 := Lib.hid (d4.out.trans d5)
  replace hTab := Lib.hid hTab
  clear hT d5 d4 HN HW
  generalize w3.heap.size = lo at *
  go_wp2_with fail
  refine hn.mono ?_
  rintro e w6 ⟨b1, rfl, O1, hG, hO1, d7⟩
  have hn2 := gnew_of (hTab.out.keep d7 (fun _ _ _ e => e)) d7.size
  replace hG := Lib.hid hG
  replace hO1 := Lib.hid hO1
  have d8 := Lib.hid (d6.out.trans d7)
  have hs6 := Lib.hid d6.out.size
  clear hn d7 hTab
  generalize hhi : w5.heap.size = hi at *
  go_wp2_with fail
  refine hn2.mono ?_
  rintro e w7 ⟨b2', rfl, O2, hH, hO2, d9⟩
  have hT2 : Two w w7 cs p lo hi b1 O1 [] b2' O2 [] := Two.of hG.out d8.out (fun k hk => by have := hO1.out k hk; have := hs6.out; omega) hH hO2 d9
  clear hn2 hG hO1 hH hO2 d9 d8 hs6 hhi d6
  have hpl := play_of hT2.g _ _ l (HU.out.keep hT2.ch (fun _ _ e => e)) HO.out (fun k hk => ⟨fun h => by have := hT2.f1 k h; omega, by have := hT2.ch.size; omega⟩)
  replace hT2 := Lib.hid hT2
  clear d1
  go_wp2_with fail
  refine hpl.mono ?_
  rintro e w8 ⟨rfl, O3, hG, t8⟩
  have hT3 := hT2.out.first hG t8
  have hpl2 := play_of hT3.h _ _ l (HU.out.keep hT3.ch (fun _ _ e => e)) HO.out (fun k hk => ⟨fun h => by have := hT3.f2 k h; omega, by have := hT3.ch.size; omega⟩)
  replace hT3 := Lib.hid hT3
  clear hpl hT2 hG t8
  go_wp2_with fail
  refine hpl2.mono ?_
  rintro e w9 ⟨rfl, O4, hH, t9⟩
  have hT4 := hT3.out.second hH t9
  have hL : (playL cs [] l).length ≤ 100 := by
    have h1 := playL_len cs l []
    have h2 := hl100.out trivial
    simp at h1
    omega
  have hRI := refsIn_play (cs := cs) l (L := []) (fun nd h => by cases h)
  clear hpl2 hT3 hH t9
  generalize playL cs [] l = L at *
  have hkp := keep_of hT4.g (by omega) _ _ ks (HQ.out.keep hT4.ch (fun _ _ e => e))
  have hkl := fun nd (h : nd ∈ keepL L ks) => keep_law hRI ks h
  have hkle := keepL_len L ks
  replace hkl := Lib.hid hkl
  replace hT4 := Lib.hid hT4
  clear hRI
  obtain ⟨K, hK⟩ : ∃ K, K = keepL L ks := ⟨_, rfl⟩
  rw [← hK] at hkp hkl hkle
  clear hK
  go_wp2_with fail
  refine hkp.mono ?_
  rintro e wa ⟨rfl, hG, ta⟩
  have hT5 := hT4.out.first hG ta
  clear hkp hG ta hT4
  have hi := ids_of hT5.g (by omega)
  replace hT5 := Lib.hid hT5
  go_wp2_with fail
  refine hi.mono ?_
  rintro e w6 ⟨vi, rfl, r6, -, c6⟩
  obtain ⟨la, lc, ev, -, -⟩ := r6.isSlice
  rw [show (ids K).length = K.length by simp [ids]] at ev r6
  subst ev
  have hT6 := Lib.hid (hT5.out.new c6)
  replace r6 := Lib.hid r6
  clear hi c6 hT5
  go_wp2_with fail
  go_loopw [64] (fun i wr => ∃ j : Nat, j ≤ K.length ∧ i = .int .i64 j ∧ Ch0 w6 wr) (fun i _ => K.length - (intOf i).toNat)
  case atStart => exact ⟨0, Nat.zero_le _, rfl, Ch.refl _ _⟩
  case round =>
    obtain ⟨j, hj, rfl, d⟩ := hrel
    generalize wr = wR at *
    by_cases hlt : j < K.length
    · have hnd : K[j] ∈ K := List.getElem_mem hlt
      have hs : SeesI (fun k => rblk (.slice la K.length lc) = some k) wR (.slice la K.length lc) (ids K) := by
        have := (r6.out.keep d (fun _ _ e => e)).sees
        rw [show K.length = (ids K).length by simp [ids]] at this ⊢
        exact this
      have hil : (ids K).length = K.length := by simp [ids]
      obtain ⟨g, o, c5, -, e1, hcell⟩ := hs.cell (by omega)
      rw [hil] at e1
      obtain ⟨rfl, rfl⟩ : la = some ⟨g, o, none⟩ ∧ lc = c5 := by simpa using e1
      have hx := hcell j (by omega)
      rw [show (ids K).getD j 0 = K[j].id by simp [ids, List.getD_eq_getElem?_getD, hlt]] at hx
      clear hs e1 hcell hil
      have hT8 := hT6.out.new d
      have hlaw := hkl.out _ hnd
      generalize K[j] = fn at *
      obtain ⟨nd, hold, hid, hin, hfn⟩ := hlaw
      have hwf := hT8.g.wf _ hnd
      have hr60 := hwf.refs
      have hd60 := hwf.data
      have hwf2 := hT8.h.wf _ hold
      have hr61 := hwf2.refs
      have hd61 := hwf2.data
      have hNA := node_yes hT8.g.g hnd (by omega) (by omega)
      have HNB : Hid (∀ w', Ch0 wR w' → _) := Lib.hid (fun w' (c : Ch0 wR w') => node_yes (hT8.h.new c).g hold (by omega) (by omega))
      rw [hid] at HNB
      have i1 : (0 : Int) ≤ j := by omega
      have i2 : (j : Int) < K.length := by omega
      have hdW := Lib.hid hT8.ch
      replace hT8 := Lib.hid hT8
      replace hfn := Lib.hid hfn
      replace hid := Lib.hid hid
      replace hin := Lib.hid hin
      replace d := Lib.hid d
      clear hwf hwf2 hnd hold
      go_wp2_with fail
      refine hNA.mono ?_
      rintro e w1 ⟨av, ar, ad, rfl, hcp, c1⟩
      obtain ⟨ar, cr, rfl, -, -⟩ := hcp.refs.isSlice
      obtain ⟨ad, cd, rfl, -, -⟩ := hcp.data.isSlice
      obtain rfl : av = .agg #[.int .i64 fn.id, .int .i64 fn.cls, .slice ar fn.refs.length cr, .slice ad fn.data.length cd, .bool fn.fin] := hcp.v
      have hH1 := Held1.new hcp
      have cb1 : Ch0 w1 (w1.alloc (.cells #[.int .i64 fn.id, .int .i64 fn.cls, .slice ar fn.refs.length cr, .slice ad fn.data.length cd, .bool fn.fin] 36)) := (Ch.refl _ _).alloc _
      have c2 := c1.trans cb1
      have hx2 := c2.cell hx (fun e => e)
      have hNB := HNB.out _ c2
      replace c2 := Lib.hid c2
      have HX := Lib.hid hx
      replace hH1 := Lib.hid hH1
      have hW1s : Hid ((w1.alloc (.cells #[.int .i64 fn.id, .int .i64 fn.cls, .slice ar fn.refs.length cr, .slice ad fn.data.length cd, .bool fn.fin] 36)).heap.size = w1.heap.size + 1) := Lib.hid (World.size_alloc _ _)
      clear hNA hx hcp cb1 c1
      go_wp2_with fail
      generalize (w1.alloc (.cells #[.int .i64 fn.id, .int .i64 fn.cls, .slice ar fn.refs.length cr, .slice ad fn.data.length cd, .bool fn.fin] 36)) = W1 at *
      refine hNB.mono ?_
      rintro e w2 ⟨bv, br, bd, rfl, hcq, c3⟩
      have hH2 := Held1.new hcq
      obtain ⟨br, er, rfl, -, -⟩ := hcq.refs.isSlice
      obtain ⟨bd, ed, rfl, -, -⟩ := hcq.data.isSlice
      obtain rfl : bv = .agg #[.int .i64 nd.id, .int .i64 nd.cls, .slice br nd.refs.length er, .slice bd nd.data.length ed, .bool nd.fin] := hcq.v
      have cb2 : Ch0 w2 (w2.alloc (.cells #[.int .i64 nd.id, .int .i64 nd.cls, .slice br nd.refs.length er, .slice bd nd.data.length ed, .bool nd.fin] 36)) := (Ch.refl _ _).alloc _
      have hcq1 := hcq.refs.keep cb2 (fun _ _ e => e)
      have hcq2 := hcq.data.keep cb2 (fun _ _ e => e)
      have hBr : ∀ k, rblk (.slice br nd.refs.length er) = some k → W1.heap.size ≤ k ∧ k < w2.heap.size := fun k hk => ⟨hcq.fr k hk, hcq.refs.lt hk⟩
      have hBB := hcq.apart
      have c4 := c2.out.trans (c3.trans cb2)
      have bx := heap_alloc_new w2 (.cells #[.int .i64 nd.id, .int .i64 nd.cls, .slice br nd.refs.length er, .slice bd nd.data.length ed, .bool nd.fin] 36)
      have hx4 := c4.cell HX.out (fun e => e)
      have hH1' := hH1.out.keep (c3.trans cb2) (fun _ e => e.elim)
      have hsz1 := c2.out.size
      have hsz2 := c3.size
      replace hdW := Lib.hid (hdW.out.trans c4)
      replace c4 := Lib.hid c4
      have hhas := has_any _ _ ks fn.id _ (HQ.out.keep hdW.out (fun _ _ e => e))
      rw [decide_eq_true hin.out] at hhas
      clear hNB HNB hx2 hcq hH2 c3 cb2 hH1
      go_wp2_with fail
      refine hhas.mono ?_
      rintro e wx ⟨rfl, hs⟩
      obtain rfl := hs
      obtain ⟨B2, hB2⟩ : ∃ B2, B2 = w2.heap.size := ⟨_, rfl⟩
      obtain ⟨W2, hW2⟩ : ∃ W2, W2 = w2.alloc (.cells #[.int .i64 nd.id, .int .i64 nd.cls, .slice br nd.refs.length er, .slice bd nd.data.length ed, .bool nd.fin] 36) := ⟨_, rfl⟩
      rw [← hW2] at bx hdW c4 hcq1 hcq2 hH1' ⊢
      rw [← hB2] at bx hBr ⊢
      have y2 := cell_of_row W2 B2 2 _ _ _ bx
      simp at y2
      replace bx := Lib.hid bx
      replace hBB := Lib.hid hBB
      replace hcq2 := Lib.hid hcq2
      replace hBr := Lib.hid hBr
      replace hH1' := Lib.hid hH1'
      have HQ2 := Lib.hid (HQ.out.keep hdW.out (fun _ _ e => e))
      have hW0 := Lib.hid hdW.out.size
      have hW8 := Lib.hid hT8.out.ch.size
      clear hhas hx4 hB2 hW2
      go_wp2_with fail
      go_loopw [103] (fun i wq => ∃ k : Nat, k ≤ nd.refs.length ∧ i = .int .i64 k ∧ RowAt wq 3 1 (.slice br nd.refs.length er) nd.refs.length ((cutTo ks k nd.refs).map (Value.int .i64)) ∧ Ch (fun q => rblk (.slice br nd.refs.length er) = some q) W2 wq) (fun i _ => nd.refs.length - (intOf i).toNat)
      case atStart => exact ⟨0, Nat.zero_le _, rfl, by rw [cutTo_zero]; exact hcq1, Ch.refl _ _⟩
      case round =>
        obtain ⟨k, hk, rfl, hR, cS⟩ := hrel
        have hqq := HQ2.out.keep cS (fun k h e => by have := (hBr.out _ e).1; have := hW0.out; have := hW8.out; omega)
        by_cases hk2 : k < nd.refs.length
        · have y2k := cS.cell y2 (fun e => by have := (hBr.out B2 e).2; omega)
          obtain ⟨g2, o2, cap2, u2, e2, q1, q2, hR', cS'⟩ := row_set hR (by rw [cutTo_length]) k hk2 0
          obtain ⟨rfl, rfl⟩ : br = some ⟨g2, o2, none⟩ ∧ er = cap2 := by simpa using e2
          obtain ⟨g3, o3, cap3, -, e3, hc3⟩ := SeesI.cell (xs := cutTo ks k nd.refs) (v := .slice (some ⟨g2, o2, none⟩) nd.refs.length er) (w := wr) (by
            show Sees _ _ _ 1 (cutTo ks k nd.refs).length _
            rw [cutTo_length]; exact hR.sees) (by rw [cutTo_length]; omega)
          rw [cutTo_length] at e3 hc3
          simp only [Value.slice.injEq, Option.some.injEq, Addr.mk.injEq, true_and, and_true] at e3
          obtain ⟨⟨rfl, rfl⟩, rfl⟩ := e3
          have hx5 := hc3 k hk2
          rw [cutTo_get ks k _ hk2] at hx5
          clear q1
          have hh := has_any _ _ ks (nd.refs.getD k 0) wr hqq
          have i3 : (0 : Int) ≤ k := by omega
          have i4 : (k : Int) < nd.refs.length := by omega
          have HE1 := Lib.hid (And.intro hR cS)
          have HE2 := Lib.hid (And.intro hR' (cS.trans' cS' (fun _ _ q => q) (fun _ _ q => q)))
          by_cases hkk : nd.refs.getD k 0 ∈ ks
          · have hst := Lib.hid (cutTo_in ks k nd.refs hk2 hkk)
            rw [decide_eq_true hkk] at hh
            clear hkk hR hR' cS cS' hc3 e2 hqq
            generalize nd.refs.getD k 0 = X at *
            go_wp2_with fail
            refine hh.mono ?_
            rintro e wy ⟨rfl, hs⟩
            obtain rfl := hs
            clear hh
            go_wp2_with fail
            go_roundw
            case rel => exact ⟨k + 1, by omega, by go_num, by rw [hst.out]; exact HE1.out.1, HE1.out.2⟩
            case measure => simp [intOf]; omega
          · have hst := Lib.hid (cutTo_out ks k nd.refs hk2 hkk)
            rw [decide_eq_false hkk] at hh
            clear hkk hR hR' cS cS' hc3 e2 hqq
            generalize nd.refs.getD k 0 = X at *
            go_wp2_with fail
            refine hh.mono ?_
            rintro e wy ⟨rfl, hs⟩
            obtain rfl := hs
            clear hh
            go_wp2_with fail
            go_roundw
            case rel => exact ⟨k + 1, by omega, by go_num, by rw [hst.out]; exact HE2.out.1, HE2.out.2⟩
            case measure => simp [intOf]; omega
        · obtain rfl : k = nd.refs.length := by omega
          rw [cutTo_all] at hR
          have hS : ∀ k, rblk (.slice br nd.refs.length er) = some k → W1.heap.size ≤ k ∧ k < B2 := hBr.out
          have hcq3 := hcq2.out.keep cS (fun q h1 h2 => hBB.out q h2 h1)
          have bw := cS.keep bx.out (fun e => by have := (hS _ e).2; omega)
          have hHw := hH1'.out.keep cS (fun k e => by have := (hS _ e).1; have := hW1s.out; omega)
          have e1 : Ch0 wR wr := c4.out.trans' cS (fun _ _ e => e) (fun k hk e => by have := (hS k e).1; omega)
          have er3 : fn.refs = cutR ks nd.refs := by rw [hfn.out]; rfl
          have ed3 : fn.data = nd.data := by rw [hfn.out]
          have hlr : fn.refs.length = nd.refs.length := by rw [er3]; simp [cutR]
          have hld : fn.data.length = nd.data.length := by rw [ed3]
          have hfe : fn.id = nd.id ∧ fn.cls = nd.cls ∧ fn.fin = nd.fin := by rw [hfn.out]; exact ⟨rfl, rfl, rfl⟩
          have hsame := fin_same hHw hR hcq3 er3 ed3 hlr hld hfe (Ch.refl _ _)
          have p0 := cell_of_row _ B2 0 _ _ _ bw
          have p1 := cell_of_row _ B2 1 _ _ _ bw
          have p2 := cell_of_row _ B2 2 _ _ _ bw
          have p3 := cell_of_row _ B2 3 _ _ _ bw
          have p4 := cell_of_row _ B2 4 _ _ _ bw
          have s0 := hHw.y0
          have s1 := hHw.y1
          have s2 := hHw.y2
          have s3 := hHw.y3
          have s4 := hHw.y4
          replace e1 := Lib.hid e1
          clear hR hcq3 bw hHw er3 ed3 hlr hld hfe hqq cS hcq1
          go_wp2_with fail
          refine hsame.mono ?_
          rintro e w5 ⟨rfl, c12⟩
          have HE := Lib.hid (d.out.trans (e1.out.trans c12))
          clear hsame c12 e1 p0 p1 p2 p3 p4 s0 s1 s2 s3 s4 y2
          go_wp2_with fail
          go_roundw
          case rel => exact ⟨j + 1, by omega, by go_num, HE.out⟩
          case measure => simp [intOf]; omega
    · obtain rfl : j = K.length := by omega
      have hT9 := Lib.hid (hT6.out.new d)
      have r9 := Lib.hid (r6.out.keep d (fun _ _ e => e))
      clear d
      go_wp2_with fail
      refine (ids_of hT9.out.h (by omega)).mono ?_
      rintro e wb ⟨vh, rfl, rh, -, cb⟩
      obtain ⟨ha, hc, ev, -, -⟩ := rh.isSlice
      rw [show (ids L).length = L.length by simp [ids]] at ev
      subst ev
      have hTa := hT9.out.new cb
      have rb : SeesI (fun k => rblk (.slice la K.length lc) = some k) wb (.slice la K.length lc) (ids K) := by
        have := (r9.out.keep cb (fun _ _ e => e)).sees
        rw [show K.length = (ids K).length by simp [ids]] at this ⊢
        exact this
      have hk1 := keep_of hTa.g (by omega) _ _ (ids K) rb
      rw [show ((K.length : Int) - ((keepL K (ids K)).length : Int)) = 0 by rw [keep_again]; omega] at hk1
      have hKl : (keepL K (ids K)).length = K.length := keep_again K
      replace hTa := Lib.hid hTa
      clear rh cb rb hT9
      have t1 : ((L.length : Int) - (K.length : Int) == (L.length : Int) - (K.length : Int)) = true := by simp
      go_wp2_with fail
      refine hk1.mono ?_
      rintro e wc ⟨rfl, hG, tc⟩
      have hTb := hTa.out.first hG tc
      obtain ⟨K2, hK2⟩ : ∃ K2, K2 = keepL K (ids K) := ⟨_, rfl⟩
      rw [← hK2] at hTb hKl
      clear hK2 hG tc hk1 hTa
      have hk2 := keep_of hTb.g (by omega) (fun _ => False) (.slice none 0 0) [] SeesI.nil
      rw [keep_none, show ((K2.length : Int) - (([] : List GN).length : Int)) = K.length by rw [hKl]; simp] at hk2
      replace hTb := Lib.hid hTb
      replace hKl := Lib.hid hKl
      have t2 : ((K.length : Int) == (K.length : Int)) = true := by simp
      go_wp2_with fail
      refine hk2.mono ?_
      rintro e wd ⟨rfl, hG, td⟩
      have hTc := hTb.out.first hG td
      have hw := words_of hTc.g (by simp)
      rw [show gwords [] = 0 from rfl] at hw
      replace hTc := Lib.hid hTc
      clear hG td hk2 hTb
      go_wp2_with fail
      refine hw.mono ?_
      rintro e wf ⟨rfl, cf⟩
      have HE := Lib.hid (hTc.out.ch.trans cf)
      clear cf hw
      go_wp2_with fail
      go_ret
      exact ⟨rfl, HE.out⟩

end Go.Proofs.Ytlmeponoadhheaa
