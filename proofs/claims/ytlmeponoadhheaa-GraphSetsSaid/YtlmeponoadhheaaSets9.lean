/-
  gleaninglaw09.GraphSets answers true: the walk.
-/
import Derived.Test.YtlmeponoadhheaaTwo9
namespace Go.Proofs.Ytlmeponoadhheaa
set_option linter.unusedVariables false
open Go.RowKit

set_option maxRecDepth 100000 in
set_option maxHeartbeats 8000000 in
theorem sets_walk (cs : List Cls) (l : List OpG) (o : OpG) (v u : Value) (w : World) (hv : SeesC (fun k => k < w.heap.size) w v cs) (hfit : Fit cs) (hu : SeesG (fun k => k < w.heap.size) w u l) (hof : ∀ o ∈ l, o.Fits)
    (hs : SeesI (fun k => k < w.heap.size) w o.v o.ls) :
    Calls Try.prog 5 #[v, u, .agg #[.int .i64 o.kind, .int .i64 o.a, .int .i64 o.b, .int .i64 o.c, o.v]] w fun e w' => e = .returned (.bool true) ∧ Ch0 w w' := by
  have HA := Lib.hid awake9
  have hlen := hv.len
  obtain ⟨a, c, rfl, hlen⟩ := hlen
  have cb : Ch0 w (w.alloc (.cells #[.int .i64 o.kind, .int .i64 o.a, .int .i64 o.b, .int .i64 o.c, o.v] 54)) := (Ch.refl _ _).alloc _
  have bb := heap_alloc_new w (.cells #[.int .i64 o.kind, .int .i64 o.a, .int .i64 o.b, .int .i64 o.c, o.v] 54)
  have hM : w.heap.size < (w.alloc (.cells #[.int .i64 o.kind, .int .i64 o.a, .int .i64 o.b, .int .i64 o.c, o.v] 54)).heap.size := by rw [World.size_alloc]; omega
  have HV := Lib.hid ((hv.keep cb (fun _ _ e => e)).mono (D' := fun k => k < (w.alloc (.cells #[.int .i64 o.kind, .int .i64 o.a, .int .i64 o.b, .int .i64 o.c, o.v] 54)).heap.size) (fun k hk => by omega))
  have hu2 := hu.keep cb (fun _ _ e => e)
  have HU : Hid (SeesG (fun k => k < (w.alloc (.cells #[.int .i64 o.kind, .int .i64 o.a, .int .i64 o.b, .int .i64 o.c, o.v] 54)).heap.size) (w.alloc (.cells #[.int .i64 o.kind, .int .i64 o.a, .int .i64 o.b, .int .i64 o.c, o.v] 54)) u l) :=
    Lib.hid ⟨hu2.row.mono (fun k hk => by omega), fun o ho => (hu2.ls o ho).mono (fun k hk => by omega)⟩
  have HS := Lib.hid (hs.keep cb (fun _ _ e => e))
  have HF := Lib.hid hfit
  have HO := Lib.hid hof
  obtain ⟨va, vc, ev, -⟩ := hs.len
  clear hv hu hu2 hfit hof hs
  obtain ⟨kd, A, B, C, ov, ls⟩ := o
  simp only at *
  subst ev
  have HW : Hid (∀ w', Ch0 (w.alloc (.cells #[.int .i64 kd, .int .i64 A, .int .i64 B, .int .i64 C, .slice va ls.length vc] 54)) w' → _) := Lib.hid (fun w' (c : Ch0 _ w') => few_any _ _ l w' (HU.out.keep c (fun _ _ e => e)))
  obtain ⟨fw, hfw⟩ : ∃ y, y = fewB l := ⟨_, rfl⟩
  rw [← hfw] at HW
  have hl100 : Hid (fw = true → l.length ≤ 100) := Lib.hid (fun h => few_len (by rw [← hfw]; exact h))
  replace cb := Lib.hid cb
  replace bb := Lib.hid bb
  replace hM := Lib.hid hM
  clear hfw
  go_enter Try.func5, Try.ntmps5
  go_wp2_with fail
  refine (HA.out _).mono ?_
  rintro e w1 ⟨rfl, d1⟩
  generalize w.heap.size = P at *
  generalize (w.alloc (.cells #[.int .i64 kd, .int .i64 A, .int .i64 B, .int .i64 C, .slice va ls.length vc] 54)) = WA at *
  have HC : Hid (∀ w', Ch0 WA w' → _) := Lib.hid (fun w' c => cb.out.trans c)
  have HP : Hid (∀ w', Ch0 WA w' → w'.cell? ⟨P, 0, none⟩ = some (.int .i64 kd) ∧ w'.cell? ⟨P, 1, none⟩ = some (.int .i64 A) ∧ w'.cell? ⟨P, 2, none⟩ = some (.int .i64 B) ∧ w'.cell? ⟨P, 3, none⟩ = some (.int .i64 C) ∧ w'.cell? ⟨P, 4, none⟩ = some (.slice va ls.length vc)) :=
    Lib.hid (fun w' c => ⟨c.cell (cell_of_row _ P 0 _ _ _ bb.out) (fun e => e), c.cell (cell_of_row _ P 1 _ _ _ bb.out) (fun e => e), c.cell (cell_of_row _ P 2 _ _ _ bb.out) (fun e => e), c.cell (cell_of_row _ P 3 _ _ _ bb.out) (fun e => e), c.cell (cell_of_row _ P 4 _ _ _ bb.out) (fun e => e)⟩)
  replace d1 := Lib.hid d1
  clear cb bb
  go_wp2_with fail
  refine (HW.out _ d1.out).mono ?_
  rintro e w2 ⟨rfl, hs⟩
  obtain rfl := hs
  obtain ⟨y0, y1, y2, y3, y4⟩ := HP.out _ d1.out
  cases fw
  case false =>
    go_wp2_with fail
    refine (HA.out _).mono ?_
    rintro e w2 ⟨rfl, d2⟩
    have HE := Lib.hid (HC.out _ (d1.out.trans d2))
    clear d2
    go_wp2_with fail
    go_ret
    exact ⟨rfl, HE.out⟩
  have hf1 := few_any _ _ _ _ (seesG_one ⟨kd, A, B, C, .slice va ls.length vc, ls⟩ (HS.out.keep d1.out (fun _ _ e => e)))
  have d2 := Lib.hid (d1.out.trans ((Ch.refl (fun _ => False) w1).alloc (.cells #[.int .i64 kd, .int .i64 A, .int .i64 B, .int .i64 C, .slice va ls.length vc] 54)))
  obtain ⟨z0, z1, z2, z3, z4⟩ := HP.out _ d2.out
  go_wp2_with fail
  refine hf1.mono ?_
  rintro e w2 ⟨rfl, hsw⟩
  obtain rfl := hsw
  clear hf1 y0 y1 y2 y3 y4 z0 z1 z2 z3 z4 d1
  generalize w1.alloc _ = w2 at *
  generalize fewB [⟨kd, A, B, C, .slice va ls.length vc, ls⟩] = f1 at *
  cases f1
  case false =>
    go_wp2_with fail
    refine (HA.out _).mono ?_
    rintro e w3 ⟨rfl, e3⟩
    have HE := Lib.hid (HC.out _ (d2.out.trans e3))
    clear e3
    go_wp2_with fail
    go_ret
    exact ⟨rfl, HE.out⟩
  by_cases b3 : cs.length ≤ 100
  case neg =>
    have g3 : decide ((100 : Int) < cs.length) = true := decide_eq_true (by omega)
    go_wp2_with fail
    refine (HA.out _).mono ?_
    rintro e w3 ⟨rfl, e3⟩
    have HE := Lib.hid (HC.out _ (d2.out.trans e3))
    clear e3
    go_wp2_with fail
    go_ret
    exact ⟨rfl, HE.out⟩
  have g3 : decide ((100 : Int) < cs.length) = false := decide_eq_false (by omega)
  have HR : Hid (∀ w', Ch0 WA w' → _) := Lib.hid (fun w' (c : Ch0 WA w') => rnew_cls _ _ cs w' (HV.out.keep c (fun _ _ e => e)))
  have HN : Hid (∀ w', Ch0 WA w' → _) := Lib.hid (fun w' (c : Ch0 WA w') => newcls_any _ _ cs w' (HV.out.keep c (fun _ _ e => e)) HF.out)
  by_cases b4 : newC cs = 0
  case neg =>
    have g4 : (newC cs != 0) = true := by simpa using b4
    clear b4 HN
    generalize newC cs = nc at *
    go_wp2_with fail
    refine (HR.out _ d2.out).mono ?_
    rintro e w3 ⟨rfl, d3⟩
    replace d3 := Lib.hid (d2.out.trans d3)
    go_wp2_with fail
    refine (HA.out _).mono ?_
    rintro e w4 ⟨rfl, d4⟩
    have HE := Lib.hid (HC.out _ (d3.out.trans d4))
    clear d4
    go_wp2_with fail
    go_ret
    exact ⟨rfl, HE.out⟩
  rw [b4] at HR HN
  have g4 : ((0 : Int) != 0) = false := rfl
  replace b4 := Lib.hid b4
  go_wp2_with fail
  refine (HR.out _ d2.out).mono ?_
  rintro e w3 ⟨rfl, d3⟩
  have d4 := Lib.hid (d2.out.trans d3)
  clear d3 HR
  go_wp2_with fail
  refine (HN.out _ d4.out).mono ?_
  rintro e w5 ⟨t, rfl, hT, d5⟩
  obtain ⟨p, rfl, hTab⟩ := newT_zero hT b4.out
  have hn := gnew_of hTab (Nat.le_refl _)
  have d6 := Lib.hid (d4.out.trans d5)
  replace hTab := Lib.hid hTab
  clear hT d5 d4 HN HW
  generalize w3.heap.size = lo at *
  go_wp2_with fail
  refine hn.mono ?_
  rintro e w6 ⟨b1, rfl, O1, hG, hO1, d7⟩
  have hn2 := gnew_of (hTab.out.keep d7 (fun _ _ _ e => e)) d7.size
  replace hG := Lib.hid hG
  replace hO1 := Lib.hid hO1
  have d8 := Lib.hid (d6.out.trans d7)
  have hs6 := Lib.hid d6.out.size
  clear hn d7 hTab
  generalize hhi : w5.heap.size = hi at *
  go_wp2_with fail
  refine hn2.mono ?_
  rintro e w7 ⟨b2, rfl, O2, hH, hO2, d9⟩
  have hT2 : Two WA w7 cs p lo hi b1 O1 [] b2 O2 [] := Two.of hG.out d8.out (fun k hk => by have := hO1.out k hk; have := hs6.out; omega) hH hO2 d9
  clear hn2 hG hO1 hH hO2 d9 d8 hs6 hhi d6
  have hpl := play_of hT2.g _ _ l (HU.out.keep hT2.ch (fun _ _ e => e)) HO.out (fun k hk => ⟨fun h => by have := hT2.f1 k h; omega, by have := hT2.ch.size; omega⟩)
  replace hT2 := Lib.hid hT2
  clear d2
  go_wp2_with fail
  refine hpl.mono ?_
  rintro e w8 ⟨rfl, O3, hG, t8⟩
  have hT3 := hT2.out.first hG t8
  have hpl2 := play_of hT3.h _ _ l (HU.out.keep hT3.ch (fun _ _ e => e)) HO.out (fun k hk => ⟨fun h => by have := hT3.f2 k h; omega, by have := hT3.ch.size; omega⟩)
  replace hT3 := Lib.hid hT3
  clear hpl hT2 hG t8
  go_wp2_with fail
  refine hpl2.mono ?_
  rintro e w9 ⟨rfl, O4, hH, t9⟩
  have hT4 := hT3.out.second hH t9
  have hL : (playL cs [] l).length ≤ 100 := by
    have h1 := playL_len cs l []
    have h2 := hl100.out trivial
    simp at h1
    omega
  clear hpl2 hT3 hH t9
  generalize playL cs [] l = L at *
  obtain ⟨z0, z1, z2, z3, z4⟩ := HP.out _ hT4.ch
  have hset := setref_of hT4.g A B C
  replace hT4 := Lib.hid hT4
  go_wp2_with fail
  refine hset.mono ?_
  rintro e wa ⟨rfl, hG, ta⟩
  have hT5 := hT4.out.first hG ta
  clear hset hG ta hT4 z0 z1 z2 z3 z4
  obtain ⟨z0, z1, z2, z3, z4⟩ := HP.out _ hT5.ch
  have hnum := setnum_of hT5.g A B C
  obtain ⟨odd, hodd⟩ : ∃ x, (kd.tmod 2 == 1) = x := ⟨_, rfl⟩
  have hrl := Lib.hid hT5.h.g.rise
  obtain ⟨E, hE⟩ : ∃ E, E = setRefE L A B C := ⟨_, rfl⟩
  obtain ⟨F, hF⟩ : ∃ F, F = (if odd = true then setNumE (setRefL L A B C) A B else 0) := ⟨_, rfl⟩
  obtain ⟨L2, hL2⟩ : ∃ L2, L2 = (if odd = true then setNumL (setRefL L A B C) A B C else setRefL L A B C) := ⟨_, rfl⟩
  have hmem : Hid (∀ nd ∈ L, _) := Lib.hid (fun nd hnd => sets_law hrl.out A B C odd hE hF hnd)
  rw [← hL2] at hmem
  rw [← hE]
  replace hE := Lib.hid hE
  cases odd
  case' false =>
    have hT6 : Two WA wa cs p lo hi b1 O3 L2 b2 O4 L := by rw [hL2]; exact hT5
    obtain rfl : F = 0 := hF
    replace hF : Hid ((0 : Int) = (if false = true then setNumE (setRefL L A B C) A B else 0)) := Lib.hid rfl
    replace hT6 := Lib.hid hT6
    replace hL2 := Lib.hid hL2
    clear hT5 hnum
    go_wp2_with fail
  case' true =>
    rw [show setNumE (setRefL L A B C) A B = F from hF.symm] at hnum
    replace hT5 := Lib.hid hT5
    replace hF := Lib.hid hF
    go_wp2_with fail
    refine hnum.mono ?_
    rintro e wb ⟨rfl, hG, tb⟩
    have hT6 : Two WA wb cs p lo hi b1 O3 L2 b2 O4 L := by rw [hL2]; exact hT5.out.first hG tb
    replace hT6 := Lib.hid hT6
    replace hL2 := Lib.hid hL2
    clear hT5 hnum hG tb
    go_wp2_with fail
    generalize wb = wa at *
  all_goals
    have hi := ids_of hT6.out.h (by omega)
    clear z0 z1 z2 z3 z4
    refine hi.mono ?_
    rintro e w6 ⟨vi, rfl, r6, -, c6⟩
    obtain ⟨la, lc, ev, -, -⟩ := r6.isSlice
    rw [show (ids L).length = L.length by simp [ids]] at ev r6
    subst ev
    have hT7 := Lib.hid (hT6.out.new c6)
    replace r6 := Lib.hid r6
    clear hi c6 hT6
    go_wp2_with fail
    go_loopw [82] (fun i wr => ∃ j : Nat, j ≤ L.length ∧ i = .int .i64 j ∧ Ch0 w6 wr) (fun i _ => L.length - (intOf i).toNat)
    case atStart => exact ⟨0, Nat.zero_le _, rfl, Ch.refl _ _⟩
    case round =>
      obtain ⟨j, hj, rfl, d⟩ := hrel
      generalize wr = wR at *
      by_cases hlt : j < L.length
      · have hnd : L[j] ∈ L := List.getElem_mem hlt
        have hs : SeesI (fun k => rblk (.slice la L.length lc) = some k) wR (.slice la L.length lc) (ids L) := by
          have := (r6.out.keep d (fun _ _ e => e)).sees
          rw [show L.length = (ids L).length by simp [ids]] at this ⊢
          exact this
        have hil : (ids L).length = L.length := by simp [ids]
        obtain ⟨g, o, c5, -, e1, hcell⟩ := hs.cell (by omega)
        rw [hil] at e1
        obtain ⟨rfl, rfl⟩ : la = some ⟨g, o, none⟩ ∧ lc = c5 := by simpa using e1
        have hx := hcell j (by omega)
        rw [show (ids L).getD j 0 = L[j].id by simp [ids, List.getD_eq_getElem?_getD, hlt]] at hx
        clear hs e1 hcell hil
        have hT8 := hT7.out.new d
        have hfm := hmem.out _ hnd
        generalize L[j] = nd at *
        obtain ⟨fn, hfm, hfid, hfc, hff, hfr, hfd⟩ := hfm
        have hwf := hT8.g.wf _ hfm
        have hr60 := hwf.refs
        have hd60 := hwf.data
        have hwf2 := hT8.h.wf _ hnd
        have hr61 := hwf2.refs
        have hd61 := hwf2.data
        have hNA := node_yes hT8.g.g hfm (by omega) (by omega)
        rw [hfid] at hNA
        have HNB : Hid (∀ w', Ch0 wR w' → _) := Lib.hid (fun w' (c : Ch0 wR w') => node_yes (hT8.h.new c).g hnd (by omega) (by omega))
        have i1 : (0 : Int) ≤ j := by omega
        have i2 : (j : Int) < L.length := by omega
        have hdW := Lib.hid hT8.ch
        replace hT8 := Lib.hid hT8
        replace hfr := Lib.hid hfr
        replace hfd := Lib.hid hfd
        have hfeq := Lib.hid (And.intro hfid (And.intro hfc hff))
        replace d := Lib.hid d
        clear hwf hwf2 hfid hfc hff hfm hnd
        go_wp2_with fail
        refine hNA.mono ?_
        rintro e w1 ⟨av, ar, ad, rfl, hcp, c1⟩
        obtain ⟨ar, cr, rfl, -, -⟩ := hcp.refs.isSlice
        obtain ⟨ad, cd, rfl, -, -⟩ := hcp.data.isSlice
        obtain rfl : av = .agg #[.int .i64 fn.id, .int .i64 fn.cls, .slice ar fn.refs.length cr, .slice ad fn.data.length cd, .bool fn.fin] := hcp.v
        have hH1 := Held1.new hcp
        have cb1 : Ch0 w1 (w1.alloc (.cells #[.int .i64 fn.id, .int .i64 fn.cls, .slice ar fn.refs.length cr, .slice ad fn.data.length cd, .bool fn.fin] 36)) := (Ch.refl _ _).alloc _
        have c2 := c1.trans cb1
        have hx2 := c2.cell hx (fun e => e)
        have hNB := HNB.out _ c2
        replace c2 := Lib.hid c2
        have HX := Lib.hid hx
        replace hH1 := Lib.hid hH1
        have hW1s : Hid ((w1.alloc (.cells #[.int .i64 fn.id, .int .i64 fn.cls, .slice ar fn.refs.length cr, .slice ad fn.data.length cd, .bool fn.fin] 36)).heap.size = w1.heap.size + 1) := Lib.hid (World.size_alloc _ _)
        clear hNA hx hcp cb1 c1
        go_wp2_with fail
        generalize (w1.alloc (.cells #[.int .i64 fn.id, .int .i64 fn.cls, .slice ar fn.refs.length cr, .slice ad fn.data.length cd, .bool fn.fin] 36)) = W1 at *
        refine hNB.mono ?_
        rintro e w2 ⟨bv, br, bd, rfl, hcq, c3⟩
        have hH2 := Held1.new hcq
        obtain ⟨br, er, rfl, -, -⟩ := hcq.refs.isSlice
        obtain ⟨bd, ed, rfl, -, -⟩ := hcq.data.isSlice
        obtain rfl : bv = .agg #[.int .i64 nd.id, .int .i64 nd.cls, .slice br nd.refs.length er, .slice bd nd.data.length ed, .bool nd.fin] := hcq.v
        have cb2 : Ch0 w2 (w2.alloc (.cells #[.int .i64 nd.id, .int .i64 nd.cls, .slice br nd.refs.length er, .slice bd nd.data.length ed, .bool nd.fin] 36)) := (Ch.refl _ _).alloc _
        have hcq1 := hcq.refs.keep cb2 (fun _ _ e => e)
        have hcq2 := hcq.data.keep cb2 (fun _ _ e => e)
        have hBr : ∀ k, rblk (.slice br nd.refs.length er) = some k → W1.heap.size ≤ k ∧ k < w2.heap.size := fun k hk => ⟨hcq.fr k hk, hcq.refs.lt hk⟩
        have hBd : ∀ k, rblk (.slice bd nd.data.length ed) = some k → W1.heap.size ≤ k ∧ k < w2.heap.size := fun k hk => ⟨hcq.fd k hk, hcq.data.lt hk⟩
        have hBB := hcq.apart
        have c4 := c2.out.trans (c3.trans cb2)
        have bx := heap_alloc_new w2 (.cells #[.int .i64 nd.id, .int .i64 nd.cls, .slice br nd.refs.length er, .slice bd nd.data.length ed, .bool nd.fin] 36)
        have hx4 := c4.cell HX.out (fun e => e)
        have hH1' := hH1.out.keep (c3.trans cb2) (fun _ e => e.elim)
        have hsz1 := c2.out.size
        have hsz2 := c3.size
        replace hdW := Lib.hid (hdW.out.trans c4)
        replace c4 := Lib.hid c4
        clear hNB HNB hx2 hcq hH2 c3 cb2 hH1
        obtain ⟨B2, hB2⟩ : ∃ B2, B2 = w2.heap.size := ⟨_, rfl⟩
        obtain ⟨W2, hW2⟩ : ∃ W2, W2 = w2.alloc (.cells #[.int .i64 nd.id, .int .i64 nd.cls, .slice br nd.refs.length er, .slice bd nd.data.length ed, .bool nd.fin] 36) := ⟨_, rfl⟩
        rw [← hW2] at bx hx4 hdW c4 hcq1 hcq2 hH1'
        rw [← hB2] at bx hBr hBd
        /- whatever is stored into b's lists: what is there then -/
        have hfine : ∀ wF, Ch (fun k => rblk (.slice br nd.refs.length er) = some k ∨ rblk (.slice bd nd.data.length ed) = some k) W2 wF →
            (wF.cell? ⟨P, 0, none⟩ = some (.int .i64 kd) ∧ wF.cell? ⟨P, 1, none⟩ = some (.int .i64 A) ∧ wF.cell? ⟨P, 2, none⟩ = some (.int .i64 B) ∧ wF.cell? ⟨P, 3, none⟩ = some (.int .i64 C)) ∧
            (wF.cell? ⟨g, o + j, none⟩ = some (.int .i64 nd.id)) ∧ wF.heap[B2]? = some (.cells #[.int .i64 nd.id, .int .i64 nd.cls, .slice br nd.refs.length er, .slice bd nd.data.length ed, .bool nd.fin] 36 (0, 0)) ∧
            Held1 (w1.heap.size + 1) wF w1.heap.size fn (.slice ar fn.refs.length cr) (.slice ad fn.data.length cd) ∧ Ch0 wR wF := by
          intro wF cF
          have hS : ∀ k, (rblk (.slice br nd.refs.length er) = some k ∨ rblk (.slice bd nd.data.length ed) = some k) → W1.heap.size ≤ k ∧ k < B2 := fun k hk => hk.elim (hBr k) (hBd k)
          have e1 : Ch0 wR wF := c4.out.trans' cF (fun _ _ e => e) (fun k hk e => by have := (hS k e).1; omega)
          have e2 : Ch0 WA wF := hdW.out.trans' cF (fun _ _ e => e) (fun k hk e => by have h1 := (hS k e).1; have h2 := hT8.out.ch.size; omega)
          obtain ⟨z0, z1, z2, z3, z4⟩ := HP.out _ e2
          refine ⟨⟨z0, z1, z2, z3⟩, e1.cell HX.out (fun e => e), cF.keep bx (fun e => by have := (hS _ e).2; omega), hH1'.keep cF (fun k e => ?_), e1⟩
          have := (hS k e).1
          have := hW1s.out
          omega
        have hbr : rblk (.slice br nd.refs.length er) ≠ some B2 := fun e => by have := (hBr _ e).2; omega
        have hbd : rblk (.slice bd nd.data.length ed) ≠ some B2 := fun e => by have := (hBd _ e).2; omega
        subst hW2
        subst hB2
        replace bx := Lib.hid bx
        have f0 := hfine _ (Ch.refl _ _)
        by_cases hA : nd.id = A
        case' neg =>
          have t1 : (nd.id == A) = false := by simpa using hA
          have er3 : fn.refs = nd.refs := by rcases hfr.out with ⟨q, -⟩ | ⟨-, q⟩; exact absurd q hA; exact q
          have ed3 : fn.data = nd.data := by rcases hfd.out with ⟨q, -⟩ | ⟨-, q⟩; exact absurd q hA; exact q
          obtain ⟨⟨z0, z1, z2, z3⟩, hx4, bw, hH1w, e1⟩ := f0
          have hq1 := hcq1
          have hq2 := hcq2
        case' pos =>
          have t1 : (nd.id == A) = true := by simpa using hA
          have f0' := f0
          obtain ⟨⟨x0, x1, x2, x3⟩, hx5, bv, -, -⟩ := f0'
          have v2 := cell_of_row _ w2.heap.size 2 _ _ _ bv
          have v3 := cell_of_row _ w2.heap.size 3 _ _ _ bv
          replace bv := Lib.hid bv
          rcases hfr.out with ⟨-, eE, n0, n1, er3⟩ | ⟨nE, er3⟩
          case' pos.inl =>
            have t2 : (E == 0) = true := by simpa using eE
            clear eE
            obtain ⟨n, rfl⟩ := Int.eq_ofNat_of_zero_le n0
            obtain ⟨g2, o2, cap2, u2, e2, q1, q2, hR1, cS1⟩ := row_set hcq1 rfl n (by omega) C
            obtain ⟨rfl, rfl⟩ : br = some ⟨g2, o2, none⟩ ∧ er = cap2 := by simpa using e2
            have i3 : (0 : Int) ≤ n := by omega
            have i4 : (n : Int) < nd.refs.length := by omega
            have f1 := hfine _ (cS1.mono (fun k _ e => .inl e))
            have hcq3 := hcq2.keep cS1 (fun k e1 e2 => hBB k e2 e1)
            rcases hfd.out with ⟨-, eO, eF, m0, m1, ed3⟩ | ⟨nF, ed3⟩
          case' pos.inl.inl =>
            first
              | exact absurd eO (by decide)
              | (have t4 : (F == 0) = true := by simpa using eF
                 clear eF
                 obtain ⟨⟨y0, y1, y2, y3⟩, hx6, bu, -, -⟩ := f1
                 have c2 := cell_of_row _ w2.heap.size 2 _ _ _ bu
                 have c3 := cell_of_row _ w2.heap.size 3 _ _ _ bu
                 replace bu := Lib.hid bu
                 obtain ⟨g3, o3, cap3, u3, e3, q3, q4, hR2, cS2⟩ := row_set hcq3 rfl n (by omega) C
                 obtain ⟨rfl, rfl⟩ : bd = some ⟨g3, o3, none⟩ ∧ ed = cap3 := by simpa using e3
                 have i5 : (n : Int) < nd.data.length := by omega
                 have hq1 := hR1.keep cS2 (fun k e1 e2 => hBB k e1 e2)
                 have hq2 := hR2
                 obtain ⟨⟨z0, z1, z2, z3⟩, hx4, bw, hH1w, e1⟩ := hfine _ (cS1.trans' cS2 (fun k _ e => .inl e) (fun k _ e => .inr e))
                 clear hR1 hR2 cS1 cS2 hcq3 e2 e3)
          case' pos.inl.inr =>
            have hq1 := hR1
            have hq2 := hcq3
            obtain ⟨⟨z0, z1, z2, z3⟩, hx4, bw, hH1w, e1⟩ := f1
            first
              | (have t4 : (F == 0) = false := beq_eq_false_iff_ne.2 (fun e => nF ⟨hA, trivial, e⟩))
              | skip
            clear hR1 cS1 hcq3 e2
          case' pos.inr =>
            have t2 : (E == 0) = false := by
              have : E ≠ 0 := fun e => nE ⟨hA, e⟩
              simpa using this
            rcases hfd.out with ⟨-, eO, eF, m0, m1, ed3⟩ | ⟨nF, ed3⟩
          case' pos.inr.inl =>
            first
              | exact absurd eO (by decide)
              | (have t4 : (F == 0) = true := by simpa using eF
                 clear eF
                 obtain ⟨n, rfl⟩ := Int.eq_ofNat_of_zero_le m0
                 obtain ⟨g3, o3, cap3, u3, e3, q3, q4, hR2, cS2⟩ := row_set hcq2 rfl n (by omega) C
                 obtain ⟨rfl, rfl⟩ : bd = some ⟨g3, o3, none⟩ ∧ ed = cap3 := by simpa using e3
                 have i3 : (0 : Int) ≤ n := by omega
                 have i5 : (n : Int) < nd.data.length := by omega
                 have hq1 := hcq1.keep cS2 (fun k e1 e2 => hBB k e1 e2)
                 have hq2 := hR2
                 obtain ⟨⟨z0, z1, z2, z3⟩, hx4, bw, hH1w, e1⟩ := hfine _ (cS2.mono (fun k _ e => .inr e))
                 clear hR2 cS2 e3)
          case' pos.inr.inr =>
            have hq1 := hcq1
            have hq2 := hcq2
            obtain ⟨⟨z0, z1, z2, z3⟩, hx4, bw, hH1w, e1⟩ := f0
            first
              | (have t4 : (F == 0) = false := beq_eq_false_iff_ne.2 (fun e => nF ⟨hA, trivial, e⟩))
              | skip
        all_goals
          have hlr : fn.refs.length = nd.refs.length := by rw [er3]; try rw [List.length_set]
          have hld : fn.data.length = nd.data.length := by rw [ed3]; try rw [List.length_set]
          have p0 := cell_of_row _ w2.heap.size 0 _ _ _ bw
          have p1 := cell_of_row _ w2.heap.size 1 _ _ _ bw
          have p2 := cell_of_row _ w2.heap.size 2 _ _ _ bw
          have p3 := cell_of_row _ w2.heap.size 3 _ _ _ bw
          have p4 := cell_of_row _ w2.heap.size 4 _ _ _ bw
          have s0 := hH1w.y0
          have s1 := hH1w.y1
          have s2 := hH1w.y2
          have s3 := hH1w.y3
          have s4 := hH1w.y4
          replace bw := Lib.hid bw
          replace hH1w := Lib.hid hH1w
          replace e1 := Lib.hid e1
          replace hq1 := Lib.hid hq1
          replace hq2 := Lib.hid hq2
          have hsame : Hid (∀ wq, _) := Lib.hid (fun wq => fin_same (wq := wq) hH1w.out hq1.out hq2.out er3 ed3 hlr hld hfeq.out)
          replace hlr := Lib.hid hlr
          replace hld := Lib.hid hld
          replace er3 := Lib.hid er3
          replace ed3 := Lib.hid ed3
          clear hfine hcq1 hcq2 hA hBB hbr hbd
          have hsd := setCell_drewN
          go_wp2_with fail
          go_quiet (fail)
          go_wp2_with fail
          go_quiet (fail)
          go_wp2_with fail
          rename_i nq2
          refine (hsame.out _ ((Ch.refl _ _).drewN _)).mono ?_
          rintro e w5 ⟨rfl, c12⟩
          have HE := Lib.hid (d.out.trans (e1.out.trans (((Ch.refl _ _).drewN _).trans c12)))
          clear hsame c12 hsd e1 bw hH1w hq1 hq2 p0 p1 p2 p3 p4 s0 s1 s2 s3 s4 z0 z1 z2 z3
          go_wp2_with fail
          go_roundw
          case rel => exact ⟨j + 1, by omega, by go_num, HE.out⟩
          case measure => simp [intOf]; omega
      · obtain rfl : j = L.length := by omega
        have HE := Lib.hid (HC.out _ (hT7.out.ch.trans d))
        clear d
        go_wp2_with fail
        go_ret
        exact ⟨rfl, HE.out⟩

end Go.Proofs.Ytlmeponoadhheaa
