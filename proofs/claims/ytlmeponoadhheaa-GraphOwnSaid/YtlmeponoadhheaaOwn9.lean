/-
  gleaninglaw09.GraphOwn answers true: the walk.
-/
import Derived.Test.YtlmeponoadhheaaOwn9a
import Derived.Test.YtlmeponoadhheaaHeld9
namespace Go.Proofs.Ytlmeponoadhheaa
set_option linter.unusedVariables false
open Go.RowKit

set_option maxRecDepth 100000 in
set_option maxHeartbeats 8000000 in
theorem own_walk (cs : List Cls) (l : List OpG) (v u : Value) (x : Int) (w : World) (hv : SeesC (fun k => k < w.heap.size) w v cs) (hfit : Fit cs) (hu : SeesG (fun k => k < w.heap.size) w u l) (hof : ∀ o ∈ l, o.Fits) :
    Calls Try.prog 4 #[v, u, .int .i64 x] w fun e w' => e = .returned (.bool true) ∧ Ch0 w w' := by
  have HA := Lib.hid awake9
  have hlen := hv.len
  obtain ⟨a, c, rfl, hlen⟩ := hlen
  have HV := Lib.hid hv
  have HU := Lib.hid hu
  have HF := Lib.hid hfit
  have HO := Lib.hid hof
  clear hv hu hfit hof
  have HW : Hid (∀ w', Ch0 w w' → _) := Lib.hid (fun w' (c : Ch0 w w') => few_any _ _ l w' (HU.out.keep c (fun _ _ e => e)))
  obtain ⟨fw, hfw⟩ : ∃ y, y = fewB l := ⟨_, rfl⟩
  rw [← hfw] at HW
  have hl100 : Hid (fw = true → l.length ≤ 100) := Lib.hid (fun h => few_len (by rw [← hfw]; exact h))
  clear hfw
  cases fw
  case false =>
    go_enter Try.func4, Try.ntmps4
    go_wp2_with fail
    refine (HA.out _).mono ?_
    rintro e w1 ⟨rfl, d1⟩
    replace d1 := Lib.hid d1
    go_wp2_with fail
    refine (HW.out _ d1.out).mono ?_
    rintro e w2 ⟨rfl, hs⟩
    obtain rfl := hs
    go_wp2_with fail
    refine (HA.out _).mono ?_
    rintro e w2 ⟨rfl, d2⟩
    have HC := Lib.hid (d1.out.trans d2)
    clear d2
    go_wp2_with fail
    go_ret
    exact ⟨rfl, HC.out⟩
  by_cases b3 : cs.length ≤ 100
  case neg =>
    have g3 : decide ((100 : Int) < cs.length) = true := decide_eq_true (by omega)
    go_enter Try.func4, Try.ntmps4
    go_wp2_with fail
    refine (HA.out _).mono ?_
    rintro e w1 ⟨rfl, d1⟩
    replace d1 := Lib.hid d1
    go_wp2_with fail
    refine (HW.out _ d1.out).mono ?_
    rintro e w2 ⟨rfl, hs⟩
    obtain rfl := hs
    go_wp2_with fail
    refine (HA.out _).mono ?_
    rintro e w2 ⟨rfl, d2⟩
    have HC := Lib.hid (d1.out.trans d2)
    clear d2
    go_wp2_with fail
    go_ret
    exact ⟨rfl, HC.out⟩
  have g3 : decide ((100 : Int) < cs.length) = false := decide_eq_false (by omega)
  have HR : Hid (∀ w', Ch0 w w' → _) := Lib.hid (fun w' (c : Ch0 w w') => rnew_cls _ _ cs w' (HV.out.keep c (fun _ _ e => e)))
  by_cases b4 : newC cs = 0
  case neg =>
    have g4 : (newC cs != 0) = true := by simpa using b4
    clear b4
    generalize newC cs = nc at *
    go_enter Try.func4, Try.ntmps4
    go_wp2_with fail
    refine (HA.out _).mono ?_
    rintro e w1 ⟨rfl, d1⟩
    replace d1 := Lib.hid d1
    go_wp2_with fail
    refine (HW.out _ d1.out).mono ?_
    rintro e w2 ⟨rfl, hs⟩
    obtain rfl := hs
    go_wp2_with fail
    refine (HR.out _ d1.out).mono ?_
    rintro e w2 ⟨rfl, d2⟩
    replace d2 := Lib.hid (d1.out.trans d2)
    go_wp2_with fail
    refine (HA.out _).mono ?_
    rintro e w3 ⟨rfl, d3⟩
    have HC := Lib.hid (d2.out.trans d3)
    clear d3
    go_wp2_with fail
    go_ret
    exact ⟨rfl, HC.out⟩
  have HN : Hid (∀ w', Ch0 w w' → _) := Lib.hid (fun w' (c : Ch0 w w') => newcls_any _ _ cs w' (HV.out.keep c (fun _ _ e => e)) HF.out)
  rw [b4] at HR HN
  have g4 : ((0 : Int) != 0) = false := rfl
  replace b4 := Lib.hid b4
  go_enter Try.func4, Try.ntmps4
  go_wp2_with fail
  refine (HA.out _).mono ?_
  rintro e w1 ⟨rfl, d1⟩
  replace d1 := Lib.hid d1
  go_wp2_with fail
  refine (HW.out _ d1.out).mono ?_
  rintro e w2 ⟨rfl, hs⟩
  obtain rfl := hs
  go_wp2_with fail
  refine (HR.out _ d1.out).mono ?_
  rintro e w2 ⟨rfl, d2⟩
  replace d2 := Lib.hid (d1.out.trans d2)
  go_wp2_with fail
  refine (HN.out _ d2.out).mono ?_
  rintro e w3 ⟨t, rfl, hT, d3⟩
  obtain ⟨p, rfl, hTab⟩ := newT_zero hT b4.out
  have hright := Lib.hid (newC_zero b4.out).1
  have hn := gnew_of hTab (Nat.le_refl _)
  replace d3 := Lib.hid (d2.out.trans d3)
  clear hT hTab d1 d2 HR HN HW
  generalize w2.heap.size = lo at *
  go_wp2_with fail
  refine hn.mono ?_
  rintro e w4 ⟨b, rfl, O, hG, hO, d4⟩
  have hM : Mine w w4 O := ⟨d3.out.trans d4, fun k hk => by have := hO k hk; have := d3.out.size; omega⟩
  have hsz := (d3.out.trans d4).size
  have hpl := play_of hG _ _ l (HU.out.keep (d3.out.trans d4) (fun _ _ e => e)) HO.out (fun k hk => ⟨fun h => by have := hO k h; have := d3.out.size; omega, by omega⟩)
  generalize w3.heap.size = hi at *
  replace hM := Lib.hid hM
  clear hn hG hO d4 d3 hsz
  go_wp2_with fail
  refine hpl.mono ?_
  rintro e w5 ⟨rfl, O1, hG, t5⟩
  have hM1 := hM.out.turn t5
  have hL : (playL cs [] l).length ≤ 100 := by
    have h1 := playL_len cs l []
    have h2 := hl100.out trivial
    simp at h1
    omega
  generalize playL cs [] l = L at *
  have hi := ids_of hG (by omega)
  have HG := Lib.hid hG
  replace hM1 := Lib.hid hM1
  clear hpl hM t5 hG
  go_wp2_with fail
  refine hi.mono ?_
  rintro e w6 ⟨vi, rfl, r6, f6, c6⟩
  obtain ⟨la, lc, ev, -, -⟩ := r6.isSlice
  rw [show (ids L).length = L.length by simp [ids]] at ev r6
  subst ev
  have HG6 := Lib.hid (HG.out.new c6)
  have HM6 := Lib.hid (hM1.out.new c6)
  replace r6 := Lib.hid r6
  clear hi c6 f6 HG hM1
  go_wp2_with fail
  go_loopw [58] (fun i wr => ∃ j : Nat, j ≤ L.length ∧ i = .int .i64 j ∧ Ch0 w6 wr) (fun i _ => L.length - (intOf i).toNat)
  case atStart => exact ⟨0, Nat.zero_le _, rfl, Ch.refl _ _⟩
  case round =>
    obtain ⟨j, hj, rfl, d⟩ := hrel
    generalize wr = wR at *
    by_cases hlt : j < L.length
    · have hnd : L[j] ∈ L := List.getElem_mem hlt
      have hs : SeesI (fun k => rblk (.slice la L.length lc) = some k) wR (.slice la L.length lc) (ids L) := by
        have := (r6.out.keep d (fun _ _ e => e)).sees
        rw [show L.length = (ids L).length by simp [ids]] at this ⊢
        exact this
      have hil : (ids L).length = L.length := by simp [ids]
      obtain ⟨g, o, c5, -, e1, hcell⟩ := hs.cell (by omega)
      rw [hil] at e1
      obtain ⟨rfl, rfl⟩ : la = some ⟨g, o, none⟩ ∧ lc = c5 := by simpa using e1
      have hx := hcell j (by omega)
      rw [show (ids L).getD j 0 = L[j].id by simp [ids, List.getD_eq_getElem?_getD, hlt]] at hx
      clear hs e1 hcell hil
      have hG := HG6.out.new d
      have hwf := hG.wf _ hnd
      have hat := hG.g.rise.at hnd
      generalize L[j] = nd at *
      have hr60 := hwf.refs
      have hd60 := hwf.data
      have hal := aim_law hright.out hat hwf
      have HNY : Hid (∀ w', Ch0 wR w' → _) := Lib.hid (fun w' (c : Ch0 wR w') => node_yes (hG.new c).g hnd (by omega) (by omega))
      have i1 : (0 : Int) ≤ j := by omega
      have i2 : (j : Int) < L.length := by omega
      replace hat := Lib.hid hat
      replace hwf := Lib.hid hwf
      replace hal := Lib.hid hal
      replace hG := Lib.hid hG
      replace hnd := Lib.hid hnd
      replace d := Lib.hid d
      go_wp2_with fail
      refine (HNY.out wR (Ch.refl _ _)).mono ?_
      rintro e w1 ⟨nv, vr, vd, rfl, hcp, c1⟩
      have hH := Held1.new hcp
      obtain ⟨ar, cr, rfl, -, -⟩ := hcp.refs.isSlice
      obtain ⟨ad, cd, rfl, -, -⟩ := hcp.data.isSlice
      obtain rfl : nv = .agg #[.int .i64 nd.id, .int .i64 nd.cls, .slice ar nd.refs.length cr, .slice ad nd.data.length cd, .bool nd.fin] := hcp.v
      have cb : Ch0 w1 (w1.alloc (.cells #[.int .i64 nd.id, .int .i64 nd.cls, .slice ar nd.refs.length cr, .slice ad nd.data.length cd, .bool nd.fin] 36)) := (Ch.refl _ _).alloc _
      have y2 := hH.y2
      have hW : (w1.alloc (.cells #[.int .i64 nd.id, .int .i64 nd.cls, .slice ar nd.refs.length cr, .slice ad nd.data.length cd, .bool nd.fin] 36)).heap.size = w1.heap.size + 1 := World.size_alloc _ _
      obtain ⟨W1, hW1⟩ : ∃ W1, W1 = w1.alloc (.cells #[.int .i64 nd.id, .int .i64 nd.cls, .slice ar nd.refs.length cr, .slice ad nd.data.length cd, .bool nd.fin] 36) := ⟨_, rfl⟩
      rw [← hW1] at hH cb y2 hW
      have hrow : RowAt (W1.alloc (.cells #[] 3)) 3 1 (.slice (some ⟨W1.heap.size, 0, none⟩) 0 0) 0 (([] : List Int).map (Value.int .i64)) :=
        ⟨rfl, .inr ⟨W1.heap.size, 0, 0, _, rfl, heap_alloc_new W1 _, Nat.le_refl _, by decide, by simp, rfl⟩⟩
      obtain ⟨a', c', w2, hrun, r2, d2, b2⟩ := run_ints hrow (by omega) (Sees.keep hH.refs ((Ch.refl (fun _ => False) _).alloc (.cells #[] 3)) (fun _ _ e => e)) (by omega) 34
      have c3 : Ch0 W1 w2 := ((Ch.refl _ W1).alloc _).trans' d2 (fun _ _ q => q) (fun i hi q => by simp [rblk] at q; omega)
      have H1 := hH.keep c3 (fun _ e => e.elim)
      simp only [Nat.zero_add] at hrun r2 b2
      rw [hW] at hrun
      have R1 : SeesI (fun k => k < w2.heap.size) w2 (.slice a' nd.refs.length c') nd.refs := Sees.mono r2.sees (fun k hk => r2.lt hk)
      have c4 := (c1.trans cb).trans c3
      have hs12 : w1.heap.size + 1 ≤ w2.heap.size := by have := c3.size; omega
      have y2' := ((Ch.refl (fun _ => False) W1).alloc (.cells #[] 3)).cell y2 (fun e => e)
      subst hW1
      replace H1 := Lib.hid H1
      replace R1 := Lib.hid R1
      replace c4 := Lib.hid c4
      have hx2 := c4.out.cell hx (fun e => e)
      clear hcp hH c1 cb c3 r2 d2 b2 hrow hW
      go_wp2_with (at_builtin; refine wpList_append_run rfl _ _ 34 34 rfl rfl rfl hrun ?_)
      clear hrun y2 y2' hx2
      refine (HNY.out w2 c4.out).mono ?_
      rintro e w3 ⟨mv, mr, md, rfl, hcm, c6⟩
      have hH2 := Held1.new hcm
      obtain ⟨br, er, rfl, -, -⟩ := hcm.refs.isSlice
      obtain ⟨bd, ed, rfl, -, -⟩ := hcm.data.isSlice
      obtain rfl : mv = .agg #[.int .i64 nd.id, .int .i64 nd.cls, .slice br nd.refs.length er, .slice bd nd.data.length ed, .bool nd.fin] := hcm.v
      have cb2 : Ch0 w3 (w3.alloc (.cells #[.int .i64 nd.id, .int .i64 nd.cls, .slice br nd.refs.length er, .slice bd nd.data.length ed, .bool nd.fin] 36)) := (Ch.refl _ _).alloc _
      have z2 := hH2.y2
      have z3 := hH2.y3
      have hsz3 := c6.size
      have hcm1 := hcm.refs.keep cb2 (fun _ _ e => e)
      have hcm2 := hcm.data.keep cb2 (fun _ _ e => e)
      have hB2r : ∀ k, rblk (.slice br nd.refs.length er) = some k → w2.heap.size ≤ k ∧ k < w3.heap.size := fun k hk => ⟨hcm.fr k hk, hcm.refs.lt hk⟩
      have hB2d : ∀ k, rblk (.slice bd nd.data.length ed) = some k → w2.heap.size ≤ k ∧ k < w3.heap.size := fun k hk => ⟨hcm.fd k hk, hcm.data.lt hk⟩
      have hB2 := hcm.apart
      have c7 := Lib.hid (c4.out.trans (c6.trans cb2))
      have H1' := Lib.hid (H1.out.keep (c6.trans cb2) (fun _ e => e.elim))
      have R1' := Lib.hid (R1.out.keep (c6.trans cb2) (fun _ _ e => e))
      have hsz2 := Lib.hid c4.out.size
      have hsz12 : Hid (w1.heap.size + 1 ≤ w2.heap.size) := Lib.hid hs12
      have HX := Lib.hid hx
      clear hcm hH2 c6 cb2 H1 R1 c4 hx
      replace hB2r := Lib.hid hB2r
      replace hB2d := Lib.hid hB2d
      replace hB2 := Lib.hid hB2
      replace hsz3 := Lib.hid hsz3
      go_wp2_with fail
      generalize w3.alloc _ = W3 at *
      generalize w3.heap.size = B2 at *
      go_loopw [86] (fun i wq => ∃ k : Nat, k ≤ nd.refs.length ∧ i = .int .i64 k ∧ ∃ xs : List Int, xs.length = nd.refs.length ∧ RowAt wq 3 1 (.slice br nd.refs.length er) nd.refs.length (xs.map (Value.int .i64)) ∧ Ch (fun q => rblk (.slice br nd.refs.length er) = some q) W3 wq) (fun i _ => nd.refs.length - (intOf i).toNat)
      case atStart => exact ⟨0, Nat.zero_le _, rfl, nd.refs, rfl, hcm1, Ch.refl _ _⟩
      case round =>
        obtain ⟨k, hk, rfl, xs, hxl, hR, cS⟩ := hrel
        have z2k := cS.cell z2 (fun e => by have h := (hB2r.out B2 e).2; omega)
        have z3k := cS.cell z3 (fun e => by have h := (hB2r.out B2 e).2; omega)
        replace z2k := z2k
        by_cases hk2 : k < nd.refs.length
        · obtain ⟨g2, o2, cap2, u2, e2, q1, q2, hR', cS'⟩ := row_set hR hxl k hk2 x
          obtain ⟨rfl, rfl⟩ : br = some ⟨g2, o2, none⟩ ∧ er = cap2 := by simpa using e2
          have i3 : (0 : Int) ≤ k := by omega
          have i4 : (k : Int) < nd.refs.length := by omega
          have HL := Lib.hid (And.intro hR' (cS.trans' cS' (fun _ _ q => q) (fun _ _ q => q)))
          replace hxl := Lib.hid hxl
          clear e2 hR hR' cS' cS hcm1 hcm2 z2 z3 z3k
          go_wp2_with fail
          go_roundw
          case rel => exact ⟨k + 1, by omega, by go_num, xs.set k x, by rw [List.length_set]; exact hxl.out, HL.out.1, HL.out.2⟩
          case measure => simp [intOf]; omega
        · obtain rfl : k = nd.refs.length := by omega
          have hcm3 := hcm2.keep cS (fun q h1 h2 => hB2.out q h2 h1)
          have c8 : Ch0 wR wr := c7.out.trans' cS (fun _ _ q => q) (fun q h1 h2 => by have := hB2r.out _ h2; have := hsz2.out; omega)
          have H1a := H1'.out.keep cS (fun q h => by have := (hB2r.out _ h).1; have := hsz12.out; omega)
          have R1a := R1'.out.keep cS (fun q h1 h2 => by have := hB2r.out _ h2; omega)
          generalize wr = wA at *
          replace c8 := Lib.hid c8
          replace H1a := Lib.hid H1a
          replace R1a := Lib.hid R1a
          replace hxl := Lib.hid hxl
          clear hR cS hcm1 hcm2 z2 z3 z2k H1' R1' c7
          go_wp2_with fail
          go_loopw [98] (fun i wq => ∃ k : Nat, k ≤ nd.data.length ∧ i = .int .i64 k ∧ ∃ ys : List Int, ys.length = nd.data.length ∧ RowAt wq 3 1 (.slice bd nd.data.length ed) nd.data.length (ys.map (Value.int .i64)) ∧ Ch (fun q => rblk (.slice bd nd.data.length ed) = some q) wA wq) (fun i _ => nd.data.length - (intOf i).toNat)
          case atStart => exact ⟨0, Nat.zero_le _, rfl, nd.data, rfl, hcm3, Ch.refl _ _⟩
          case round =>
            obtain ⟨k, hk, rfl, ys, hyl, hR, cS⟩ := hrel
            have z3m := cS.cell z3k (fun e => by have h := (hB2d.out B2 e).2; omega)
            by_cases hk2 : k < nd.data.length
            · obtain ⟨g2, o2, cap2, u2, e2, q1, q2, hR', cS'⟩ := row_set hR hyl k hk2 x
              obtain ⟨rfl, rfl⟩ : bd = some ⟨g2, o2, none⟩ ∧ ed = cap2 := by simpa using e2
              have i3 : (0 : Int) ≤ k := by omega
              have i4 : (k : Int) < nd.data.length := by omega
              have HL := Lib.hid (And.intro hR' (cS.trans' cS' (fun _ _ q => q) (fun _ _ q => q)))
              replace hyl := Lib.hid hyl
              clear e2 hR hR' cS' cS hcm3 z3k
              go_wp2_with fail
              go_roundw
              case rel => exact ⟨k + 1, by omega, by go_num, ys.set k x, by rw [List.length_set]; exact hyl.out, HL.out.1, HL.out.2⟩
              case measure => simp [intOf]; omega
            · obtain rfl : k = nd.data.length := by omega
              have c9 : Ch0 wR wr := c8.out.trans' cS (fun _ _ q => q) (fun q h1 h2 => by have := hB2d.out _ h2; have := hsz2.out; omega)
              have H1b := H1a.out.keep cS (fun q h => by have := (hB2d.out _ h).1; have := hsz12.out; omega)
              have R1b := R1a.out.keep cS (fun q h1 h2 => by have := hB2d.out _ h2; omega)
              generalize wr = wB at *
              have hx3 := c9.cell HX.out (fun e => e)
              have hny3 := HNY.out wB c9
              replace c9 := Lib.hid c9
              replace H1b := Lib.hid H1b
              replace R1b := Lib.hid R1b
              clear hR cS z3m hcm3 z3k hyl hxl c8 H1a R1a hB2 hB2d hB2r
              go_wp2_with fail
              refine hny3.mono ?_
              rintro e w4 ⟨qv, qr, qd, rfl, hcq, c10⟩
              have hQ := Held1.new hcq
              obtain ⟨dr, fr, rfl, -, -⟩ := hcq.refs.isSlice
              obtain ⟨dd, fd, rfl, -, -⟩ := hcq.data.isSlice
              obtain rfl : qv = .agg #[.int .i64 nd.id, .int .i64 nd.cls, .slice dr nd.refs.length fr, .slice dd nd.data.length fd, .bool nd.fin] := hcq.v
              have cbq : Ch0 w4 (w4.alloc (.cells #[.int .i64 nd.id, .int .i64 nd.cls, .slice dr nd.refs.length fr, .slice dd nd.data.length fd, .bool nd.fin] 36)) := (Ch.refl _ _).alloc _
              have H1c := H1b.out.keep (c10.trans cbq) (fun _ e => e.elim)
              have R1c := Lib.hid (R1b.out.keep (c10.trans cbq) (fun _ _ e => e))
              have c11 := Lib.hid (c9.out.trans (c10.trans cbq))
              have hsame := rsame_any _ _ _ _ _ _ _ _ _ _ _ hQ.nv H1c.nv
              have p0 := hQ.y0
              have p1 := hQ.y1
              have p2 := hQ.y2
              have p3 := hQ.y3
              have p4 := hQ.y4
              have q0 := H1c.y0
              have q1 := H1c.y1
              have q2 := H1c.y2
              have q3 := H1c.y3
              have q4 := H1c.y4
              rw [decide_eq_true (rfl : nd = nd)] at hsame
              clear hcq hQ H1c c10 cbq H1b R1b c9 hny3 hx3
              go_wp2_with fail
              refine hsame.mono ?_
              rintro e w5 ⟨rfl, c12⟩
              have c13 := c11.out.trans c12
              have hx5 := c13.cell HX.out (fun e => e)
              have haim := aim_of (hG.out.new c13) nd.id
              have hal1 := hal.out
              generalize (gaim cs L nd.id).1 = to at *
              generalize (gaim cs L nd.id).2 = kd at *
              replace R1c := Lib.hid (R1c.out.keep c12 (fun _ _ e => e))
              replace c13 := Lib.hid c13
              clear hsame c12 c11 p0 p1 p2 p3 p4 q0 q1 q2 q3 q4
              replace hal1 := Lib.hid hal1
              go_wp2_with fail
              refine haim.mono ?_
              rintro e wS ⟨rfl, c14⟩
              have R1d := Lib.hid (R1c.out.keep c14 (fun _ _ e => e))
              have c15 := Lib.hid (c13.out.trans c14)
              clear haim c14 R1c c13 hx5 HNY
              rcases hal1.out with ⟨k0, n1, rz, hh⟩ | ⟨k0, hh⟩
              · have t5 : (kd != 0) = true := by simpa using k0
                have t6 : ((nd.refs.length : Int) == 0) = false := beq_eq_false_iff_ne.2 (by omega)
                have t7 : (to != to) = false := by simp
                obtain ⟨g4, o4, c4', -, e4, hc4⟩ := SeesI.cell R1d.out (by omega)
                obtain ⟨rfl, rfl⟩ : a' = some ⟨g4, o4, none⟩ ∧ c' = c4' := by simpa using e4
                have hz := hc4 0 (by omega)
                rw [rz] at hz
                replace hz : wS.cell? ⟨g4, o4, none⟩ = some (.int .i64 to) := hz
                have i5 : (0 : Int) < nd.refs.length := by omega
                replace hh := Lib.hid hh
                clear hc4 e4 rz k0
                go_wp2_with fail
                clear hz i5 t5 t6 t7
                go_loopw [24, 25] (fun hv i wq => ∃ k : Nat, 1 ≤ k ∧ k ≤ nd.refs.length ∧ i = .int .i64 k ∧ Ch0 wS wq ∧ RowAt wq 3 1 hv (hl 1 k nd.refs).length ((hl 1 k nd.refs).map (Value.int .i64)) ∧ ∀ q, rblk hv = some q → wS.heap.size ≤ q) (fun _ i _ => nd.refs.length - (intOf i).toNat)
                case atStart => exact ⟨1, Nat.le_refl _, by omega, rfl, Ch.refl _ _, by rw [hl_low 1 1 _ (Nat.le_refl _)]; exact RowAt.nil, fun q hq => by cases hq⟩
                case round =>
                  obtain ⟨k, hfk, hk, rfl, e, hr, hf⟩ := hrel
                  obtain ⟨a3, c3, rfl, -, -⟩ := hr.isSlice
                  by_cases hk2 : k < nd.refs.length
                  · obtain ⟨g3, o3, c4, -, e3, hcell⟩ := SeesI.cell (R1d.out.keep e (fun _ _ q => q)) (by omega)
                    simp only [Value.slice.injEq, Option.some.injEq, Addr.mk.injEq, true_and, and_true] at e3
                    obtain ⟨⟨rfl, rfl⟩, rfl⟩ := e3
                    have hx4 := hcell k hk2
                    have hsn := hl_succ 1 k nd.refs hk2 hfk
                    have hll := hl_len 1 k nd.refs
                    have i3 : (0 : Int) ≤ k := by omega
                    have i4 : (k : Int) < nd.refs.length := by omega
                    clear hcell
                    generalize nd.refs.getD k 0 = X at *
                    by_cases hX : X = 0
                    · have t0 : (X != 0) = false := by simp [hX]
                      have HE := Lib.hid (And.intro e (And.intro hr hf))
                      have HS : Hid (hl 1 (k + 1) nd.refs = hl 1 k nd.refs) := Lib.hid (by rw [hsn, if_neg (fun q => q hX), List.append_nil])
                      clear e hr hf hsn hX
                      go_wp2_with fail
                      go_roundw
                      case rel => exact ⟨k + 1, by omega, by omega, by go_num, HE.out.1, by rw [HS.out]; exact HE.out.2.1, HE.out.2.2⟩
                      case measure => simp [intOf]; omega
                    · have t0 : (X != 0) = true := by simpa using hX
                      have HS : Hid (hl 1 (k + 1) nd.refs = hl 1 k nd.refs ++ [X]) := Lib.hid (by rw [hsn, if_pos hX])
                      have ca : Ch0 wr (wr.alloc (.cells #[.int .i64 X] 3)) := (Ch.refl _ _).alloc _
                      obtain ⟨a4, c5, w7, hrun, r4, d4, b4⟩ := run_int (hr.keep ca (fun _ _ e => e)) (by omega) wr.heap.size X (heap_alloc_new wr _) 34
                      have HF : Hid (Ch0 wS w7 ∧ RowAt w7 3 1 (.slice a4 ((hl 1 k nd.refs).length + 1) c5) (hl 1 (k + 1) nd.refs).length ((hl 1 (k + 1) nd.refs).map (Value.int .i64)) ∧ ∀ q, rblk (.slice a4 ((hl 1 k nd.refs).length + 1) c5) = some q → wS.heap.size ≤ q) := by
                        refine Lib.hid ⟨(e.trans ca).trans' d4 (fun _ _ e => e) (fun k hk e => by have := hf k e; omega), ?_, ?_⟩
                        · rw [HS.out, List.length_append]; exact r4
                        · intro q hq
                          rcases b4 with h | h
                          · rw [h] at hq; exact hf q hq
                          · rw [h] at hq; cases hq; rw [World.size_alloc]; have := e.size; omega
                      clear e hr hf hsn hX ca r4 d4 b4
                      go_wp2_with (at_builtin; refine wpList_append_run rfl _ _ 34 34 rfl rfl rfl hrun ?_)
                      go_roundw
                      case rel => exact ⟨k + 1, by omega, by omega, by go_num, HF.out.1, HF.out.2.1, HF.out.2.2⟩
                      case measure => simp [intOf]; omega
                  · obtain rfl : k = nd.refs.length := by omega
                    have cF := c15.out.trans e
                    have hx5 := cF.cell HX.out (fun e => e)
                    have hho := holds_of (hG.out.new cF) nd.id
                    rw [hh.out] at hho
                    have HR9 := Lib.hid hr
                    replace cF := Lib.hid cF
                    clear e hr hf
                    go_wp2_with fail
                    refine hho.mono ?_
                    rintro e w8 ⟨v8, rfl, r8, f8, c16⟩
                    have hsm := same_any _ _ _ _ _ _ w8 (HR9.out.keep c16 (fun _ _ e => e)).sees r8.sees
                    rw [decide_eq_true (rfl : hl 1 nd.refs.length nd.refs = _)] at hsm
                    obtain ⟨a8, c8', rfl, -, -⟩ := r8.isSlice
                    have cG := Lib.hid (d.out.trans (cF.out.trans c16))
                    clear hho r8 f8 c16 hx5
                    go_wp2_with fail
                    refine hsm.mono ?_
                    rintro e w9 ⟨rfl, n9, rfl⟩
                    clear hsm
                    go_wp2_with fail
                    go_roundw
                    case rel => exact ⟨j + 1, by omega, by go_num, cG.out.drewN _⟩
                    case measure => simp [intOf]; omega
              · obtain rfl := k0
                replace hh := Lib.hid hh
                go_wp2_with fail
                go_loopw [24, 25] (fun hv i wq => ∃ k : Nat, 0 ≤ k ∧ k ≤ nd.refs.length ∧ i = .int .i64 k ∧ Ch0 wS wq ∧ RowAt wq 3 1 hv (hl 0 k nd.refs).length ((hl 0 k nd.refs).map (Value.int .i64)) ∧ ∀ q, rblk hv = some q → wS.heap.size ≤ q) (fun _ i _ => nd.refs.length - (intOf i).toNat)
                case atStart => exact ⟨0, Nat.le_refl _, by omega, rfl, Ch.refl _ _, by rw [hl_low 0 0 _ (Nat.le_refl _)]; exact RowAt.nil, fun q hq => by cases hq⟩
                case round =>
                  obtain ⟨k, hfk, hk, rfl, e, hr, hf⟩ := hrel
                  obtain ⟨a3, c3, rfl, -, -⟩ := hr.isSlice
                  by_cases hk2 : k < nd.refs.length
                  · obtain ⟨g3, o3, c4, -, e3, hcell⟩ := SeesI.cell (R1d.out.keep e (fun _ _ q => q)) (by omega)
                    obtain ⟨rfl, rfl⟩ : a' = some ⟨g3, o3, none⟩ ∧ c' = c4 := by simpa using e3
                    have hx4 := hcell k hk2
                    have hsn := hl_succ 0 k nd.refs hk2 hfk
                    have hll := hl_len 0 k nd.refs
                    have i3 : (0 : Int) ≤ k := by omega
                    have i4 : (k : Int) < nd.refs.length := by omega
                    clear hcell e3
                    generalize nd.refs.getD k 0 = X at *
                    by_cases hX : X = 0
                    · have t0 : (X != 0) = false := by simp [hX]
                      have HE := Lib.hid (And.intro e (And.intro hr hf))
                      have HS : Hid (hl 0 (k + 1) nd.refs = hl 0 k nd.refs) := Lib.hid (by rw [hsn, if_neg (fun q => q hX), List.append_nil])
                      clear e hr hf hsn hX
                      go_wp2_with fail
                      go_roundw
                      case rel => exact ⟨k + 1, by omega, by omega, by go_num, HE.out.1, by rw [HS.out]; exact HE.out.2.1, HE.out.2.2⟩
                      case measure => simp [intOf]; omega
                    · have t0 : (X != 0) = true := by simpa using hX
                      have HS : Hid (hl 0 (k + 1) nd.refs = hl 0 k nd.refs ++ [X]) := Lib.hid (by rw [hsn, if_pos hX])
                      have ca : Ch0 wr (wr.alloc (.cells #[.int .i64 X] 3)) := (Ch.refl _ _).alloc _
                      obtain ⟨a4, c5, w7, hrun, r4, d4, b4⟩ := run_int (hr.keep ca (fun _ _ e => e)) (by omega) wr.heap.size X (heap_alloc_new wr _) 34
                      have HF : Hid (Ch0 wS w7 ∧ RowAt w7 3 1 (.slice a4 ((hl 0 k nd.refs).length + 1) c5) (hl 0 (k + 1) nd.refs).length ((hl 0 (k + 1) nd.refs).map (Value.int .i64)) ∧ ∀ q, rblk (.slice a4 ((hl 0 k nd.refs).length + 1) c5) = some q → wS.heap.size ≤ q) := by
                        refine Lib.hid ⟨(e.trans ca).trans' d4 (fun _ _ e => e) (fun k hk e => by have := hf k e; omega), ?_, ?_⟩
                        · rw [HS.out, List.length_append]; exact r4
                        · intro q hq
                          rcases b4 with h | h
                          · rw [h] at hq; exact hf q hq
                          · rw [h] at hq; cases hq; rw [World.size_alloc]; have := e.size; omega
                      clear e hr hf hsn hX ca r4 d4 b4
                      go_wp2_with (at_builtin; refine wpList_append_run rfl _ _ 34 34 rfl rfl rfl hrun ?_)
                      go_roundw
                      case rel => exact ⟨k + 1, by omega, by omega, by go_num, HF.out.1, HF.out.2.1, HF.out.2.2⟩
                      case measure => simp [intOf]; omega
                  · obtain rfl : k = nd.refs.length := by omega
                    have cF := c15.out.trans e
                    have hx5 := cF.cell HX.out (fun e => e)
                    have hho := holds_of (hG.out.new cF) nd.id
                    rw [hh.out] at hho
                    have HR9 := Lib.hid hr
                    replace cF := Lib.hid cF
                    clear e hr hf
                    go_wp2_with fail
                    refine hho.mono ?_
                    rintro e w8 ⟨v8, rfl, r8, f8, c16⟩
                    have hsm := same_any _ _ _ _ _ _ w8 (HR9.out.keep c16 (fun _ _ e => e)).sees r8.sees
                    rw [decide_eq_true (rfl : hl 0 nd.refs.length nd.refs = _)] at hsm
                    obtain ⟨a8, c8', rfl, -, -⟩ := r8.isSlice
                    have cG := Lib.hid (d.out.trans (cF.out.trans c16))
                    clear hho r8 f8 c16 hx5
                    go_wp2_with fail
                    refine hsm.mono ?_
                    rintro e w9 ⟨rfl, n9, rfl⟩
                    clear hsm
                    go_wp2_with fail
                    go_roundw
                    case rel => exact ⟨j + 1, by omega, by go_num, cG.out.drewN _⟩
                    case measure => simp [intOf]; omega
    · obtain rfl : j = L.length := by omega
      have HC := Lib.hid (HM6.out.ch.trans d)
      clear d
      go_wp2_with fail
      go_ret
      exact ⟨rfl, HC.out⟩

end Go.Proofs.Ytlmeponoadhheaa
