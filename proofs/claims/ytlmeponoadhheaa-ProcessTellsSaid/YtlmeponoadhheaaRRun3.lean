/-
  Contract of the document's Run. (Printed by prrun.py.)
-/
import Derived.Test.YtlmeponoadhheaaRRun2
import Derived.Test.YtlmeponoadhheaaPAwake
namespace Go.Proofs.Ytlmeponoadhheaa
set_option linter.unusedVariables false
open Go.RowKit Go.Sort

section
variable {b : Nat} {w : World} {O D : Nat → Prop} {cs : List Cls} {cv : Value} {L : List GN} {roots ks : List Int}

set_option maxRecDepth 100000 in
set_option maxHeartbeats 8000000 in
theorem rrun_of (h : Rt w b O D cs cv L) (hr : allRight cs = true) (hin : RefsIn L) (hL : L.length ≤ 900) (Dk : Nat → Prop) (kv : Value) (hk : SeesI Dk w kv ks) (Dr : Nat → Prop) (v : Value) (hv : SeesI Dr w v roots) (hrl : roots.length ≤ 1000) :
    Calls Try.prog 73 #[.pointer (some ⟨b, 0, none⟩), kv, v] w fun e w' => ∃ lv cv fv s t C F, e = .returned (.agg #[lv, cv, fv]) ∧ RunOut w w' cs L (fun id => decide (id ∈ ks)) roots lv cv fv s t C F ∧ Ch0 w w' := by
  have hrise : Hid (Rising L) := Lib.hid h.rise
  have HI := Lib.hid hin
  have HAL := Lib.hid hr
  obtain ⟨Wb, hWb⟩ : ∃ Wb, Wb = w.alloc (.cells #[.slice none 0 0, .slice none 0 0, .slice none 0 0] 94) := ⟨_, rfl⟩
  have cW : Ch0 w Wb := hWb ▸ (Ch.refl _ _).alloc _
  have hsz : w.heap.size + 1 = Wb.heap.size := by rw [hWb, World.size_alloc]
  have hbox : Wb.heap[w.heap.size]? = some (.cells #[.slice none 0 0, .slice none 0 0, .slice none 0 0] 94 (0, 0)) := hWb ▸ heap_alloc_new w _
  have HR := Lib.hid (h.new cW)
  have HK := Lib.hid (Sees.keep hk cW (fun _ _ e => e))
  have HV := Lib.hid (Sees.keep hv cW (fun _ _ e => e))
  obtain ⟨ka, kc, rfl, hkl⟩ := hk.len
  obtain ⟨va, vc, rfl, hvl⟩ := hv.len
  have hwf := Lib.hid h.wf
  clear h hr hin hk hv
  obtain ⟨kp, hkp⟩ : ∃ kp : Int → Bool, kp = fun id => decide (id ∈ ks) := ⟨_, rfl⟩
  rw [← hkp]
  have hkpx : Hid (∀ x, decide (x ∈ ks) = kp x) := Lib.hid (fun x => by rw [hkp])
  clear hkp
  have hcl := rclose_of HR.out HAL.out (by omega) _ _ roots HV.out 1
  replace hWb := Lib.hid hWb
  replace hsz := Lib.hid hsz
  replace hbox := Lib.hid hbox
  replace cW := Lib.hid cW
  go_enter Try.func73, Try.ntmps73
  go_wp2_with fail
  rw [← hWb.out]
  refine hcl.mono ?_
  rintro e w1 ⟨lv1, rfl, r1, f1, c1⟩
  have hB1 : SoftB cs L kp roots Wb w1 lv1 (.slice none 0 0) (closeL cs L 1 roots) [] := ⟨r1, RowAt.nil, fun k hk => ⟨f1 k hk, (fun e => by cases e)⟩, (fun k e => by cases e), SoftI.start hrise.out, List.nodup_nil, (fun x hx => by cases hx), c1⟩
  obtain ⟨la1, lc1, rfl, -, -⟩ := r1.isSlice
  replace hB1 := Lib.hid hB1
  clear hcl r1 f1 c1
  go_wp2_with fail
  go_loopw [7, 8, 9] (fun lv av mv wr => ∃ (live asked : List Int) (more : Bool), mv = .bool more ∧ SoftB cs L kp roots Wb wr lv av live asked ∧ (more = false → ∀ x ∈ live, lostB cs L live x = true → (gaim cs L x).2 = 3 → kp x = false)) (fun lv _ mv _ => 2 * (L.length - lenOf lv) + moreN mv)
  case atStart => exact ⟨_, _, true, rfl, hB1.out, fun e => by cases e⟩
  case round =>
    clear hB1
    obtain ⟨live, asked, more, rfl, hB, hend⟩ := hrel
    obtain ⟨la, lc, rfl, -, -⟩ := hB.l.isSlice
    have hll := hB.s.len
    cases more with
    | true =>
      replace hB := Lib.hid hB
      clear hend
      go_wp2_with fail
      go_loopw [7, 8, 9, 34] (fun lv av mv i wr' => ∃ (j : Nat) (asked : List Int), j ≤ live.length ∧ lv = .slice la live.length lc ∧ mv = .bool false ∧ i = .int .i64 j ∧ SoftB cs L kp roots Wb wr' lv av live asked ∧ (∀ x ∈ live.take j, lostB cs L live x = true → (gaim cs L x).2 = 3 → kp x = false)) (fun _ _ _ i _ => live.length - (intOf i).toNat)
      case atStart => exact ⟨0, asked, Nat.zero_le _, rfl, rfl, rfl, hB.out, (fun x hx => by simp at hx)⟩
      case round =>
        clear hB
        obtain ⟨j, asked, hj, rfl, rfl, rfl, hB, hend⟩ := hrel
        obtain ⟨aa, ac, rfl, -, -⟩ := hB.a.isSlice
        by_cases hlt : j < live.length
        · obtain ⟨g, o, c1, -, e1, hcell⟩ := SeesI.cell hB.l.sees (by omega)
          obtain ⟨rfl, rfl⟩ : la = some ⟨g, o, none⟩ ∧ lc = c1 := by simpa using e1
          have hx := hcell j hlt
          have htk := take_snocI live hlt
          have hxl : live.getD j 0 ∈ live := by simp [List.getD_eq_getElem?_getD, hlt]
          have i1 : (0 : Int) ≤ j := by omega
          have i2 : (j : Int) < live.length := by omega
          have hlo := rlost_of (HR.out.new hB.ch) HAL.out _ _ live hB.l.sees (live.getD j 0)
          clear hcell e1
          generalize live.getD j 0 = X at *
          have HX := Lib.hid hxl
          have hnext : Hid ((lostB cs L live X = true → (gaim cs L X).2 = 3 → kp X = false) → ∀ x ∈ live.take (j + 1), lostB cs L live x = true → (gaim cs L x).2 = 3 → kp x = false) := Lib.hid (fun hq x hx => by
            rw [htk] at hx
            rcases List.mem_append.1 hx with q | q
            · exact hend x q
            · rw [List.mem_singleton.1 q]; exact hq)
          replace hB := Lib.hid hB
          clear hend htk hxl
          generalize hto : (gaim cs L X).1 = to at *
          generalize hkd : (gaim cs L X).2 = kd at *
          generalize hlb : lostB cs L live X = lb at *
          replace hto := Lib.hid hto
          replace hlb := Lib.hid hlb
          replace hkd := Lib.hid hkd
          go_wp2_with fail
          refine hlo.mono ?_
          rintro e w2 ⟨rfl, c2⟩
          have hB2 := Lib.hid (hB.out.new c2)
          clear hlo hB c2 hx
          by_cases h3 : kd = 3
          case neg =>
            have t0 : (kd != 3) = true := by simpa using h3
            have HN := Lib.hid (hnext.out (fun _ q => absurd q h3))
            clear h3 hnext
            go_wp2_with fail
            go_roundw
            case rel => exact ⟨j + 1, asked, by omega, rfl, rfl, by go_num, hB2.out, HN.out⟩
            case measure => simp [intOf]; omega
          have t0 : (kd != 3) = false := by simp [h3]
          replace h3 := Lib.hid h3
          cases lb with
          | false =>
            have HN := Lib.hid (hnext.out (fun q _ => by cases q))
            clear hnext
            go_wp2_with fail
            go_roundw
            case rel => exact ⟨j + 1, asked, by omega, rfl, rfl, by go_num, hB2.out, HN.out⟩
            case measure => simp [intOf]; omega
          | true =>
            have hha := has_any _ _ asked X w2 hB2.out.a.sees
            by_cases hask : X ∈ asked
            · have HN := Lib.hid (hnext.out (fun _ _ => hB2.out.s.old hask hlb.out))
              rw [decide_eq_true hask] at hha
              clear hnext hask
              go_wp2_with fail
              refine hha.mono ?_
              rintro e w3 ⟨rfl, hs⟩
              obtain rfl : w2 = w3 := hs
              clear hha
              go_wp2_with fail
              go_roundw
              case rel => exact ⟨j + 1, asked, by omega, rfl, rfl, by go_num, hB2.out, HN.out⟩
              case measure => simp [intOf]; omega
            · rw [decide_eq_false hask] at hha
              have hal := hB2.out.alen
              have ca : Ch0 w2 (w2.alloc (.cells #[.int .i64 X] 3)) := (Ch.refl _ _).alloc _
              obtain ⟨a6, c6, w6, hrun, r6, d6, b6⟩ := run_int (hB2.out.a.keep ca (fun _ _ e => e)) (by omega) w2.heap.size X (heap_alloc_new w2 _) 34
              have d06 : Ch0 Wb w6 := (hB2.out.ch.trans ca).trans' d6 (fun _ _ e => e) (fun k hk e => by have := hB2.out.af k e; omega)
              have hHK := has_any _ _ ks X w6 (Sees.keep HK.out d06 (fun _ _ e => e))
              rw [hkpx.out] at hHK
              cases hkx : kp X with
              | false =>
                rw [hkx] at hHK
                have hB6 := Lib.hid (hB2.out.ask hask HX.out ca r6 d6 b6 (hB2.out.s.ask hkx))
                have HN := Lib.hid (hnext.out (fun _ _ => hkx))
                clear hnext hkx ca r6 d6 b6 d06 hask
                go_wp2_with fail
                refine hha.mono ?_
                rintro e w3 ⟨rfl, hs⟩
                obtain rfl : w2 = w3 := hs
                clear hha
                go_wp2_with (at_builtin; refine wpList_append_run rfl _ _ 34 34 rfl rfl rfl hrun ?_)
                refine hHK.mono ?_
                rintro e w3 ⟨rfl, hs⟩
                obtain rfl : w6 = w3 := hs
                clear hHK hrun
                go_wp2_with fail
                go_roundw
                case rel => exact ⟨j + 1, asked ++ [X], by omega, rfl, rfl, by go_num, hB6.out, HN.out⟩
                case measure => simp [intOf]; omega
              | true =>
                rw [hkx] at hHK
                have hlost := lostB_iff.1 hlb.out
                have hV : to ∈ ids L := by have := (lost_kind HAL.out hwf.out HI.out hlb.out).1; rwa [hto.out] at this
                rw [hto.out] at hlost
                have HN := Lib.hid (And.intro (hB2.out.s.enter hrise.out HX.out (by rw [hkd.out, h3.out]) (by rw [hto.out]; exact hlost.1) (by rw [hto.out]; exact hV) hkx) (hB2.out.s.more hlost.2 hV))
                rw [hto.out] at HN
                have ha := raim_any (HR.out.new d06) HAL.out X
                rw [hto.out] at ha
                have hl6 := (hB2.out.l.keep ca (fun _ _ e => e)).keep d6 (fun k hk e => (hB2.out.lf k hk).2 e)
                have HQ : Hid (∀ w9 lv' live', Ch0 w6 w9 → RowAt w9 3 1 lv' (List.length live') (live'.map (Value.int .i64)) → (∀ k, rblk lv' = some k → w6.heap.size ≤ k) → SoftI cs L kp roots live' (X :: asked) → SoftB cs L kp roots Wb w9 lv' (.slice a6 (asked.length + 1) c6) live' (asked ++ [X])) :=
                  Lib.hid (fun w9 lv' live' q1 q2 q3 q4 => hB2.out.enterE hask HX.out ca r6 d6 b6 q1 q2 q3 q4)
                replace d06 := Lib.hid d06
                replace hl6 := Lib.hid hl6
                clear hnext hkx ca r6 d6 b6 hask hlost hV
                go_wp2_with fail
                refine hha.mono ?_
                rintro e w3 ⟨rfl, hs⟩
                obtain rfl : w2 = w3 := hs
                clear hha
                go_wp2_with (at_builtin; refine wpList_append_run rfl _ _ 34 34 rfl rfl rfl hrun ?_)
                refine hHK.mono ?_
                rintro e w3 ⟨rfl, hs⟩
                obtain rfl : w6 = w3 := hs
                clear hHK hrun
                go_wp2_with fail
                refine ha.mono ?_
                rintro e w7 ⟨rfl, n7, hw7⟩
                have c7 : Ch0 w6 w7 := hw7 ▸ ch_drewN' w6 n7
                obtain ⟨a5, c5, w5, hrun1, r5, d5, f5⟩ := copy_ints (hl6.out.keep c7 (fun _ _ e => e)).sees (by omega) 34
                have ca5 : Ch0 w5 (w5.alloc (.cells #[.int .i64 to] 3)) := (Ch.refl _ _).alloc _
                obtain ⟨a8, c8, w8, hrun2, r8, d8, b8⟩ := run_int (r5.keep ca5 (fun _ _ e => e)) (by omega) w5.heap.size to (heap_alloc_new w5 _) 34
                have d78 : Ch0 w7 w8 := (d5.trans ca5).trans' d8 (fun _ _ e => e) (fun k hk e => by have := f5 k e; omega)
                have hcl := rclose_of (HR.out.new ((d06.out.trans c7).trans d78)) HAL.out (by omega) _ _ (live ++ [to]) (by show Sees _ _ _ _ _ _; rw [List.length_append]; exact r8.sees) 1
                have e68 := Lib.hid (c7.trans d78)
                clear ha hw7 c7 r5 d5 f5 ca5 r8 d8 b8 d78
                go_wp2_with (at_builtin; first | (refine wpList_append_run rfl _ _ 34 34 rfl rfl rfl hrun1 ?_; clear hrun1) | (refine wpList_append_run rfl _ _ 34 34 rfl rfl rfl hrun2 ?_; clear hrun2))
                refine hcl.mono ?_
                rintro e w9 ⟨lv9, rfl, r9, f9, c9⟩
                have hB9 := Lib.hid (HQ.out w9 lv9 _ (e68.out.trans c9) r9 (fun k hk => by have := f9 k hk; have := e68.out.size; omega) HN.out.1)
                obtain ⟨la9, lc9, rfl, -, -⟩ := r9.isSlice
                have hgr := HN.out.2
                have hle := HN.out.1.len
                clear hcl r9 f9 c9
                go_wp2_with fail
                go_roundw
                case rel => exact ⟨_, asked ++ [X], true, rfl, hB9.out, fun e => by cases e⟩
                case measure => simp [moreN, lenOf]; omega
        · obtain rfl : j = live.length := by omega
          rw [List.take_length] at hend
          have HE := Lib.hid (And.intro hB hend)
          clear hB hend
          go_wp2_with fail
          go_roundw
          case rel => exact ⟨live, asked, false, rfl, HE.out.1, fun _ => HE.out.2⟩
          case measure => simp [moreN, lenOf]
    | false =>
      have hs := hB.s.done hrise.out (hend rfl)
      have hup := hB.s.p
      have hnd : Hid live.Nodup := Lib.hid (hup.imp (fun q => by omega))
      have cB : Ch0 wr (wr.alloc (.cells #[.slice none 0 0, .slice none 0 0, .slice none 0 0] 94)) := (Ch.refl _ _).alloc _
      have hR0 : ResR Wb.heap.size (wr.alloc (.cells #[.slice none 0 0, .slice none 0 0, .slice none 0 0] 94)) wr.heap.size (.slice none 0 0) (.slice none 0 0) [] [] := ⟨heap_alloc_new wr _, RowAt.nil, RowAt.nil, (fun k e => by cases e), (fun k e => by cases e), hB.ch.size, (fun k e => by cases e)⟩
      have HS0 : Hid (ResR Wb.heap.size (wr.alloc (.cells #[.slice none 0 0, .slice none 0 0, .slice none 0 0] 94)) wr.heap.size (.slice none 0 0) (.slice none 0 0) [] [] ∧ Off (wr.alloc (.cells #[.slice none 0 0, .slice none 0 0, .slice none 0 0] 94)) (.slice la live.length lc) (.slice none 0 0) wr.heap.size ∧ RowAt (wr.alloc (.cells #[.slice none 0 0, .slice none 0 0, .slice none 0 0] 94)) 3 1 (.slice la live.length lc) live.length (live.map (Value.int .i64)) ∧ Ch0 Wb (wr.alloc (.cells #[.slice none 0 0, .slice none 0 0, .slice none 0 0] 94))) :=
        Lib.hid ⟨hR0, fun k hk => ⟨by have := hB.l.lt hk; omega, (fun e => by cases e), by have := hB.l.lt hk; rw [World.size_alloc]; omega⟩, hB.l.keep cB (fun _ _ e => e), hB.ch.trans cB⟩
      replace hs := Lib.hid hs
      replace hup := Lib.hid hup
      clear hB hend cB hR0
      go_wp2_with fail
      generalize wr.alloc (.cells #[.slice none 0 0, .slice none 0 0, .slice none 0 0] 94) = W2 at *
      generalize wr.heap.size = r at *
      go_loopw [84] (fun i wr => ∃ (j : Nat) (cvv : Value), j ≤ live.length ∧ i = .int .i64 j ∧ ResR Wb.heap.size wr r cvv (.slice none 0 0) ([] ++ (live.take j).filter (p1 cs L live)) [] ∧ Off wr (.slice la live.length lc) cvv r ∧ RowAt wr 3 1 (.slice la live.length lc) live.length (live.map (Value.int .i64)) ∧ Ch0 Wb wr) (fun i _ => live.length - (intOf i).toNat)
      case atStart => exact ⟨0, _, Nat.zero_le _, rfl, by simpa using HS0.out.1, HS0.out.2⟩
      case round =>
        clear HS0
        obtain ⟨j, cvv, hj, rfl, hRR, hO, hl, c⟩ := hrel
        obtain ⟨ca, cc, rfl, -, -⟩ := hRR.c.isSlice
        by_cases hlt : j < live.length
        · obtain ⟨g, o, c1, -, e1, hcell⟩ := SeesI.cell hl.sees (by omega)
          obtain ⟨rfl, rfl⟩ : la = some ⟨g, o, none⟩ ∧ lc = c1 := by simpa using e1
          have hx := hcell j hlt
          have i1 : (0 : Int) ≤ j := by omega
          have i2 : (j : Int) < live.length := by omega
          have hsn := filter_snoc (p1 cs L live) live hlt
          have hp : p1 cs L live (live.getD j 0) = (lostB cs L live (live.getD j 0) && !decide ((gaim cs L (live.getD j 0)).2 = 5)) := rfl
          have hlen : ([] ++ (live.take j).filter (p1 cs L live)).length < 4294967296 := by
            have h1 := List.length_filter_le (p1 cs L live) (live.take j)
            have h2 : (live.take j).length ≤ live.length := by simp; omega
            rw [List.length_append]
            simp only [List.length_nil]
            omega
          have hlo := rlost_of (HR.out.new c) HAL.out _ _ live hl.sees (live.getD j 0)
          clear hcell e1
          generalize hcj : [] ++ (live.take j).filter (p1 cs L live) = cj at *
          have hsn2 : Hid ([] ++ (live.take (j + 1)).filter (p1 cs L live) = cj ++ (if p1 cs L live (live.getD j 0) = true then [live.getD j 0] else [])) := Lib.hid (by rw [hsn, ← List.append_assoc, hcj])
          clear hsn hcj
          generalize lostB cs L live (live.getD j 0) = lb at *
          generalize (gaim cs L (live.getD j 0)).2 = kd at *
          generalize live.getD j 0 = X at *
          have hOL0 := Lib.hid (And.intro hO (And.intro hl c))
          replace hRR := Lib.hid hRR
          replace hp := Lib.hid hp
          clear hO hl c
          go_wp2_with fail
          refine hlo.mono ?_
          rintro e w5 ⟨rfl, c5⟩
          have hR2 := Lib.hid (hRR.out.new c5)
          have hOL := Lib.hid (And.intro (hOL0.out.1.new c5) (And.intro (hOL0.out.2.1.keep c5 (fun _ _ e => e)) (hOL0.out.2.2.trans c5)))
          replace hx := c5.cell hx (fun e => e)
          clear hlo hRR hOL0 c5
          cases lb with
          | false =>
            have hno : Hid ([] ++ (live.take (j + 1)).filter (p1 cs L live) = cj) := Lib.hid (by rw [hsn2.out, hp.out]; simp)
            clear hsn2 hp
            go_wp2_with fail
            go_roundw
            case rel => exact ⟨j + 1, _, by omega, by go_num, by rw [hno.out]; exact hR2.out, hOL.out⟩
            case measure => simp [intOf]; omega
          | true =>
            by_cases h5 : kd = 5
            · have t0 : (kd != 5) = false := by simp [h5]
              have hno : Hid ([] ++ (live.take (j + 1)).filter (p1 cs L live) = cj) := Lib.hid (by rw [hsn2.out, hp.out]; simp [h5])
              clear hsn2 hp h5
              go_wp2_with fail
              go_roundw
              case rel => exact ⟨j + 1, _, by omega, by go_num, by rw [hno.out]; exact hR2.out, hOL.out⟩
              case measure => simp [intOf]; omega
            · have t0 : (kd != 5) = true := by simpa using h5
              have hyes : Hid ([] ++ (live.take (j + 1)).filter (p1 cs L live) = cj ++ [X]) := Lib.hid (by rw [hsn2.out, hp.out]; simp [h5])
              clear hsn2 hp h5
              have k1 := hR2.out.cells.2.1
              have hnew : (w5.alloc (.cells #[.int .i64 X] 3)).cell? ⟨r, 1, none⟩ = some (.slice ca cj.length cc) := ((Ch.refl (fun _ => False) w5).alloc _).cell k1 (fun q => q)
              have HCr := Lib.hid hR2.out.c
              have hbk := Lib.hid hR2.out.blk
              have hbv : Hid (¬ (rblk (.slice ca cj.length cc) = some r)) := Lib.hid (fun e => hR2.out.ne.1 _ e rfl)
              have HE : Hid (∀ wx a' c' w4, Ch0 w5 wx → Ch (fun k => rblk (.slice ca cj.length cc) = some k) wx w4 → (rblk (.slice a' (cj.length + 1) c') = rblk (.slice ca cj.length cc) ∨ rblk (.slice a' (cj.length + 1) c') = some wx.heap.size) → RowAt w4 3 1 (.slice a' (cj.length + 1) c') (cj.length + 1) ((cj ++ [X]).map (Value.int .i64)) → _) := Lib.hid (fun wx a' c' w4 q1 q2 q3 q4 => hR2.out.stepC hOL.out.1 hOL.out.2.1 hOL.out.2.2 rfl q1 q2 q3 q4)
              go_wp2_with fail
              go_region_law
                (((refine step_int HCr.out rfl hlen _ _ (by rfl) _ _ (by rfl) (by rfl) (by rfl) (by exact heap_alloc_new w5 _) (by first | exact ((Ch.refl _ w5).alloc _).drew | exact (Ch.refl _ w5).drew.alloc _ | exact (Ch.refl _ w5).alloc _) ?_; intro a' c' w4 r4 c4 b4 c5; have f4 := frozen_of_row w4 r 1 _ _ (c4.keep (c5.keep hbk.out (fun q => q)) hbv.out); have q4 := c4.cell (c5.cell k1 (fun q => q)) hbv.out)))
              all_goals
                have HF := Lib.hid (HE.out _ _ _ _ c5 c4 b4 r4)
                clear c4 c5 b4 r4 f4 q4 hnew HCr HE hbk hR2 hOL k1 hx
                go_wp2_with fail
                go_roundw
                case rel => exact ⟨j + 1, _, by omega, by go_num, by rw [hyes.out]; exact HF.out.1, HF.out.2⟩
                case measure => simp [intOf]; omega
        · obtain rfl : j = live.length := by omega
          rw [List.take_length] at hRR hO
          rw [List.nil_append, clr_p1 HAL.out hwf.out HI.out] at hRR
          rw [List.nil_append, clr_p1 HAL.out hwf.out HI.out] at hO
          obtain ⟨C1, hC1⟩ : ∃ C1, C1 = clear1 cs L live := ⟨_, rfl⟩
          rw [← hC1] at hRR hO
          replace hC1 := Lib.hid hC1
          obtain ⟨nv, vr, vd, ow, gg⟩ := HR.out.g
          obtain ⟨aN, cN, rfl, -, -⟩ := gg.row.isSlice
          have HG := Lib.hid gg
          have kg := gg.cells.2
          clear gg
          obtain ⟨a5, c5, w5, hrun1, r5, d5, f5⟩ := copy_ints hl.sees (by omega) 34
          have d05 := c.trans d5
          have kg5 := d05.cell kg (fun e => e)
          have hS5 : Hid (ResR Wb.heap.size w5 r (.slice ca C1.length cc) (.slice none 0 0) C1 [] ∧ RowAt w5 3 1 (.slice a5 live.length c5) live.length (live.map (Value.int .i64)) ∧ RowAt w5 3 1 (.slice la live.length lc) live.length (live.map (Value.int .i64)) ∧ (∀ k, rblk (.slice la live.length lc) = some k → k ≠ r ∧ rblk (.slice ca C1.length cc) ≠ some k ∧ rblk (.slice none 0 0) ≠ some k ∧ rblk (.slice a5 live.length c5) ≠ some k ∧ k < w5.heap.size) ∧
              (∀ k, rblk (.slice a5 live.length c5) = some k → Wb.heap.size ≤ k ∧ k ≠ r ∧ rblk (.slice ca C1.length cc) ≠ some k ∧ rblk (.slice none 0 0) ≠ some k) ∧ Ch0 Wb w5) := by
            refine Lib.hid ⟨hRR.new d5, r5, hl.keep d5 (fun _ _ e => e), fun k hk => ⟨(hO k hk).1, (hO k hk).2.1, (fun e => by cases e), fun e => ?_, Nat.lt_of_lt_of_le (hO k hk).2.2 d5.size⟩, fun k hk => ⟨?_, fun e => ?_, fun e => ?_, fun e => by cases e⟩, d05⟩
            · have := f5 k e; have := (hO k hk).2.2; omega
            · have := f5 k hk; have := c.size; omega
            · have h1 := f5 k hk
              have h2 := hRR.blk
              rw [Array.getElem?_eq_some_iff] at h2
              have := h2.1
              omega
            · have := f5 k hk; have := hRR.c.lt e; omega
          clear hRR hO hl c r5 d5 f5 d05
          go_wp2_with (at_builtin; refine wpList_append_run rfl _ _ 34 34 rfl rfl rfl hrun1 ?_)
          clear hrun1
          go_loopw [20, 120] (fun av i wr => ∃ (j : Nat) (fv : Value), j ≤ L.length ∧ i = .int .i64 j ∧ ResR Wb.heap.size wr r (.slice ca C1.length cc) fv C1 ((ids (L.take j)).filter (fun id => isFin L id && !decide (id ∈ live))) ∧ RowAt wr 3 1 av (live.length + ((ids (L.take j)).filter (fun id => isFin L id && !decide (id ∈ live))).length) ((live ++ (ids (L.take j)).filter (fun id => isFin L id && !decide (id ∈ live))).map (Value.int .i64)) ∧ RowAt wr 3 1 (.slice la live.length lc) live.length (live.map (Value.int .i64)) ∧
              (∀ k, rblk (.slice la live.length lc) = some k → k ≠ r ∧ rblk (.slice ca C1.length cc) ≠ some k ∧ rblk fv ≠ some k ∧ rblk av ≠ some k ∧ k < wr.heap.size) ∧ (∀ k, rblk av = some k → Wb.heap.size ≤ k ∧ k ≠ r ∧ rblk (.slice ca C1.length cc) ≠ some k ∧ rblk fv ≠ some k) ∧ Ch0 Wb wr) (fun _ i _ => L.length - (intOf i).toNat)
          case atStart => exact ⟨0, _, Nat.zero_le _, rfl, by simpa [ids] using hS5.out.1, by simpa [ids] using hS5.out.2.1, hS5.out.2.2.1, hS5.out.2.2.2.1, hS5.out.2.2.2.2.1, hS5.out.2.2.2.2.2⟩
          case round =>
            clear hS5 kg5
            obtain ⟨j, fvv, hj, rfl, hRR, hA, hl, hO, hAO, c⟩ := hrel
            obtain ⟨fa, fc, rfl, -, -⟩ := hRR.f.isSlice
            obtain ⟨aa, ac, rfl, -, -⟩ := hA.isSlice
            have kg5 := c.cell kg (fun e => e)
            by_cases hlt : j < L.length
            · obtain ⟨gn, on, cn, e1, -, hnode⟩ := (HG.out.keep c (fun _ _ e => e)).node (by omega)
              obtain ⟨rfl, rfl⟩ : aN = some ⟨gn, on, none⟩ ∧ cN = cn := by simpa using e1
              obtain ⟨n0, -, -, -, n4⟩ := hnode j hlt
              have hGk : Hid (∀ w', Ch0 Wb w' → w'.cell? ⟨b, 1, none⟩ = some (.slice (some ⟨gn, on, none⟩) L.length cN) ∧ w'.cell? ⟨gn, on + j * 5, none⟩ = some (.int .i64 L[j].id)) := Lib.hid (fun w' c' => by
                obtain ⟨gn', on', cn', e2, -, hnode'⟩ := (HG.out.keep c' (fun _ _ e => e)).node (by omega)
                cases e2
                exact ⟨c'.cell kg (fun e => e), (hnode' j hlt).1⟩)
              have i1 : (0 : Int) ≤ j := by omega
              have i2 : (j : Int) < L.length := by omega
              have hsn := fin_snoc (live := live) hlt hrise.out
              have hcl : ((ids (L.take j)).filter (fun id => isFin L id && !decide (id ∈ live))).length ≤ 900 := by
                have h1 := List.length_filter_le (fun id => isFin L id && !decide (id ∈ live)) (ids (L.take j))
                have h2 : (ids (L.take j)).length ≤ L.length := by simp [ids]; omega
                omega
              have hha := has_any _ _ live L[j].id wr hl.sees
              clear hnode e1
              generalize (ids (L.take j)).filter (fun id => isFin L id && !decide (id ∈ live)) = fj at *
              replace hsn := Lib.hid hsn
              generalize L[j].id = X at *
              generalize L[j].fin = fin at *
              have hRR0 := Lib.hid hRR
              have hrest := Lib.hid (And.intro hA (And.intro hl (And.intro hO (And.intro hAO c))))
              clear hRR hA hl hO hAO c
              cases fin with
              | false =>
                have hno : Hid ((ids (L.take (j + 1))).filter (fun id => isFin L id && !decide (id ∈ live)) = fj) := Lib.hid (by rw [hsn.out]; simp)
                clear hsn hha
                go_wp2_with fail
                go_roundw
                case rel => exact ⟨j + 1, _, by omega, by go_num, by rw [hno.out]; exact hRR0.out, by rw [hno.out]; exact hrest.out.1, hrest.out.2⟩
                case measure => simp [intOf]; omega
              | true =>
                by_cases hm : X ∈ live
                · have hno : Hid ((ids (L.take (j + 1))).filter (fun id => isFin L id && !decide (id ∈ live)) = fj) := Lib.hid (by rw [hsn.out]; simp [hm])
                  rw [decide_eq_true hm] at hha
                  clear hsn hm
                  go_wp2_with fail
                  refine hha.mono ?_
                  rintro e w6 ⟨rfl, hs⟩
                  obtain rfl : wr = w6 := hs
                  clear hha
                  go_wp2_with fail
                  go_roundw
                  case rel => exact ⟨j + 1, _, by omega, by go_num, by rw [hno.out]; exact hRR0.out, by rw [hno.out]; exact hrest.out.1, hrest.out.2⟩
                  case measure => simp [intOf]; omega
                · have hyes : Hid ((ids (L.take (j + 1))).filter (fun id => isFin L id && !decide (id ∈ live)) = fj ++ [X]) := Lib.hid (by rw [hsn.out]; simp [hm])
                  rw [decide_eq_false hm] at hha
                  clear hsn hm
                  have hlen : fj.length < 4294967296 := by omega
                  have k1 := hRR0.out.cells.2.2
                  have hnew : (wr.alloc (.cells #[.int .i64 X] 3)).cell? ⟨r, 2, none⟩ = some (.slice fa fj.length fc) := ((Ch.refl (fun _ => False) wr).alloc _).cell k1 (fun q => q)
                  have HCr := Lib.hid hRR0.out.f
                  have hbk := Lib.hid hRR0.out.blk
                  have hbv : Hid (¬ (rblk (.slice fa fj.length fc) = some r)) := Lib.hid (fun e => hRR0.out.ne.2 _ e rfl)
                  have HE : Hid (∀ wx a' c' w4, Ch0 wr wx → Ch (fun k => rblk (.slice fa fj.length fc) = some k) wx w4 → (rblk (.slice a' (fj.length + 1) c') = rblk (.slice fa fj.length fc) ∨ rblk (.slice a' (fj.length + 1) c') = some wx.heap.size) → RowAt w4 3 1 (.slice a' (fj.length + 1) c') (fj.length + 1) ((fj ++ [X]).map (Value.int .i64)) → _) := Lib.hid (fun wx a' c' w4 q1 q2 q3 q4 => hRR0.out.stepF hrest.out.2.2.2.2 rfl q1 q2 q3 q4)
                  go_wp2_with fail
                  refine hha.mono ?_
                  rintro e w6 ⟨rfl, hs⟩
                  obtain rfl : wr = w6 := hs
                  clear hha
                  go_wp2_with fail
                  go_region_law
                    (((refine step_int HCr.out rfl hlen _ _ (by rfl) _ _ (by rfl) (by rfl) (by rfl) (by exact heap_alloc_new wr _) (by first | exact ((Ch.refl _ wr).alloc _).drew | exact (Ch.refl _ wr).drew.alloc _ | exact (Ch.refl _ wr).alloc _) ?_; intro a' c' w4 r4 c4 b4 c5'; have f4 := frozen_of_row w4 r 2 _ _ (c4.keep (c5'.keep hbk.out (fun q => q)) hbv.out); have q4 := c4.cell (c5'.cell k1 (fun q => q)) hbv.out)))
                  all_goals
                    have HF := Lib.hid (HE.out _ _ _ _ c5' c4 b4 r4)
                    clear c4 c5' b4 r4 f4 q4 hnew HCr HE hbk k1 n0 n4 kg5
                    obtain ⟨g1, g2⟩ := hGk.out _ HF.out.2.2.1
                    generalize w4.setCell ⟨r, 2, none⟩ (.slice a' (fj.length + 1) c') = w6 at *
                    have ca6 : Ch0 w6 (w6.alloc (.cells #[.int .i64 X] 3)) := (Ch.refl _ _).alloc _
                    have hA6 := hrest.out.1.keep HF.out.2.1 (fun k hk e => by
                      rcases e with e | e
                      · exact (hrest.out.2.2.2.1 k hk).2.1 e
                      · exact (hrest.out.2.2.2.1 k hk).2.2.2 e)
                    obtain ⟨a9, c9, w9, hrun9, r9, d9, b9⟩ := run_int (hA6.keep ca6 (fun _ _ e => e)) (by omega) w6.heap.size X (heap_alloc_new w6 _) 34
                    have HX : Hid (ResR Wb.heap.size w9 r (.slice ca C1.length cc) (.slice a' (fj.length + 1) c') C1 (fj ++ [X]) ∧ RowAt w9 3 1 (.slice a9 (live.length + fj.length + 1) c9) (live.length + (fj ++ [X]).length) ((live ++ (fj ++ [X])).map (Value.int .i64)) ∧ RowAt w9 3 1 (.slice la live.length lc) live.length (live.map (Value.int .i64)) ∧
                        (∀ k, rblk (.slice la live.length lc) = some k → k ≠ r ∧ rblk (.slice ca C1.length cc) ≠ some k ∧ rblk (.slice a' (fj.length + 1) c') ≠ some k ∧ rblk (.slice a9 (live.length + fj.length + 1) c9) ≠ some k ∧ k < w9.heap.size) ∧ (∀ k, rblk (.slice a9 (live.length + fj.length + 1) c9) = some k → Wb.heap.size ≤ k ∧ k ≠ r ∧ rblk (.slice ca C1.length cc) ≠ some k ∧ rblk (.slice a' (fj.length + 1) c') ≠ some k) ∧ Ch0 Wb w9) := by
                      have s6 := HF.out.2.1.size
                      have s9 := d9.size
                      have s7 := ca6.size
                      have hr6 : r < w6.heap.size := by
                        have := HF.out.1.blk
                        rw [Array.getElem?_eq_some_iff] at this
                        exact this.1
                      have hAf : ∀ k, rblk (.slice aa (live.length + fj.length) ac) = some k → rblk (.slice a' (fj.length + 1) c') ≠ some k := fun k hk => HF.out.2.2.2 k (hrest.out.1.lt hk) (hrest.out.2.2.2.1 k hk).2.2.2
                      refine Lib.hid ⟨(HF.out.1.new ca6).keep d9 (fun e => (hrest.out.2.2.2.1 _ e).2.1 rfl) (fun k hk e => (hrest.out.2.2.2.1 _ e).2.2.1 hk) (fun k hk e => hAf k e hk), ?_, ((hrest.out.2.1.keep HF.out.2.1 (fun k hk e => ?_)).keep ca6 (fun _ _ e => e)).keep d9 (fun k hk e => (hrest.out.2.2.1 k hk).2.2.2.1 e), fun k hk => ⟨(hrest.out.2.2.1 k hk).1, (hrest.out.2.2.1 k hk).2.1, HF.out.2.2.2 k (hrest.out.2.2.1 k hk).2.2.2.2 (hrest.out.2.2.1 k hk).2.2.1, fun e => ?_, by have := (hrest.out.2.2.1 k hk).2.2.2.2; omega⟩, fun k hk => ?_, (HF.out.2.2.1.trans ca6).trans' d9 (fun _ _ e => e) (fun k hk e => by have := (hrest.out.2.2.2.1 k e).1; omega)⟩
                      · rw [List.length_append, List.length_singleton, ← Nat.add_assoc, ← List.append_assoc]; exact r9
                      · rcases e with e | e
                        · exact (hrest.out.2.2.1 k hk).1 e
                        · exact (hrest.out.2.2.1 k hk).2.2.1 e
                      · rcases b9 with q | q
                        · rw [q] at e; exact (hrest.out.2.2.1 k hk).2.2.2.1 e
                        · rw [q] at e; cases e; have := (hrest.out.2.2.1 _ hk).2.2.2.2; omega
                      · rcases b9 with q | q
                        · rw [q] at hk
                          obtain ⟨q1, q2, q3, -⟩ := hrest.out.2.2.2.1 k hk
                          exact ⟨q1, q2, q3, hAf k hk⟩
                        · rw [q] at hk
                          cases hk
                          refine ⟨by have := HF.out.2.2.1.size; omega, fun e => ?_, fun e => ?_, fun e => ?_⟩
                          · omega
                          · have := HF.out.1.c.lt e; omega
                          · have := HF.out.1.f.lt e; omega
                    clear ca6 hA6 r9 d9 b9 HF
                    go_wp2_with (at_builtin; refine wpList_append_run rfl _ _ 34 34 rfl rfl rfl hrun9 ?_)
                    go_roundw
                    case rel => exact ⟨j + 1, _, by omega, by go_num, by rw [hyes.out]; exact HX.out.1, by rw [hyes.out]; exact HX.out.2.1, HX.out.2.2⟩
                    case measure => simp [intOf]; omega
            · obtain rfl : j = L.length := by omega
              rw [List.take_length] at hRR hA ⊢
              obtain ⟨F, hF⟩ : ∃ F, F = finL L live := ⟨_, rfl⟩
              rw [show (ids L).filter (fun id => isFin L id && !decide (id ∈ live)) = F from hF.symm] at hRR hA ⊢
              have hFl : F.length ≤ 900 := by
                rw [hF]
                unfold finL
                have h1 := List.length_filter_le (fun id => isFin L id && !decide (id ∈ live)) (ids L)
                have h2 : (ids L).length = L.length := by simp [ids]
                omega
              have hcl := rclose_of (HR.out.new c) HAL.out (by omega) _ _ (live ++ F) (by show Sees _ _ _ _ _ _; rw [List.length_append]; exact hA.sees) 1
              have hRR0 := Lib.hid (And.intro hRR c)
              replace hF := Lib.hid hF
              clear hA hl hO hAO hRR c kg5
              go_wp2_with fail
              refine hcl.mono ?_
              rintro e w7 ⟨lv7, rfl, r7, f7, c7⟩
              have htl : (closeL cs L 1 (live ++ F)).length ≤ 900 := Nat.le_trans closeL_len hL
              have htu : (closeL cs L 1 (live ++ F)).Pairwise (· < ·) := rchL_rising (rising_ids hrise.out)
              obtain ⟨t, ht⟩ : ∃ t, t = closeL cs L 1 (live ++ F) := ⟨_, rfl⟩
              rw [← ht] at r7 htl htu
              replace ht := Lib.hid ht
              have hnd : Hid t.Nodup := Lib.hid (htu.imp (fun q => by omega))
              obtain ⟨a7, lc7, rfl, -, -⟩ := r7.isSlice
              have HS7 : Hid (ResR Wb.heap.size w7 r (.slice ca C1.length cc) (.slice fa F.length fc) C1 F ∧ Off w7 (.slice a7 t.length lc7) (.slice ca C1.length cc) r ∧ RowAt w7 3 1 (.slice a7 t.length lc7) t.length (t.map (Value.int .i64)) ∧ Ch0 Wb w7) := by
                refine Lib.hid ⟨hRR0.out.1.new c7, fun k hk => ⟨fun e => ?_, fun e => ?_, r7.lt hk⟩, r7, hRR0.out.2.trans c7⟩
                · have h1 := f7 k hk
                  have h2 := hRR0.out.1.blk
                  rw [Array.getElem?_eq_some_iff] at h2
                  have := h2.1
                  omega
                · have := f7 k hk; have := hRR0.out.1.c.lt e; omega
              have hlf : Hid (∀ k, rblk (.slice a7 t.length lc7) = some k → Wb.heap.size ≤ k) := Lib.hid (fun k hk => by have := f7 k hk; have := hRR0.out.2.size; omega)
              have hC1l : C1.length ≤ 900 := by
                rw [hC1.out]
                have : (clear1 cs L live).length ≤ live.length := List.length_filter_le _ _
                omega
              clear hcl r7 f7 c7 hRR0 htu
              go_wp2_with fail
              go_loopw [174] (fun i wr => ∃ (j : Nat) (cvv : Value), j ≤ t.length ∧ i = .int .i64 j ∧ ResR Wb.heap.size wr r cvv (.slice fa F.length fc) (C1 ++ (t.take j).filter (p2 cs L t C1)) F ∧ Off wr (.slice a7 t.length lc7) cvv r ∧ RowAt wr 3 1 (.slice a7 t.length lc7) t.length (t.map (Value.int .i64)) ∧ Ch0 Wb wr) (fun i _ => t.length - (intOf i).toNat)
              case atStart => exact ⟨0, _, Nat.zero_le _, rfl, by simpa using HS7.out.1, HS7.out.2⟩
              case round =>
                clear HS7
                obtain ⟨j, cvv, hj, rfl, hRR, hO, hl, c⟩ := hrel
                obtain ⟨ca, cc, rfl, -, -⟩ := hRR.c.isSlice
                by_cases hlt : j < t.length
                · obtain ⟨g, o, c1, -, e1, hcell⟩ := SeesI.cell hl.sees (by omega)
                  obtain ⟨rfl, rfl⟩ : a7 = some ⟨g, o, none⟩ ∧ lc7 = c1 := by simpa using e1
                  have hx := hcell j hlt
                  have i1 : (0 : Int) ≤ j := by omega
                  have i2 : (j : Int) < t.length := by omega
                  have hsn := filter_snoc (p2 cs L t C1) t hlt
                  have hp : p2 cs L t C1 (t.getD j 0) = ((lostB cs L t (t.getD j 0) && !decide ((gaim cs L (t.getD j 0)).2 = 5)) && !decide ((t.getD j 0) ∈ C1)) := rfl
                  have hdm : decide ((t.getD j 0) ∈ C1) = decide ((t.getD j 0) ∈ C1 ++ (t.take j).filter (p2 cs L t C1)) := by
                    have hnm := take_not hnd.out hlt (p2 cs L t C1)
                    rw [decide_eq_decide, List.mem_append]
                    exact ⟨fun q => .inl q, fun q => q.resolve_right hnm⟩
                  rw [hdm] at hp
                  have hlen : (C1 ++ (t.take j).filter (p2 cs L t C1)).length < 4294967296 := by
                    have h1 := List.length_filter_le (p2 cs L t C1) (t.take j)
                    have h2 : (t.take j).length ≤ t.length := by simp; omega
                    rw [List.length_append]
                    omega
                  have hlo := rlost_of (HR.out.new c) HAL.out _ _ t hl.sees (t.getD j 0)
                  clear hcell e1
                  generalize hcj : C1 ++ (t.take j).filter (p2 cs L t C1) = cj at *
                  have hsn2 : Hid (C1 ++ (t.take (j + 1)).filter (p2 cs L t C1) = cj ++ (if p2 cs L t C1 (t.getD j 0) = true then [t.getD j 0] else [])) := Lib.hid (by rw [hsn, ← List.append_assoc, hcj])
                  clear hsn hcj
                  generalize lostB cs L t (t.getD j 0) = lb at *
                  generalize (gaim cs L (t.getD j 0)).2 = kd at *
                  generalize t.getD j 0 = X at *
                  have hOL0 := Lib.hid (And.intro hO (And.intro hl c))
                  replace hRR := Lib.hid hRR
                  replace hp := Lib.hid hp
                  clear hO hl c
                  go_wp2_with fail
                  refine hlo.mono ?_
                  rintro e w5 ⟨rfl, c5⟩
                  have hR2 := Lib.hid (hRR.out.new c5)
                  have hOL := Lib.hid (And.intro (hOL0.out.1.new c5) (And.intro (hOL0.out.2.1.keep c5 (fun _ _ e => e)) (hOL0.out.2.2.trans c5)))
                  replace hx := c5.cell hx (fun e => e)
                  clear hlo hRR hOL0 c5
                  cases lb with
                  | false =>
                    have hno : Hid (C1 ++ (t.take (j + 1)).filter (p2 cs L t C1) = cj) := Lib.hid (by rw [hsn2.out, hp.out]; simp)
                    clear hsn2 hp
                    have k1 := cellB hR2.out.cells.2.1
                    have qx := cellB hx
                    have HH : Hid (∀ (d : Nat) (os : Array Obj), _) := Lib.hid (fun d os => has_any _ _ cj X _ ((hR2.out.new (chB w5 d os)).c.sees))
                    go_wp2_with fail
                    refine wp_region_quiet_below (by kernel_rfl) (by kernel_rfl) ?_
                    repeat (go_big_quiet_step ((go_at_call 54; exact quietS (HH.out _ _))))
                    refine wpQuiet_nil ?_
                    intro _ hw'
                    obtain ⟨⟨dq, osq⟩, hw''⟩ := hw'
                    subst hw''
                    have hR2' := Lib.hid (hR2.out.new (chB w5 dq osq))
                    have hOL' := Lib.hid (And.intro (hOL.out.1.new (chB w5 dq osq)) (And.intro (hOL.out.2.1.keep (chB w5 dq osq) (fun _ _ e => e)) (hOL.out.2.2.trans (chB w5 dq osq))))
                    replace hx := (chB w5 dq osq).cell hx (fun e => e)
                    clear k1 qx hR2 hOL HH
                    generalize grow (redrawn w5 dq) osq = w5 at *
                    have hR2 := hR2'
                    have hOL := hOL'
                    clear hR2' hOL'
                    go_wp2_with fail
                    go_roundw
                    case rel => exact ⟨j + 1, _, by omega, by go_num, by rw [hno.out]; exact hR2.out, hOL.out⟩
                    case measure => simp [intOf]; omega
                  | true =>
                    by_cases h5 : kd = 5
                    · have t0 : (kd != 5) = false := by simp [h5]
                      have hno : Hid (C1 ++ (t.take (j + 1)).filter (p2 cs L t C1) = cj) := Lib.hid (by rw [hsn2.out, hp.out]; simp [h5])
                      clear hsn2 hp h5
                      have k1 := cellB hR2.out.cells.2.1
                      have qx := cellB hx
                      have HH : Hid (∀ (d : Nat) (os : Array Obj), _) := Lib.hid (fun d os => has_any _ _ cj X _ ((hR2.out.new (chB w5 d os)).c.sees))
                      go_wp2_with fail
                      refine wp_region_quiet_below (by kernel_rfl) (by kernel_rfl) ?_
                      repeat (go_big_quiet_step ((go_at_call 54; exact quietS (HH.out _ _))))
                      refine wpQuiet_nil ?_
                      intro _ hw'
                      obtain ⟨⟨dq, osq⟩, hw''⟩ := hw'
                      subst hw''
                      have hR2' := Lib.hid (hR2.out.new (chB w5 dq osq))
                      have hOL' := Lib.hid (And.intro (hOL.out.1.new (chB w5 dq osq)) (And.intro (hOL.out.2.1.keep (chB w5 dq osq) (fun _ _ e => e)) (hOL.out.2.2.trans (chB w5 dq osq))))
                      replace hx := (chB w5 dq osq).cell hx (fun e => e)
                      clear k1 qx hR2 hOL HH
                      generalize grow (redrawn w5 dq) osq = w5 at *
                      have hR2 := hR2'
                      have hOL := hOL'
                      clear hR2' hOL'
                      go_wp2_with fail
                      go_roundw
                      case rel => exact ⟨j + 1, _, by omega, by go_num, by rw [hno.out]; exact hR2.out, hOL.out⟩
                      case measure => simp [intOf]; omega
                    · have t0 : (kd != 5) = true := by simpa using h5
                      by_cases hm : X ∈ cj
                      · have hno : Hid (C1 ++ (t.take (j + 1)).filter (p2 cs L t C1) = cj) := Lib.hid (by rw [hsn2.out, hp.out]; simp [h5, hm])
                        clear hsn2 hp h5
                        have k1 := cellB hR2.out.cells.2.1
                        have qx := cellB hx
                        have HH : Hid (∀ (d : Nat) (os : Array Obj), _) := Lib.hid (fun d os => has_any _ _ cj X _ ((hR2.out.new (chB w5 d os)).c.sees))
                        rw [decide_eq_true hm] at HH
                        clear hm
                        go_wp2_with fail
                        refine wp_region_quiet_below (by kernel_rfl) (by kernel_rfl) ?_
                        repeat (go_big_quiet_step ((go_at_call 54; exact quietS (HH.out _ _))))
                        refine wpQuiet_nil ?_
                        intro _ hw'
                        obtain ⟨⟨dq, osq⟩, hw''⟩ := hw'
                        subst hw''
                        have hR2' := Lib.hid (hR2.out.new (chB w5 dq osq))
                        have hOL' := Lib.hid (And.intro (hOL.out.1.new (chB w5 dq osq)) (And.intro (hOL.out.2.1.keep (chB w5 dq osq) (fun _ _ e => e)) (hOL.out.2.2.trans (chB w5 dq osq))))
                        replace hx := (chB w5 dq osq).cell hx (fun e => e)
                        clear k1 qx hR2 hOL HH
                        generalize grow (redrawn w5 dq) osq = w5 at *
                        have hR2 := hR2'
                        have hOL := hOL'
                        clear hR2' hOL'
                        go_wp2_with fail
                        go_roundw
                        case rel => exact ⟨j + 1, _, by omega, by go_num, by rw [hno.out]; exact hR2.out, hOL.out⟩
                        case measure => simp [intOf]; omega
                      · have hyes : Hid (C1 ++ (t.take (j + 1)).filter (p2 cs L t C1) = cj ++ [X]) := Lib.hid (by rw [hsn2.out, hp.out]; simp [h5, hm])
                        clear hsn2 hp h5
                        have k1 := cellB hR2.out.cells.2.1
                        have qx := cellB hx
                        have HH : Hid (∀ (d : Nat) (os : Array Obj), _) := Lib.hid (fun d os => has_any _ _ cj X _ ((hR2.out.new (chB w5 d os)).c.sees))
                        rw [decide_eq_false hm] at HH
                        clear hm
                        go_wp2_with fail
                        refine wp_region_quiet_below (by kernel_rfl) (by kernel_rfl) ?_
                        repeat (go_big_quiet_step ((go_at_call 54; exact quietS (HH.out _ _))))
                        refine wpQuiet_nil ?_
                        intro _ hw'
                        obtain ⟨⟨dq, osq⟩, hw''⟩ := hw'
                        subst hw''
                        have hR2' := Lib.hid (hR2.out.new (chB w5 dq osq))
                        have hOL' := Lib.hid (And.intro (hOL.out.1.new (chB w5 dq osq)) (And.intro (hOL.out.2.1.keep (chB w5 dq osq) (fun _ _ e => e)) (hOL.out.2.2.trans (chB w5 dq osq))))
                        replace hx := (chB w5 dq osq).cell hx (fun e => e)
                        clear k1 qx hR2 hOL HH
                        generalize grow (redrawn w5 dq) osq = w5 at *
                        have hR2 := hR2'
                        have hOL := hOL'
                        clear hR2' hOL'
                        have k1 := hR2.out.cells.2.1
                        have hnew : (w5.alloc (.cells #[.int .i64 X] 3)).cell? ⟨r, 1, none⟩ = some (.slice ca cj.length cc) := ((Ch.refl (fun _ => False) w5).alloc _).cell k1 (fun q => q)
                        have HCr := Lib.hid hR2.out.c
                        have hbk := Lib.hid hR2.out.blk
                        have hbv : Hid (¬ (rblk (.slice ca cj.length cc) = some r)) := Lib.hid (fun e => hR2.out.ne.1 _ e rfl)
                        have HE : Hid (∀ wx a' c' w4, Ch0 w5 wx → Ch (fun k => rblk (.slice ca cj.length cc) = some k) wx w4 → (rblk (.slice a' (cj.length + 1) c') = rblk (.slice ca cj.length cc) ∨ rblk (.slice a' (cj.length + 1) c') = some wx.heap.size) → RowAt w4 3 1 (.slice a' (cj.length + 1) c') (cj.length + 1) ((cj ++ [X]).map (Value.int .i64)) → _) := Lib.hid (fun wx a' c' w4 q1 q2 q3 q4 => hR2.out.stepC hOL.out.1 hOL.out.2.1 hOL.out.2.2 rfl q1 q2 q3 q4)
                        go_wp2_with fail
                        go_region_law
                          (((refine step_int HCr.out rfl hlen _ _ (by rfl) _ _ (by rfl) (by rfl) (by rfl) (by exact heap_alloc_new w5 _) (by first | exact ((Ch.refl _ w5).alloc _).drew | exact (Ch.refl _ w5).drew.alloc _ | exact (Ch.refl _ w5).alloc _) ?_; intro a' c' w4 r4 c4 b4 c5; have f4 := frozen_of_row w4 r 1 _ _ (c4.keep (c5.keep hbk.out (fun q => q)) hbv.out); have q4 := c4.cell (c5.cell k1 (fun q => q)) hbv.out)))
                        all_goals
                          have HF := Lib.hid (HE.out _ _ _ _ c5 c4 b4 r4)
                          clear c4 c5 b4 r4 f4 q4 hnew HCr HE hbk hR2 hOL k1 hx
                          go_wp2_with fail
                          go_roundw
                          case rel => exact ⟨j + 1, _, by omega, by go_num, by rw [hyes.out]; exact HF.out.1, HF.out.2⟩
                          case measure => simp [intOf]; omega
                · obtain rfl : j = t.length := by omega
                  rw [List.take_length] at hRR hO
                  rw [clr_p2 HAL.out hwf.out HI.out] at hRR hO
                  obtain ⟨C2, hC2⟩ : ∃ C2, C2 = C1 ++ clrL cs L [3, 4] t C1 := ⟨_, rfl⟩
                  rw [← hC2] at hRR hO
                  have hC2l : C2.length ≤ 1800 := by
                    rw [hC2, List.length_append]
                    have : (clrL cs L [3, 4] t C1).length ≤ t.length := List.length_filter_le _ _
                    omega
                  replace hC2 := Lib.hid hC2
                  have HS8 := Lib.hid (And.intro hRR (And.intro hO (And.intro hl c)))
                  clear hRR hO hl c
                  go_wp2_with fail
                  go_loopw [214] (fun i wr => ∃ (j : Nat) (cvv : Value), j ≤ t.length ∧ i = .int .i64 j ∧ ResR Wb.heap.size wr r cvv (.slice fa F.length fc) (C2 ++ (t.take j).filter (p3 cs L t)) F ∧ Off wr (.slice a7 t.length lc7) cvv r ∧ RowAt wr 3 1 (.slice a7 t.length lc7) t.length (t.map (Value.int .i64)) ∧ Ch0 Wb wr) (fun i _ => t.length - (intOf i).toNat)
                  case atStart => exact ⟨0, _, Nat.zero_le _, rfl, by simpa using HS8.out.1, HS8.out.2⟩
                  case round =>
                    clear HS8
                    obtain ⟨j, cvv, hj, rfl, hRR, hO, hl, c⟩ := hrel
                    obtain ⟨ca, cc, rfl, -, -⟩ := hRR.c.isSlice
                    by_cases hlt : j < t.length
                    · obtain ⟨g, o, c1, -, e1, hcell⟩ := SeesI.cell hl.sees (by omega)
                      obtain ⟨rfl, rfl⟩ : a7 = some ⟨g, o, none⟩ ∧ lc7 = c1 := by simpa using e1
                      have hx := hcell j hlt
                      have i1 : (0 : Int) ≤ j := by omega
                      have i2 : (j : Int) < t.length := by omega
                      have hsn := filter_snoc (p3 cs L t) t hlt
                      have hp : p3 cs L t (t.getD j 0) = (lostB cs L t (t.getD j 0) && decide ((gaim cs L (t.getD j 0)).2 = 5)) := rfl
                      have hlen : (C2 ++ (t.take j).filter (p3 cs L t)).length < 4294967296 := by
                        have h1 := List.length_filter_le (p3 cs L t) (t.take j)
                        have h2 : (t.take j).length ≤ t.length := by simp; omega
                        rw [List.length_append]
                        omega
                      have hlo := rlost_of (HR.out.new c) HAL.out _ _ t hl.sees (t.getD j 0)
                      clear hcell e1
                      generalize hcj : C2 ++ (t.take j).filter (p3 cs L t) = cj at *
                      have hsn2 : Hid (C2 ++ (t.take (j + 1)).filter (p3 cs L t) = cj ++ (if p3 cs L t (t.getD j 0) = true then [t.getD j 0] else [])) := Lib.hid (by rw [hsn, ← List.append_assoc, hcj])
                      clear hsn hcj
                      generalize lostB cs L t (t.getD j 0) = lb at *
                      generalize (gaim cs L (t.getD j 0)).2 = kd at *
                      generalize t.getD j 0 = X at *
                      have hOL0 := Lib.hid (And.intro hO (And.intro hl c))
                      replace hRR := Lib.hid hRR
                      replace hp := Lib.hid hp
                      clear hO hl c
                      go_wp2_with fail
                      refine hlo.mono ?_
                      rintro e w5 ⟨rfl, c5⟩
                      have hR2 := Lib.hid (hRR.out.new c5)
                      have hOL := Lib.hid (And.intro (hOL0.out.1.new c5) (And.intro (hOL0.out.2.1.keep c5 (fun _ _ e => e)) (hOL0.out.2.2.trans c5)))
                      replace hx := c5.cell hx (fun e => e)
                      clear hlo hRR hOL0 c5
                      cases lb with
                      | false =>
                        have hno : Hid (C2 ++ (t.take (j + 1)).filter (p3 cs L t) = cj) := Lib.hid (by rw [hsn2.out, hp.out]; simp)
                        clear hsn2 hp
                        go_wp2_with fail
                        go_roundw
                        case rel => exact ⟨j + 1, _, by omega, by go_num, by rw [hno.out]; exact hR2.out, hOL.out⟩
                        case measure => simp [intOf]; omega
                      | true =>
                        by_cases h5 : kd = 5
                        · have t0 : (kd == 5) = true := by simpa using h5
                          have hyes : Hid (C2 ++ (t.take (j + 1)).filter (p3 cs L t) = cj ++ [X]) := Lib.hid (by rw [hsn2.out, hp.out]; simp [h5])
                          clear hsn2 hp h5
                          have k1 := hR2.out.cells.2.1
                          have hnew : (w5.alloc (.cells #[.int .i64 X] 3)).cell? ⟨r, 1, none⟩ = some (.slice ca cj.length cc) := ((Ch.refl (fun _ => False) w5).alloc _).cell k1 (fun q => q)
                          have HCr := Lib.hid hR2.out.c
                          have hbk := Lib.hid hR2.out.blk
                          have hbv : Hid (¬ (rblk (.slice ca cj.length cc) = some r)) := Lib.hid (fun e => hR2.out.ne.1 _ e rfl)
                          have HE : Hid (∀ wx a' c' w4, Ch0 w5 wx → Ch (fun k => rblk (.slice ca cj.length cc) = some k) wx w4 → (rblk (.slice a' (cj.length + 1) c') = rblk (.slice ca cj.length cc) ∨ rblk (.slice a' (cj.length + 1) c') = some wx.heap.size) → RowAt w4 3 1 (.slice a' (cj.length + 1) c') (cj.length + 1) ((cj ++ [X]).map (Value.int .i64)) → _) := Lib.hid (fun wx a' c' w4 q1 q2 q3 q4 => hR2.out.stepC hOL.out.1 hOL.out.2.1 hOL.out.2.2 rfl q1 q2 q3 q4)
                          go_wp2_with fail
                          go_region_law
                            (((refine step_int HCr.out rfl hlen _ _ (by rfl) _ _ (by rfl) (by rfl) (by rfl) (by exact heap_alloc_new w5 _) (by first | exact ((Ch.refl _ w5).alloc _).drew | exact (Ch.refl _ w5).drew.alloc _ | exact (Ch.refl _ w5).alloc _) ?_; intro a' c' w4 r4 c4 b4 c5; have f4 := frozen_of_row w4 r 1 _ _ (c4.keep (c5.keep hbk.out (fun q => q)) hbv.out); have q4 := c4.cell (c5.cell k1 (fun q => q)) hbv.out)))
                          all_goals
                            have HF := Lib.hid (HE.out _ _ _ _ c5 c4 b4 r4)
                            clear c4 c5 b4 r4 f4 q4 hnew HCr HE hbk hR2 hOL k1 hx
                            go_wp2_with fail
                            go_roundw
                            case rel => exact ⟨j + 1, _, by omega, by go_num, by rw [hyes.out]; exact HF.out.1, HF.out.2⟩
                            case measure => simp [intOf]; omega
                        · have t0 : (kd == 5) = false := by simpa using h5
                          have hno : Hid (C2 ++ (t.take (j + 1)).filter (p3 cs L t) = cj) := Lib.hid (by rw [hsn2.out, hp.out]; simp [h5])
                          clear hsn2 hp h5
                          go_wp2_with fail
                          go_roundw
                          case rel => exact ⟨j + 1, _, by omega, by go_num, by rw [hno.out]; exact hR2.out, hOL.out⟩
                          case measure => simp [intOf]; omega
                    · obtain rfl : j = t.length := by omega
                      rw [List.take_length] at hRR hO
                      have hC3 : Hid (C2 ++ t.filter (p3 cs L t) = clear3 cs L live t) := Lib.hid (by
                        rw [clr_p3 live t, hC2.out]
                        unfold clear3 clear2
                        rw [hC1.out])
                      rw [hC3.out] at hRR hO
                      obtain ⟨C3, hC3e⟩ : ∃ C3, C3 = clear3 cs L live t := ⟨_, rfl⟩
                      rw [← hC3e] at hRR hO
                      replace hC3e := Lib.hid hC3e
                      clear hC3
                      have hPR : Hid (PR cs L kp roots live t C3 F) := Lib.hid ⟨hs.out, hF.out, by rw [ht.out, hF.out]; rfl, hC3e.out⟩
                      have hwr : w.heap.size < Wb.heap.size := by have := hsz.out; omega
                      have hrb := hRR.rb
                      have hbx := c.keep hbox.out (fun e => e)
                      obtain ⟨y0, y1, y2⟩ := hRR.cells
                      have fy := frozen_of_row wr r 0 _ _ hRR.blk
                      have hblk := hRR.blk
                      have hb0 : (wr.setCell ⟨r, 0, none⟩ (.slice a7 t.length lc7)).heap[r]? = some (.cells #[.slice a7 t.length lc7, .slice ca C3.length cc, .slice fa F.length fc] 94 (0, 0)) := by
                        rw [heap_setCell_same wr r 0 _ _ _ hblk]; rfl
                      have cS0 : Ch (fun k => k = r) wr (wr.setCell ⟨r, 0, none⟩ (.slice a7 t.length lc7)) := (Ch.refl (fun k => k = r) wr).setCell (p := ⟨r, 0, none⟩) (fun _ => rfl) _
                      have hbx0 := cS0.keep hbx (fun e => by have e' : w.heap.size = r := e; omega)
                      have HE := Lib.hid (And.intro hl (And.intro hRR.c (And.intro hRR.f c)))
                      have HBs := Lib.hid (And.intro hRR.cb (And.intro hRR.fb (And.intro (fun k hk => (hO k hk).1) hRR.ne)))
                      clear hRR hO hl c hblk hbx
                      have q0 := cell_of_row _ r 0 _ _ _ hb0
                      have q1 := cell_of_row _ r 1 _ _ _ hb0
                      have q2 := cell_of_row _ r 2 _ _ _ hb0
                      have z0 := cell_of_row _ w.heap.size 0 _ _ _ hbx0
                      have z1 := cell_of_row _ w.heap.size 1 _ _ _ hbx0
                      have z2 := cell_of_row _ w.heap.size 2 _ _ _ hbx0
                      simp only [List.getElem?_toArray, List.getElem?_cons_zero, List.getElem?_cons_succ] at q0 q1 q2 z0 z1 z2
                      have f0 := frozen_of_row _ w.heap.size 0 _ _ hbx0
                      have f1 := frozen_of_row _ w.heap.size 1 _ _ hbx0
                      have f2 := frozen_of_row _ w.heap.size 2 _ _ hbx0
                      go_wp2_with fail
                      generalize hW8 : wr.setCell ⟨r, 0, none⟩ (.slice a7 t.length lc7) = w8 at *
                      have hb1 : (w8.setCell ⟨w.heap.size, 0, none⟩ (.slice a7 t.length lc7)).heap[w.heap.size]? = some (.cells #[.slice a7 t.length lc7, .slice none 0 0, .slice none 0 0] 94 (0, 0)) := by
                        rw [heap_setCell_same w8 w.heap.size 0 _ _ _ hbx0]; rfl
                      have hb2 : ((w8.setCell ⟨w.heap.size, 0, none⟩ (.slice a7 t.length lc7)).setCell ⟨w.heap.size, 1, none⟩ (.slice ca C3.length cc)).heap[w.heap.size]? = some (.cells #[.slice a7 t.length lc7, .slice ca C3.length cc, .slice none 0 0] 94 (0, 0)) := by
                        rw [heap_setCell_same _ w.heap.size 1 _ _ _ hb1]; rfl
                      have hb3 : (((w8.setCell ⟨w.heap.size, 0, none⟩ (.slice a7 t.length lc7)).setCell ⟨w.heap.size, 1, none⟩ (.slice ca C3.length cc)).setCell ⟨w.heap.size, 2, none⟩ (.slice fa F.length fc)).heap[w.heap.size]? = some (.cells #[.slice a7 t.length lc7, .slice ca C3.length cc, .slice fa F.length fc] 94 (0, 0)) := by
                        rw [heap_setCell_same _ w.heap.size 2 _ _ _ hb2]; rfl
                      have cS : Ch (fun k => k = r ∨ k = w.heap.size) wr (((w8.setCell ⟨w.heap.size, 0, none⟩ (.slice a7 t.length lc7)).setCell ⟨w.heap.size, 1, none⟩ (.slice ca C3.length cc)).setCell ⟨w.heap.size, 2, none⟩ (.slice fa F.length fc)) :=
                        (cS0.mono (fun k _ e => .inl e)).trans (((((Ch.refl (fun k => k = w.heap.size) w8).setCell (p := ⟨w.heap.size, 0, none⟩) (fun _ => rfl) _).setCell (p := ⟨w.heap.size, 1, none⟩) (fun _ => rfl) _).setCell (p := ⟨w.heap.size, 2, none⟩) (fun _ => rfl) _).mono (fun k _ e => .inr e))
                      generalize ((w8.setCell ⟨w.heap.size, 0, none⟩ (.slice a7 t.length lc7)).setCell ⟨w.heap.size, 1, none⟩ (.slice ca C3.length cc)).setCell ⟨w.heap.size, 2, none⟩ (.slice fa F.length fc) = wF at *
                      have p0 := cell_of_row wF w.heap.size 0 _ _ _ hb3
                      have p1 := cell_of_row wF w.heap.size 1 _ _ _ hb3
                      have p2 := cell_of_row wF w.heap.size 2 _ _ _ hb3
                      simp only [List.getElem?_toArray, List.getElem?_cons_zero, List.getElem?_cons_succ] at p0 p1 p2
                      obtain ⟨e1, e2, e3, e4⟩ := HE.out
                      obtain ⟨b1, b2, b3, b4, b5⟩ := HBs.out
                      have hwM : w.heap.size ≤ Wb.heap.size := by omega
                      have hla : ∀ k, rblk (.slice a7 t.length lc7) = some k → Wb.heap.size ≤ k := hlf.out
                      clear q0 q1 q2 z0 z1 z2 f0 f1 f2 y0 y1 y2 fy hb0 hbx0 hb1 hb2 hW8
                      refine bodyPost_ret (v := .agg #[.slice a7 t.length lc7, .slice ca C3.length cc, .slice fa F.length fc]) (by simp [results, Try.results73, go_sem, p0, p1, p2]) rfl ⟨_, _, _, live, t, C3, F, rfl, ⟨hPR.out, e1.keep cS (fun k hk e => ?_), e2.keep cS (fun k hk e => ?_), e3.keep cS (fun k hk e => ?_), fun k hk => Nat.le_trans hwM (hla k hk), fun k hk => Nat.le_trans hwM (b1 k hk), fun k hk => Nat.le_trans hwM (b2 k hk)⟩, (cW.out.trans e4).trans' cS (fun _ _ e => e) (fun k hk e => ?_)⟩
                      · rcases e with e | e
                        · exact b3 k hk e
                        · have := hla k hk; omega
                      · rcases e with e | e
                        · exact b4 k hk e
                        · have := b1 k hk; omega
                      · rcases e with e | e
                        · exact b5 k hk e
                        · have := b2 k hk; omega
                      · rcases e with e | e <;> omega
end

end Go.Proofs.Ytlmeponoadhheaa
