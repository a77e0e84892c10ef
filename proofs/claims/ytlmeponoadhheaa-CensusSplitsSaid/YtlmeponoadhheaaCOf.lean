/-
  Contract of the program's Of: the rows of a graph.
-/
import Derived.Test.YtlmeponoadhheaaCDiff
import Derived.Test.YtlmeponoadhheaaCenM
import Derived.Test.YtlmeponoadhheaaDuo
namespace Go.Proofs.Ytlmeponoadhheaa
set_option linter.unusedVariables false
open Go.RowKit Go.Sort

theorem few_grows {cs : List Cls} {L : List GN} (hw : ∀ nd ∈ L, WfN cs nd) (hl : L.length ≤ 500) : Few (grows L) :=
  ⟨by simpa [grows] using hl, fun r hr => by
    obtain ⟨nd, hnd, rfl⟩ := List.mem_map.1 hr
    exact (grow5_in (hw nd hnd)).mono (by decide)⟩

theorem live5_snoc (l : List Int) (x : Int) : live5 (l ++ [x]) = live5 l + if x = 0 then 0 else 1 := by
  induction l with
  | nil => rw [List.nil_append, live5_cons]; simp [live5]
  | cons a l ih => rw [List.cons_append, live5_cons, ih, live5_cons]; omega

theorem drF_of (X : List R5) (k : Int) : drF (puts5 (fun _ => none) X 1) k = S5 k X := by
  unfold drF
  rw [told_puts5]
  unfold told R5.at R5.plus S5 R5.zero
  simp only [Option.getD_none, Int.one_mul, Int.zero_add]

set_option maxRecDepth 100000 in
set_option maxHeartbeats 4000000 in
theorem cof_of {w : World} {b : Nat} {O : Nat → Prop} {cs : List Cls} {L : List GN} {p lo hi : Nat} (h : Gt w b O cs L p lo hi) (hL : L.length ≤ 500) :
    Calls Try.prog 81 #[.pointer (some ⟨b, 0, none⟩)] w fun e w' => ∃ v R, e = .returned v ∧ IsRows (fun c => S5 c (grows L)) R ∧ HasR w' 106 (fun k => w.heap.size ≤ k) v R ∧ R.length ≤ L.length ∧ Ch0 w w' := by
  have hF : Few (grows L) := few_grows h.wf hL
  have HI : Hid (∀ w', Ch0 w w' → _) := Lib.hid (fun w' (c : Ch0 w w') => ids_of (h.new c) (by omega))
  have HG := Lib.hid h
  replace hF := Lib.hid hF
  have cM : Ch0 w (w.alloc (.map #[] 0)) := (Ch.refl _ _).alloc _
  have hM := IM.made w
  have hmk : (Instr.makeMap 157 none).run Try.prog w = .ok (.map (some w.heap.size)) (w.alloc (.map #[] 0)) := by simp [Instr.makeMap, Result.andThen]
  generalize hBk : w.heap.size = B at *
  replace hBk := Lib.hid hBk
  replace cM := Lib.hid cM
  replace hM := Lib.hid hM
  clear h
  go_enter Try.func81, Try.ntmps81
  go_wp2_with fail
  clear hmk
  have hWs : B < (w.alloc (.map #[] 0)).heap.size := by rw [World.size_alloc]; have := hBk.out; omega
  generalize w.alloc (.map #[] 0) = W0 at *
  refine (HI.out W0 cM.out).mono ?_
  rintro e w1 ⟨v, rfl, r1, f1, c1⟩
  obtain ⟨a, c, ev, -, -⟩ := r1.isSlice
  rw [show (ids L).length = L.length by simp [ids]] at ev r1
  subst ev
  have f1' : Hid (∀ k, rblk (.slice a L.length c) = some k → k ≠ B) := Lib.hid (fun k hk e => by have := f1 k hk; omega)
  have hM1 := Lib.hid (hM.out.keep c1 (fun e => e))
  replace r1 := Lib.hid r1
  replace c1 := Lib.hid (cM.out.trans c1)
  clear HI hM cM f1
  go_wp2_with fail
  go_loopw [15] (fun i wr => ∃ j n : Nat, j ≤ L.length ∧ i = .int .i64 j ∧ n ≤ j ∧ IM wr B n (cvals (puts5 (fun _ => none) ((grows L).take j) 1)) ∧ Ch0 w wr ∧ Ch (fun k => k = B) w1 wr) (fun i _ => L.length - (intOf i).toNat)
  case atStart => exact ⟨0, 0, Nat.zero_le _, rfl, Nat.le_refl _, hM1.out, c1.out, Ch.refl _ _⟩
  case round =>
    obtain ⟨j, n, hj, rfl, hn, hM, d, d1⟩ := hrel
    clear hM1 c1
    by_cases hlt : j < L.length
    · have hs : SeesI (fun k => rblk (.slice a L.length c) = some k) wr (.slice a L.length c) (ids L) := by
        have := (r1.out.keep d1 (fun k hk e => by
          exact f1'.out k hk e)).sees
        rw [show L.length = (ids L).length by simp [ids]] at this ⊢
        exact this
      obtain ⟨g, o, c2, -, e1, hcell⟩ := hs.cell (by simp [ids]; omega)
      rw [show (ids L).length = L.length by simp [ids]] at e1
      obtain ⟨rfl, rfl⟩ : a = some ⟨g, o, none⟩ ∧ c = c2 := by simpa using e1
      have hx := hcell j (by simp [ids]; omega)
      rw [show (ids L).getD j 0 = L[j].id by simp [ids, List.getD_eq_getElem?_getD, hlt]] at hx
      have hnd : L[j] ∈ L := List.getElem_mem hlt
      have hwf := HG.out.wf _ hnd
      have hno := node_yes ((HG.out.new d).g) hnd (by have := hwf.refs; omega) (by have := hwf.data; omega)
      have hgl : j < (grows L).length := by simpa [grows] using hlt
      have hgj : (grows L)[j] = grow5 L[j] := by simp [grows]
      have hsn : put5 (puts5 (fun _ => none) ((grows L).take j) 1) (grow5 L[j]) 1 = puts5 (fun _ => none) ((grows L).take (j + 1)) 1 := by rw [List.take_succ_eq_append_getElem hgl, puts5_snoc, hgj]
      have hfr : Fit5 (grow5 L[j]) := (grow5_in hwf).mono (by decide)
      have hpl := fun w' => plus_of (told (puts5 (fun _ => none) ((grows L).take j) 1) L[j].cls) ((grow5 L[j]).at 0) 1 (.inl rfl) (fitA hF.out j _) hfr w'
      have hup0 := cvals_put (puts5 (fun _ => none) ((grows L).take j) 1) (grow5 L[j]) 1
      rw [hsn] at hup0
      have hlk0 := cvals_get (puts5 (fun _ => none) ((grows L).take j) 1) L[j].cls
      have i1 : (0 : Int) ≤ j := by omega
      have i2 : (j : Int) < L.length := by omega
      have q1 := hwf.refs
      have q2 := hwf.data
      change iput _ L[j].cls _ = _ at hup0
      have hpe : (told (puts5 (fun _ => none) ((grows L).take j) 1) L[j].cls).plus ((grow5 L[j]).at 0) 1 = (told (puts5 (fun _ => none) ((grows L).take j) 1) L[j].cls).plus (grow5 L[j]) 1 := rfl
      rw [hpe] at hpl
      change iput _ L[j].cls ((told (puts5 (fun _ => none) ((grows L).take j) 1) L[j].cls).plus (grow5 L[j]) 1).val = _ at hup0
      clear hs e1 hcell hsn hfr hpe hgl hgj hwf hnd
      generalize puts5 (fun _ => none) ((grows L).take j) 1 = F at *
      generalize hF' : puts5 (fun _ => none) ((grows L).take (j + 1)) 1 = F' at *
      replace hF' := Lib.hid hF'
      generalize L[j] = nd at *
      generalize (told F nd.cls).plus (grow5 nd) 1 = T' at *
      generalize told F nd.cls = T at *
      simp only [R5.val, R5.at, grow5] at hpl hup0 hlk0
      replace hM := Lib.hid hM
      replace d := Lib.hid d
      replace d1 := Lib.hid d1
      have y1 : IntKind.i64.wrap (2 + (nd.refs.length : Int)) = 2 + (nd.refs.length : Int) := IntWalk.i64_in _ (by omega)
      have y2 : IntKind.i64.wrap (2 + (nd.refs.length : Int) + (nd.data.length : Int)) = 2 + (nd.refs.length : Int) + (nd.data.length : Int) := IntWalk.i64_in _ (by omega)
      go_wp2_with fail
      refine hno.mono ?_
      rintro e w2 ⟨v, vr, vd, rfl, hcp, c2⟩
      obtain ⟨rfl, hcr, hcd, fr, -, -⟩ := hcp
      obtain ⟨ar, cr, rfl, -, -⟩ := hcr.isSlice
      obtain ⟨ad, cd, rfl, -, -⟩ := hcd.isSlice
      have cX : Ch0 w2 ((w2.alloc (.cells #[.int .i64 nd.id, .int .i64 nd.cls, .slice ar nd.refs.length cr, .slice ad nd.data.length cd, .bool nd.fin] 36)).alloc (.cells #[.int .i64 0, .int .i64 1, .int .i64 (2 + (nd.refs.length : Int) + (nd.data.length : Int)), .int .i64 0, .int .i64 0] 106)) := ((Ch.refl _ _).alloc _).alloc _
      obtain ⟨b6, b8⟩ := two_blocks w2 (.cells #[.int .i64 nd.id, .int .i64 nd.cls, .slice ar nd.refs.length cr, .slice ad nd.data.length cd, .bool nd.fin] 36) (.cells #[.int .i64 0, .int .i64 1, .int .i64 (2 + (nd.refs.length : Int) + (nd.data.length : Int)), .int .i64 0, .int .i64 0] 106)
      have hRef := Lib.hid (hcr.keep cX (fun _ _ e => e))
      have hRlt : Hid (∀ k, rblk (.slice ar nd.refs.length cr) = some k → k < w2.heap.size) := Lib.hid (fun k hk => hcr.lt hk)
      have hM3 := Lib.hid ((hM.out.keep c2 (fun e => e)).keep cX (fun e => e))
      have d3 := Lib.hid ((d.out.trans c2).trans cX)
      have d13 := Lib.hid ((d1.out.trans' c2 (fun _ _ e => e) (fun _ _ e => e.elim)).trans' cX (fun _ _ e => e) (fun _ _ e => e.elim))
      have hW12 : w1.heap.size ≤ w2.heap.size := by have := d1.out.size; have := c2.size; omega
      have hBlt : B < w2.heap.size := (hM.out.keep c2 (fun e => e)).lt
      replace b6 := Lib.hid b6
      replace b8 := Lib.hid b8
      clear cX c2 hno hcr hcd fr hM d d1 hx
      go_wp2_with fail
      generalize (w2.alloc (.cells #[.int .i64 nd.id, .int .i64 nd.cls, .slice ar nd.refs.length cr, .slice ad nd.data.length cd, .bool nd.fin] 36)).alloc (.cells #[.int .i64 0, .int .i64 1, .int .i64 (2 + (nd.refs.length : Int) + (nd.data.length : Int)), .int .i64 0, .int .i64 0] 106) = w3 at *
      generalize hB6 : w2.heap.size = B6 at *
      generalize hB8 : B6 + 1 = B8 at *
      have hne : B6 ≠ B8 := by omega
      have hnB : B ≠ B8 := by omega
      replace hB8 := Lib.hid hB8
      generalize hWd : 2 + (nd.refs.length : Int) + (nd.data.length : Int) = Wd at *
      clear hB6 y1 y2 hWd
      go_loopw [37] (fun i wr => ∃ k : Nat, k ≤ nd.refs.length ∧ i = .int .i64 k ∧ wr.heap[B8]? = some (.cells #[.int .i64 0, .int .i64 1, .int .i64 Wd, .int .i64 (live5 (nd.refs.take k)), .int .i64 0] 106 (0, 0)) ∧ Ch (fun k => k = B8) w3 wr) (fun i _ => nd.refs.length - (intOf i).toNat)
      case atStart => exact ⟨0, Nat.zero_le _, rfl, b8.out, Ch.refl _ _⟩
      case round =>
        obtain ⟨k, hk, rfl, b3, dd⟩ := hrel
        clear b8
        by_cases hkt : k < nd.refs.length
        · obtain ⟨g3, o3, c3, -, e3, hc3⟩ := SeesI.cell (D := fun _ => True) (xs := nd.refs) (w := wr) (v := .slice ar nd.refs.length cr) (by
            have := (hRef.out.keep dd (fun k hk e => by have := hRlt.out k hk; have := hB8.out; omega)).sees
            exact this.mono (fun _ _ => trivial)) (by omega)
          obtain ⟨rfl, rfl⟩ : ar = some ⟨g3, o3, none⟩ ∧ cr = c3 := by simpa using e3
          have hx := hc3 k hkt
          have hls := live5_snoc (nd.refs.take k) (nd.refs.getD k 0)
          have htk : nd.refs.take (k + 1) = nd.refs.take k ++ [nd.refs.getD k 0] := by rw [List.take_succ_eq_append_getElem hkt]; simp [List.getD_eq_getElem?_getD, hkt]
          rw [← htk] at hls
          have hll := live5_le (nd.refs.take k)
          have hln : (nd.refs.take k).length ≤ 60 := by rw [List.length_take]; omega
          clear e3 hc3 htk
          have k1 : (0 : Int) ≤ k := by omega
          have k2 : (k : Int) < nd.refs.length := by omega
          generalize nd.refs.getD k 0 = X at *
          generalize live5 (nd.refs.take k) = S at *
          generalize hS' : live5 (nd.refs.take (k + 1)) = S' at *
          replace hS' := Lib.hid hS'
          obtain ⟨z0, z1, z2, z3, z4⟩ := cells5 b3
          obtain ⟨f0, f1, f2, f3, f4⟩ := free5 b3
          replace dd := Lib.hid dd
          have y1 : IntKind.i64.wrap (S + 1) = S + 1 := IntWalk.i64_in _ (by omega)
          by_cases hX : X = 0
          · rw [if_pos hX, Int.add_zero] at hls
            have g1 : (X != 0) = false := by simpa using hX
            subst hls
            replace b3 := Lib.hid b3
            clear hX f0 f1 f2 f3 f4 z0 z1 z2 z3 z4 y1 hll
            go_wp2_with fail
            go_roundw
            case rel => exact ⟨k + 1, by omega, by go_num, by rw [hS'.out]; exact b3.out, dd.out⟩
            case measure => simp [intOf]; omega
          · rw [if_neg hX] at hls
            have g1 : (X != 0) = true := by simpa using hX
            have q5 := heap_setCell_same wr B8 3 _ _ (.int .i64 S') b3
            have q6 : Ch (fun k => k = B8) w3 (wr.setCell ⟨B8, 3, none⟩ (.int .i64 S')) := Ch.setCell dd.out (fun _ => rfl) _
            subst hls
            replace q5 := Lib.hid q5
            replace q6 := Lib.hid q6
            clear hX b3 hll
            go_wp2_with fail
            go_roundw
            case rel => exact ⟨k + 1, by omega, by go_num, by rw [hS'.out]; exact q5.out, q6.out⟩
            case measure => simp [intOf]; omega
        · have e1 : nd.refs.take k = nd.refs := List.take_of_length_le (by omega)
          rw [e1] at b3
          have k2 : (nd.refs.length : Int) ≤ k := by omega
          have b66 := dd.keep b6.out hne
          obtain ⟨u0, u1, u2, u3, u4⟩ := cells5 b66
          have hM4 := hM3.out.keep dd hnB
          have d4 := d3.out.trans' dd (fun _ _ e => e) (fun k hk e => by have := hBk.out; have := hB8.out; omega)
          have d14 := d13.out.trans' dd (fun _ _ e => e) (fun k hk e => by have := hB8.out; omega)
          generalize live5 nd.refs = S at *
          cases hfin : nd.fin with
          | false =>
            rw [hfin] at u4
            simp only [hfin, Bool.false_eq_true, if_false] at hpl
            obtain ⟨z0, z1, z2, z3, z4⟩ := cells5 b3
            replace hM4 := Lib.hid hM4
            replace d4 := Lib.hid d4
            replace d14 := Lib.hid d14
            replace b3 := Lib.hid b3
            clear hM3 d3 d13 dd b6 b66 hkt hk e1 hRef hRlt
            go_wp2_with fail
            replace u1 := cellB u1
            replace z0 := cellB z0
            replace z1 := cellB z1
            replace z2 := cellB z2
            replace z3 := cellB z3
            replace z4 := cellB z4
            have hlk : ∀ w', (∃ p : Regrown, w' = grow (redrawn wr p.d) p.os) → (Instr.lookup 157 (.map (some B)) (.int .i64 nd.cls) false).run Try.prog w' = .ok (.agg #[.int .i64 T.cls, .int .i64 T.cnt, .int .i64 T.wds, .int .i64 T.refs, .int .i64 T.fin]) w' := by
              rintro w' ⟨p, rfl⟩
              have h := (hM4.out.keep (chB wr p.d p.os) (fun e => e)).lookup (P := Try.prog) (t := 157) Try.underlying157 Try.underlying3 (zeroC _) nd.cls false
              simp only [R5.val, Bool.false_eq_true, if_false] at h
              rw [hlk0] at h
              exact h
            replace hlk0 := Lib.hid hlk0
            replace hup0 := Lib.hid hup0
            refine wp_region_tailB 9 (by kernel_rfl) (by kernel_rfl) ?_
            simp only [List.take_succ_cons, List.take_zero, List.drop_succ_cons, List.drop_zero]
            iterate 6 (go_big_quiet_step (fail))
            refine quiet_lookupC rfl _ _ 157 rfl rfl rfl hlk ?_
            go_simp
            repeat (go_big_quiet_step ((go_at_call 118; exact quietB (hpl _))))
            refine wpQuiet_nil ?_
            intro pq
            have cB := chB wr pq.d pq.os
            generalize grow (redrawn wr pq.d) pq.os = w6 at *
            obtain ⟨w7, hup, hM7, u7, s7⟩ := (hM4.out.keep cB (fun e => e)).update (P := Try.prog) (t := 157) Try.underlying157 Try.underlying3 nd.cls (.agg #[.int .i64 T'.cls, .int .i64 T'.cnt, .int .i64 T'.wds, .int .i64 T'.refs, .int .i64 T'.fin])
            rw [hup0.out] at hM7
            have HE : Hid (∃ n', n' ≤ j + 1 ∧ IM w7 B n' (cvals F') ∧ Ch0 w w7 ∧ Ch (fun k => k = B) w1 w7) := Lib.hid ⟨_, (by split <;> omega), hM7, (d4.out.trans cB).trans' u7 (fun _ _ e => e) (fun k hk e => by have := hBk.out; omega), (d14.out.trans' cB (fun _ _ e => e) (fun _ _ e => e.elim)).trans' u7 (fun _ _ e => e) (fun _ _ e => e)⟩
            clear hlk hpl hM7 u7 s7 cB hup0 hlk0 hM4 d4 d14 u1 z0 z1 z2 z3 z4
            go_wp2_with (at_mapUpdate; refine wpList_mapUpdate_run rfl _ _ _ 157 rfl rfl rfl rfl hup ?_)
            go_roundw
            case rel =>
              obtain ⟨n', h1, h2, h3, h4⟩ := HE.out
              exact ⟨j + 1, n', by omega, by go_num, h1, by rw [hF'.out]; exact h2, h3, h4⟩
            case measure => simp [intOf]; omega
          | true =>
            rw [hfin] at u4
            simp only [hfin, if_true] at hpl
            have b88 := heap_setCell_same wr B8 4 _ _ (.int .i64 1) b3
            have cS : Ch (fun k => k = B8) wr (wr.setCell ⟨B8, 4, none⟩ (.int .i64 1)) := Ch.setCell (S := fun k => k = B8) (Ch.refl _ _) (p := ⟨B8, 4, none⟩) (fun _ => rfl) _
            have b67 := cS.keep b66 hne
            obtain ⟨x0, x1, x2, x3, x4⟩ := cells5 b67
            obtain ⟨z0, z1, z2, z3, z4⟩ := cells5 b3
            obtain ⟨f0, f1, f2, f3, f4⟩ := free5 b3
            have hM5 := hM4.keep cS hnB
            have d5 := d4.trans' cS (fun _ _ e => e) (fun k hk e => by have := hBk.out; have := hB8.out; omega)
            have d15 := d14.trans' cS (fun _ _ e => e) (fun k hk e => by have := hB8.out; omega)
            have b89 : (wr.setCell ⟨B8, 4, none⟩ (.int .i64 1)).heap[B8]? = some (.cells #[.int .i64 0, .int .i64 1, .int .i64 Wd, .int .i64 S, .int .i64 1] 106 (0, 0)) := b88
            replace hM5 := Lib.hid hM5
            replace d5 := Lib.hid d5
            replace d15 := Lib.hid d15
            replace b89 := Lib.hid b89
            replace b67 := Lib.hid b67
            clear hM3 d3 d13 dd b6 b66 hkt hk e1 hRef hRlt b88 cS hM4 d4 d14 b3 x0 x1 x2 x3 x4
            go_wp2_with fail
            clear u0 u1 u2 u3 u4 z0 z1 z2 z3 z4 f0 f1 f2 f3 f4
            generalize wr.setCell ⟨B8, 4, none⟩ (.int .i64 1) = w4 at *
            obtain ⟨z0, z1, z2, z3, z4⟩ := cells5 b89.out
            obtain ⟨u0, u1, u2, u3, u4⟩ := cells5 b67.out
            replace u1 := cellB u1
            replace z0 := cellB z0
            replace z1 := cellB z1
            replace z2 := cellB z2
            replace z3 := cellB z3
            replace z4 := cellB z4
            have hlk : ∀ w', (∃ p : Regrown, w' = grow (redrawn w4 p.d) p.os) → (Instr.lookup 157 (.map (some B)) (.int .i64 nd.cls) false).run Try.prog w' = .ok (.agg #[.int .i64 T.cls, .int .i64 T.cnt, .int .i64 T.wds, .int .i64 T.refs, .int .i64 T.fin]) w' := by
              rintro w' ⟨p, rfl⟩
              have h := (hM5.out.keep (chB w4 p.d p.os) (fun e => e)).lookup (P := Try.prog) (t := 157) Try.underlying157 Try.underlying3 (zeroC _) nd.cls false
              simp only [R5.val, Bool.false_eq_true, if_false] at h
              rw [hlk0] at h
              exact h
            replace hlk0 := Lib.hid hlk0
            replace hup0 := Lib.hid hup0
            refine wp_region_tailB 9 (by kernel_rfl) (by kernel_rfl) ?_
            simp only [List.take_succ_cons, List.take_zero, List.drop_succ_cons, List.drop_zero]
            iterate 6 (go_big_quiet_step (fail))
            refine quiet_lookupC rfl _ _ 157 rfl rfl rfl hlk ?_
            go_simp
            repeat (go_big_quiet_step ((go_at_call 118; exact quietB (hpl _))))
            refine wpQuiet_nil ?_
            intro pq
            have cB := chB w4 pq.d pq.os
            generalize grow (redrawn w4 pq.d) pq.os = w6 at *
            obtain ⟨w7, hup, hM7, u7, s7⟩ := (hM5.out.keep cB (fun e => e)).update (P := Try.prog) (t := 157) Try.underlying157 Try.underlying3 nd.cls (.agg #[.int .i64 T'.cls, .int .i64 T'.cnt, .int .i64 T'.wds, .int .i64 T'.refs, .int .i64 T'.fin])
            rw [hup0.out] at hM7
            have HE : Hid (∃ n', n' ≤ j + 1 ∧ IM w7 B n' (cvals F') ∧ Ch0 w w7 ∧ Ch (fun k => k = B) w1 w7) := Lib.hid ⟨_, (by split <;> omega), hM7, (d5.out.trans cB).trans' u7 (fun _ _ e => e) (fun k hk e => by have := hBk.out; omega), (d15.out.trans' cB (fun _ _ e => e) (fun _ _ e => e.elim)).trans' u7 (fun _ _ e => e) (fun _ _ e => e)⟩
            clear hlk hpl hM7 u7 s7 cB hup0 hlk0 hM5 d5 d15 u1 z0 z1 z2 z3 z4
            go_wp2_with (at_mapUpdate; refine wpList_mapUpdate_run rfl _ _ _ 157 rfl rfl rfl rfl hup ?_)
            go_roundw
            case rel =>
              obtain ⟨n', h1, h2, h3, h4⟩ := HE.out
              exact ⟨j + 1, n', by omega, by go_num, h1, by rw [hF'.out]; exact h2, h3, h4⟩
            case measure => simp [intOf]; omega
    · have i2 : (L.length : Int) ≤ j := by omega
      have e1 : (grows L).take j = grows L := List.take_of_length_le (by simp [grows]; omega)
      rw [e1] at hM
      clear e1
      have hg := gather_of wr B n _ hM (Zc.none.puts (grows L) 1) (by omega)
      have HE : Hid (∀ R, IsRows (drF (puts5 (fun _ => none) (grows L) 1)) R → IsRows (fun c => S5 c (grows L)) R) := Lib.hid (fun R h => ⟨h.1, fun r => by rw [h.2 r, drF_of]⟩)
      generalize puts5 (fun _ => none) (grows L) 1 = F at *
      replace d := Lib.hid d
      clear hM d1
      go_wp2_with fail
      refine hg.mono ?_
      rintro e w2 ⟨v, R, rfl, h1, h2, h3, h4⟩
      have HF := Lib.hid (And.intro h1 (And.intro h2 (And.intro h3 h4)))
      clear hg h1 h2 h3 h4
      obtain ⟨va, vc, rfl, -, -⟩ := HF.out.2.1.1.isSlice
      go_wp2_with fail
      go_ret
      exact ⟨_, R, rfl, HE.out R HF.out.1, HF.out.2.1.mono (fun k hk => by have := d.out.size; have := hBk.out; omega), by have := HF.out.2.2.1; omega, d.out.trans HF.out.2.2.2⟩

end Go.Proofs.Ytlmeponoadhheaa

