/-
  Contract of (*queue.Set).Rename: the walk.
-/
import Derived.Test.YtlmccjmbidfflaaRename12
namespace Go.Proofs.Ytlmccjmbidfflaa
set_option linter.unusedVariables false
open Go.RowKit

theorem filter_left {L : List Int} {left : Int → Bool} {N : Int → Int} {LE : List Int} {k : Int} (hk : k ∈ L) (h : ∀ y, y ∈ LE ↔ y ≠ 0 ∧ ∃ x ∈ L, left x = false ∧ N x = y) (y : Int) :
    y ∈ (if N k = 0 then LE else LE ++ [N k]) ↔ y ≠ 0 ∧ ∃ x ∈ L, (left x && !(x == k)) = false ∧ N x = y := by
  have hx : ∀ x, (left x && !(x == k)) = false ↔ (left x = false ∨ x = k) := by intro x; simp; cases left x <;> simp
  have key : y ∈ (if N k = 0 then LE else LE ++ [N k]) ↔ y ∈ LE ∨ (N k ≠ 0 ∧ y = N k) := by
    split
    · rename_i e; simp [e]
    · rename_i e; simp [e]
  rw [key, h y]
  constructor
  · rintro (⟨h0, x, h1, h2, h3⟩ | ⟨h0, rfl⟩)
    · exact ⟨h0, x, h1, (hx x).2 (.inl h2), h3⟩
    · exact ⟨h0, k, hk, (hx k).2 (.inr rfl), rfl⟩
  · rintro ⟨h0, x, h1, h2, h3⟩
    rcases (hx x).1 h2 with e | e
    · exact .inl ⟨h0, x, h1, e, h3⟩
    · subst e; exact .inr ⟨by rw [h3]; exact h0, h3.symm⟩

set_option maxRecDepth 100000 in
set_option maxHeartbeats 4000000 in
theorem rename_any {w : World} {b : Nat} {O : Nat → Prop} {q : Nat → List Int} {L : List Int} (h : Qs w b O q L) (hlen : ∀ i, i < 4 → (q i).length < 4294967296) (g : Nat) (lb : Array Value) (eg : ∀ args w, (callFunc g args).run Try.prog w = .ok (.enter g args) w) (N : Int → Int)
    (hf : ∀ W x, Ch0 w W → x ∈ L → Calls Try.prog g (#[.int .i64 x] ++ lb) W fun e w' => e = .returned (.int .i64 (N x)) ∧ Ch0 W w') :
    Calls Try.prog 19 #[.pointer (some ⟨b, 0, none⟩), .func (.func g) #[] lb] w fun e w' => e = .returned (.tuple #[]) ∧ ∃ O' LE, Evers q L N LE ∧ Qs w' b O' (fun i => (q i).map N) LE ∧ Turn w w' O O' := by
  obtain ⟨vs, m, h⟩ := h
  obtain ⟨⟨k0, k1, k2, k3⟩, k4⟩ := h.cells
  have hbO := h.own
  have hsm := h.small
  have hb := hsm b hbO
  obtain ⟨n, hM⟩ : ∃ n, IMx w m n (isOf L) := by
    rcases h.map with ⟨e1, e2⟩ | ⟨r, n, e1, _, e3⟩
    · exact ⟨0, .inl ⟨e1, rfl, fun k => by rw [e2]; simp [isOf]⟩⟩
    · exact ⟨n, .inr ⟨r, e1, e3⟩⟩
  have hmr : ∀ r, m = .map (some r) → r < w.heap.size := by
    intro r e
    rcases h.map with ⟨e1, e2⟩ | ⟨r', n', e1, e2, e3⟩
    · rw [e1] at e; cases e
    · rw [e1] at e; cases e; exact hsm _ e2
  have c2 : Ch0 w ((w.alloc (.map #[] 0)).alloc (.map #[] 0)) := ((Ch.refl _ _).alloc _).alloc _
  have hM2 : IMx ((w.alloc (.map #[] 0)).alloc (.map #[] 0)) m n (isOf L) := hM.imp id (fun ⟨r, e1, e2⟩ => ⟨r, e1, e2.keep c2 (fun e => e)⟩)
  obtain ⟨w3, hrg, hI, c3, s3⟩ := hM2.range (P := Try.prog) (t := 27) Try.underlying27
  have hnm : IM w3 w.heap.size 0 (nmF L (fun k => (isOf L k).isSome) N) := by
    refine (((IM.made w).keep ((Ch.refl (fun _ => False) _).alloc (.map #[] 0)) (fun e => e)).keep c3 (fun e => e)).congr (fun k => ?_) rfl
    show none = nmF L (fun k => (isOf L k).isSome) N k
    unfold nmF
    rw [if_neg]
    show ¬ (k ∈ L ∧ (isOf L k).isSome = false)
    rw [isOf_isSome]
    simp
  have hev : IM w3 (w.heap.size + 1) 0 (isOf []) := by
    have := IM.made (w.alloc (.map #[] 0))
    rw [World.size_alloc] at this
    exact (this.keep c3 (fun e => e)).congr (fun k => by simp [isOf]) rfl
  have d3 : Ch0 w w3 := c2.trans c3
  have hsz2 : ((w.alloc (.map #[] 0)).alloc (.map #[] 0)).heap.size = w.heap.size + 2 := by simp
  rw [hsz2] at hrg hI
  have hq : ∀ w, (binOp .eql 40 (.func (.func g) #[] lb) .nilFunc).run Try.prog w = .ok (.bool false) w := fun w => by rfl
  have mk1 : ∀ w : World, (Instr.makeMap 61 none).run Try.prog w = .ok (.map (some w.heap.size)) (w.alloc (.map #[] 0)) := by intro w; simp [Instr.makeMap, Result.andThen]
  have mk2 : ∀ w : World, (Instr.makeMap 27 none).run Try.prog w = .ok (.map (some w.heap.size)) (w.alloc (.map #[] 0)) := by intro w; simp [Instr.makeMap, Result.andThen]
  have HQ := Lib.hid h
  have HI := Lib.hid (And.intro hI (And.intro hnm (And.intro hev d3)))
  have HF := Lib.hid hf
  have HO := Lib.hid hsm
  have HL := Lib.hid hlen
  have HMr := Lib.hid hmr
  have kk4 := c2.cell k4 (fun e => e)
  clear hM hM2 hI hnm hev d3 c3 hsm h hf hlen hmr s3 k0 k1 k2 k3 c2 hsz2
  go_enter Try.func19, Try.ntmps19
  go_wp2_with fail
  go_loopw [6] (fun _ wr => ∃ left nN nE LE, IRx wr m (w.heap.size + 2) n (isOf L) left ∧ IM wr w.heap.size nN (nmF L left N) ∧ IM wr (w.heap.size + 1) nE (isOf LE) ∧ (∀ y, y ∈ LE ↔ y ≠ 0 ∧ ∃ x ∈ L, left x = false ∧ N x = y) ∧ Ch0 w wr) (fun _ wr => iterLeftX wr m (w.heap.size + 2))
  case atStart =>
    refine ⟨_, _, _, _, HI.out.1, HI.out.2.1, HI.out.2.2.1, fun y => ⟨fun h => (by cases h), ?_⟩, HI.out.2.2.2⟩
    rintro ⟨_, x, hx, h2, _⟩
    rw [isOf_isSome] at h2
    simp [hx] at h2
  case round =>
    obtain ⟨left, nN, nE, LE, hI, hN, hE, hLE, d⟩ := hrel
    replace hI := Lib.hid hI
    replace hN := Lib.hid hN
    replace hE := Lib.hid hE
    replace hLE := Lib.hid hLE
    replace d := Lib.hid d
    clear HI hrg mk1 mk2 hq k4 kk4
    go_wp2_with (at_next; refine wpList_next_IRx rfl _ rfl rfl hI.out ?_ ?_)
    · intro hl
      have hLE0 : EversTo q L N LE 0 0 := by
        intro y
        rw [hLE.out y]
        simp [hl]
      have hR0 : RnS w wr b w.heap.size (w.heap.size + 1) q L N vs vs m 0 LE := by
        refine ⟨d.out.of0, d.out.keep HQ.out.blk (fun e => e), fun _ _ => rfl, fun i hi => by omega, fun i hi => by omega, fun i _ hi => by omega, ⟨nN, ?_⟩, ⟨nE, hE.out⟩⟩
        refine hN.out.congr (fun k => ?_) rfl
        unfold nmF
        simp [hl]
      obtain ⟨⟨k0, k1, k2, k3⟩, k4⟩ := (HQ.out.keep d.out (fun _ _ e => e)).cells
      replace hLE0 := Lib.hid hLE0
      replace hR0 := Lib.hid hR0
      clear hl hI hN hE hLE d
      go_wp2_with fail
      go_loopw [46] (fun i wr' => ∃ j : Nat, j ≤ 4 ∧ i = .int .i64 j ∧ ∃ u LE', RnS w wr' b w.heap.size (w.heap.size + 1) q L N vs u m j LE' ∧ EversTo q L N LE' j 0) (fun i _ => 4 - (intOf i).toNat)
      case atStart => exact ⟨0, by omega, rfl, _, _, hR0.out, hLE0.out⟩
      case round =>
        obtain ⟨j, hj4, rfl, u, LE', hR, hLE'⟩ := hrel
        clear hR0 hLE0 k0 k1 k2 k3 k4
        replace hR := Lib.hid hR
        replace hLE' := Lib.hid hLE'
        by_cases hj : j < 4
        · obtain ⟨a, c, ev, -, hcm⟩ := (HQ.out.row j hj).isSlice
          have hqj := HL.out j hj
          have hix : ∀ w, (Instr.index 26 (.agg #[vs 0, vs 1, vs 2, vs 3]) (.int .i64 j)).run Try.prog w = .ok (.slice a (q j).length c) w := by
            intro w
            rw [← ev]
            rcases four hj with rfl | rfl | rfl | rfl <;> kernel_rfl
          have i1 : decide ((j : Int) < 4) = true := decide_eq_true (by omega)
          go_wp2_with fail
          go_loopw [9, 52] (fun v i wr2 => ∃ k : Nat, k ≤ (q j).length ∧ i = .int .i64 k ∧ ∃ LE2, RnS w wr2 b w.heap.size (w.heap.size + 1) q L N vs u m j LE2 ∧ EversTo q L N LE2 j k ∧ RowAt wr2 3 1 v k ((((q j).take k).map N).map (Value.int .i64)) ∧ (∀ kk, rblk v = some kk → w.heap.size ≤ kk) ∧ ∀ i, i < j → ∀ kk, rblk (u i) = some kk → rblk v ≠ some kk) (fun _ i _ => (q j).length - (intOf i).toNat)
          case atStart => exact ⟨0, Nat.zero_le _, rfl, _, hR.out, hLE'.out, by simpa using RowAt.nil, (fun kk e => by cases e), (fun i hi kk _ e => by cases e)⟩
          case round =>
            obtain ⟨k, hk, rfl, LE2, hR2, hE2, hv, hfr, hap⟩ := hrel
            clear hR hLE' hix
            by_cases hlt : k < (q j).length
            · have hxL := HQ.out.ever j hj ((q j).getD k 0) (by simp [List.getD_eq_getElem?_getD, hlt])
              have hold : SeesI (fun kk => rblk (vs j) = some kk) wr (vs j) (q j) := ((HQ.out.row j hj).keep hR2.ch (fun kk e1 e2 => HQ.out.ne_row hj (e2 ▸ e1))).sees
              obtain ⟨g1, o1, c1, -, ev1, hcell⟩ := hold.cell (by omega)
              rw [ev] at ev1
              obtain ⟨rfl, rfl⟩ : a = some ⟨g1, o1, none⟩ ∧ c = c1 := by simpa using ev1
              have hx := hcell k hlt
              have hsn : (q j).take (k + 1) = (q j).take k ++ [(q j).getD k 0] := by
                rw [List.take_succ_eq_append_getElem hlt]; simp [List.getD_eq_getElem?_getD, hlt]
              have hE3 := hE2.next hlt
              obtain ⟨nN1, hN1⟩ := hR2.names
              have hl1 := hN1.lookup (P := Try.prog) (t := 61) (z := .int .i64 0) Try.underlying61 Try.underlying3 (zeroInt wr) ((q j).getD k 0) false
              rw [show nmF L (fun _ => false) N ((q j).getD k 0) = some (.int .i64 (N ((q j).getD k 0))) from by simp only [nmF, hxL]; simp] at hl1
              simp only [Bool.false_eq_true, if_false, Option.getD_some] at hl1
              obtain ⟨a3, c3, rfl, -, -⟩ := hv.isSlice
              have ca : Ch0 wr (wr.alloc (.cells #[.int .i64 (N ((q j).getD k 0))] 3)) := (Ch.refl _ _).alloc _
              obtain ⟨a4, c4, w4, hrun, r4, d4, b4⟩ := run_int (hv.keep ca (fun _ _ e => e)) (by omega) wr.heap.size (N ((q j).getD k 0)) (heap_alloc_new wr _) 25
              have hle1 := hR2.ch.size
              have hR3 : RnS w w4 b w.heap.size (w.heap.size + 1) q L N vs u m j LE2 := by
                have hr3 := hR2.keep ca hb (fun _ e => e.elim) (fun _ _ _ _ e => e.elim) (fun e => e) (fun e => e)
                refine hr3.keep d4 hb (fun kk e => hfr kk e) (fun i hi kk e1 e2 => hap i hi kk e1 e2) ?_ ?_
                · intro e; exact row_ne_map hv hN1 e
                · intro e
                  obtain ⟨nE1, hE1⟩ := hR2.ever
                  exact row_ne_map hv hE1 e
              obtain ⟨nN4, hN4⟩ := hR3.names
              have hl4 := hN4.lookup (P := Try.prog) (t := 61) (z := .int .i64 0) Try.underlying61 Try.underlying3 (zeroInt w4) ((q j).getD k 0) false
              rw [show nmF L (fun _ => false) N ((q j).getD k 0) = some (.int .i64 (N ((q j).getD k 0))) from by simp only [nmF, hxL]; simp] at hl4
              simp only [Bool.false_eq_true, if_false, Option.getD_some] at hl4
              obtain ⟨nE4, hE4⟩ := hR3.ever
              obtain ⟨w5, hup, hE5, u5, s5⟩ := hE4.update (P := Try.prog) (t := 27) Try.underlying27 Try.underlying3 (N ((q j).getD k 0)) (.bool true)
              rw [isOf_put] at hE5
              have hR5 := hR3.everTo u5 hb (by omega) (by omega) ⟨_, hE5⟩
              have r5 : RowAt w5 3 1 (.slice a4 (k + 1) c4) (k + 1) ((((q j).take (k + 1)).map N).map (Value.int .i64)) := by
                rw [hsn, List.map_append, List.map_singleton]
                exact r4.keep u5 (fun kk e1 e2 => by subst e2; exact row_ne_map r4 hE4 e1)
              have hfr5 : ∀ kk, rblk (.slice a4 (k + 1) c4) = some kk → w.heap.size ≤ kk := by
                intro kk e
                rcases b4 with e1 | e1
                · rw [e1] at e; exact hfr kk e
                · rw [e1] at e; cases e; rw [World.size_alloc]; omega
              have hap5 : ∀ i, i < j → ∀ kk, rblk (u i) = some kk → rblk (.slice a4 (k + 1) c4) ≠ some kk := by
                intro i hi kk e
                rcases b4 with e1 | e1
                · rw [e1]; exact hap i hi kk e
                · rw [e1]
                  have := (hR2.new i hi).lt e
                  intro e2; cases e2; rw [World.size_alloc] at this; omega
              have HE := Lib.hid (And.intro hR5 (And.intro hE3 (And.intro r5 (And.intro hfr5 hap5))))
              clear hR2 hE2 hv hfr hap hxL hold ev1 ev hcell hsn hE3 hN1 ca r4 d4 b4 hR3 hN4 hE4 hE5 u5 s5 hR5 r5 hfr5 hap5 hle1
              generalize (q j).getD k 0 = X at *
              have i2 : (0 : Int) ≤ k := by omega
              have i3 : (k : Int) < (q j).length := by omega
              go_wp2_with (first | (at_lookup; refine wpList_lookup_run rfl _ _ 61 rfl rfl rfl hl1 ?_) | (at_lookup; refine wpList_lookup_run rfl _ _ 61 rfl rfl rfl hl4 ?_) | (at_builtin; refine wpList_append_run rfl _ _ 25 25 rfl rfl rfl hrun ?_) | (at_mapUpdate; refine wpList_mapUpdate_run rfl _ _ _ 27 rfl rfl rfl rfl hup ?_))
              go_roundw
              case rel => exact ⟨k + 1, by omega, by go_num, _, HE.out.1, HE.out.2.1, HE.out.2.2.1, HE.out.2.2.2.1, HE.out.2.2.2.2⟩
              case measure => simp [intOf]; omega
            · obtain rfl : k = (q j).length := by omega
              rw [List.take_length] at hv
              have hst := hR2.store hj hb (by omega) (by omega) hv hfr hap
              have hE3 := hE2.row rfl
              have kj : ∃ vj, wr.cell? ⟨b, j, none⟩ = some vj := by
                have := hR2.blk
                rcases four hj with rfl | rfl | rfl | rfl <;> exact ⟨_, cell_of_row wr b _ _ _ _ this⟩
              obtain ⟨vj, kj⟩ := kj
              have fj := frozen_of_row wr b j _ _ hR2.blk
              obtain ⟨a3, c3, rfl, -, -⟩ := hv.isSlice
              have i2 : (0 : Int) ≤ j := by omega
              have i3 : (j : Int) < 4 := by omega
              have HE := Lib.hid (And.intro hst hE3)
              clear hst hE3 hR2 hE2 hv hfr hap ev
              go_wp2_with fail
              go_roundw
              case rel => exact ⟨j + 1, by omega, by go_num, _, _, HE.out.1, HE.out.2⟩
              case measure => simp [intOf]; omega
        · obtain rfl : j = 4 := by omega
          have k4 := cell_of_row wr b 4 _ _ _ hR.out.blk
          have f4 := frozen_of_row wr b 4 _ _ hR.out.blk
          have hall := hLE'.out.all
          obtain ⟨O', h1, h2⟩ := hR.out.done hbO HO.out (by omega) (fun i hi x hx => (hall _).2 (.inr ⟨i, hi, x, hx, rfl⟩))
          have HE := Lib.hid (And.intro hall (And.intro h1 h2))
          clear hall h1 h2
          simp at k4
          go_wp2_with fail
          go_end0
          exact ⟨rfl, O', LE', HE.out⟩
    · intro x v w1 hlx hfx hve hI1 e1 s1 hm1 hen
      subst hve
      have hxL : x ∈ L := by first | exact hfx | exact hfx.1 | exact isOf_mem hfx
      have d1 : Ch0 w w1 := d.out.trans' e1 (fun _ _ e => e) (fun k hk e => by omega)
      have hcl := HF.out _ _ d1 hxL
      have hN1 := Lib.hid (hN.out.keep e1 (by omega))
      have hE1 := Lib.hid (hE.out.keep e1 (by omega))
      replace hI1 := Lib.hid hI1
      replace d1 := Lib.hid d1
      replace hm1 := Lib.hid hm1
      clear hlx hfx e1 s1 hI hN hE
      go_wp2_with fail
      refine hcl.mono ?_
      rintro e w2 ⟨rfl, c2⟩
      obtain ⟨w4, hup, hN4, u4, s4⟩ := (hN1.out.keep c2 (fun e => e)).update (P := Try.prog) (t := 61) Try.underlying61 Try.underlying3 x (.int .i64 (N x))
      rw [nmF_put _ _ _ _ hxL] at hN4
      have hlk := hN4.lookup (P := Try.prog) (t := 61) (z := .int .i64 0) Try.underlying61 Try.underlying3 (zeroInt w4) x false
      rw [show nmF L (fun i => left i && !(i == x)) N x = some (.int .i64 (N x)) from by simp [nmF, hxL]] at hlk
      simp only [Bool.false_eq_true, if_false, Option.getD_some] at hlk
      have hE4 := (hE1.out.keep c2 (fun e => e)).keep u4 (by omega)
      have hb1 := hI1.out.lt
      have hst : ∀ S w5, Ch S w4 w5 → (∀ k, S k → k = w.heap.size + 1) → IRx w5 m (w.heap.size + 2) n (isOf L) (fun i => left i && !(i == x)) ∧ iterLeftX w5 m (w.heap.size + 2) < iterLeftX wr m (w.heap.size + 2) ∧ Ch0 w w5 := by
        intro S w5 c5 hS
        have ca : Ch (fun k => k = w.heap.size) w1 w4 := c2.trans' u4 (fun _ _ e => e.elim) (fun _ _ e => e)
        have cb : Ch (fun k => k = w.heap.size ∨ k = w.heap.size + 1) w1 w5 := ca.trans' c5 (fun _ _ e => .inl e) (fun k _ e => .inr (hS k e))
        have h1 : ∀ r, m = .map (some r) → ¬ (r = w.heap.size ∨ r = w.heap.size + 1) := fun r e => by have := HMr.out r e; omega
        have h2 : ¬ (w.heap.size + 2 = w.heap.size ∨ w.heap.size + 2 = w.heap.size + 1) := by omega
        refine ⟨hI1.out.keep cb h1 h2, ?_, d1.out.trans' cb (fun _ _ e => e) (fun k hk e => by omega)⟩
        rw [iterLeftX_keep hI1.out cb h1 h2]
        exact hm1.out
      have hM := Lib.hid (filter_left hxL hLE.out)
      by_cases h0 : N x = 0
      · have t0 : (N x != 0) = false := by simp [h0]
        have HE := Lib.hid (And.intro (hst (fun _ => False) w4 (Ch.refl _ _) (fun _ e => e.elim)) (And.intro hN4 hE4))
        have H0 := Lib.hid h0
        clear h0 hN4 hE4 u4 s4 c2 hst hI1 hN1 hE1 d1 hm1 hb1 hcl d
        go_wp2_with (first | (at_mapUpdate; refine wpList_mapUpdate_run rfl _ _ _ 61 rfl rfl rfl rfl hup ?_) | (at_lookup; refine wpList_lookup_run rfl _ _ 61 rfl rfl rfl hlk ?_))
        go_roundw
        case rel =>
          refine ⟨_, _, _, LE, HE.out.1.1, HE.out.2.1, HE.out.2.2, fun y => ?_, HE.out.1.2.2⟩
          have := hM.out y
          rw [if_pos H0.out] at this
          exact this
        case measure => exact HE.out.1.2.1
      · have t0 : (N x != 0) = true := by simpa using h0
        obtain ⟨w5, hup5, hE5, u5, s5⟩ := hE4.update (P := Try.prog) (t := 27) Try.underlying27 Try.underlying3 (N x) (.bool true)
        rw [isOf_put] at hE5
        have HE := Lib.hid (And.intro (hst _ w5 u5 (fun _ e => e)) (And.intro (hN4.keep u5 (by omega)) hE5))
        have H0 := Lib.hid h0
        clear h0 hN4 hE4 u4 s4 c2 hst hI1 hN1 hE1 d1 hm1 hb1 hcl d hE5 u5 s5
        go_wp2_with (first | (at_mapUpdate; refine wpList_mapUpdate_run rfl _ _ _ 61 rfl rfl rfl rfl hup ?_) | (at_lookup; refine wpList_lookup_run rfl _ _ 61 rfl rfl rfl hlk ?_) | (at_mapUpdate; refine wpList_mapUpdate_run rfl _ _ _ 27 rfl rfl rfl rfl hup5 ?_))
        go_roundw
        case rel =>
          have hM2 : ∀ y, y ∈ LE ++ [N x] ↔ y ≠ 0 ∧ ∃ x_1 ∈ L, (left x_1 && !(x_1 == x)) = false ∧ N x_1 = y := by
            intro y
            have := hM.out y
            rw [if_neg H0.out] at this
            exact this
          first
            | exact ⟨_, _, _, LE ++ [N x], HE.out.1.1, HE.out.2.1, HE.out.2.2, hM2, HE.out.1.2.2⟩
            | ((repeat apply Exists.intro); exact ⟨⟨_, _, _, LE ++ [N x], HE.out.1.1, HE.out.2.1, HE.out.2.2, hM2, HE.out.1.2.2⟩, rfl⟩)
        case measure => exact HE.out.1.2.1

end Go.Proofs.Ytlmccjmbidfflaa
