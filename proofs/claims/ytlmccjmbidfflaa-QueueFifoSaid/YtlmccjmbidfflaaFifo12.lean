/-
  gleaninglaw12.QueueFifo answers true: the walk.
-/
import Derived.Test.YtlmccjmbidfflaaFM12
import Derived.Deep.OwnRows
import Derived.Deep.RegionLaw
namespace Go.Proofs.Ytlmccjmbidfflaa
set_option linter.unusedVariables false
open Go.RowKit

theorem isOf_put_old {L : List Int} {x : Int} (h : x ∈ L) (k : Int) : iput (isOf L) x (.bool true) k = isOf L k := by
  unfold iput isOf
  by_cases e : k = x
  · subst e; simp [h]
  · simp [e]

theorem umod4 (x : Int) : ∃ m : Nat, m < 4 ∧ (IntKind.u64.wrap x).tmod 4 = (m : Int) := by
  have h0 : 0 ≤ IntKind.u64.wrap x := by
    simp [IntKind.wrap, IntKind.signed, IntKind.bits]
    omega
  refine ⟨((IntKind.u64.wrap x).tmod 4).toNat, ?_, ?_⟩
  · rw [Int.tmod_eq_emod_of_nonneg h0]; omega
  · rw [Int.tmod_eq_emod_of_nonneg h0]; omega

theorem fifo_put {q I U : Nat → List Int} {m p : Nat} {x : Int} (h : ∀ k, k < 4 → I (k + 1) = U (k + 1) ++ q k) (hp : p = m + 1) : ∀ k, k < 4 → updF I p (I p ++ [x]) (k + 1) = U (k + 1) ++ updF q m (q m ++ [x]) k := by
  intro k hk
  subst hp
  unfold updF
  by_cases e : k = m
  · subst e; simp [h k hk]
  · rw [if_neg (by omega), if_neg e, h k hk]

theorem fifo_len {I : Nat → List Int} {j : Nat} (h : ∀ k, (I k).length ≤ j) (p : Nat) (xs : List Int) (hx : xs.length ≤ (I p).length + 1) : ∀ k, (updF I p xs k).length ≤ j + 1 := by
  intro k
  have h1 := h k
  have h2 := h p
  unfold updF
  split <;> omega

theorem fifo_poll {q I U : Nat → List Int} {m p : Nat} {x : Int} {xs : List Int} (h : ∀ k, k < 4 → I (k + 1) = U (k + 1) ++ q k) (hp : p = m + 1) (hq : q m = x :: xs) : ∀ k, k < 4 → I (k + 1) = updF U p (U p ++ [x]) (k + 1) ++ updF q m xs k := by
  intro k hk
  subst hp
  unfold updF
  by_cases e : k = m
  · subst e; simp [h k hk, hq]
  · rw [if_neg (by omega), if_neg e, h k hk]

theorem quiet_eq {P : Program} {f : FuncId} {args : Array Value} {w : World} {n : Nat} {v : Value} (h : Calls P f args (w.drewN n) fun e w' => e = .returned v ∧ w.drewN n = w') :
    Calls P f args (w.drewN n) fun e w'' => e = .returned v ∧ ∃ m, w'' = w.drewN m := h.mono fun _ _ ⟨he, hw⟩ => ⟨he, n, hw.symm⟩

/-- the first elements of a row -/
theorem sees_take {D : Nat → Prop} {w : World} {a : Option Addr} {n c k : Nat} {xs : List Int} (h : Sees D w (.slice a n c) 1 n (xs.map (Value.int .i64))) (hk : k ≤ n) : SeesI D w (.slice a k c) (xs.take k) := by
  obtain ⟨h0, a', c', hv, hn, hm, hl⟩ := h
  cases hv
  have hx : xs.length = n := by simpa using h0
  have ht : (xs.take k).length = k := by simp; omega
  refine ⟨by simp, a, c, by rw [ht], by rw [ht]; omega, hm, ?_⟩
  rcases hl with hl | ⟨g, o, hg, ha, hi⟩
  · left; omega
  · right
    refine ⟨g, o, hg, ha, fun i u hu => hi i u ?_⟩
    rw [List.map_take, List.getElem?_take] at hu
    split at hu
    · exact hu
    · cases hu

/-- in[q][:k] -/
theorem slice_to {w : World} {v : Value} {n k : Nat} {a : Option Addr} {c : Nat} {xs : List Value} (hrow : RowAt w 3 1 v n xs) (ev : v = .slice a n c) (hk : k ≤ n) (w' : World) :
    (Instr.slice 25 (.slice a n c) none (some (.int .i64 (k : Int))) none).run Try.prog w' = .ok (.slice a k c) w' := by
  obtain ⟨i0, hi0, hz0, hz1, hz2⟩ := info_parts Try.info3
  have hc : n ≤ c := by
    obtain ⟨a', c', e, h1, _⟩ := hrow.isSlice
    rw [ev] at e; cases e; exact h1
  have ha : Option.map (fun x => x.add 0) a = a := by
    rcases hrow.2 with ⟨e, _⟩ | ⟨g, o, cap, cur, e, _⟩
    · rw [ev] at e; cases e; rfl
    · rw [ev] at e; cases e
      simp [addr_add]
  simp [Instr.slice, Instr.sliceBounds, Instr.sliceBound, asIntOf, run_underlying Try.underlying25, sizeOf, typeInfo, hi0, hz1, Result.andThen]
  rw [if_pos (show k ≤ c by omega)]
  simp [ha]

theorem make5 (w : World) : (Instr.makeSlice 30 (.int .i64 5) (.int .i64 5)).run Try.prog w = .ok (.slice (some ⟨w.heap.size, 0, none⟩) 5 5) (w.alloc (.cells nils5 25 (0, 0))) := by
  have h := run_make_row' (P := Try.prog) 30 25 (.slice none 0 0) 24 Try.underlying30 (by kernel_rfl) rfl .i64 .i64 5 (by omega) (by omega) w
  have e : madeCells #[Value.slice none 0 0] 5 = nils5 := by
    apply Array.ext'
    simp [madeCells, nils5, List.range_succ]
  rw [e] at h
  exact h

set_option maxRecDepth 100000 in
set_option maxHeartbeats 4000000 in
theorem fifo_walk (l : List QOp) (v : Value) (w : World) (hsee : SeesQ (fun k => k < w.heap.size) w v l) (hfit : ∀ o ∈ l, o.Fits) :
    Calls Try.prog 3 #[v] w fun e w' => e = .returned (.bool true) ∧ Ch0 w w' := by
  have HA := Lib.hid awake12
  obtain ⟨a, c, rfl, hlen⟩ := hsee.len
  by_cases h200 : l.length ≤ 200
  · have g1 : decide ((200 : Int) < l.length) = false := decide_eq_false (by omega)
    have HM := make5
    have HN : ∀ w, (Instr.makeMap 27 none).run Try.prog w = .ok (.map (some w.heap.size)) (w.alloc (.map #[] 0)) := fun w => by simp [Instr.makeMap, Result.andThen]
    have HS := Lib.hid hsee
    have HF := Lib.hid hfit
    clear hsee hfit
    go_enter Try.func3, Try.ntmps3
    go_wp2_with fail
    refine (HA.out _).mono ?_
    rintro e w1 ⟨rfl, c1⟩
    go_wp2_with fail
    have HI := Lib.hid (fm_start c1 (T := 29) rfl)
    clear c1
    generalize w1.heap.size + 1 + 1 + 1 = mB at *
    generalize w1.heap.size + 1 + 1 = oB at *
    generalize w1.heap.size + 1 = iB at *
    generalize w1.heap.size = sB at *
    go_loopw [29] (fun i wr => ∃ j : Nat, j ≤ l.length ∧ i = .int .i64 j ∧ ∃ Os Oi Oo q I U L vi vo n, FM w wr sB iB oB mB Os Oi Oo q I U L L vi vo n ∧ (∀ k, k < 4 → I (k + 1) = U (k + 1) ++ q k) ∧ (∀ k, (I k).length ≤ j) ∧ ∀ k, (U k).length ≤ j) (fun i _ => l.length - (intOf i).toNat)
    case atStart => exact ⟨0, Nat.zero_le _, rfl, _, _, _, _, _, _, _, _, _, _, HI.out, fun _ _ => rfl, fun _ => Nat.le_refl _, fun _ => Nat.le_refl _⟩
    case round =>
      obtain ⟨j, hj, rfl, Os, Oi, Oo, q, I, U, L, vi, vo, n, hM, hR, hI, hU⟩ := hrel
      clear HI
      by_cases hlt : j < l.length
      · obtain ⟨o, ho⟩ : ∃ o, l[j]? = some o := ⟨_, List.getElem?_eq_getElem hlt⟩
        obtain ⟨g, off, c', -, hv, hc⟩ := SeesQ.cell HS.out (by omega)
        obtain ⟨rfl, rfl⟩ : a = some ⟨g, off, none⟩ ∧ c = c' := by simpa using hv
        have hc0 := hc j o ho
        have hK : ∀ w', Ch0 w w' → w'.cell? ⟨g, off + j * 3, none⟩ = some (.int .i64 o.kind) ∧ w'.cell? ⟨g, off + j * 3 + 1, none⟩ = some (.int .i64 o.q) ∧ w'.cell? ⟨g, off + j * 3 + 2, none⟩ = some (.int .i64 o.x) :=
          fun w' cw => ⟨cw.cell hc0.1 (fun e => e), cw.cell hc0.2.1 (fun e => e), cw.cell hc0.2.2 (fun e => e)⟩
        obtain ⟨k1, k2, k3⟩ := hK _ hM.ch
        have HK := Lib.hid hK
        clear hc0 hK
        have hfo := HF.out o (List.mem_of_getElem? ho)
        have i1 : (0 : Int) ≤ j := by omega
        have i2 : (j : Int) < l.length := by omega
        replace hM := Lib.hid hM
        replace hR := Lib.hid hR
        replace hI := Lib.hid hI
        replace hU := Lib.hid hU
        clear hc hv
        obtain ⟨m, hm4, hm⟩ := umod4 o.q
        obtain ⟨p, hp, hpm⟩ : ∃ p : Nat, (1 : Int) + (m : Int) = (p : Int) ∧ p = m + 1 := ⟨m + 1, by omega, rfl⟩
        replace hpm := Lib.hid hpm
        have j1 : (q m).length < 4294967296 := by
          have h1 := hR.out m hm4
          have h2 := hI.out (m + 1)
          rw [h1, List.length_append] at h2
          omega
        by_cases hk : o.kind = 2
        · have t1 : (o.kind == 2) = true := beq_iff_eq.2 hk
          clear hk
          cases hq : q m with
          | nil =>
            go_wp2_with fail
            refine (poll_in hM.out.s m hm4 _ (by omega)).mono ?_
            rintro e w2 ⟨rfl, O1, h1, t1⟩
            rw [hq] at h1 ⊢
            have hM2 := hM.out.turnS h1 t1
            clear h1 t1
            have eU : updF q m [] = q := by
              funext k
              unfold updF
              split
              · rename_i e; rw [e, hq]
              · rfl
            simp only [List.headD_nil, List.tail_nil, if_true, eU] at hM2 ⊢
            have hp5 : p < 5 := by omega
            have k4 := hM2.o.cell hp5
            have k5 := hM2.i.cell hp5
            have el : (I p).length = (U p).length := by rw [hpm.out, hR.out m hm4, hq, List.append_nil]
            obtain ⟨a4, c4, ev, -, -⟩ := (hM2.o.row p hp5).isSlice
            obtain ⟨a5, c5, ew, -, -⟩ := (hM2.i.row p hp5).isSlice
            rw [ev] at k4
            rw [ew, el] at k5
            replace hM2 := Lib.hid hM2
            have i3 : (0 : Int) ≤ p := by omega
            have i4 : (p : Int) < 5 := by omega
            generalize hn4 : (U p).length = n4 at *
            have i5 : ((n4 : Int) != (n4 : Int)) = false := by simp
            clear hq eU el hn4 ev ew hM
            go_wp2_with fail
            go_quiet (fail)
            go_wp2_with fail
            go_roundw
            case rel => exact ⟨j + 1, by omega, by go_num, _, _, _, _, _, _, _, _, _, _, hM2.out.after (by first | exact (Ch.refl _ _).drewN _ | exact (Ch.refl _ _).drew), hR.out, fun k => Nat.le_succ_of_le (hI.out k), fun k => Nat.le_succ_of_le (hU.out k)⟩
            case measure => simp [intOf]; omega
          | cons x xs =>
            go_wp2_with fail
            refine (poll_in hM.out.s m hm4 _ (by omega)).mono ?_
            rintro e w2 ⟨rfl, O1, h1, t1⟩
            rw [hq] at h1 ⊢
            have hM2 := hM.out.turnS h1 t1
            clear h1 t1
            simp only [List.headD_cons, List.tail_cons, reduceCtorEq, if_false] at hM2 ⊢
            have hp5 : p < 5 := by omega
            have hrow := hM2.o.row p hp5
            obtain ⟨a4, c4, ev, -, -⟩ := hrow.isSlice
            have ki := hM2.o.cell hp5
            have hlen4 : (U p).length < 4294967296 := by have := hU.out p; omega
            have hnew : (w2.alloc (.cells #[.int .i64 x] 3)).cell? ⟨oB, p, none⟩ = some (vo p) := ((Ch.refl (fun _ => False) w2).alloc _).cell ki (fun q => q)
            have hend : ∀ (wx w4 : World) (v' : Value), Ch0 w2 wx → Ch (fun k => rblk (vo p) = some k) wx w4 → (rblk v' = rblk (vo p) ∨ rblk v' = some wx.heap.size) → RowAt w4 3 1 v' ((U p).length + 1) ((U p ++ [x]).map (Value.int .i64)) →
                ∃ O2 v2, FM w (w4.setCell ⟨oB, p, none⟩ v') sB iB oB mB O1 Oi O2 (updF q m xs) I (updF U p (U p ++ [x])) L L vi v2 n := by
              intro wx w4 v' d1 d2 d3 d4
              obtain ⟨x1, x2⟩ := hM2.o.turn hp5 (xs := U p ++ [x]) (d1.trans' d2 (fun _ _ e => e.elim) (fun _ _ e => e)) (by simpa using d4) (d3.imp id (fun e => .inr ⟨_, e, d1.size⟩))
              exact ⟨_, _, hM2.turnO x1 x2⟩
            have hfree : ∀ (wx w4 : World), Ch0 w2 wx → Ch (fun k => rblk (vo p) = some k) wx w4 → w4.frozen? ⟨oB, p, none⟩ = false ∧ w4.cell? ⟨oB, p, none⟩ = some (vo p) := by
              intro wx w4 d1 d2
              have := d2.keep (d1.keep hM2.o.blk (fun e => e)) (hM2.o.ne_row hp5)
              exact ⟨frozen_of_row w4 oB p _ _ this, by rw [cell_of_row w4 oB p _ _ _ this, cells_range vo p hp5]⟩
            have cA : Ch0 w2 (w2.alloc (.cells #[.int .i64 x] 3)) := (Ch.refl _ _).alloc _
            obtain ⟨a', c', w4, hrun, r4, d4, b4⟩ := run_int (hrow.keep cA (fun _ _ e => e)) hlen4 w2.heap.size x (heap_alloc_new w2 _) 25
            obtain ⟨f4, q4⟩ := hfree _ _ cA d4
            obtain ⟨O2, v2, M4⟩ := hend _ _ _ cA d4 b4 r4
            rw [ev] at ki hrun q4
            replace M4 := Lib.hid M4
            clear hrow hend hfree hM2 hM hnew r4 d4 b4 cA
            have i3 : (0 : Int) ≤ p := by omega
            have i4 : (p : Int) < 5 := by omega
            have hq2 := Lib.hid hq
            clear hq
            generalize hn4 : (U p).length = n4 at *
            go_wp2_with (at_builtin; refine wpList_append_run rfl _ _ 25 25 rfl rfl rfl hrun ?_)
            go_wp2_with fail
            go_roundw
            case rel => exact ⟨j + 1, by omega, by go_num, _, _, _, _, _, _, _, _, _, _, M4.out, fifo_poll hR.out hpm.out hq2.out, fun k => Nat.le_succ_of_le (hI.out k), fifo_len hU.out p _ (by simp)⟩
            case measure => simp [intOf]; omega
        · have t1 : (o.kind == 2) = false := beq_eq_false_iff_ne.2 hk
          clear hk
          go_wp2_with fail
          refine (put_in hM.out.s m hm4 _ (by omega) o.x j1).mono ?_
          rintro e w2 ⟨rfl, O1, h1, t1⟩
          have hM2 := hM.out.turnS h1 t1
          clear h1 t1
          by_cases hx : o.x ∈ L
          · rw [if_pos hx, if_pos hx] at hM2
            have e1 : decide (o.x ∉ L) = false := decide_eq_false (fun h => h hx)
            rw [e1]
            have hl := hM2.m.lookup (P := Try.prog) (t := 27) (z := .bool false) Try.underlying27 Try.underlying3 (zeroBool w2) o.x false
            rw [isOf_get, decide_eq_true hx] at hl
            simp only [Bool.false_eq_true, if_false] at hl
            obtain ⟨w3, hup, hm3, c3, s3⟩ := hM2.m.update (P := Try.prog) (t := 27) Try.underlying27 Try.underlying3 o.x (.bool true)
            have hM3 := Lib.hid (hM2.turnM (hm3.congr (isOf_put_old hx) rfl) c3)
            obtain ⟨k4, k5, k6⟩ := HK.out _ hM2.ch
            clear hM2 hm3 c3 s3 hM
            go_wp2_with (at_lookup; refine wpList_lookup_run rfl _ _ 27 rfl rfl rfl hl ?_)
            go_wp2_with (at_mapUpdate; refine wpList_mapUpdate_run rfl _ _ _ 27 rfl rfl rfl rfl hup ?_)
            go_wp2_with fail
            go_roundw
            case rel => exact ⟨j + 1, by omega, by go_num, _, _, _, _, _, _, _, _, _, _, hM3.out, hR.out, fun k => Nat.le_succ_of_le (hI.out k), fun k => Nat.le_succ_of_le (hU.out k)⟩
            case measure => simp [intOf]; omega
          · rw [if_neg hx, if_neg hx] at hM2
            have e1 : decide (o.x ∉ L) = true := decide_eq_true hx
            rw [e1]
            have hl := hM2.m.lookup (P := Try.prog) (t := 27) (z := .bool false) Try.underlying27 Try.underlying3 (zeroBool w2) o.x false
            rw [isOf_get, decide_eq_false hx] at hl
            simp only [Bool.false_eq_true, if_false] at hl
            obtain ⟨k4, k5, k6⟩ := HK.out _ hM2.ch
            have hp5 : p < 5 := by omega
            have hrow := hM2.i.row p hp5
            obtain ⟨a4, c4, ev, -, -⟩ := hrow.isSlice
            have ki := hM2.i.cell hp5
            have hlen4 : (I p).length < 4294967296 := by have := hI.out p; omega
            have hnew : (w2.alloc (.cells #[.int .i64 o.x] 3)).cell? ⟨iB, p, none⟩ = some (vi p) := ((Ch.refl (fun _ => False) w2).alloc _).cell ki (fun q => q)
            have hend : ∀ (wx w4 : World) (v' : Value), Ch0 w2 wx → Ch (fun k => rblk (vi p) = some k) wx w4 → (rblk v' = rblk (vi p) ∨ rblk v' = some wx.heap.size) → RowAt w4 3 1 v' ((I p).length + 1) ((I p ++ [o.x]).map (Value.int .i64)) →
                ∃ O2 v2, FM w (w4.setCell ⟨iB, p, none⟩ v') sB iB oB mB O1 O2 Oo (updF q m (q m ++ [o.x])) (updF I p (I p ++ [o.x])) U (L ++ [o.x]) L v2 vo n := by
              intro wx w4 v' d1 d2 d3 d4
              obtain ⟨x1, x2⟩ := hM2.i.turn hp5 (xs := I p ++ [o.x]) (d1.trans' d2 (fun _ _ e => e.elim) (fun _ _ e => e)) (by simpa using d4) (d3.imp id (fun e => .inr ⟨_, e, d1.size⟩))
              exact ⟨_, _, hM2.turnI x1 x2⟩
            have hfree : ∀ (wx w4 : World), Ch0 w2 wx → Ch (fun k => rblk (vi p) = some k) wx w4 → w4.frozen? ⟨iB, p, none⟩ = false ∧ w4.cell? ⟨iB, p, none⟩ = some (vi p) := by
              intro wx w4 d1 d2
              have := d2.keep (d1.keep hM2.i.blk (fun e => e)) (hM2.i.ne_row hp5)
              exact ⟨frozen_of_row w4 iB p _ _ this, by rw [cell_of_row w4 iB p _ _ _ this, cells_range vi p hp5]⟩
            rw [ev] at ki hnew
            have HE := Lib.hid hend
            have HR := Lib.hid hrow
            have HFR := Lib.hid hfree
            clear hrow hend hfree hM2 hM
            have i3 : (0 : Int) ≤ p := by omega
            have i4 : (p : Int) < 5 := by omega
            generalize hn4 : (I p).length = n4 at *
            go_wp2_with (at_lookup; refine wpList_lookup_run rfl _ _ 27 rfl rfl rfl hl ?_)
            go_wp2_with fail
            clear hl k1 k2 k3 k4 k5
            go_region_law
              (((refine step_int HR.out ev hlen4 _ _ (by rfl) _ _ (by rfl) (by rfl) (by rfl) (by exact heap_alloc_new w2 _) (by exact ((Ch.refl _ w2).alloc _).drew) ?_; intro a' c' w4 r4 c4 b4 c5; have f4 := (HFR.out _ _ c5 c4).1; have q4 := (HFR.out _ _ c5 c4).2; rw [ev] at q4)))
            all_goals
              obtain ⟨O2, v2, M4⟩ := HE.out _ _ _ c5 c4 b4 r4
              clear c5 c4 b4 r4 f4 q4 HE HR HFR hnew i3 i4 k6
              generalize w4.setCell ⟨iB, p, none⟩ (.slice a' (n4 + 1) c') = w5 at *
              obtain ⟨w6, hup, hm6, c6, s6⟩ := M4.m.update (P := Try.prog) (t := 27) Try.underlying27 Try.underlying3 o.x (.bool true)
              rw [isOf_put] at hm6
              obtain ⟨-, -, k7⟩ := HK.out _ M4.ch
              have M6 := Lib.hid (M4.turnM hm6 c6)
              clear M4 hm6 c6 s6
              go_wp2_with (at_mapUpdate; refine wpList_mapUpdate_run rfl _ _ _ 27 rfl rfl rfl rfl hup ?_)
              go_wp2_with fail
              go_roundw
              case rel => exact ⟨j + 1, by omega, by go_num, _, _, _, _, _, _, _, _, _, _, M6.out, fifo_put hR.out hpm.out, fifo_len hI.out p _ (by simp), fun k => Nat.le_succ_of_le (hU.out k)⟩
              case measure => simp [intOf]; omega
      · obtain rfl : j = l.length := by omega
        replace hM := Lib.hid hM
        replace hR := Lib.hid hR
        replace hI := Lib.hid hI
        replace hU := Lib.hid hU
        go_wp2_with fail
        go_loopw [13] (fun i wr => ∃ p : Nat, 1 ≤ p ∧ p ≤ 5 ∧ i = .int .i64 p ∧ FM w wr sB iB oB mB Os Oi Oo q I U L L vi vo n) (fun i _ => 5 - (intOf i).toNat)
        case atStart => exact ⟨1, by omega, by omega, rfl, hM.out⟩
        case round =>
          obtain ⟨p, hp1, hp5, rfl, hN⟩ := hrel
          by_cases hp : p = 5
          · subst hp
            replace hN := Lib.hid hN.ch
            go_wp2_with fail
            go_ret
            exact ⟨rfl, hN.out⟩
          · obtain ⟨m, rfl⟩ : ∃ m, p = m + 1 := ⟨p - 1, by omega⟩
            have hm4 : m < 4 := by omega
            have hpl : m + 1 < 5 := by omega
            have hIU := hR.out m hm4
            have k4 := hN.o.cell hpl
            have k5 := hN.i.cell hpl
            have ro := hN.o.row (m + 1) hpl
            have ri := hN.i.row (m + 1) hpl
            obtain ⟨a4, c4, ev, -, -⟩ := ro.isSlice
            obtain ⟨a5, c5, ew, -, -⟩ := ri.isSlice
            have hle : (U (m + 1)).length ≤ (I (m + 1)).length := by rw [hIU, List.length_append]; omega
            have hql : (I (m + 1)).length = (U (m + 1)).length + (q m).length := by rw [hIU, List.length_append]
            have hsl := slice_to ri ew hle
            have hb1 := hI.out (m + 1)
            have so := ro.sees
            have si := ri.sees
            rw [ev] at so
            rw [ew] at si
            have sp := sees_take si hle
            have et : (I (m + 1)).take (U (m + 1)).length = U (m + 1) := by rw [hIU, List.take_left]
            rw [et] at sp
            rw [ev] at k4
            rw [ew] at k5
            have hsame : ∀ nq, Calls Try.prog 13 #[.slice a4 (U (m + 1)).length c4, .slice a5 (U (m + 1)).length c5] (wr.drewN nq) fun e w'' => e = .returned (.bool true) ∧ ∃ k, w'' = wr.drewN k := by
              intro nq
              refine (same_any _ _ _ _ (U (m + 1)) (U (m + 1)) _ (sees_drewN so nq) (sees_drewN sp nq)).mono ?_
              rintro e w'' ⟨rfl, k, rfl⟩
              exact ⟨by rw [decide_eq_true rfl], _, World.drewN_drewN _ _ _⟩
            have hln : ∀ nq (k : Int), k = (m : Int) + 1 → Calls Try.prog 14 #[.pointer (some ⟨sB, 0, none⟩), .int .i64 k] (wr.drewN nq) fun e w'' => e = .returned (.int .i64 ((q m).length : Int)) ∧ ∃ k, w'' = wr.drewN k := fun nq k hk =>
              quiet_eq ((hN.s.keep (ch_drewN wr nq) (fun _ _ e => e)).len m hm4 k hk)
            generalize (U (m + 1)).length = nU at *
            generalize (I (m + 1)).length = nI at *
            generalize (q m).length = nQ at *
            replace hN := Lib.hid hN
            have HSM := Lib.hid hsame
            have HLN := Lib.hid hln
            have g2 : decide ((nI : Int) < (nU : Int)) = false := decide_eq_false (by omega)
            have g2n : decide (nI < nU) = false := decide_eq_false (by omega)
            have g3 : IntKind.i64.wrap ((nI : Int) - (nU : Int)) = (nQ : Int) := by rw [IntWalk.i64_in _ (by omega)]; omega
            have g4 : ((nQ : Int) != (nQ : Int)) = false := by simp
            have g5 : (0 : Int) ≤ nU := by omega
            have g6 : (nU : Int) ≤ c5 := by
              obtain ⟨a', c', e, h1, _⟩ := ri.isSlice
              rw [ew] at e; cases e; omega
            have hmp := Lib.hid (rfl : m + 1 = m + 1)
            generalize hpp : m + 1 = p at *
            have HPP := Lib.hid (And.intro hpp hm4)
            clear hpp hmp ro ri so si sp et hsame hln hIU hql hle hb1 ev ew
            have g7 : (0 : Int) ≤ p := by omega
            have g8 : (p : Int) < 5 := by omega
            have g9 : decide ((p : Int) ≤ 4) = true := decide_eq_true (by omega)
            clear hm4 hpl hp hp1 hp5
            go_wp2_with fail
            go_quiet ((first | (go_at_call 13; exact HSM.out _) | (go_at_call 14; exact HLN.out _ _ (by have := HPP.out.1; omega))))
            have z3 : p ≤ 4 := by have := HPP.out.1; have := HPP.out.2; omega
            clear g2 g2n g3 g5 g6 g7 g8 hsl HSM HLN k4 k5
            go_wp2_with fail
            go_roundw
            case rel => exact ⟨p + 1, by omega, by have := HPP.out.1; have := HPP.out.2; omega, by go_num, hN.out.after ((Ch.refl _ _).drewN _)⟩
            case measure => have := HPP.out.1; have := HPP.out.2; simp [intOf]; omega
  · have g1 : decide ((200 : Int) < l.length) = true := decide_eq_true (by omega)
    clear hsee hfit
    go_enter Try.func3, Try.ntmps3
    go_wp2_with fail
    refine (HA.out _).mono ?_
    rintro e w1 ⟨rfl, c1⟩
    have d1 := Lib.hid c1
    clear c1
    go_wp2_with fail
    refine (HA.out _).mono ?_
    rintro e w2 ⟨rfl, c2⟩
    have d2 := Lib.hid (d1.out.trans c2)
    clear c2
    go_wp2_with fail
    go_ret
    exact ⟨rfl, d2.out⟩

end Go.Proofs.Ytlmccjmbidfflaa
