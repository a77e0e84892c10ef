/-
  gleaninglaw10.StrengthGrows answers true: the walk.
-/
import Derived.Test.YtlmeponoadhheaaTells10
import Derived.Test.YtlmeponoadhheaaGl
namespace Go.Proofs.Ytlmeponoadhheaa
set_option linter.unusedVariables false
open Go.RowKit

theorem copy_ints {D : Nat → Prop} {w : World} {y : Value} {ys : List Int} (hy : SeesI D w y ys) (hlen : ys.length < 4294967296) (ty : TypeId) :
    ∃ a' c' w', (Builtin.append_ #[34, 34] ty #[.slice (some ⟨w.heap.size, 0, none⟩) 0 0, y]).run Try.prog (w.alloc (.cells #[] 3)) = .ok (.slice a' ys.length c') w' ∧ RowAt w' 3 1 (.slice a' ys.length c') ys.length (ys.map (Value.int .i64)) ∧
      Ch0 w w' ∧ (∀ k, rblk (.slice a' ys.length c') = some k → w.heap.size ≤ k) := by
  have hrow : RowAt (w.alloc (.cells #[] 3)) 3 1 (.slice (some ⟨w.heap.size, 0, none⟩) 0 0) 0 (([] : List Int).map (Value.int .i64)) :=
    ⟨rfl, .inr ⟨w.heap.size, 0, 0, #[], rfl, heap_alloc_new w _, Nat.le_refl _, by decide, by simp, by simp⟩⟩
  obtain ⟨a', c', w2, hrun, r2, d2, b2⟩ := run_ints hrow (by omega) (Sees.keep hy ((Ch.refl (fun _ => False) w).alloc (.cells #[] 3)) (fun _ _ e => e)) hlen ty
  simp only [Nat.zero_add, List.nil_append] at hrun r2 b2
  refine ⟨a', c', w2, hrun, r2, ((Ch.refl (fun _ => False) w).alloc _).trans' d2 (fun _ _ e => e) (fun k hk e => ?_), fun k hk => ?_⟩
  · have e' : w.heap.size = k := by simpa [rblk] using e
    omega
  · rcases b2 with q | q
    · rw [q] at hk
      have e' : w.heap.size = k := by simpa [rblk] using hk
      omega
    · rw [q] at hk; cases hk; rw [World.size_alloc]; omega

set_option maxRecDepth 100000 in
set_option maxHeartbeats 4000000 in
theorem grows10_walk (cs : List Cls) (ns : List Int) (rs : List (Int × Int × Int)) (cv nv rv u : Value) (roots : List Int) (more : Int) (w : World) (hs : SeesW (fun k => k < w.heap.size) w cv nv rv cs ns rs) (hf : Fit cs) (hu : SeesI (fun k => k < w.heap.size) w u roots) :
    Calls Try.prog 10 #[.agg #[cv, nv, rv], u, .int .i64 more] w fun e w' => e = .returned (.bool true) ∧ Ch0 w w' := by
  obtain ⟨na, nc, rfl, hnl⟩ := hs.n.len
  obtain ⟨ca, cc, rfl, -⟩ := hs.c.len
  obtain ⟨ra, rc, rfl, -⟩ := hs.r.len
  have HA := Lib.hid awake10
  have HM : Hid (∀ W, Ch0 w W → _) := Lib.hid (fun W (c : Ch0 w W) => made_at hs hf c)
  obtain ⟨ua, uc, rfl, hul⟩ := hu.len
  have HU := Lib.hid hu
  clear hs hf hu
  have cA : Ch0 w (w.alloc (.cells #[.slice ca cs.length cc, .slice na ns.length nc, .slice ra rs.length rc] 72)) := (Ch.refl _ _).alloc _
  have x1 := cell_of_row _ w.heap.size 1 _ _ _ (heap_alloc_new w (.cells #[.slice ca cs.length cc, .slice na ns.length nc, .slice ra rs.length rc] 72))
  simp only [List.getElem?_toArray, List.getElem?_cons_zero, List.getElem?_cons_succ] at x1
  replace cA := Lib.hid cA
  go_enter Try.func10, Try.ntmps10
  go_wp2_with fail
  generalize w.alloc (.cells #[.slice ca cs.length cc, .slice na ns.length nc, .slice ra rs.length rc] 72) = W0 at *
  generalize w.heap.size = P at *
  refine (HM.out _ cA.out).mono ?_
  rintro e w1 (⟨hmB, rfl, d1⟩ | ⟨hmB, b1, b2, p, lo, hi, O1, O2, D, rfl, hD⟩)
  · have HE := Lib.hid (cA.out.trans d1)
    clear d1 HM hmB
    go_wp2_with fail
    refine (HA.out _).mono ?_
    rintro e w2 ⟨rfl, d2⟩
    have HE2 := Lib.hid (HE.out.trans d2)
    clear d2
    go_wp2_with fail
    refine (HA.out _).mono ?_
    rintro e w3 ⟨rfl, d3⟩
    have HE3 := Lib.hid (HE2.out.trans d3)
    clear d3
    go_wp2_with fail
    go_ret
    exact ⟨rfl, HE3.out⟩
  have hmW := madeW_of hmB
  have hnn := hmW.n
  have hLn := hmW.ok.len
  replace hmW := Lib.hid hmW
  replace hD := Lib.hid hD
  clear hmB HM
  generalize madeL cs ns rs = L at *
  go_wp2_with fail
  refine (HA.out _).mono ?_
  rintro e w2 ⟨rfl, d2⟩
  have hD2 := Lib.hid (hD.out.new d2)
  clear hD d2
  by_cases b4 : roots.length ≤ 40
  case neg =>
    have g4 : decide ((40 : Int) < roots.length) = true := decide_eq_true (by omega)
    clear b4
    go_wp2_with fail
    refine (HA.out _).mono ?_
    rintro e w3 ⟨rfl, d3⟩
    have HE3 := Lib.hid (cA.out.trans (hD2.out.new d3).ch)
    clear d3
    go_wp2_with fail
    go_ret
    exact ⟨rfl, HE3.out⟩
  have g4 : decide ((40 : Int) < roots.length) = false := decide_eq_false (by omega)
  go_wp2_with fail
  go_loopw [10] (fun i wr => ∃ k : Nat, k ≤ 6 ∧ i = .int .i64 k ∧ Duo W0 wr cs p lo hi b1 O1 L b2 O2 D (.slice ca cs.length cc) L) (fun i _ => 6 - (intOf i).toNat)
  case atStart => exact ⟨0, Nat.zero_le _, rfl, hD2.out⟩
  case round =>
    clear hD2
    obtain ⟨k, hk, rfl, hD⟩ := hrel
    by_cases hlt : k ≤ 5
    · have g5 : decide ((k : Int) ≤ 5) = true := decide_eq_true (by omega)
      have hwa := within_of hD.g (by omega) _ _ roots (HU.out.keep (cA.out.trans hD.ch) (fun _ _ e => e)) (by omega) (k : Int)
      have t1 : IntKind.i64.wrap ((k : Int) + 1) = (k : Int) + 1 := IntWalk.i64_in _ (by omega)
      replace hD := Lib.hid hD
      go_wp2_with fail
      refine hwa.mono ?_
      rintro e w3 ⟨v3, rfl, r3, f3, c3⟩
      obtain ⟨a3, cc3, rfl, -, -⟩ := r3.isSlice
      have hD3 := Lib.hid (hD.out.new c3)
      replace r3 := Lib.hid r3
      clear hwa c3 f3 hD
      have hwb := within_of hD3.out.g (by omega) _ _ roots (HU.out.keep (cA.out.trans hD3.out.ch) (fun _ _ e => e)) (by omega) ((k : Int) + 1)
      go_wp2_with fail
      refine hwb.mono ?_
      rintro e w4 ⟨v4, rfl, r4, f4, c4⟩
      obtain ⟨a4, cc4, rfl, -, -⟩ := r4.isSlice
      have hD4 := Lib.hid (hD3.out.new c4)
      have s3 := Lib.hid ((r3.out.keep c4 (fun _ _ e => e)).sees)
      have s4 := Lib.hid r4.sees
      have hsub : Hid (∀ x ∈ withinL cs L (k : Int) roots, x ∈ withinL cs L ((k : Int) + 1) roots) := Lib.hid (fun x hx => within_up hx)
      have hla := within_len (cs := cs) (L := L) (lv := (k : Int)) (r := roots)
      clear hwb c4 f4 hD3 r3 r4
      generalize withinL cs L (k : Int) roots = A at *
      generalize withinL cs L ((k : Int) + 1) roots = B at *
      go_wp2_with fail
      go_loop [54] (fun i => ∃ t : Nat, t ≤ A.length ∧ i = .int .i64 t) (fun i => A.length - (intOf i).toNat)
      case atStart => exact ⟨0, Nat.zero_le _, rfl⟩
      case round =>
        obtain ⟨t, ht, rfl⟩ := hrel
        by_cases hlt2 : t < A.length
        · obtain ⟨g, o, c1, -, e1, hcell⟩ := SeesI.cell s3.out (by omega)
          obtain ⟨rfl, rfl⟩ : a3 = some ⟨g, o, none⟩ ∧ cc3 = c1 := by simpa using e1
          have hx := hcell t hlt2
          have hh := has_any _ _ _ (A.getD t 0) w4 s4.out
          rw [decide_eq_true (hsub.out _ (by rw [List.getD_eq_getElem?_getD, List.getElem?_eq_getElem hlt2]; exact List.getElem_mem _))] at hh
          have i1 : (0 : Int) ≤ t := by omega
          have i2 : (t : Int) < A.length := by omega
          clear hcell e1
          generalize A.getD t 0 = X at *
          go_wp2_with fail
          refine hh.mono ?_
          rintro e w5 ⟨rfl, hs5⟩
          obtain rfl : w4 = w5 := hs5
          clear hh
          go_wp2_with fail
          go_round
          case rel => exact ⟨t + 1, by omega, by go_num⟩
          case measure => simp [intOf]; omega
        · obtain rfl : t = A.length := by omega
          go_wp2_with fail
          go_roundw
          case rel => exact ⟨k + 1, by omega, by go_num, hD4.out⟩
          case measure => simp [intOf]; omega
    · obtain rfl : k = 6 := by omega
      have y1 := hD.ch.cell x1 (fun e => e)
      obtain ⟨a5, c5, w5, hrun1, r5, d5, f5⟩ := copy_ints (HU.out.keep (cA.out.trans hD.ch) (fun _ _ e => e)) (by omega) 34
      have ca : Ch0 w5 (w5.alloc (.cells #[.int .i64 more] 3)) := (Ch.refl _ _).alloc _
      obtain ⟨a6, c6, w6, hrun2, r6, d6, b6⟩ := run_int (r5.keep ca (fun _ _ e => e)) (by omega) w5.heap.size more (heap_alloc_new w5 _) 34
      have d56 : Ch0 wr w6 := (d5.trans ca).trans' d6 (fun _ _ e => e) (fun k hk e => by have := f5 k e; omega)
      replace y1 := d56.cell y1 (fun e => e)
      have hD6 := Lib.hid (hD.new d56)
      replace r6 := Lib.hid r6
      clear d5 f5 r5 ca d6 b6 d56 hD
      go_wp2_with (at_builtin; first | (refine wpList_append_run rfl _ _ 34 34 rfl rfl rfl hrun1 ?_; clear hrun1) | (refine wpList_append_run rfl _ _ 34 34 rfl rfl rfl hrun2 ?_; clear hrun2))
      go_loopw [15] (fun i wr => ∃ k : Nat, 1 ≤ k ∧ k ≤ ns.length + 1 ∧ i = .int .i64 k ∧ Ch0 w6 wr) (fun i _ => ns.length + 1 - (intOf i).toNat)
      case atStart => exact ⟨1, by omega, by omega, rfl, Ch.refl _ _⟩
      case round =>
        obtain ⟨k, hk1, hk, rfl, c⟩ := hrel
        have z1 := c.cell y1 (fun e => e)
        by_cases hlt : k ≤ ns.length
        · have hD := hD6.out.new c
          have hox := of_of hD.g (by omega) _ _ roots (HU.out.keep (cA.out.trans hD.ch) (fun _ _ e => e)) (by omega) (k : Int)
          have g5 : decide ((k : Int) ≤ ns.length) = true := decide_eq_true (by omega)
          have hmo := ofL_more (cs := cs) (L := L) (id := (k : Int)) (r := roots) (r' := roots ++ [more]) (fun x hx => List.mem_append.2 (.inl hx))
          have hhe : Hid (∀ t ∈ gholds cs L (k : Int), stronger (ofL cs L (k : Int) roots) (ofL cs L t roots)) := Lib.hid (fun t ht => ofL_held hmW.out.ok.refs ht)
          have hgl := gholds_len hmW.out.ok.wf (k : Int)
          have hrw := (r6.out.keep c (fun _ _ e => e)).sees
          rw [show roots.length + 1 = (roots ++ [more]).length by simp] at hrw
          have hoy : Hid (∀ w', Ch0 wr w' → _) := Lib.hid (fun w' (c : Ch0 wr w') => of_of (hD.g.new c) (by omega) _ _ (roots ++ [more]) (Sees.keep hrw c (fun _ _ e => e)) (by simp; omega) (k : Int))
          rw [show (roots ++ [more]).length = roots.length + 1 by simp] at hoy
          have hHo : Hid (∀ w', Ch0 wr w' → _) := Lib.hid (fun w' (c : Ch0 wr w') => holds_of (hD.g.new c) (k : Int))
          replace hD := Lib.hid hD
          replace c := Lib.hid c
          have t5 : IntKind.i64.wrap ((k : Int) + 1) = (k : Int) + 1 := IntWalk.i64_in _ (by omega)
          clear hrw
          generalize ofL cs L (k : Int) (roots ++ [more]) = y at *
          generalize hxx : ofL cs L (k : Int) roots = x at *
          generalize gholds cs L (k : Int) = H at *
          replace hxx := Lib.hid hxx
          go_wp2_with fail
          refine hox.mono ?_
          rintro e w7 ⟨rfl, c7⟩
          have hoy2 := hoy.out _ c7
          replace c7 := Lib.hid c7
          clear hox hoy
          go_wp2_with fail
          refine hoy2.mono ?_
          rintro e w8 ⟨rfl, c8⟩
          have hHo2 := hHo.out _ (c7.out.trans c8)
          replace c8 := Lib.hid (c7.out.trans c8)
          clear hoy2 hHo c7
          rcases (show (x != 0) = false ∨ ((x != 0) = true ∧ (y == 0) = false ∧ decide (x < y) = false) by
            by_cases q : x = 0
            · left; simp [q]
            · right
              obtain ⟨q1, q2⟩ := hmo q
              exact ⟨by simpa using q, beq_eq_false_iff_ne.2 q1, decide_eq_false (by omega)⟩) with g6 | ⟨g6, g7, g8⟩
          all_goals
            clear hmo
            go_wp2_with fail
            refine hHo2.mono ?_
            rintro e w9 ⟨v9, rfl, r9, f9, c9⟩
            obtain ⟨a9, cc9, rfl, -, -⟩ := r9.isSlice
            replace c9 := Lib.hid (c8.out.trans c9)
            replace r9 := Lib.hid r9
            clear hHo2 f9 c8
            go_wp2_with fail
            go_loopw [102] (fun i wq => ∃ t : Nat, t ≤ H.length ∧ i = .int .i64 t ∧ Ch0 w9 wq) (fun i _ => H.length - (intOf i).toNat)
            case atStart => exact ⟨0, Nat.zero_le _, rfl, Ch.refl _ _⟩
            case round =>
              obtain ⟨t, ht, rfl, d⟩ := hrel
              by_cases hlt2 : t < H.length
              · obtain ⟨g, o, c1, -, e1, hcell⟩ := SeesI.cell ((r9.out.keep d (fun _ _ e => e)).sees) (by omega)
                obtain ⟨rfl, rfl⟩ : a9 = some ⟨g, o, none⟩ ∧ cc9 = c1 := by simpa using e1
                have hx := hcell t hlt2
                have hDq := hD.out.new (c9.out.trans d)
                have hoz := of_of hDq.g (by omega) _ _ roots (HU.out.keep (cA.out.trans hDq.ch) (fun _ _ e => e)) (by omega) (H.getD t 0)
                have hmo := hhe.out (H.getD t 0) (by rw [List.getD_eq_getElem?_getD, List.getElem?_eq_getElem hlt2]; exact List.getElem_mem _)
                have i1 : (0 : Int) ≤ t := by omega
                have i2 : (t : Int) < H.length := by omega
                replace d := Lib.hid d
                clear hcell e1 hDq
                generalize ofL cs L (H.getD t 0) roots = z at *
                generalize H.getD t 0 = X at *
                go_wp2_with fail
                refine hoz.mono ?_
                rintro e w10 ⟨rfl, c10⟩
                have HE := Lib.hid (d.out.trans c10)
                clear hoz c10
                rcases (show (x != 0) = false ∨ ((x != 0) = true ∧ (z == 0) = false ∧ decide (x < z) = false) by
                  by_cases q : x = 0
                  · left; simp [q]
                  · right
                    obtain ⟨q1, q2⟩ := hmo q
                    exact ⟨by simpa using q, beq_eq_false_iff_ne.2 q1, decide_eq_false (by omega)⟩) with h6 | ⟨h6, h7, h8⟩
                all_goals
                  clear hmo
                  first
                    | (exfalso; rw [g6] at h6; cases h6; done)
                    | (go_wp2_with fail
                       go_roundw
                       case rel => exact ⟨t + 1, by omega, by go_num, HE.out⟩
                       case measure => simp [intOf]; omega)
              · obtain rfl : t = H.length := by omega
                have HE := Lib.hid (c.out.trans (c9.out.trans d))
                clear d
                go_wp2_with fail
                go_roundw
                case rel => exact ⟨k + 1, by omega, by omega, by go_num, HE.out⟩
                case measure => simp [intOf]; omega
        · obtain rfl : k = ns.length + 1 := by omega
          have g5 : decide (((ns.length + 1 : Nat) : Int) ≤ ns.length) = false := decide_eq_false (by omega)
          have HE := Lib.hid (cA.out.trans (hD6.out.new c).ch)
          clear c
          go_wp2_with fail
          go_ret
          exact ⟨rfl, HE.out⟩
    
end Go.Proofs.Ytlmeponoadhheaa
