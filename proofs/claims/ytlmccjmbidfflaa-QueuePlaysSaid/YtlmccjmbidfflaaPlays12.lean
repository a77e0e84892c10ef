/-
  gleaninglaw12.QueuePlays answers true: the walk.
-/
import Derived.Test.YtlmccjmbidfflaaPlays12b
import Derived.Deep.DeepCutAuto
import Derived.Deep.CutBlock
namespace Go.Proofs.Ytlmccjmbidfflaa
set_option linter.unusedVariables false
open Go.RowKit Go.Sort

theorem cell_of_three0 {w : World} {b : Nat} {x y z : Value} {T : TypeId} (h : w.heap[b]? = some (.cells #[x, y, z] T (0, 0))) : w.cell? ⟨b, 0, none⟩ = some x := by
  rw [cell_of_row w b 0 _ _ _ h]; rfl

theorem cell_of_three1 {w : World} {b : Nat} {x y z : Value} {T : TypeId} (h : w.heap[b]? = some (.cells #[x, y, z] T (0, 0))) : w.cell? ⟨b, 1, none⟩ = some y := by
  rw [cell_of_row w b 1 _ _ _ h]; rfl

theorem cell_of_three2 {w : World} {b : Nat} {x y z : Value} {T : TypeId} (h : w.heap[b]? = some (.cells #[x, y, z] T (0, 0))) : w.cell? ⟨b, 2, none⟩ = some z := by
  rw [cell_of_row w b 2 _ _ _ h]; rfl

/-- a row of integers that is there in whatever later world -/
def StayI (w : World) (v : Value) (xs : List Int) : Prop := ∀ w', Ch0 w w' → ∃ D, SeesI D w' v xs

theorem stayI {w : World} {v : Value} {xs : List Int} (h : RowAt w 3 1 v xs.length (xs.map (Value.int .i64))) : StayI w v xs := fun _ c => ⟨_, (h.keep c (fun _ _ e => e)).sees⟩

theorem both_cells {w0 w : World} {sB rB b j : Nat} {D : Nat → Prop} {x y z : Value} {T : TypeId} (h : Both w0 w sB rB D (fun w => w.heap[b]? = some (.cells #[x, y, z] T (0, 0))) j) : w.cell? ⟨b, 1, none⟩ = some y ∧ w.cell? ⟨b, 2, none⟩ = some z := by
  obtain ⟨_, _, _, _, _, h, -⟩ := h
  exact ⟨cell_of_three1 h.ad.x, cell_of_three2 h.ad.x⟩

set_option maxRecDepth 100000 in
set_option maxHeartbeats 4000000 in
theorem plays_walk (l : List QOp) (v : Value) (w : World) (hsee : SeesQ (fun k => k < w.heap.size) w v l) (hfit : ∀ o ∈ l, o.Fits) :
    Calls Try.prog 6 #[v] w fun e w' => e = .returned (.bool true) ∧ Ch0 w w' := by
  have HA := Lib.hid awake12
  obtain ⟨a, c, rfl, hlen⟩ := hsee.len
  by_cases h200 : l.length ≤ 200
  · have g1 : decide ((200 : Int) < l.length) = false := decide_eq_false (by omega)
    have HS := Lib.hid hsee
    have HF := Lib.hid hfit
    clear hsee hfit
    go_enter Try.func6, Try.ntmps6
    go_wp2_with fail
    refine (HA.out _).mono ?_
    rintro e w1 ⟨rfl, c1⟩
    have hm0 : Hid (PM w ((w1.alloc (.cells #[.slice none 0 0, .slice none 0 0, .slice none 0 0, .slice none 0 0, .map none] 29)).alloc (.cells #[.slice none 0 0, .slice none 0 0, .slice none 0 0, .slice none 0 0, .slice none 0 0] 47)) w1.heap.size (w1.heap.size + 1) (fun k => k = w1.heap.size) (fun k => k = w1.heap.size + 1) (fun _ => []) (fun _ => []) [] (fun _ => False) (fun _ => True)) := by
      have h0 := qs_new w1
      have cA : Ch0 w1 (w1.alloc (.cells #[.slice none 0 0, .slice none 0 0, .slice none 0 0, .slice none 0 0, .map none] 29)) := (Ch.refl _ _).alloc _
      have hB := heap_alloc_new (w1.alloc (.cells #[.slice none 0 0, .slice none 0 0, .slice none 0 0, .slice none 0 0, .map none] 29)) (.cells #[.slice none 0 0, .slice none 0 0, .slice none 0 0, .slice none 0 0, .slice none 0 0] 47)
      have cB : Ch0 (w1.alloc (.cells #[.slice none 0 0, .slice none 0 0, .slice none 0 0, .slice none 0 0, .map none] 29)) ((w1.alloc (.cells #[.slice none 0 0, .slice none 0 0, .slice none 0 0, .slice none 0 0, .map none] 29)).alloc (.cells #[.slice none 0 0, .slice none 0 0, .slice none 0 0, .slice none 0 0, .slice none 0 0] 47)) := (Ch.refl _ _).alloc _
      rw [World.size_alloc] at hB
      have hsz := c1.size
      refine Lib.hid ⟨h0.keep cB (fun _ _ e => e), ⟨_, rs_new (n := 5) hB⟩, ?_, ⟨(c1.trans cA).trans cB, ?_⟩, ⟨(c1.trans cA).trans cB, ?_⟩, ⟨trivial, fun _ _ _ _ _ _ => trivial, ?_, ?_⟩, ⟨trivial, fun _ _ _ _ _ _ => trivial, ?_, ?_⟩⟩
      · rintro k e1 e2; omega
      · rintro k rfl; omega
      · rintro k rfl; omega
      · rintro k e; exact e.elim
      · rintro k e; exact e.elim
      · rintro k e; exact e.elim
      · rintro k e; exact e.elim
    clear c1
    go_wp2_with fail
    generalize (w1.alloc (.cells #[.slice none 0 0, .slice none 0 0, .slice none 0 0, .slice none 0 0, .map none] 29)).alloc (.cells #[.slice none 0 0, .slice none 0 0, .slice none 0 0, .slice none 0 0, .slice none 0 0] 47) = W2 at *
    generalize w1.heap.size = sB at *
    generalize sB + 1 = rB at *
    go_loopw [34] (fun i wr => ∃ j : Nat, j ≤ l.length ∧ i = .int .i64 j ∧ ∃ O O2 q q2 L, PM w wr sB rB O O2 q q2 L (fun _ => False) (fun _ => True) ∧ PP q q2 L j) (fun i _ => l.length - (intOf i).toNat)
    case atStart => exact ⟨0, Nat.zero_le _, rfl, _, _, _, _, _, hm0.out, pp_start⟩
    case round =>
      obtain ⟨j, hj, rfl, O, O2, q, q2, L, hm, hp⟩ := hrel
      clear hm0
      replace hm := Lib.hid hm
      replace hp := Lib.hid hp
      by_cases hlt : j < l.length
      · obtain ⟨o, ho⟩ : ∃ o, l[j]? = some o := ⟨l[j], by simp [hlt]⟩
        obtain ⟨f0, f1, f2, f3, f4, f5⟩ := HF.out o (List.mem_of_getElem? ho)
        obtain ⟨g, off, c', -, hv, hc⟩ := SeesQ.cell HS.out (by omega)
        obtain ⟨rfl, rfl⟩ : a = some ⟨g, off, none⟩ ∧ c = c' := by simpa using hv
        have hc0 := hc j o ho
        have k1 := hm.out.ms.ch.cell hc0.1 (fun e => e)
        have k2 := hm.out.ms.ch.cell hc0.2.1 (fun e => e)
        have k3 := hm.out.ms.ch.cell hc0.2.2 (fun e => e)
        obtain ⟨oK, oQ, oX⟩ := o
        simp only at f0 f1 f2 f3 f4 f5 k1 k2 k3
        have hm1 : Hid (PM w (wr.alloc (.cells #[.int .i64 oK, .int .i64 oQ, .int .i64 oX] 33)) sB rB O O2 q q2 L (fun k => k = wr.heap.size) (fun w => w.heap[wr.heap.size]? = some (.cells #[.int .i64 oK, .int .i64 oQ, .int .i64 oX] 33 (0, 0)))) := by
          have z := hm.out.new ((Ch.refl _ wr).alloc (.cells #[.int .i64 oK, .int .i64 oQ, .int .i64 oX] 33))
          exact Lib.hid (z.with (Aside.block (heap_alloc_new _ _) (fun e => by have := hm.out.s.small _ e; omega)) (Aside.block (heap_alloc_new _ _) (fun e => by have := hm.out.r.small _ e; omega)))
        clear hc0 hc hv ho hm
        have i1 : (0 : Int) ≤ j := by omega
        have i2 : (j : Int) < l.length := by omega
        go_upto_block 2 with (fail)
        clear k1 k2 k3 hlen
        have bO := hm1.out.ad.x
        have k1 := cell_of_three0 bO
        have k2 := cell_of_three1 bO
        have k3 := cell_of_three2 bO
        replace bO := Lib.hid bO
        generalize wr.alloc (.cells #[.int .i64 oK, .int .i64 oQ, .int .i64 oX] 33) = W6 at *
        generalize wr.heap.size = B6 at *
        go_cut [7] (fun s7 wx => s7 = .bool true ∧ Both w wx sB rB (fun k => k = B6) (fun w => w.heap[B6]? = some (.cells #[.int .i64 oK, .int .i64 oQ, .int .i64 oX] 33 (0, 0))) (j + 1))
        case first =>
          replace bO := bO.out
          by_cases e1 : oK = 1
          · subst e1
            obtain ⟨d, z, hput⟩ := put_both hm1.out hp.out (by omega) oQ (max 1 (min oX 1000)) (by omega)
            have hhd := held_any oX
            generalize max 1 (min oX 1000) = Y at *
            have HK : Hid (∀ w', Ch0 W6 w' → w'.cell? ⟨B6, 1, none⟩ = some (.int .i64 oQ) ∧ w'.cell? ⟨B6, 2, none⟩ = some (.int .i64 oX)) := Lib.hid (fun w' c => ⟨c.cell k2 (fun e => e), c.cell k3 (fun e => e)⟩)
            have HH : Hid (∀ w', Ch0 W6 w' → Calls Try.prog 16 #[.int .i64 oX] w' fun e w'' => e = .returned (.int .i64 Y) ∧ Ch0 W6 w'') := Lib.hid (fun w' c => (hhd w').mono fun e w'' ⟨h1, h2⟩ => ⟨h1, (show w' = w'' from h2) ▸ c⟩)
            replace hput := Lib.hid hput
            have t1 : (d == d) = true := by simp
            have t2 : (z == z) = true := by simp
            have HHb := Lib.hid hhd
            clear hhd bO
            go_wp2_with fail
            have c0 : Ch0 W6 W6.drew := (Ch.refl _ _).drew
            go_region_held3 (fun w' => w'.cell? ⟨B6, 1, none⟩ = some (.int .i64 oQ) ∧ w'.cell? ⟨B6, 2, none⟩ = some (.int .i64 oX))
              (first | exact HK.out _ (by assumption) | exact hS5 | go_keep)
              (first
                | (go_at_call 16; refine (HH.out _ (by assumption)).mono ?_; rintro e wa ⟨rfl, ca⟩)
                | (go_at_call 12; refine (hput.out _ (by assumption)).mono ?_; rintro e wb ⟨rfl, hmid⟩; have hS5 : wb.cell? ⟨B6, 1, none⟩ = some (.int .i64 oQ) ∧ wb.cell? ⟨B6, 2, none⟩ = some (.int .i64 oX) := ⟨cell_of_three1 (hmid wb (Ch.refl _ _)).1, cell_of_three2 (hmid wb (Ch.refl _ _)).1⟩; replace hmid := Lib.hid hmid))
            clear HK HH hput c0 ca k1 k2 k3 hm1 hp
            obtain ⟨k2, k3⟩ := hS5
            have HK : Hid (∀ w', Ch0 wb w' → w'.cell? ⟨B6, 1, none⟩ = some (.int .i64 oQ) ∧ w'.cell? ⟨B6, 2, none⟩ = some (.int .i64 oX)) := Lib.hid (fun w' c => ⟨c.cell k2 (fun e => e), c.cell k3 (fun e => e)⟩)
            have HH : Hid (∀ w', Ch0 wb w' → Calls Try.prog 16 #[.int .i64 oX] w' fun e w'' => e = .returned (.int .i64 Y) ∧ Ch0 wb w'') := Lib.hid (fun w' c => (HHb.out w').mono fun e w'' ⟨h1, h2⟩ => ⟨h1, (show w' = w'' from h2) ▸ c⟩)
            go_wp2_with fail
            have c0 : Ch0 wb wb.drew := (Ch.refl _ _).drew
            go_region_held3 (fun w' => w'.cell? ⟨B6, 1, none⟩ = some (.int .i64 oQ) ∧ w'.cell? ⟨B6, 2, none⟩ = some (.int .i64 oX))
              (first | exact HK.out _ (by assumption) | exact hS6 | go_keep)
              (first
                | (go_at_call 16; refine (HH.out _ (by assumption)).mono ?_; rintro e wa2 ⟨rfl, ca⟩)
                | (go_at_call 17; refine ((hmid.out _ (by assumption)).2).mono ?_; rintro e wc ⟨rfl, hB⟩; have hS6 := both_cells hB; replace hB := Lib.hid hB))
            clear HK HH hmid c0 ca k2 k3 hS6
            go_wp2_with fail
            go_meet
            exact ⟨rfl, hB.out⟩
          · have t0 : (oK == 1) = false := by simpa using e1
            by_cases e2 : oK = 2
            · subst e2
              obtain ⟨y, z, hpoll⟩ := poll_both hm1.out hp.out oQ
              have t1 : (y == y) = true := by simp
              have t2 : (z == z) = true := by simp
              have hc1 := hpoll W6 (Ch.refl _ _)
              clear hpoll e1 hm1 hp bO k3
              go_wp2_with fail
              refine hc1.mono ?_
              rintro e wb ⟨rfl, hmid⟩
              have k2 := cell_of_three1 (hmid wb (Ch.refl _ _)).1
              have hc2 := (hmid wb (Ch.refl _ _)).2
              clear hc1 hmid
              go_wp2_with fail
              refine hc2.mono ?_
              rintro e wc ⟨rfl, hB⟩
              replace hB := Lib.hid hB
              clear hc2
              go_wp2_with fail
              go_meet
              exact ⟨rfl, hB.out⟩
            · have t2 : (oK == 2) = false := by simpa using e2
              by_cases e3 : oK = 3
              · subst e3
                have hhd := held_any oX W6
                obtain ⟨Y, hY, y0, y1⟩ : ∃ Y, Y = max 1 (min oX 1000) ∧ 1 ≤ Y ∧ Y ≤ 1000 := ⟨_, rfl, by omega, by omega⟩
                rw [← hY] at hhd
                obtain ⟨R, hR1, hR⟩ : ∃ R : Nat, R < 100 ∧ Y.tmod 100 = (R : Int) := ⟨(Y % 100).toNat, by omega, by rw [Int.tmod_eq_emod_of_nonneg (by omega)]; omega⟩
                have hw : IntKind.i64.wrap (1 + (R : Int)) = 1 + (R : Int) := IntWalk.i64_in _ (by omega)
                have cA : Ch0 W6 (W6.alloc (.cells #[.int .i64 (1 + (R : Int))] 3)) := (Ch.refl _ _).alloc _
                have hren := rename_both (hm1.out.new cA) hp.out (by omega) (1 + (R : Int)) (by omega) (heap_alloc_new _ _) (fun e => by have := hm1.out.s.small _ e; omega) _ (Ch.refl _ _)
                have hmf : ∀ (fn : Fn) (first cap : Array Value) (w : World), (Instr.makeFunc fn first cap).run Try.prog w = .ok (.func fn first cap) w := fun _ _ _ _ => rfl
                replace hren := Lib.hid hren
                clear hY e1 e2 hm1 hp bO k1 k2 cA
                go_wp2_with fail
                refine hhd.mono ?_
                rintro e w5 ⟨rfl, hs⟩
                obtain rfl : W6 = w5 := hs
                clear hhd
                go_wp2_with fail
                refine hren.out.mono ?_
                rintro e wb ⟨rfl, hmid⟩
                have k16 := (hmid wb (Ch.refl _ _)).1
                have hc2 := (hmid wb (Ch.refl _ _)).2
                clear hren hmid
                go_wp2_with fail
                refine hc2.mono ?_
                rintro e wc ⟨rfl, hB⟩
                replace hB := Lib.hid hB
                clear hc2
                go_wp2_with fail
                go_meet
                exact ⟨rfl, hB.out⟩
              · have t3 : (oK == 3) = false := by simpa using e3
                by_cases e4 : oK = 4
                · subst e4
                  have hl2 := hp.out.catlen
                  rw [hp.out.cats] at hl2
                  have hall := rall_in hm1.out.r (by omega)
                  have hmf : ∀ (fn : Fn) (first cap : Array Value) (w : World), (Instr.makeFunc fn first cap).run Try.prog w = .ok (.func fn first cap) w := fun _ _ _ _ => rfl
                  clear e1 e2 e3 k1 k2 hl2
                  go_wp2_with fail
                  refine hall.mono ?_
                  rintro e w5 ⟨v5, rfl, c5, r5, b5⟩
                  obtain ⟨a5, x5, rfl, -, -⟩ := r5.isSlice
                  have cA : Ch0 w5 (w5.alloc (.cells #[.slice a5 (cat q2 4).length x5] 25)) := (Ch.refl _ _).alloc _
                  have hren := forget_both ((hm1.out.new c5).new cA) hp.out (by omega) oX (b6 := B6) (v := .slice a5 (cat q2 4).length x5) (fun w' c => ⟨_, (r5.keep (cA.trans c) (fun _ _ e => e)).sees⟩) (heap_alloc_new _ _) ((c5.trans cA).cell k3 (fun e => e)) _ (Ch.refl _ _)
                  replace hren := Lib.hid hren
                  clear hall c5 r5 b5 cA hm1 hp bO k3
                  go_wp2_with fail
                  refine hren.out.mono ?_
                  rintro e wb ⟨rfl, hmid⟩
                  have k3 := cell_of_three2 (hmid wb (Ch.refl _ _)).1
                  have hc2 := (hmid wb (Ch.refl _ _)).2
                  clear hren hmid
                  go_wp2_with fail
                  refine hc2.mono ?_
                  rintro e wc ⟨rfl, hB⟩
                  replace hB := Lib.hid hB
                  clear hc2
                  go_wp2_with fail
                  go_meet
                  exact ⟨rfl, hB.out⟩
                · have t4 : (oK == 4) = false := by simpa using e4
                  have hB := Lib.hid (show Both w W6 sB rB _ _ (j + 1) from ⟨_, _, _, _, _, hm1.out, hp.out.next⟩)
                  clear e1 e2 e3 e4 k1 k2 k3 hm1 hp bO
                  go_wp2_with fail
                  go_meet
                  exact ⟨rfl, hB.out⟩
        case rest =>
          obtain ⟨rfl, O', O2', q', q2', L', hm2, hp2⟩ := hcut
          clear k1 k2 k3 hm1 hp bO
          have hln := lenS hm2.s
          have hcl := hp2.catlen
          have hst : ∀ m, m ≤ 5 → sumOf q' (m + 1) = sumOf q' m + lenOf q' (m : Int) ∧ sumOf q' (m + 1) ≤ 4000 := fun m hm => ⟨sumOf_step q' m hm, by
            unfold sumOf
            have := cat_le q' (show min (m + 1 - 1) 4 ≤ 4 by omega)
            omega⟩
          have k2 := cell_of_three1 hm2.ad.x
          have HQ := Lib.hid hm2
          replace hp2 := Lib.hid hp2
          replace hst := Lib.hid hst
          replace hln := Lib.hid hln
          clear hm2 f0 f1 f4 f5
          go_wp2_with fail
          go_loopw [18, 19] (fun nn i w7 => ∃ m : Nat, m ≤ 6 ∧ i = .int .i64 m ∧ nn = .int .i64 (sumOf q' m : Int) ∧ SameW wc w7) (fun _ i _ => 6 - (intOf i).toNat)
          case atStart => exact ⟨0, by omega, rfl, rfl, SameW.rfl' _⟩
          case round =>
            obtain ⟨m, hm, rfl, rfl, hs⟩ := hrel
            obtain rfl : wc = wr := hs
            by_cases hm6 : m < 6
            · obtain ⟨hs1, hs2⟩ := hst.out m (by omega)
              have hc1 := hln.out (m : Int)
              rw [hs1] at hs2
              have HS1 := Lib.hid hs1
              clear hs1
              generalize sumOf q' m = sm at *
              generalize lenOf q' (m : Int) = lm at *
              have i3 : (m : Int) ≤ 5 := by omega
              go_wp2_with fail
              refine hc1.mono ?_
              rintro e w8 ⟨rfl, hs⟩
              obtain rfl : wc = w8 := hs
              clear hc1
              go_wp2_with fail
              go_roundw
              case rel => exact ⟨m + 1, by omega, by go_num, by rw [HS1.out]; go_num, SameW.rfl' _⟩
              case measure => simp [intOf]; omega
            · obtain rfl : m = 6 := by omega
              rw [sumOf_six]
              have hce := hp2.out.cats
              have hlo := hp2.out.lenOf oQ
              generalize hC : cat q2' 4 = C at *
              generalize hN : lenOf q2' oQ = N at *
              have hm9 : Hid (∀ w', Ch0 wc w' → PM w w' sB rB O' O2' q' q2' L' (fun _ => False) (fun _ => True)) := Lib.hid (fun w' c => (HQ.out.new c).with ⟨trivial, fun _ _ _ _ _ _ => trivial, fun k e => e.elim, fun k e => e.elim⟩ ⟨trivial, fun _ _ _ _ _ _ => trivial, fun k e => e.elim, fun k e => e.elim⟩)
              rw [hce] at hcl ⊢
              have HK : Hid (∀ w', Ch0 wc w' → w'.cell? ⟨B6, 1, none⟩ = some (.int .i64 oQ)) := Lib.hid (fun w' c => c.cell k2 (fun e => e))
              have HA1 : Hid (∀ w', Ch0 wc w' → Calls Try.prog 15 #[.pointer (some ⟨sB, 0, none⟩)] w' fun e w'' => ∃ a' c', e = .returned (.slice a' C.length c') ∧ StayI w'' (.slice a' C.length c') C ∧ Ch0 wc w'') := Lib.hid (fun w' c => (all_in (HQ.out.new c).s (by rw [hce]; omega)).mono (fun e w'' ⟨u, h1, h2, h3, _⟩ => by
                rw [hce] at h3
                obtain ⟨a', c', rfl, -, -⟩ := h3.isSlice
                exact ⟨a', c', h1, stayI h3, c.trans h2⟩))
              have HR1 : Hid (∀ w', Ch0 wc w' → Calls Try.prog 22 #[.pointer (some ⟨rB, 0, none⟩)] w' fun e w'' => ∃ a' c', e = .returned (.slice a' C.length c') ∧ StayI w'' (.slice a' C.length c') C ∧ Ch0 wc w'') := Lib.hid (fun w' c => (rall_in (HQ.out.new c).r (by rw [hC]; omega)).mono (fun e w'' ⟨u, h1, h2, h3, _⟩ => by
                rw [hC] at h3
                obtain ⟨a', c', rfl, -, -⟩ := h3.isSlice
                exact ⟨a', c', h1, stayI h3, c.trans h2⟩))
              have HR2 : Hid (∀ w' v, Ch0 wc w' → StayI w' v C → Calls Try.prog 22 #[.pointer (some ⟨rB, 0, none⟩)] w' fun e w'' => ∃ a' c', e = .returned (.slice a' C.length c') ∧ StayI w'' (.slice a' C.length c') C ∧ StayI w'' v C ∧ Ch0 wc w'') := Lib.hid (fun w' v c s => (rall_in (HQ.out.new c).r (by rw [hC]; omega)).mono (fun e w'' ⟨u, h1, h2, h3, _⟩ => by
                rw [hC] at h3
                obtain ⟨a', c', rfl, -, -⟩ := h3.isSlice
                exact ⟨a', c', h1, stayI h3, fun w3 c3 => s w3 (h2.trans c3), c.trans h2⟩))
              have HS1 : Hid (∀ w' v1 v2, Ch0 wc w' → StayI w' v1 C → StayI w' v2 C → Calls Try.prog 13 #[v1, v2] w' fun e w'' => e = .returned (.bool true) ∧ Ch0 wc w'') := Lib.hid (fun w' v1 v2 c s1 s2 => by
                obtain ⟨D1, d1⟩ := s1 w' (Ch.refl _ _)
                obtain ⟨D2, d2⟩ := s2 w' (Ch.refl _ _)
                refine (same_any D1 D2 v1 v2 C C w' d1 d2).mono ?_
                rintro e w'' ⟨h1, n, rfl⟩
                exact ⟨by rw [h1, decide_eq_true rfl], c.drewN n⟩)
              have HL1 : Hid (∀ w', Ch0 wc w' → Calls Try.prog 14 #[.pointer (some ⟨sB, 0, none⟩), .int .i64 oQ] w' fun e w'' => e = .returned (.int .i64 (N : Int)) ∧ Ch0 wc w'') := Lib.hid (fun w' c => (lenS (HQ.out.new c).s oQ).mono (fun e w'' ⟨h1, h2⟩ => ⟨by rw [h1, hlo], (show w' = w'' from h2) ▸ c⟩))
              have HL2 : Hid (∀ w', Ch0 wc w' → Calls Try.prog 24 #[.pointer (some ⟨rB, 0, none⟩), .int .i64 oQ] w' fun e w'' => e = .returned (.int .i64 (N : Int)) ∧ Ch0 wc w'') := Lib.hid (fun w' c => (lenR (HQ.out.new c).r oQ).mono (fun e w'' ⟨h1, h2⟩ => ⟨by rw [h1, hN], (show w' = w'' from h2) ▸ c⟩))
              have t8 : ((C.length : Int) != (C.length : Int)) = false := by simp
              have t9 : ((N : Int) != (N : Int)) = false := by simp
              have hnC : C.length ≤ 4000 := by omega
              clear hst hln hce hlo hC hN HQ hcl
              go_wp2_with fail
              have c0 : Ch0 wc wc.drew := (Ch.refl _ _).drew
              go_region_held3 (fun w' => w'.cell? ⟨B6, 1, none⟩ = some (.int .i64 oQ))
                (first | exact HK.out _ (by assumption) | go_keep)
                (first
                  | (go_at_call 22; refine (HR2.out _ _ (by assumption) (by assumption)).mono ?_; rintro e wa ⟨a', c', rfl, sa, sb, ca⟩)
                  | (go_at_call 22; refine (HR1.out _ (by assumption)).mono ?_; rintro e wb ⟨a', c', rfl, sc, cb⟩)
                  | (go_at_call 15; refine (HA1.out _ (by assumption)).mono ?_; rintro e wd ⟨a', c', rfl, sd, cd⟩)
                  | (go_at_call 13; refine (HS1.out _ _ _ (by assumption) (by assumption) (by assumption)).mono ?_; rintro e we ⟨rfl, ce⟩)
                  | (go_at_call 14; refine (HL1.out _ (by assumption)).mono ?_; rintro e wf ⟨rfl, cf⟩)
                  | (go_at_call 24; refine (HL2.out _ (by assumption)).mono ?_; rintro e wg ⟨rfl, cg⟩))
              have hm3 := Lib.hid (hm9.out _ cg)
              clear HK HA1 HR1 HR2 HS1 HL1 HL2 c0 sa sb sc sd ca cb cd ce cf cg hm9 k2
              go_wp2_with fail
              go_roundw
              case rel => exact ⟨j + 1, by omega, by go_num, _, _, _, _, _, hm3.out, hp2.out⟩
              case measure => simp [intOf]; omega
      · obtain rfl : j = l.length := by omega
        go_wp2_with fail
        go_ret
        exact ⟨rfl, hm.out.ms.ch⟩
  · have g1 : decide ((200 : Int) < l.length) = true := decide_eq_true (by omega)
    clear hsee hfit
    go_enter Try.func6, Try.ntmps6
    go_wp2_with fail
    refine (HA.out _).mono ?_
    rintro e w1 ⟨rfl, c1⟩
    have d1 := Lib.hid c1
    clear c1
    go_wp2_with fail
    refine (HA.out _).mono ?_
    rintro e w2 ⟨rfl, c2⟩
    have d2 := Lib.hid (d1.out.trans c2)
    clear c2
    go_wp2_with fail
    go_ret
    exact ⟨rfl, d2.out⟩

end Go.Proofs.Ytlmccjmbidfflaa
