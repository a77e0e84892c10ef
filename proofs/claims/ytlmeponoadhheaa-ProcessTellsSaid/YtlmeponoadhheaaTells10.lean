/-
  gleaninglaw10.StrengthTells answers true: the walk.
-/
import Derived.Test.YtlmeponoadhheaaMadeW
import Derived.Test.YtlmeponoadhheaaAwake10
import Derived.Test.YtlmeponoadhheaaS5
namespace Go.Proofs.Ytlmeponoadhheaa
set_option linter.unusedVariables false
open Go.RowKit

theorem SeesW.mono {D E : Nat → Prop} {w : World} {cv nv rv : Value} {cs : List Cls} {ns : List Int} {rs : List (Int × Int × Int)} (h : SeesW D w cv nv rv cs ns rs) (hd : ∀ k, D k → E k) : SeesW E w cv nv rv cs ns rs :=
  ⟨h.c.mono hd, h.n.mono hd, h.r.mono hd, h.nf, h.rf⟩

/-- made, of a world whose arguments stand -/
theorem made_at {cs : List Cls} {ns : List Int} {rs : List (Int × Int × Int)} {cv nv rv : Value} {w W : World} (hs : SeesW (fun k => k < w.heap.size) w cv nv rv cs ns rs) (hf : Fit cs) (c : Ch0 w W) :
    Calls Try.prog 55 #[.agg #[cv, nv, rv]] W fun e w' => (madeB cs ns rs = false ∧ e = .returned (.tuple #[.pointer none, .pointer none, .bool false]) ∧ Ch0 W w') ∨
      (madeB cs ns rs = true ∧ ∃ b1 b2 p lo hi O1 O2 D, e = .returned (.tuple #[.pointer (some ⟨b1, 0, none⟩), .pointer (some ⟨b2, 0, none⟩), .bool true]) ∧ Duo W w' cs p lo hi b1 O1 (madeL cs ns rs) b2 O2 D cv (madeL cs ns rs)) :=
  (made_of cs ns rs cv nv rv W ((hs.keep c (fun _ _ e => e)).mono (fun k hk => by have := c.size; omega)) hf).mono fun _ _ h => h.imp (fun q => q) (fun ⟨q, b1, b2, p, lo, hi, O1, O2, he, hd⟩ => ⟨q, b1, b2, p, lo, hi, O1, O2, _, he, hd⟩)

/-- what is true of a made world -/
structure MadeW (cs : List Cls) (n : Nat) (L : List GN) : Prop where
  ok : MadeOk cs L n
  n : n ≤ 40
  right : allRight cs = true

theorem madeW_of {cs : List Cls} {ns : List Int} {rs : List (Int × Int × Int)} (h : madeB cs ns rs = true) : MadeW cs ns.length (madeL cs ns rs) := by
  unfold madeB at h
  simp at h
  obtain ⟨h1, h2, h3, h4, h5⟩ := h
  have hz := newC_zero h5
  exact ⟨madeL_ok hz.1 (by omega) ns rs (by omega), h1, hz.1⟩

theorem MadeW.len {cs : List Cls} {n : Nat} {L : List GN} (h : MadeW cs n L) : L.length ≤ 40 := by rw [h.ok.len]; exact h.n

set_option maxRecDepth 100000 in
set_option maxHeartbeats 4000000 in
theorem tells10_walk (cs : List Cls) (ns : List Int) (rs : List (Int × Int × Int)) (cv nv rv u : Value) (roots : List Int) (level : Int) (w : World) (hs : SeesW (fun k => k < w.heap.size) w cv nv rv cs ns rs) (hf : Fit cs) (hu : SeesI (fun k => k < w.heap.size) w u roots) :
    Calls Try.prog 9 #[.agg #[cv, nv, rv], u, .int .i64 level] w fun e w' => e = .returned (.bool true) ∧ Ch0 w w' := by
  obtain ⟨na, nc, rfl, hnl⟩ := hs.n.len
  obtain ⟨ca, cc, rfl, -⟩ := hs.c.len
  obtain ⟨ra, rc, rfl, -⟩ := hs.r.len
  have HA := Lib.hid awake10
  have HM : Hid (∀ W, Ch0 w W → _) := Lib.hid (fun W (c : Ch0 w W) => made_at hs hf c)
  obtain ⟨ua, uc, rfl, hul⟩ := hu.len
  have HU := Lib.hid hu
  clear hs hf hu
  have cA : Ch0 w (w.alloc (.cells #[.slice ca cs.length cc, .slice na ns.length nc, .slice ra rs.length rc] 72)) := (Ch.refl _ _).alloc _
  have x1 := cell_of_row _ w.heap.size 1 _ _ _ (heap_alloc_new w (.cells #[.slice ca cs.length cc, .slice na ns.length nc, .slice ra rs.length rc] 72))
  simp only [List.getElem?_toArray, List.getElem?_cons_zero, List.getElem?_cons_succ] at x1
  replace cA := Lib.hid cA
  go_enter Try.func9, Try.ntmps9
  go_wp2_with fail
  generalize w.alloc (.cells #[.slice ca cs.length cc, .slice na ns.length nc, .slice ra rs.length rc] 72) = W0 at *
  generalize w.heap.size = P at *
  refine (HM.out _ cA.out).mono ?_
  rintro e w1 (⟨hmB, rfl, d1⟩ | ⟨hmB, b1, b2, p, lo, hi, O1, O2, D, rfl, hD⟩)
  · have HE := Lib.hid (cA.out.trans d1)
    clear d1 HM hmB
    go_wp2_with fail
    refine (HA.out _).mono ?_
    rintro e w2 ⟨rfl, d2⟩
    have HE2 := Lib.hid (HE.out.trans d2)
    clear d2
    go_wp2_with fail
    refine (HA.out _).mono ?_
    rintro e w3 ⟨rfl, d3⟩
    have HE3 := Lib.hid (HE2.out.trans d3)
    clear d3
    go_wp2_with fail
    go_ret
    exact ⟨rfl, HE3.out⟩
  have hmW := madeW_of hmB
  have hnn := hmW.n
  have hLn := hmW.ok.len
  replace hmW := Lib.hid hmW
  replace hD := Lib.hid hD
  clear hmB HM
  generalize madeL cs ns rs = L at *
  go_wp2_with fail
  refine (HA.out _).mono ?_
  rintro e w2 ⟨rfl, d2⟩
  have hD2 := Lib.hid (hD.out.new d2)
  clear hD d2
  by_cases b4 : roots.length ≤ 40
  case neg =>
    have g4 : decide ((40 : Int) < roots.length) = true := decide_eq_true (by omega)
    clear b4
    go_wp2_with fail
    refine (HA.out _).mono ?_
    rintro e w3 ⟨rfl, d3⟩
    have HE3 := Lib.hid (cA.out.trans (hD2.out.new d3).ch)
    clear d3
    go_wp2_with fail
    go_ret
    exact ⟨rfl, HE3.out⟩
  have g4 : decide ((40 : Int) < roots.length) = false := decide_eq_false (by omega)
  have hwi := within_of hD2.out.g (by omega) _ _ roots (HU.out.keep (cA.out.trans hD2.out.ch) (fun _ _ e => e)) (by omega) level
  go_wp2_with fail
  refine hwi.mono ?_
  rintro e w3 ⟨v3, rfl, r3, f3, c3⟩
  obtain ⟨a3, cc3, rfl, -, -⟩ := r3.isSlice
  have hD3 := Lib.hid (hD2.out.new c3)
  replace r3 := Lib.hid r3
  clear hwi c3 f3 hD2
  have hwr := rwithin_of hD3.out.r hmW.out.right (by omega) _ _ roots (HU.out.keep (cA.out.trans hD3.out.ch) (fun _ _ e => e)) level
  go_wp2_with fail
  refine hwr.mono ?_
  rintro e w4 ⟨v4, rfl, r4, f4, c4⟩
  obtain ⟨a4, cc4, rfl, -, -⟩ := r4.isSlice
  have hD4 := Lib.hid (hD3.out.new c4)
  have hsm := same_any _ _ _ _ _ _ w4 ((r3.out.keep c4 (fun _ _ e => e)).sees) r4.sees
  rw [decide_eq_true rfl] at hsm
  clear hwr c4 f4 hD3 r3 r4
  go_wp2_with fail
  refine hsm.mono ?_
  rintro e w5' ⟨rfl, n5, hw5⟩
  replace hD4 := Lib.hid (hD4.out.new (hw5 ▸ ch_drewN' w4 n5 : Ch0 w4 w5'))
  clear hsm hw5
  have hre := reach_of hD4.out.g (by omega) _ _ roots (HU.out.keep (cA.out.trans hD4.out.ch) (fun _ _ e => e)) (by omega)
  go_wp2_with fail
  refine hre.mono ?_
  rintro e w5 ⟨v5, rfl, r5, f5, c5⟩
  obtain ⟨a5, cc5, rfl, -, -⟩ := r5.isSlice
  have hD5 := Lib.hid (hD4.out.new c5)
  replace r5 := Lib.hid r5
  clear hre c5 f5 hD4
  have hrc := rclose_of hD5.out.r hmW.out.right (by omega) _ _ roots (HU.out.keep (cA.out.trans hD5.out.ch) (fun _ _ e => e)) 1
  go_wp2_with fail
  refine hrc.mono ?_
  rintro e w6 ⟨v6, rfl, r6, f6, c6⟩
  obtain ⟨a6, cc6, rfl, -, -⟩ := r6.isSlice
  have hD6 := Lib.hid (hD5.out.new c6)
  have hsm := same_any _ _ _ _ _ _ w6 ((r5.out.keep c6 (fun _ _ e => e)).sees) r6.sees
  rw [decide_eq_true rfl] at hsm
  clear hrc c6 f6 hD5 r5 r6
  go_wp2_with fail
  refine hsm.mono ?_
  rintro e w7 ⟨rfl, n7, hw7⟩
  have hD7 := Lib.hid (hD6.out.new (hw7 ▸ ch_drewN' w6 n7 : Ch0 w6 w7))
  clear hsm hw7 hD6
  have hnn2 : ns.length ≤ 40 := hnn
  go_wp2_with fail
  go_loopw [10] (fun i wr => ∃ k : Nat, k ≤ ns.length + 2 ∧ i = .int .i64 k ∧ Duo W0 wr cs p lo hi b1 O1 L b2 O2 D (.slice ca cs.length cc) L) (fun i _ => ns.length + 2 - (intOf i).toNat)
  case atStart => exact ⟨0, Nat.zero_le _, rfl, hD7.out⟩
  case round =>
    clear hD7
    obtain ⟨k, hk, rfl, hD⟩ := hrel
    have y1 := hD.ch.cell x1 (fun e => e)
    have t1 : IntKind.i64.wrap ((ns.length : Int) + 1) = (ns.length : Int) + 1 := IntWalk.i64_in _ (by omega)
    by_cases hlt : k < ns.length + 2
    · have g5 : decide ((k : Int) ≤ (ns.length : Int) + 1) = true := decide_eq_true (by omega)
      have ho := of_of hD.g (by omega) _ _ roots (HU.out.keep (cA.out.trans hD.ch) (fun _ _ e => e)) (by omega) (k : Int)
      replace hD := Lib.hid hD
      have t2 : IntKind.i64.wrap ((k : Int) + 1) = (k : Int) + 1 := IntWalk.i64_in _ (by omega)
      obtain ⟨y, hy⟩ : ∃ y, y = ofL cs L (k : Int) roots := ⟨_, rfl⟩
      rw [← hy] at ho
      replace hy := Lib.hid hy
      go_wp2_with fail
      refine ho.mono ?_
      rintro e w8 ⟨rfl, c8⟩
      have hD8 := Lib.hid (hD.out.new c8)
      have hro := rof_of hD8.out.r hmW.out.right (by omega) _ _ roots (HU.out.keep (cA.out.trans hD8.out.ch) (fun _ _ e => e)) (k : Int)
      rw [← hy.out] at hro
      clear ho c8 hD
      go_wp2_with fail
      refine hro.mono ?_
      rintro e w9 ⟨rfl, c9⟩
      have hD9 := Lib.hid (hD8.out.new c9)
      clear hro c9 hD8
      go_wp2_with fail
      go_roundw
      case rel => exact ⟨k + 1, by omega, by go_num, hD9.out⟩
      case measure => simp [intOf]; omega
    · obtain rfl : k = ns.length + 2 := by omega
      have g5 : decide (((ns.length + 2 : Nat) : Int) ≤ (ns.length : Int) + 1) = false := decide_eq_false (by omega)
      have HE := Lib.hid (cA.out.trans hD.ch)
      clear hD
      go_wp2_with fail
      go_ret
      exact ⟨rfl, HE.out⟩

end Go.Proofs.Ytlmeponoadhheaa
