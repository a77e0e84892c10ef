/-
  Contract of process.Apply.
-/
import Derived.Test.YtlmeponoadhheaaProc3
import Derived.Test.YtlmeponoadhheaaGr
namespace Go.Proofs.Ytlmeponoadhheaa
set_option linter.unusedVariables false
open Go.RowKit

theorem clr1_len (cs : List Cls) (L : List GN) (x : Int) : (clr1 cs L x).length = L.length := by
  unfold clr1
  split
  · unfold setRefL
    split
    · simp [upd]
    · rfl
  · rfl

theorem clearTo_len (cs : List Cls) (L : List GN) (C : List Int) (j : Nat) : (clearTo cs L C j).length = L.length := by
  induction j with
  | zero => rfl
  | succ j ih => show (clr1 cs _ _).length = _; rw [clr1_len, ih]

theorem doneTo_len (L : List GN) (F : List Int) (j : Nat) : (doneTo L F j).length = L.length := by
  induction j with
  | zero => rfl
  | succ j ih => show (doneL _ _).length = _; rw [← ih]; simp [doneL, upd]

section
variable {w : World} {b : Nat} {O : Nat → Prop} {cs : List Cls} {L : List GN} {p lo hi : Nat}

set_option maxRecDepth 100000 in
set_option maxHeartbeats 2000000 in
theorem papply_of (h : Gt w b O cs L p lo hi) (hL : L.length ≤ 1000) (D : Nat → Prop) (lv cv fv : Value) (t C F : List Int) (ht : SeesI D w lv t) (hc : SeesI D w cv C) (hf : SeesI D w fv F) (hD : ∀ k, D k → ¬ O k) (hDw : ∀ k, D k → k < w.heap.size) :
    Calls Try.prog 74 #[.pointer (some ⟨b, 0, none⟩), .agg #[lv, cv, fv]] w fun e w' => e = .returned (.int .i64 ((L.length : Int) - (applyL cs L C F t).length)) ∧ Gt w' b O cs (applyL cs L C F t) p lo hi ∧ Turn w w' O O := by
  obtain ⟨la, lc, rfl, -⟩ := ht.len
  obtain ⟨ca, cc, rfl, hcl⟩ := hc.len
  obtain ⟨fa, fc, rfl, hfl⟩ := hf.len
  have cA : Ch0 w (w.alloc (.cells #[.slice la t.length lc, .slice ca C.length cc, .slice fa F.length fc] 86)) := (Ch.refl _ _).alloc _
  have bx := heap_alloc_new w (.cells #[.slice la t.length lc, .slice ca C.length cc, .slice fa F.length fc] 86)
  have x0 := cell_of_row _ w.heap.size 0 _ _ _ bx
  have x1 := cell_of_row _ w.heap.size 1 _ _ _ bx
  have x2 := cell_of_row _ w.heap.size 2 _ _ _ bx
  simp only [List.getElem?_toArray, List.getElem?_cons_zero, List.getElem?_cons_succ] at x0 x1 x2
  have HG := Lib.hid (h.new cA)
  have HT := Lib.hid (Sees.keep ht cA (fun _ _ e => e))
  have HC := Lib.hid (Sees.keep hc cA (fun _ _ e => e))
  have HF := Lib.hid (Sees.keep hf cA (fun _ _ e => e))
  have hPO : Hid (¬ O w.heap.size) := Lib.hid (fun e => by have := h.g; obtain ⟨_, _, _, _, _, _, gs⟩ := this; have := gs.small _ e; omega)
  have HD := Lib.hid hD
  have hT0 : Hid (∀ w' O', Turn (w.alloc (.cells #[.slice la t.length lc, .slice ca C.length cc, .slice fa F.length fc] 86)) w' O O' → Turn w w' O O') := Lib.hid (fun w' O' tu => (Turn.of0 O cA).trans tu)
  replace cA := Lib.hid cA
  clear bx h ht hc hf hD
  go_enter Try.func74, Try.ntmps74
  go_wp2_with fail
  generalize w.alloc (.cells #[.slice la t.length lc, .slice ca C.length cc, .slice fa F.length fc] 86) = W0 at *
  generalize w.heap.size = P at *
  go_loopw [14] (fun i wr => ∃ j : Nat, j ≤ C.length ∧ i = .int .i64 j ∧ Gt wr b O cs (clearTo cs L C j) p lo hi ∧ Turn W0 wr O O) (fun i _ => C.length - (intOf i).toNat)
  case atStart => exact ⟨0, Nat.zero_le _, rfl, HG.out, Turn.refl _ _⟩
  case round =>
    obtain ⟨j, hj, rfl, hg, tu⟩ := hrel
    by_cases hlt : j < C.length
    · obtain ⟨g, o, c1, -, e1, hcell⟩ := SeesI.cell (Sees.keep HC.out tu.1 HD.out) (by omega)
      obtain ⟨rfl, rfl⟩ : ca = some ⟨g, o, none⟩ ∧ cc = c1 := by simpa using e1
      have hx := hcell j hlt
      have hst : Hid (clearTo cs L C (j + 1) = clr1 cs (clearTo cs L C j) (C.getD j 0)) := Lib.hid rfl
      have i1 : (0 : Int) ≤ j := by omega
      have i2 : (j : Int) < C.length := by omega
      have ha := aim_of hg (C.getD j 0)
      have hk1 : Hid ((gaim cs (clearTo cs L C j) (C.getD j 0)).2 ≠ 0 → clr1 cs (clearTo cs L C j) (C.getD j 0) = setRefL (clearTo cs L C j) (C.getD j 0) 0 0) := Lib.hid (fun q => by unfold clr1; rw [if_pos q])
      have hk2 : Hid ((gaim cs (clearTo cs L C j) (C.getD j 0)).2 = 0 → clr1 cs (clearTo cs L C j) (C.getD j 0) = clearTo cs L C j) := Lib.hid (fun q => by unfold clr1; rw [if_neg (fun e => e q)])
      have hsr : Hid (∀ w', Ch0 wr w' → _) := Lib.hid (fun w' (c : Ch0 wr w') => setref_of (hg.new c) (C.getD j 0) 0 0)
      clear hcell e1
      generalize (gaim cs (clearTo cs L C j) (C.getD j 0)).1 = to at *
      generalize (gaim cs (clearTo cs L C j) (C.getD j 0)).2 = kd at *
      generalize C.getD j 0 = X at *
      replace hg := Lib.hid hg
      replace tu := Lib.hid tu
      go_wp2_with fail
      refine ha.mono ?_
      rintro e w1 ⟨rfl, c1⟩
      have hs2 := hsr.out _ c1
      have hg1 := Lib.hid (hg.out.new c1)
      have tu1 := Lib.hid (tu.out.trans (Turn.of0 O c1))
      clear ha hsr c1
      by_cases hk : kd = 0
      · have t0 : (kd != 0) = false := by simp [hk]
        have hst2 : Hid (clearTo cs L C (j + 1) = clearTo cs L C j) := Lib.hid (by rw [hst.out, hk2.out hk])
        clear hk hs2
        go_wp2_with fail
        go_roundw
        case rel => exact ⟨j + 1, by omega, by go_num, by rw [hst2.out]; exact hg1.out, tu1.out⟩
        case measure => simp [intOf]; omega
      · have t0 : (kd != 0) = true := by simpa using hk
        have hst2 : Hid (clearTo cs L C (j + 1) = setRefL (clearTo cs L C j) X 0 0) := Lib.hid (by rw [hst.out, hk1.out hk])
        clear hk
        go_wp2_with fail
        refine hs2.mono ?_
        rintro e w2 ⟨rfl, hg2, t2⟩
        have HE := Lib.hid (And.intro hg2 (tu1.out.trans t2))
        clear hs2 hg2 t2
        go_wp2_with fail
        go_roundw
        case rel => exact ⟨j + 1, by omega, by go_num, by rw [hst2.out]; exact HE.out.1, HE.out.2⟩
        case measure => simp [intOf]; omega
    · obtain rfl : j = C.length := by omega
      have y2 := tu.1.cell x2 hPO.out
      have hg0 := Lib.hid hg
      replace tu := Lib.hid tu
      clear hg
      go_wp2_with fail
      obtain ⟨LC, hLC⟩ : ∃ LC, LC = clearTo cs L C C.length := ⟨_, rfl⟩
      rw [← hLC] at hg0
      replace hLC := Lib.hid hLC
      go_loopw [33] (fun i wr => ∃ j : Nat, j ≤ F.length ∧ i = .int .i64 j ∧ Gt wr b O cs (doneTo LC F j) p lo hi ∧ Turn W0 wr O O) (fun i _ => F.length - (intOf i).toNat)
      case atStart => exact ⟨0, Nat.zero_le _, rfl, hg0.out, tu.out⟩
      case round =>
        clear hg0 tu y2
        obtain ⟨j, hj, rfl, hg, tu⟩ := hrel
        by_cases hlt : j < F.length
        · obtain ⟨g, o, c1, -, e1, hcell⟩ := SeesI.cell (Sees.keep HF.out tu.1 HD.out) (by omega)
          obtain ⟨rfl, rfl⟩ : fa = some ⟨g, o, none⟩ ∧ fc = c1 := by simpa using e1
          have hx := hcell j hlt
          have hst : Hid (doneTo LC F (j + 1) = doneL (doneTo LC F j) (F.getD j 0)) := Lib.hid rfl
          have i1 : (0 : Int) ≤ j := by omega
          have i2 : (j : Int) < F.length := by omega
          have hd := done_of hg (F.getD j 0)
          clear hcell e1
          generalize F.getD j 0 = X at *
          replace tu := Lib.hid tu
          clear hg
          go_wp2_with fail
          refine hd.mono ?_
          rintro e w2 ⟨rfl, hg2, t2⟩
          have HE := Lib.hid (And.intro hg2 (tu.out.trans t2))
          clear hd hg2 t2
          go_wp2_with fail
          go_roundw
          case rel => exact ⟨j + 1, by omega, by go_num, by rw [hst.out]; exact HE.out.1, HE.out.2⟩
          case measure => simp [intOf]; omega
        · obtain rfl : j = F.length := by omega
          have y0 := tu.1.cell x0 hPO.out
          have hlen : (doneTo LC F F.length).length = L.length := by rw [doneTo_len, hLC.out, clearTo_len]
          have hk := keep_of hg (by omega) D (.slice la t.length lc) t (Sees.keep HT.out tu.1 HD.out)
          rw [hlen] at hk
          have happ : Hid (applyL cs L C F t = keepL (doneTo LC F F.length) t) := Lib.hid (by unfold applyL; rw [hLC.out])
          rw [← happ.out] at hk
          replace tu := Lib.hid tu
          clear hg hlen happ
          go_wp2_with fail
          refine hk.mono ?_
          rintro e w2 ⟨rfl, hg2, t2⟩
          have HE := Lib.hid (And.intro hg2 (hT0.out _ _ (tu.out.trans t2)))
          clear hk hg2 t2
          go_wp2_with fail
          go_ret
          exact ⟨rfl, HE.out⟩

end

end Go.Proofs.Ytlmeponoadhheaa
