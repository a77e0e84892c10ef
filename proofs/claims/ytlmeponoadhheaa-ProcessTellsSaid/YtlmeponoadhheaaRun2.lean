/-
  Contract of a processing's clear.
-/
import Derived.Test.YtlmeponoadhheaaRun1
namespace Go.Proofs.Ytlmeponoadhheaa
set_option linter.unusedVariables false
open Go.RowKit

section
variable {r b : Nat} {w0 w : World} {O : Nat → Prop} {cs : List Cls} {L : List GN} {p lo hi : Nat} {lv cv fv : Value} {live old final : List Int}

theorem clr_snoc {kinds live old : List Int} (hn : live.Nodup) {j : Nat} (hj : j < live.length) :
    (live.take (j + 1)).filter (clrB cs L kinds live old) = (live.take j).filter (clrB cs L kinds live old) ++ (if (lostB cs L live (live.getD j 0) && (decide ((gaim cs L (live.getD j 0)).2 ∈ kinds) && !decide (live.getD j 0 ∈ old ++ (live.take j).filter (clrB cs L kinds live old)))) = true then [live.getD j 0] else []) := by
  rw [take_snocI live hj, List.filter_append]
  congr 1
  have hx : live.getD j 0 = live[j] := by rw [List.getD_eq_getElem?_getD, List.getElem?_eq_getElem hj]; rfl
  have hnot : live.getD j 0 ∉ (live.take j).filter (clrB cs L kinds live old) := fun h => by
    have h1 := (List.mem_filter.1 h).1
    rw [hx] at h1
    obtain ⟨m, hm, e⟩ := List.mem_iff_getElem.1 h1
    have hm' : m < j := by simp at hm; omega
    rw [List.getElem_take] at e
    have := (List.pairwise_iff_getElem.1 hn) m j (by omega) hj hm'
    exact this e
  have hc : clrB cs L kinds live old (live.getD j 0) = (lostB cs L live (live.getD j 0) && (decide ((gaim cs L (live.getD j 0)).2 ∈ kinds) && !decide (live.getD j 0 ∈ old ++ (live.take j).filter (clrB cs L kinds live old)))) := by
    unfold clrB
    congr 3
    rw [decide_eq_decide, List.mem_append]
    exact ⟨fun q => .inl q, fun q => q.resolve_right hnot⟩
  rw [← hc]
  cases h : clrB cs L kinds live old (live.getD j 0) <;> simp only [List.filter, h] <;> rfl

set_option maxRecDepth 100000 in
set_option maxHeartbeats 2000000 in
theorem clear_of (hg : Gt w0 b O cs L p lo hi) (c0 : Ch0 w0 w) (h : RunS w0.heap.size w r b lv cv fv live old final) (hup : live.Pairwise (· < ·)) (hl : live.length ≤ 1000) (hol : old.length ≤ 100000) (D : Nat → Prop) (v : Value) (kinds : List Int) (hv : SeesI D w v kinds) (hD : ∀ k, D k → k ≠ r ∧ rblk cv ≠ some k ∧ k < w.heap.size) :
    Calls Try.prog 115 #[.pointer (some ⟨r, 0, none⟩), v] w fun e w' => e = .returned (.tuple #[]) ∧ ∃ cv', RunS w0.heap.size w' r b lv cv' fv live (old ++ clrL cs L kinds live old) final ∧ Ch0 w0 w' := by
  obtain ⟨k0, k1, k2, -⟩ := h.cells
  obtain ⟨la, lc, rfl, -, -⟩ := h.l.isSlice
  obtain ⟨va, vc, rfl, -⟩ := hv.len
  have HG := Lib.hid hg
  have HN : Hid live.Nodup := Lib.hid (hup.imp (fun q => by omega))
  have HUP := Lib.hid hup
  have H := Lib.hid h
  have HV := Lib.hid hv
  have HD := Lib.hid hD
  replace c0 := Lib.hid c0
  clear hg h hv hD hup
  go_enter Try.func115, Try.ntmps115
  go_wp2_with fail
  have hMw : w0.heap.size ≤ w.heap.size := c0.out.size
  go_loopw [14] (fun i wr => ∃ (j : Nat) (cv' : Value), j ≤ live.length ∧ i = .int .i64 j ∧ RunS w0.heap.size wr r b (.slice la live.length lc) cv' fv live (old ++ (live.take j).filter (clrB cs L kinds live old)) final ∧ Ch0 w0 wr ∧ SeesI D wr (.slice va kinds.length vc) kinds ∧ ∀ k, D k → k ≠ r ∧ rblk cv' ≠ some k ∧ k < wr.heap.size) (fun i _ => live.length - (intOf i).toNat)
  case atStart => exact ⟨0, cv, Nat.zero_le _, rfl, by simpa using H.out, c0.out, HV.out, HD.out⟩
  case round =>
    clear k0 k1 k2
    obtain ⟨j, cv', hj, rfl, hR, d, hK, hDr⟩ := hrel
    by_cases hlt : j < live.length
    · obtain ⟨g, o, c1, -, e1, hcell⟩ := SeesI.cell hR.l.sees (by omega)
      obtain ⟨rfl, rfl⟩ : la = some ⟨g, o, none⟩ ∧ lc = c1 := by simpa using e1
      have hx := hcell j hlt
      have hsn := clr_snoc (cs := cs) (L := L) (kinds := kinds) (old := old) HN.out hlt
      have hlo := lost_of (HG.out.new d) hR HUP.out (by omega) (live.getD j 0)
      have hcl : (old ++ (live.take j).filter (clrB cs L kinds live old)).length ≤ 101000 := by
        have h1 := List.length_filter_le (clrB cs L kinds live old) (live.take j)
        have h2 : (live.take j).length ≤ live.length := by simp; omega
        rw [List.length_append]
        omega
      have i1 : (0 : Int) ≤ j := by omega
      have i2 : (j : Int) < live.length := by omega
      clear hcell e1
      generalize hcj : old ++ (live.take j).filter (clrB cs L kinds live old) = cj at *
      have hsn2 : Hid (old ++ (live.take (j + 1)).filter (clrB cs L kinds live old) = cj ++ (if (lostB cs L live (live.getD j 0) && (decide ((gaim cs L (live.getD j 0)).2 ∈ kinds) && !decide (live.getD j 0 ∈ cj))) = true then [live.getD j 0] else [])) := Lib.hid (by rw [hsn, ← List.append_assoc, hcj])
      clear hsn hcj
      generalize lostB cs L live (live.getD j 0) = q1 at *
      generalize (gaim cs L (live.getD j 0)).1 = to at *
      generalize (gaim cs L (live.getD j 0)).2 = kd at *
      generalize live.getD j 0 = X at *
      replace hR := Lib.hid hR
      replace d := Lib.hid d
      replace hK := Lib.hid hK
      replace hDr := Lib.hid hDr
      go_wp2_with fail
      refine hlo.mono ?_
      rintro e w1 ⟨rfl, c1⟩
      have hR1 := hR.out.new c1
      obtain ⟨-, -, k2, -⟩ := hR1.cells
      obtain ⟨ca, cc, ecv, -, -⟩ := hR1.c.isSlice
      subst ecv
      have hC1 := contains_any _ _ kinds kd w1 (Sees.keep hK.out c1 (fun _ _ e => e))
      have hC2 := contains_any _ _ cj X w1 hR1.c.sees
      have HK1 : Hid (SeesI D w1 (.slice va kinds.length vc) kinds ∧ (∀ k, D k → k ≠ r ∧ rblk (.slice ca cj.length cc) ≠ some k ∧ k < w1.heap.size) ∧ Ch0 w0 w1) := Lib.hid ⟨Sees.keep hK.out c1 (fun _ _ e => e), fun k hk => ⟨(hDr.out k hk).1, (hDr.out k hk).2.1, Nat.lt_of_lt_of_le (hDr.out k hk).2.2 c1.size⟩, d.out.trans c1⟩
      replace hR1 := Lib.hid hR1
      clear hlo c1
      generalize decide (kd ∈ kinds) = q2 at *
      generalize decide (X ∈ cj) = q3 at *
      have hend : Hid ((q1 && (q2 && !q3)) = false → old ++ (live.take (j + 1)).filter (clrB cs L kinds live old) = cj) := Lib.hid (fun h => by rw [hsn2.out, h]; simp)
      cases q1 with
      | false =>
        clear hC1 hC2
        go_wp2_with fail
        go_roundw
        case rel => exact ⟨j + 1, _, by omega, by go_num, by rw [hend.out rfl]; exact hR1.out, HK1.out.2.2, HK1.out.1, HK1.out.2.1⟩
        case measure => simp [intOf]; omega
      | true =>
        cases q2 with
        | false =>
          clear hC2
          go_wp2_with fail
          refine hC1.mono ?_
          rintro e w2 ⟨rfl, hs⟩
          obtain rfl : w1 = w2 := hs
          clear hC1
          go_wp2_with fail
          go_roundw
          case rel => exact ⟨j + 1, _, by omega, by go_num, by rw [hend.out rfl]; exact hR1.out, HK1.out.2.2, HK1.out.1, HK1.out.2.1⟩
          case measure => simp [intOf]; omega
        | true =>
          go_wp2_with fail
          refine hC1.mono ?_
          rintro e w2 ⟨rfl, hs⟩
          obtain rfl : w1 = w2 := hs
          clear hC1
          go_wp2_with fail
          refine hC2.mono ?_
          rintro e w2 ⟨rfl, hs⟩
          obtain rfl : w1 = w2 := hs
          clear hC2
          cases q3 with
          | true =>
            go_wp2_with fail
            go_roundw
            case rel => exact ⟨j + 1, _, by omega, by go_num, by rw [hend.out rfl]; exact hR1.out, HK1.out.2.2, HK1.out.1, HK1.out.2.1⟩
            case measure => simp [intOf]; omega
          | false =>
            have hlen : cj.length < 4294967296 := by omega
            have cA : Ch0 w1 (w1.alloc (.cells #[.int .i64 X] 3)) := (Ch.refl _ _).alloc _
            obtain ⟨a4, c4, w4, hrun, r4, d4, b4⟩ := run_int (hR1.out.c.keep cA (fun _ _ e => e)) hlen w1.heap.size X (heap_alloc_new w1 _) 34
            have hblk4 := d4.keep (cA.keep hR1.out.blk (fun e => e)) (fun e => hR1.out.ne.2.1 _ e rfl)
            have f4 := frozen_of_row w4 r 2 _ _ hblk4
            have q4 := cell_of_row w4 r 2 _ _ _ hblk4
            simp only [List.getElem?_toArray, List.getElem?_cons_zero, List.getElem?_cons_succ] at q4
            have hS := RunS.cleared1 (cl' := cj ++ [X]) hR1.out HK1.out.2.2.size cA d4 (by rw [List.length_append]; exact r4) b4
            have HF : Hid (RunS w0.heap.size (w4.setCell ⟨r, 2, none⟩ (.slice a4 (cj.length + 1) c4)) r b (.slice (some ⟨g, o, none⟩) live.length lc) (.slice a4 (cj.length + 1) c4) fv live (cj ++ [X]) final ∧ Ch0 w0 (w4.setCell ⟨r, 2, none⟩ (.slice a4 (cj.length + 1) c4)) ∧
                SeesI D (w4.setCell ⟨r, 2, none⟩ (.slice a4 (cj.length + 1) c4)) (.slice va kinds.length vc) kinds ∧ ∀ k, D k → k ≠ r ∧ rblk (.slice a4 (cj.length + 1) c4) ≠ some k ∧ k < (w4.setCell ⟨r, 2, none⟩ (.slice a4 (cj.length + 1) c4)).heap.size) := by
              refine Lib.hid ⟨hS.1, HK1.out.2.2.trans' hS.2 (fun _ _ e => e) (fun k hk e => ?_), Sees.keep HK1.out.1 hS.2 (fun k hk e => ?_), fun k hk => ⟨(HK1.out.2.1 k hk).1, fun e => ?_, ?_⟩⟩
              · rcases e with e | e
                · have := hR1.out.rb; omega
                · have := hR1.out.cb k e; omega
              · rcases e with e | e
                · exact (HK1.out.2.1 k hk).1 e
                · exact (HK1.out.2.1 k hk).2.1 e
              · rcases b4 with q | q
                · rw [q] at e; exact (HK1.out.2.1 k hk).2.1 e
                · rw [q] at e
                  cases e
                  have := (HK1.out.2.1 _ hk).2.2
                  rw [World.size_alloc] at this
                  omega
              · have := (HK1.out.2.1 k hk).2.2
                have := hS.2.size
                omega
            have hst : Hid (old ++ (live.take (j + 1)).filter (clrB cs L kinds live old) = cj ++ [X]) := Lib.hid (by rw [hsn2.out]; simp)
            clear hS r4 d4 b4 cA hblk4
            go_wp2_with (at_builtin; refine wpList_append_run rfl _ _ 34 34 rfl rfl rfl hrun ?_)
            go_roundw
            case rel => exact ⟨j + 1, _, by omega, by go_num, by rw [hst.out]; exact HF.out.1, HF.out.2⟩
            case measure => simp [intOf]; omega
    · obtain rfl : j = live.length := by omega
      rw [List.take_length] at hR
      have HE := Lib.hid (And.intro hR d)
      clear hR d hK hDr
      go_wp2_with fail
      go_end0
      exact ⟨rfl, _, HE.out⟩

end

end Go.Proofs.Ytlmeponoadhheaa
