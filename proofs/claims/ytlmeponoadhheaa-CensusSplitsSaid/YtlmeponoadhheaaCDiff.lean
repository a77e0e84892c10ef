/-
  Contract of the program's Diff.
-/
import Derived.Test.YtlmeponoadhheaaGather
import Derived.Test.YtlmeponoadhheaaQuietTail
namespace Go.Proofs.Ytlmeponoadhheaa
set_option linter.unusedVariables false
open Go.RowKit Go.Sort

/-- the sums have no class of their own -/
def Zc (F : Int → Option R5) : Prop := ∀ k x, F k = some x → x.cls = 0

theorem Zc.none : Zc (fun _ => none) := fun _ _ h => by cases h
theorem Zc.told {F : Int → Option R5} (h : Zc F) (k : Int) : (told F k).cls = 0 := by
  unfold Proofs.Ytlmeponoadhheaa.told
  cases e : F k with
  | none => rfl
  | some x => exact h k x e
theorem Zc.put {F : Int → Option R5} (h : Zc F) (r : R5) (t : Int) : Zc (put5 F r t) := by
  intro k x hx
  unfold put5 at hx
  split at hx
  · cases hx; exact h.told r.cls
  · exact h k x hx
theorem Zc.puts {F : Int → Option R5} (h : Zc F) (L : List R5) (t : Int) : Zc (puts5 F L t) := by
  induction L generalizing F with
  | nil => exact h
  | cons r L ih => exact ih (h.put r t)

theorem cvals_put (F : Int → Option R5) (r : R5) (t : Int) : iput (cvals F) r.cls ((told F r.cls).plus r t).val = cvals (put5 F r t) := by
  funext k
  unfold iput cvals put5 told
  split <;> simp

theorem cvals_get (F : Int → Option R5) (k : Int) : (cvals F k).getD R5.zero.val = (told F k).val := by
  unfold cvals told
  cases F k <;> rfl

theorem Few.take {L : List R5} (h : Few L) (j : Nat) : Few (L.take j) := ⟨by have := h.1; simp only [List.length_take]; omega, fun r hr => h.2 r (List.mem_of_mem_take hr)⟩

theorem Few.S5 {L : List R5} (h : Few L) (c : Int) : (S5 c L).In (1125899906842624 * 500) :=
  (S5_in (by decide) h.2 c).mono (Int.mul_le_mul_of_nonneg_left (by have := h.1; omega) (by decide))

theorem fitA {a : List R5} (ha : Few a) (j : Nat) (c : Int) : Fit5 (told (puts5 (fun _ => none) (a.take j) 1) c) := by
  rw [told_puts5]
  exact ((R5.In.zero (Int.le_refl 0)).plus ((ha.take j).S5 c) (.inl rfl)).mono (by decide)

theorem fitB {a b : List R5} (ha : Few a) (hb : Few b) (j : Nat) (c : Int) : Fit5 (told (puts5 (puts5 (fun _ => none) a 1) (b.take j) (-1)) c) := by
  rw [told_puts5, told_puts5]
  exact (((R5.In.zero (Int.le_refl 0)).plus (ha.S5 c) (.inl rfl)).plus ((hb.take j).S5 c) (.inr rfl)).mono (by decide)

set_option maxRecDepth 100000 in
set_option maxHeartbeats 4000000 in
theorem cdiff_of (D : Nat → Prop) (va vb : Value) (A Bs : List R5) (w : World) (hsa : SeesR D w va A) (hsb : SeesR D w vb Bs) (hd : ∀ k, D k → k < w.heap.size) (ha : Few A) (hb : Few Bs) :
    Calls Try.prog 91 #[va, vb] w fun e w' => ∃ v L, e = .returned v ∧ IsRows (dr A Bs) L ∧ HasR w' 106 (fun k => w.heap.size ≤ k) v L ∧ L.length ≤ A.length + Bs.length ∧ Ch0 w w' := by
  obtain ⟨aa, ca, rfl, -⟩ := hsa.len
  obtain ⟨ab, cb, rfl, -⟩ := hsb.len
  have HSA := Lib.hid hsa
  have HSB := Lib.hid hsb
  have HD := Lib.hid hd
  have HA := Lib.hid ha
  have HB := Lib.hid hb
  have hA5 : A.length ≤ 500 := ha.1
  have hB5 : Bs.length ≤ 500 := hb.1
  have cM : Ch0 w (w.alloc (.map #[] 0)) := (Ch.refl _ _).alloc _
  have hM := IM.made w
  have hmk : (Instr.makeMap 157 none).run Try.prog w = .ok (.map (some w.heap.size)) (w.alloc (.map #[] 0)) := by simp [Instr.makeMap, Result.andThen]
  generalize hBk : w.heap.size = B at *
  replace hBk := Lib.hid hBk
  replace cM := Lib.hid cM
  replace hM := Lib.hid hM
  clear hsa hsb hd ha hb
  go_enter Try.func91, Try.ntmps91
  go_wp2_with fail
  clear hmk
  generalize w.alloc (.map #[] 0) = W0 at *
  go_loopw [13] (fun i wr => ∃ j n : Nat, j ≤ A.length ∧ i = .int .i64 j ∧ n ≤ 0 + j ∧ IM wr B n (cvals (puts5 (fun _ => none) (A.take j) 1)) ∧ Ch0 w wr) (fun i _ => A.length - (intOf i).toNat)
  case atStart => exact ⟨0, 0, Nat.zero_le _, rfl, Nat.le_refl _, hM.out, cM.out⟩
  case round =>
    obtain ⟨j, n, hj, rfl, hn, hM1, d⟩ := hrel
    clear hM cM
    by_cases hlt : j < A.length
    · obtain ⟨g, o, c', hDg, e2, hcell⟩ := (HSA.out.keep d (fun _ _ e => e)).row (by omega)
      obtain ⟨rfl, rfl⟩ : aa = some ⟨g, o, none⟩ ∧ ca = c' := by simpa using e2
      obtain ⟨x0, x1, x2, x3, x4⟩ := hcell j hlt
      have i1 : (0 : Int) ≤ j := by omega
      have i2 : (j : Int) < A.length := by omega
      have hsn : put5 (puts5 (fun _ => none) (A.take j) 1) A[j] 1 = puts5 (fun _ => none) (A.take (j + 1)) 1 := by rw [List.take_succ_eq_append_getElem hlt, puts5_snoc]
      have hpl := fun w' => plus_of (told (puts5 (fun _ => none) (A.take j) 1) A[j].cls) A[j] 1 (.inl rfl) (fitA HA.out j _) (HA.out.fit (List.getElem_mem hlt)) w'
      have hup0 := cvals_put (puts5 (fun _ => none) (A.take j) 1) A[j] 1
      rw [hsn] at hup0
      have hlk0 := cvals_get (puts5 (fun _ => none) (A.take j) 1) A[j].cls
      clear hcell e2 hsn
      generalize puts5 (fun _ => none) (A.take j) 1 = F at *
      generalize hF' : puts5 (fun _ => none) (A.take (j + 1)) 1 = F' at *
      replace hF' := Lib.hid hF'
      generalize A[j] = r at *
      generalize told F r.cls = T at *
      generalize T.plus r 1 = T' at *
      have cX : Ch0 wr (wr.alloc (.cells #[.int .i64 r.cls, .int .i64 r.cnt, .int .i64 r.wds, .int .i64 r.refs, .int .i64 r.fin] 106)) := (Ch.refl _ _).alloc _
      have bX := heap_alloc_new wr (.cells #[.int .i64 r.cls, .int .i64 r.cnt, .int .i64 r.wds, .int .i64 r.refs, .int .i64 r.fin] 106)
      obtain ⟨y0, y1, y2, y3, y4⟩ := cells5 bX
      have hM2 := hM1.keep cX (fun e => e)
      replace d := Lib.hid (d.trans cX)
      replace hM1 := Lib.hid hM1
      simp only [R5.val] at hpl hup0 hlk0
      clear cX bX hM1
      go_wp2_with fail
      generalize wr.alloc (.cells #[.int .i64 r.cls, .int .i64 r.cnt, .int .i64 r.wds, .int .i64 r.refs, .int .i64 r.fin] 106) = w5 at *
      generalize wr.heap.size = B5 at *
      replace y0 := cellB y0
      replace y1 := cellB y1
      replace y2 := cellB y2
      replace y3 := cellB y3
      replace y4 := cellB y4
      have hlk : ∀ w', (∃ p : Regrown, w' = grow (redrawn w5 p.d) p.os) → (Instr.lookup 157 (.map (some B)) (.int .i64 r.cls) false).run Try.prog w' = .ok (.agg #[.int .i64 T.cls, .int .i64 T.cnt, .int .i64 T.wds, .int .i64 T.refs, .int .i64 T.fin]) w' := by
        rintro w' ⟨p, rfl⟩
        have h := (hM2.keep (chB w5 p.d p.os) (fun e => e)).lookup (P := Try.prog) (t := 157) Try.underlying157 Try.underlying3 (zeroC _) r.cls false
        simp only [R5.val, Bool.false_eq_true, if_false] at h
        rw [hlk0] at h
        exact h
      replace hM2 := Lib.hid hM2
      replace hlk0 := Lib.hid hlk0
      replace hup0 := Lib.hid hup0
      refine wp_region_tailB 9 (by kernel_rfl) (by kernel_rfl) ?_
      simp only [List.take_succ_cons, List.take_zero, List.drop_succ_cons, List.drop_zero]
      iterate 6 (go_big_quiet_step (fail))
      refine quiet_lookupC rfl _ _ 157 rfl rfl rfl hlk ?_
      go_simp
      repeat (go_big_quiet_step ((go_at_call 118; exact quietB (hpl _))))
      intro pq
      have cB := chB w5 pq.d pq.os
      generalize grow (redrawn w5 pq.d) pq.os = w6 at *
      obtain ⟨w7, hup, hM7, u7, s7⟩ := (hM2.out.keep cB (fun e => e)).update (P := Try.prog) (t := 157) Try.underlying157 Try.underlying3 r.cls (.agg #[.int .i64 T'.cls, .int .i64 T'.cnt, .int .i64 T'.wds, .int .i64 T'.refs, .int .i64 T'.fin])
      rw [hup0.out] at hM7
      have HE : Hid (∃ n', n' ≤ 0 + (j + 1) ∧ IM w7 B n' (cvals F') ∧ Ch0 w w7) := Lib.hid ⟨_, (by split <;> omega), hM7, (d.out.trans cB).trans' u7 (fun _ _ e => e) (fun k hk e => by have := hBk.out; omega)⟩
      clear hlk hpl y0 y1 y2 y3 y4 hM7 u7 s7 cB x0 x1 x2 x3 x4 hM2 hup0 hlk0 d
      go_wp2_with (at_mapUpdate; refine wpList_mapUpdate_run rfl _ _ _ 157 rfl rfl rfl rfl hup ?_)
      go_roundw
      case rel =>
        obtain ⟨n', h1, h2, h3⟩ := HE.out
        exact ⟨j + 1, n', by omega, by go_num, h1, by rw [hF'.out]; exact h2, h3⟩
      case measure => simp [intOf]; omega
    · have i2 : (A.length : Int) ≤ j := by omega
      have e1 : A.take j = A := List.take_of_length_le (by omega)
      rw [e1] at hM1
      clear e1
      replace hM1 := Lib.hid hM1
      replace d := Lib.hid d
      have hn1 : n ≤ A.length := by omega
      go_wp2_with fail
      clear i2 hj hlt hn
      generalize n = n1 at *
      have hM0 := hM1
      have d0 := d
      clear hM1 d
      go_loopw [29] (fun i wr => ∃ j n : Nat, j ≤ Bs.length ∧ i = .int .i64 j ∧ n ≤ A.length + j ∧ IM wr B n (cvals (puts5 (puts5 (fun _ => none) A 1) (Bs.take j) (-1))) ∧ Ch0 w wr) (fun i _ => Bs.length - (intOf i).toNat)
      case atStart => exact ⟨0, n1, Nat.zero_le _, rfl, by omega, hM0.out, d0.out⟩
      case round =>
        obtain ⟨j, n, hj, rfl, hn, hM1, d⟩ := hrel
        clear hM0 d0 hn1
        by_cases hlt : j < Bs.length
        · obtain ⟨g, o, c', hDg, e2, hcell⟩ := (HSB.out.keep d (fun _ _ e => e)).row (by omega)
          obtain ⟨rfl, rfl⟩ : ab = some ⟨g, o, none⟩ ∧ cb = c' := by simpa using e2
          obtain ⟨x0, x1, x2, x3, x4⟩ := hcell j hlt
          have i1 : (0 : Int) ≤ j := by omega
          have i2 : (j : Int) < Bs.length := by omega
          have hsn : put5 (puts5 (puts5 (fun _ => none) A 1) (Bs.take j) (-1)) Bs[j] (-1) = puts5 (puts5 (fun _ => none) A 1) (Bs.take (j + 1)) (-1) := by rw [List.take_succ_eq_append_getElem hlt, puts5_snoc]
          have hpl := fun w' => plus_of (told (puts5 (puts5 (fun _ => none) A 1) (Bs.take j) (-1)) Bs[j].cls) Bs[j] (-1) (.inr rfl) (fitB HA.out HB.out j _) (HB.out.fit (List.getElem_mem hlt)) w'
          have hup0 := cvals_put (puts5 (puts5 (fun _ => none) A 1) (Bs.take j) (-1)) Bs[j] (-1)
          rw [hsn] at hup0
          have hlk0 := cvals_get (puts5 (puts5 (fun _ => none) A 1) (Bs.take j) (-1)) Bs[j].cls
          clear hcell e2 hsn
          generalize puts5 (puts5 (fun _ => none) A 1) (Bs.take j) (-1) = F at *
          generalize hF' : puts5 (puts5 (fun _ => none) A 1) (Bs.take (j + 1)) (-1) = F' at *
          replace hF' := Lib.hid hF'
          generalize Bs[j] = r at *
          generalize told F r.cls = T at *
          generalize T.plus r (-1) = T' at *
          have cX : Ch0 wr (wr.alloc (.cells #[.int .i64 r.cls, .int .i64 r.cnt, .int .i64 r.wds, .int .i64 r.refs, .int .i64 r.fin] 106)) := (Ch.refl _ _).alloc _
          have bX := heap_alloc_new wr (.cells #[.int .i64 r.cls, .int .i64 r.cnt, .int .i64 r.wds, .int .i64 r.refs, .int .i64 r.fin] 106)
          obtain ⟨y0, y1, y2, y3, y4⟩ := cells5 bX
          have hM2 := hM1.keep cX (fun e => e)
          replace d := Lib.hid (d.trans cX)
          replace hM1 := Lib.hid hM1
          simp only [R5.val] at hpl hup0 hlk0
          clear cX bX hM1
          go_wp2_with fail
          generalize wr.alloc (.cells #[.int .i64 r.cls, .int .i64 r.cnt, .int .i64 r.wds, .int .i64 r.refs, .int .i64 r.fin] 106) = w5 at *
          generalize wr.heap.size = B5 at *
          replace y0 := cellB y0
          replace y1 := cellB y1
          replace y2 := cellB y2
          replace y3 := cellB y3
          replace y4 := cellB y4
          have hlk : ∀ w', (∃ p : Regrown, w' = grow (redrawn w5 p.d) p.os) → (Instr.lookup 157 (.map (some B)) (.int .i64 r.cls) false).run Try.prog w' = .ok (.agg #[.int .i64 T.cls, .int .i64 T.cnt, .int .i64 T.wds, .int .i64 T.refs, .int .i64 T.fin]) w' := by
            rintro w' ⟨p, rfl⟩
            have h := (hM2.keep (chB w5 p.d p.os) (fun e => e)).lookup (P := Try.prog) (t := 157) Try.underlying157 Try.underlying3 (zeroC _) r.cls false
            simp only [R5.val, Bool.false_eq_true, if_false] at h
            rw [hlk0] at h
            exact h
          replace hM2 := Lib.hid hM2
          replace hlk0 := Lib.hid hlk0
          replace hup0 := Lib.hid hup0
          refine wp_region_tailB 9 (by kernel_rfl) (by kernel_rfl) ?_
          simp only [List.take_succ_cons, List.take_zero, List.drop_succ_cons, List.drop_zero]
          iterate 6 (go_big_quiet_step (fail))
          refine quiet_lookupC rfl _ _ 157 rfl rfl rfl hlk ?_
          go_simp
          repeat (go_big_quiet_step ((go_at_call 118; exact quietB (hpl _))))
          intro pq
          have cB := chB w5 pq.d pq.os
          generalize grow (redrawn w5 pq.d) pq.os = w6 at *
          obtain ⟨w7, hup, hM7, u7, s7⟩ := (hM2.out.keep cB (fun e => e)).update (P := Try.prog) (t := 157) Try.underlying157 Try.underlying3 r.cls (.agg #[.int .i64 T'.cls, .int .i64 T'.cnt, .int .i64 T'.wds, .int .i64 T'.refs, .int .i64 T'.fin])
          rw [hup0.out] at hM7
          have HE : Hid (∃ n', n' ≤ A.length + (j + 1) ∧ IM w7 B n' (cvals F') ∧ Ch0 w w7) := Lib.hid ⟨_, (by split <;> omega), hM7, (d.out.trans cB).trans' u7 (fun _ _ e => e) (fun k hk e => by have := hBk.out; omega)⟩
          clear hlk hpl y0 y1 y2 y3 y4 hM7 u7 s7 cB x0 x1 x2 x3 x4 hM2 hup0 hlk0 d
          go_wp2_with (at_mapUpdate; refine wpList_mapUpdate_run rfl _ _ _ 157 rfl rfl rfl rfl hup ?_)
          go_roundw
          case rel =>
            obtain ⟨n', h1, h2, h3⟩ := HE.out
            exact ⟨j + 1, n', by omega, by go_num, h1, by rw [hF'.out]; exact h2, h3⟩
          case measure => simp [intOf]; omega
        · have i2 : (Bs.length : Int) ≤ j := by omega
          have e1 : Bs.take j = Bs := List.take_of_length_le (by omega)
          rw [e1] at hM1
          clear e1
          replace hM1 := Lib.hid hM1
          replace d := Lib.hid d
          have hg := gather_of wr B n _ hM1.out ((Zc.none.puts A 1).puts Bs (-1)) (by omega)
          have HE : Hid (∀ L, IsRows (drF (puts5 (puts5 (fun _ => none) A 1) Bs (-1))) L → IsRows (dr A Bs) L) := Lib.hid (fun L h => ⟨h.1, fun r => by rw [h.2 r, drF_diff]⟩)
          generalize puts5 (puts5 (fun _ => none) A 1) Bs (-1) = F at *
          clear hM1
          go_wp2_with fail
          refine hg.mono ?_
          rintro e w2 ⟨v, L, rfl, h1, h2, h3, h4⟩
          have HF := Lib.hid (And.intro h1 (And.intro h2 (And.intro h3 h4)))
          clear hg h1 h2 h3 h4
          obtain ⟨va, vc, rfl, -, -⟩ := HF.out.2.1.1.isSlice
          go_wp2_with fail
          go_ret
          exact ⟨_, L, rfl, HE.out L HF.out.1, HF.out.2.1.mono (fun k hk => by have := d.out.size; have := hBk.out; omega), by have := HF.out.2.2.1; omega, d.out.trans HF.out.2.2.2⟩

end Go.Proofs.Ytlmeponoadhheaa

