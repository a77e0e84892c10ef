/-
  The law's play: all calls.
-/
import Derived.Test.YtlmeponoadhheaaGOf
import Derived.Test.YtlmeponoadhheaaOpsG
namespace Go.Proofs.Ytlmeponoadhheaa
set_option linter.unusedVariables false
open Go.RowKit

def stepL (cs : List Cls) (L : List GN) (o : OpG) : List GN :=
  if o.kind = 1 then addL cs L o.a o.b o.c else if o.kind = 2 then setRefL L o.a o.b o.c else if o.kind = 3 then setNumL L o.a o.b o.c else if o.kind = 4 then doneL L o.a else L

def playL (cs : List Cls) (L : List GN) (l : List OpG) : List GN := l.foldl (stepL cs) L

theorem playL_snoc (cs : List Cls) (L : List GN) (l : List OpG) (o : OpG) : playL cs L (l ++ [o]) = stepL cs (playL cs L l) o := by simp [playL]

theorem take_snocO (l : List OpG) (k : Nat) (o : OpG) (h : l[k]? = some o) : l.take (k + 1) = l.take k ++ [o] := by
  rw [List.take_add_one, h]; rfl

set_option maxRecDepth 100000 in
set_option maxHeartbeats 4000000 in
theorem play_of {w : World} {b : Nat} {O : Nat → Prop} {cs : List Cls} {L : List GN} {p lo hi : Nat} (h : Gt w b O cs L p lo hi) (D : Nat → Prop) (v : Value) (l : List OpG) (hs : SeesG D w v l) (hf : ∀ o ∈ l, o.Fits) (hD : ∀ k, D k → ¬ O k ∧ k < w.heap.size) :
    Calls Try.prog 38 #[.pointer (some ⟨b, 0, none⟩), v] w fun e w' => e = .returned (.tuple #[]) ∧ ∃ O', Gt w' b O' cs (playL cs L l) p lo hi ∧ Turn w w' O O' := by
  obtain ⟨a, c, rfl, hlen⟩ := hs.row.len
  have HG := Lib.hid h
  have HS := Lib.hid hs
  have HF := Lib.hid hf
  have HD := Lib.hid hD
  clear h hs hf hD
  go_enter Try.func38, Try.ntmps38
  go_wp2_with fail
  go_loopw [7] (fun i wr => ∃ j : Nat, j ≤ l.length ∧ i = .int .i64 j ∧ ∃ O', Gt wr b O' cs (playL cs L (l.take j)) p lo hi ∧ Turn w wr O O') (fun i _ => l.length - (intOf i).toNat)
  case atStart => exact ⟨0, Nat.zero_le _, rfl, O, HG.out, Turn.refl _ _⟩
  case round =>
    obtain ⟨j, hj, rfl, O1, hG, t1⟩ := hrel
    by_cases hlt : j < l.length
    · obtain ⟨o, ho⟩ : ∃ o, l[j]? = some o := ⟨_, List.getElem?_eq_getElem hlt⟩
      have hSr := HS.out.keep t1.1 (fun k hk => (HD.out k hk).1)
      obtain ⟨g, off, c1, hDg, e1, hcell⟩ := hSr.cell (by omega)
      obtain ⟨rfl, rfl⟩ : a = some ⟨g, off, none⟩ ∧ c = c1 := by simpa using e1
      obtain ⟨k0, k1, k2, k3, k4⟩ := hcell j o ho
      have hfo := HF.out o (List.mem_of_getElem? ho)
      have hng : ¬ O1 g := fun e => by
        rcases t1.2 g e with e | e
        · exact (HD.out g hDg).1 e
        · have := (HD.out g hDg).2; omega
      have hst : Hid (playL cs L (l.take (j + 1)) = stepL cs (playL cs L (l.take j)) o) := Lib.hid (by rw [take_snocO l j o ho, playL_snoc])
      have him := hfo.a1
      have i1 : (0 : Int) ≤ j := by omega
      have i2 : (j : Int) < l.length := by omega
      clear hSr e1 hcell hfo ho k4
      generalize playL cs L (l.take j) = LL at *
      obtain ⟨ok, oa, ob, oc, ov, ols⟩ := o
      simp only at k0 k1 k2 k3 him
      have HA : Hid (∀ w', Ch0 wr w' → _) := Lib.hid (fun w' (c : Ch0 wr w') => add_of (hG.new c) oa ob oc him)
      have HR : Hid (∀ w', Ch0 wr w' → _) := Lib.hid (fun w' (c : Ch0 wr w') => setref_of (hG.new c) oa ob oc)
      have HN : Hid (∀ w', Ch0 wr w' → _) := Lib.hid (fun w' (c : Ch0 wr w') => setnum_of (hG.new c) oa ob oc)
      have HO : Hid (∀ w', Ch0 wr w' → _) := Lib.hid (fun w' (c : Ch0 wr w') => done_of (hG.new c) oa)
      replace hG := Lib.hid hG
      replace t1 := Lib.hid t1
      by_cases q1 : ok = 1
      · have e1 : (ok == 1) = true := by simp [q1]
        have hL : Hid (playL cs L (l.take (j + 1)) = addL cs LL oa ob oc) := Lib.hid (by rw [hst.out]; unfold stepL; rw [if_pos q1])
        clear q1 hst HR HN HO him
        generalize addE cs LL oa ob oc = E at *
        go_wp2_with fail
        go_region_held3 (fun w' => w'.cell? ⟨g, off + j * 5 + 1, none⟩ = some (.int .i64 oa) ∧ w'.cell? ⟨g, off + j * 5 + 2, none⟩ = some (.int .i64 ob) ∧ w'.cell? ⟨g, off + j * 5 + 3, none⟩ = some (.int .i64 oc))
          (first | go_keep | exact ⟨cx.cell (by simpa using k1) hng, cx.cell (by simpa using k2) hng, cx.cell (by simpa using k3) hng⟩)
          ((go_at_call 32; refine (HA.out _ ?_).mono ?_; exact (Ch.refl _ _).drew; rintro e wx ⟨rfl, Ox, hGx, tx⟩; have cx := tx.1))
        rename_i hheld
        have HE := Lib.hid (And.intro hGx (t1.out.trans (Turn.trans (Turn.of0 O1 (Ch.refl _ wr).drew) tx)))
        clear hheld cx tx hGx HA
        go_wp2_with fail
        go_roundw
        case rel => exact ⟨j + 1, by omega, by go_num, Ox, by rw [hL.out]; exact HE.out.1, HE.out.2⟩
        case measure => simp [intOf]; omega
      · have e1 : (ok == 1) = false := by simpa using q1
        by_cases q2 : ok = 2
        · have e2 : (ok == 2) = true := by simp [q2]
          have hL : Hid (playL cs L (l.take (j + 1)) = setRefL LL oa ob oc) := Lib.hid (by rw [hst.out]; unfold stepL; rw [if_neg q1, if_pos q2])
          clear q1 q2 hst HA HN HO him
          generalize setRefE LL oa ob oc = E at *
          go_wp2_with fail
          go_region_held3 (fun w' => w'.cell? ⟨g, off + j * 5 + 1, none⟩ = some (.int .i64 oa) ∧ w'.cell? ⟨g, off + j * 5 + 2, none⟩ = some (.int .i64 ob) ∧ w'.cell? ⟨g, off + j * 5 + 3, none⟩ = some (.int .i64 oc))
            (first | go_keep | exact ⟨cx.cell (by simpa using k1) hng, cx.cell (by simpa using k2) hng, cx.cell (by simpa using k3) hng⟩)
            ((go_at_call 42; refine (HR.out _ ?_).mono ?_; exact (Ch.refl _ _).drew; rintro e wx ⟨rfl, hGx, tx⟩; have cx := tx.1))
          rename_i hheld
          have HE := Lib.hid (And.intro hGx (t1.out.trans (Turn.trans (Turn.of0 O1 (Ch.refl _ wr).drew) tx)))
          clear hheld cx tx hGx HR
          go_wp2_with fail
          go_roundw
          case rel => exact ⟨j + 1, by omega, by go_num, O1, by rw [hL.out]; exact HE.out.1, HE.out.2⟩
          case measure => simp [intOf]; omega
        · have e2 : (ok == 2) = false := by simpa using q2
          by_cases q3 : ok = 3
          · have e3 : (ok == 3) = true := by simp [q3]
            have hL : Hid (playL cs L (l.take (j + 1)) = setNumL LL oa ob oc) := Lib.hid (by rw [hst.out]; unfold stepL; rw [if_neg q1, if_neg q2, if_pos q3])
            clear q1 q2 q3 hst HA HR HO him
            generalize setNumE LL oa ob = E at *
            go_wp2_with fail
            go_region_held3 (fun w' => w'.cell? ⟨g, off + j * 5 + 1, none⟩ = some (.int .i64 oa) ∧ w'.cell? ⟨g, off + j * 5 + 2, none⟩ = some (.int .i64 ob) ∧ w'.cell? ⟨g, off + j * 5 + 3, none⟩ = some (.int .i64 oc))
              (first | go_keep | exact ⟨cx.cell (by simpa using k1) hng, cx.cell (by simpa using k2) hng, cx.cell (by simpa using k3) hng⟩)
              ((go_at_call 43; refine (HN.out _ ?_).mono ?_; exact (Ch.refl _ _).drew; rintro e wx ⟨rfl, hGx, tx⟩; have cx := tx.1))
            rename_i hheld
            have HE := Lib.hid (And.intro hGx (t1.out.trans (Turn.trans (Turn.of0 O1 (Ch.refl _ wr).drew) tx)))
            clear hheld cx tx hGx HN
            go_wp2_with fail
            go_roundw
            case rel => exact ⟨j + 1, by omega, by go_num, O1, by rw [hL.out]; exact HE.out.1, HE.out.2⟩
            case measure => simp [intOf]; omega
          · have e3 : (ok == 3) = false := by simpa using q3
            by_cases q4 : ok = 4
            · have e4 : (ok == 4) = true := by simp [q4]
              have hL : Hid (playL cs L (l.take (j + 1)) = doneL LL oa) := Lib.hid (by rw [hst.out]; unfold stepL; rw [if_neg q1, if_neg q2, if_neg q3, if_pos q4])
              have hd := HO.out wr (Ch.refl _ _)
              clear q1 q2 q3 q4 hst HA HR HN HO him
              generalize doneE LL oa = E at *
              go_wp2_with fail
              refine hd.mono ?_
              rintro e wx ⟨rfl, hGx, tx⟩
              have HE := Lib.hid (And.intro hGx (t1.out.trans tx))
              clear hd hGx tx
              go_wp2_with fail
              go_roundw
              case rel => exact ⟨j + 1, by omega, by go_num, O1, by rw [hL.out]; exact HE.out.1, HE.out.2⟩
              case measure => simp [intOf]; omega
            · have e4 : (ok == 4) = false := by simpa using q4
              have hL : Hid (playL cs L (l.take (j + 1)) = LL) := Lib.hid (by rw [hst.out]; unfold stepL; rw [if_neg q1, if_neg q2, if_neg q3, if_neg q4])
              clear q1 q2 q3 q4 hst HA HR HN HO him
              go_wp2_with fail
              go_roundw
              case rel => exact ⟨j + 1, by omega, by go_num, O1, by rw [hL.out]; exact hG.out, t1.out⟩
              case measure => simp [intOf]; omega
    · obtain rfl : j = l.length := by omega
      rw [List.take_length] at hG
      have HE := Lib.hid (And.intro hG t1)
      clear hG t1
      go_wp2_with fail
      go_end0
      exact ⟨rfl, O1, HE.out⟩

end Go.Proofs.Ytlmeponoadhheaa
