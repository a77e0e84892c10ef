/-
  Contract of the program's gather: the rows of a map of sums.
-/
import Derived.Test.YtlmeponoadhheaaCSort
import Derived.Test.YtlmeponoadhheaaCP
namespace Go.Proofs.Ytlmeponoadhheaa
set_option linter.unusedVariables false
open Go.RowKit

def cvals (F : Int → Option R5) : Int → Option Value := fun k => (F k).map R5.val

theorem iterLeft_le {w : World} {r b n : Nat} {f : Int → Option Value} {left : Int → Bool} (h : IR w r b n f left) : iterLeft w r b ≤ n := by
  obtain ⟨es, clock, since, seen, c0, hm, hs, hn, h1, h2, hi, rest⟩ := h
  unfold iterLeft
  rw [hm, hi]
  simp only
  rw [← hn]
  unfold leftOf
  exact Array.size_filter_le

set_option maxRecDepth 100000 in
set_option maxHeartbeats 4000000 in
theorem gather_of (w : World) (r n : Nat) (F : Int → Option R5) (hM : IM w r n (cvals F)) (hc : ∀ k x, F k = some x → x.cls = 0) (hn : n ≤ 1000) :
    Calls Try.prog 119 #[.map (some r)] w fun e w' => ∃ v L, e = .returned v ∧ IsRows (drF F) L ∧ HasR w' 106 (fun k => w.heap.size ≤ k) v L ∧ L.length ≤ n ∧ Ch0 w w' := by
  obtain ⟨w1, hrg, hI, c1, s1⟩ := hM.range (P := Try.prog) (t := 157) Try.underlying157
  have hr := hM.lt
  have hle := iterLeft_le hI
  have HC := Lib.hid hc
  generalize hB : w.heap.size = B at *
  have hst : Out (drF F) (fun k => (cvals F k).isSome) [] := Out.start (fun k hk => by
    have h0 : F k = none := by
      cases h : F k with
      | none => rfl
      | some x => unfold cvals at hk; rw [h] at hk; cases hk
    unfold drF told; rw [h0]; rfl)
  replace hI := Lib.hid hI
  replace c1 := Lib.hid c1
  replace hst := Lib.hid hst
  replace hB := Lib.hid hB
  replace hle := Lib.hid hle
  clear hM s1 hc
  go_enter Try.func119, Try.ntmps119
  go_wp2_with fail
  clear hrg
  go_loopw [3] (fun v wr => ∃ left L, IR wr r B n (cvals F) left ∧ Out (drF F) left L ∧ HasR wr 106 (fun k => B < k) v L ∧ L.length + iterLeft wr r B ≤ n ∧ Ch0 w wr) (fun _ wr => iterLeft wr r B)
  case atStart => exact ⟨_, [], hI.out, hst.out, ⟨RowAt.nil, fun k hk => by cases hk⟩, by simpa using hle.out, c1.out⟩
  case round =>
    obtain ⟨left, L, hI1, hO, hR, hLl, d⟩ := hrel
    clear hI hst hle c1
    obtain ⟨av, cv, ev, -, -⟩ := hR.1.isSlice
    subst ev
    replace hI1 := Lib.hid hI1
    replace hO := Lib.hid hO
    replace hR := Lib.hid hR
    replace hLl := Lib.hid hLl
    replace d := Lib.hid d
    go_wp2_with (at_next; refine wpList_next_IR rfl _ rfl rfl hI1.out ?_ ?_)
    · intro hl
      have hcs := csort_of wr _ L hR.out.1 (by have := hLl.out; omega)
      have HO : Hid (∀ L' : List R5, L'.Perm L → L'.Pairwise (fun a b => ¬ b.cls < a.cls) → IsRows (drF F) L') := Lib.hid (fun L' h1 h2 => hO.out.rows hl h1 h2)
      clear hl hI1 hO
      go_wp2_with fail
      refine hcs.mono ?_
      rintro e w2 ⟨rfl, L', hp, hs, hR2, d2⟩
      have HE := Lib.hid (And.intro hp (And.intro hs (And.intro hR2 d2)))
      clear hcs hp hs hR2 d2
      go_wp2_with fail
      go_ret
      exact ⟨_, L', rfl, HO.out L' HE.out.1 HE.out.2.1, ⟨HE.out.2.2.1, fun k hk => by have := hR.out.2 k hk; have := hB.out; omega⟩, by rw [HE.out.1.length_eq]; have := hLl.out; omega, d.out.trans' HE.out.2.2.2 (fun _ _ e => e) (fun k hk e => by have := hR.out.2 k e; have := hB.out; omega)⟩
    · intro x vx w8 hlx hfx hI8 e8 s8 hm8 hen
      obtain ⟨y, hy, rfl⟩ : ∃ y, F x = some y ∧ vx = y.val := by
        unfold cvals at hfx
        cases h : F x with
        | none => rw [h] at hfx; cases hfx
        | some y => rw [h] at hfx; exact ⟨y, rfl, (Option.some.inj hfx).symm⟩
      have hy0 := HC.out x y hy
      have hsy : drF F x = y.at x := by unfold drF told; rw [hy]; rfl
      obtain ⟨yc, y1, y2, y3, y4⟩ := y
      simp only at hy0
      subst hy0
      simp only [R5.val] at hen
      have HE := Lib.hid (And.intro hI8 (And.intro e8 (And.intro hm8 hsy)))
      clear hI8 e8 hm8 hsy hfx hy s8
      by_cases hz : (R5.mk x y1 y2 y3 y4).nz = true
      · have hcase : ¬ y1 = 0 ∨ (y1 = 0 ∧ ¬ y2 = 0) ∨ (y1 = 0 ∧ y2 = 0 ∧ ¬ y3 = 0) ∨ (y1 = 0 ∧ y2 = 0 ∧ y3 = 0 ∧ ¬ y4 = 0) := by
          unfold R5.nz at hz
          simp at hz
          omega
        have cX : Ch0 w8 ((w8.alloc (.cells #[.int .i64 x, .int .i64 y1, .int .i64 y2, .int .i64 y3, .int .i64 y4] 106)).alloc (.cells #[.int .i64 x, .int .i64 y1, .int .i64 y2, .int .i64 y3, .int .i64 y4] 106)) := ((Ch.refl _ _).alloc _).alloc _
        have bX := heap_alloc2_new w8 (.cells #[.int .i64 x, .int .i64 y1, .int .i64 y2, .int .i64 y3, .int .i64 y4] 106) (.cells #[.int .i64 x, .int .i64 y1, .int .i64 y2, .int .i64 y3, .int .i64 y4] 106)
        have hR9 : HasR ((w8.alloc (.cells #[.int .i64 x, .int .i64 y1, .int .i64 y2, .int .i64 y3, .int .i64 y4] 106)).alloc (.cells #[.int .i64 x, .int .i64 y1, .int .i64 y2, .int .i64 y3, .int .i64 y4] 106)) 106 (fun k => B < k) (.slice av L.length cv) L := (hR.out.keep HE.out.2.1 (fun k hk e => by omega)).keep cX (fun _ _ e => e)
        obtain ⟨a', c', w9, hrun, r9, d9, b9⟩ := run_crows hR9.1 (by have := hLl.out; omega) (sees_one5 (r := ⟨x, y1, y2, y3, y4⟩) bX) (by simp) 101
        simp only [List.length_singleton] at hrun b9 r9
        have hS : Ch (fun k => B < k) w8 w9 := (cX.mono (fun _ _ e => e.elim)).trans' d9 (fun k _ e => hR9.2 k e) (fun k _ e => hR9.2 k e)
        have HF : Hid (IR w9 r B n (cvals F) (fun i => left i && !i == x) ∧ Out (drF F) (fun i => left i && !i == x) (L ++ [⟨x, y1, y2, y3, y4⟩]) ∧ HasR w9 106 (fun k => B < k) (.slice a' (L.length + 1) c') (L ++ [⟨x, y1, y2, y3, y4⟩]) ∧ (L ++ [(⟨x, y1, y2, y3, y4⟩ : R5)]).length + iterLeft w9 r B ≤ n ∧ Ch0 w w9 ∧ iterLeft w9 r B < iterLeft wr r B) := by
          have h1 := iterLeft_keep HE.out.1 hS (by omega) (by omega)
          refine Lib.hid ⟨HE.out.1.keep hS (by omega) (by omega), ?_, ⟨r9, fun k hk => ?_⟩, ?_, ?_, ?_⟩
          · have h2 := hO.out.step hlx (fun c => rfl)
            rw [HE.out.2.2.2] at h2
            rw [if_pos (show (R5.at ⟨0, y1, y2, y3, y4⟩ x).nz = true from hz)] at h2
            exact h2
          · rcases b9 with e | e
            · rw [e] at hk; exact hR9.2 k hk
            · rw [e] at hk; cases hk; have := HE.out.2.1.size; have := d.out.size; have := hB.out; simp only [World.size_alloc]; omega
          · rw [h1]; simp only [List.length_append, List.length_singleton]; have := HE.out.2.2.1; have := hLl.out; omega
          · exact (d.out.trans' HE.out.2.1 (fun _ _ e => e) (fun k hk e => by have := hB.out; omega)).trans' hS (fun _ _ e => e) (fun k hk e => by have := hB.out; omega)
          · rw [h1]; exact HE.out.2.2.1
        clear hz cX bX hR9 r9 d9 b9 hS HE hI1 hO hLl d hR hlx
        rcases hcase with q | ⟨rfl, q⟩ | ⟨rfl, rfl, q⟩ | ⟨rfl, rfl, rfl, q⟩
        all_goals
          go_wp2_with (at_builtin; refine wpList_append_run rfl _ _ 101 101 rfl rfl rfl hrun ?_)
          go_roundw
          case rel => exact ⟨_, _, HF.out.1, HF.out.2.1, HF.out.2.2.1, HF.out.2.2.2.1, HF.out.2.2.2.2.1⟩
          case measure => exact HF.out.2.2.2.2.2
      · obtain ⟨rfl, rfl, rfl, rfl⟩ : y1 = 0 ∧ y2 = 0 ∧ y3 = 0 ∧ y4 = 0 := by
          unfold R5.nz at hz
          simpa [and_assoc] using hz
        have cX : Ch0 w8 (w8.alloc (.cells #[.int .i64 0, .int .i64 0, .int .i64 0, .int .i64 0, .int .i64 0] 106)) := (Ch.refl _ _).alloc _
        generalize hw9 : w8.alloc (.cells #[.int .i64 0, .int .i64 0, .int .i64 0, .int .i64 0, .int .i64 0] 106) = w9 at cX
        have HF : Hid (IR w9 r B n (cvals F) (fun i => left i && !i == x) ∧ Out (drF F) (fun i => left i && !i == x) L ∧ HasR w9 106 (fun k => B < k) (.slice av L.length cv) L ∧ L.length + iterLeft w9 r B ≤ n ∧ Ch0 w w9 ∧ iterLeft w9 r B < iterLeft wr r B) := by
          have h1 := iterLeft_keep HE.out.1 cX (fun e => e) (fun e => e)
          refine Lib.hid ⟨HE.out.1.keep cX (fun e => e) (fun e => e), ?_, (hR.out.keep HE.out.2.1 (fun k hk e => by omega)).keep cX (fun _ _ e => e), ?_, ?_, ?_⟩
          · have h2 := hO.out.step hlx (fun c => rfl)
            rw [HE.out.2.2.2] at h2
            rw [if_neg (show ¬ (R5.at ⟨0, 0, 0, 0, 0⟩ x).nz = true from by unfold R5.nz R5.at; simp)] at h2
            exact h2
          · rw [h1]; have := HE.out.2.2.1; have := hLl.out; omega
          · exact (d.out.trans' HE.out.2.1 (fun _ _ e => e) (fun k hk e => by have := hB.out; omega)).trans cX
          · rw [h1]; exact HE.out.2.2.1
        rw [← hw9] at HF
        clear hz cX HE hI1 hO hLl d hR hlx hw9
        go_wp2_with fail
        go_roundw
        case rel => exact ⟨_, L, HF.out.1, HF.out.2.1, HF.out.2.2.1, HF.out.2.2.2.1, HF.out.2.2.2.2.1⟩
        case measure => exact HF.out.2.2.2.2.2

end Go.Proofs.Ytlmeponoadhheaa
