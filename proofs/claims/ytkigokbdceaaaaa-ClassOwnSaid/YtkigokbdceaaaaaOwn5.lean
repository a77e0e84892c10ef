/-
  The law ClassOwn's walk.
-/
import Derived.Test.YtkigokbdceaaaaaWords5
namespace Go.Proofs.Ytkigokbdceaaaaa
set_option linter.unusedVariables false
open Go.RowKit

set_option maxHeartbeats 1000000 in
set_option maxRecDepth 100000 in
theorem own5_many (v : Value) (cs : List Cls) (n : Int) (w : World) (hv : SeesC (fun k => k < w.heap.size) w v cs) (hm : 100 < cs.length) :
    Calls Try.prog 5 #[v, .int .i64 n] w fun e w' => e = .returned (.bool true) ∧ Ch0 w w' := by
  obtain ⟨a, c, rfl, hl⟩ := hv.len
  clear hv
  go_enter Try.func5, Try.ntmps5
  go_wp2_with fail
  refine (awake5 _).mono ?_
  rintro e w0 ⟨rfl, c0⟩
  have C0 := Lib.hid c0
  clear c0
  go_wp2_with fail
  refine (awake5 _).mono ?_
  rintro e w1 ⟨rfl, c1⟩
  have C1 := Lib.hid c1
  clear c1
  go_wp2_with fail
  go_ret
  exact ⟨rfl, C0.out.trans C1.out⟩

/-- A row of n classes that may be written. -/
def RowC (w : World) (g : Nat) (n : Nat) : Prop := ∃ cap xs, w.ownsRow 0 26 4 (.slice (some ⟨g, 0, none⟩) n cap) n xs

theorem RowC.cell {w : World} {g n : Nat} (h : RowC w g n) (j : Nat) (hj : j < n * 4) : ∃ u, w.cell? ⟨g, j, none⟩ = some u := by
  obtain ⟨cap, xs, ho⟩ := h
  have hl : j < xs.length := by rw [ho.1]; exact hj
  exact ⟨xs[j], owns_cell ho j _ (List.getElem?_eq_getElem hl)⟩

theorem RowC.free {w : World} {g n : Nat} (h : RowC w g n) (j : Nat) : w.frozen? ⟨g, j, none⟩ = false := by
  obtain ⟨cap, xs, ho⟩ := h
  exact owns_free ho j

theorem RowC.set {w : World} {g n : Nat} (h : RowC w g n) (j : Nat) (u : Value) : RowC (w.setCell ⟨g, j, none⟩ u) g n := by
  obtain ⟨cap, xs, ho⟩ := h
  exact ⟨cap, _, owns_set ho j u⟩

theorem RowC.keep {S : Nat → Prop} {w w' : World} {g n : Nat} (h : RowC w g n) (hc : Ch S w w') (hs : ¬ S g) : RowC w' g n := by
  obtain ⟨cap, xs, ho⟩ := h
  exact ⟨cap, xs, owns_keep ho hc (fun k hk => by simp [Value.ownBlock] at hk; subst hk; exact hs)⟩

set_option maxHeartbeats 4000000 in
set_option maxRecDepth 100000 in
theorem own5_walk (v : Value) (cs : List Cls) (n : Int) (w : World) (hv : SeesC (fun k => k < w.heap.size) w v cs) (hf : Fit cs) (hm : cs.length ≤ 100) :
    Calls Try.prog 5 #[v, .int .i64 n] w fun e w' => e = .returned (.bool true) ∧ Ch0 w w' := by
  obtain ⟨a, c, rfl, hl⟩ := hv.len
  have HV := Lib.hid hv
  have HF := Lib.hid hf
  clear hv hf
  have hd : decide (100 < (cs.length : Int)) = false := decide_eq_false (by omega)
  go_enter Try.func5, Try.ntmps5
  go_wp2_with fail
  refine (awake5 _).mono ?_
  rintro e w0 ⟨rfl, c0⟩
  have s0 := c0.size
  have C0 := Lib.hid c0
  clear c0
  -- the copy
  obtain ⟨i0, hi, hz0, hz1, hz2⟩ := info_parts Try.info26
  have hown : (w0.alloc (.cells #[] 26)).ownsRow 0 26 4 (.slice (some ⟨w0.heap.size, 0, none⟩) 0 0) 0 [] := owns_block_empty (heap_alloc_new w0 _) (by simp) (by decide)
  obtain ⟨u, w1, hrun, hown', hch, hblk, _⟩ := append_law (P := Try.prog) (w0.alloc (.cells #[] 26)) 22 22 26 i0 _ 4 32 Try.under22 hi hz0 hz1 hz2 rfl _ 0 [] hown _ _ _ (HV.out.keep (C0.out.alloc _) (fun _ _ q => q)) (one_cls cs) (by unfold maxLen; omega) (by omega)
  have HR := Lib.hid hrun
  rw [Nat.zero_add, List.nil_append] at hown'
  have hsu := sees_of_owns hown'
  obtain ⟨ua, uc, rfl, -⟩ := hsu.len
  have hub : ∀ k, (Value.slice ua cs.length uc).ownBlock = some k → w0.heap.size ≤ k ∧ k < w1.heap.size := by
    intro k hk
    refine ⟨?_, owns_lt hown' hk⟩
    rcases hblk with h | h
    · rw [hk] at h; simp [Value.ownBlock] at h; omega
    · rw [hk] at h; simp at h; omega
  have C1 := Lib.hid (((C0.out.alloc (.cells #[] 26))).trans' hch (S'' := fun _ => False) (fun _ _ q => q) (fun i hi q => by simp [Value.ownBlock] at q; omega))
  have HU := Lib.hid hown'
  have HUB := Lib.hid hub
  have HSU := Lib.hid hsu
  have s1 := C1.out.size
  clear hown hrun hown' hch hblk hi hz0 hz1 hz2 hsu hub
  go_wp2_with (at_builtin; refine wpList_append_run rfl _ _ 22 22 rfl rfl rfl HR.out ?_)
  go_wp2_with fail
  refine (newcls_any _ _ cs _ HSU.out HF.out).mono ?_
  rintro e w2 ⟨t, rfl, ht, c2⟩
  have s2 := c2.size
  have C2 := Lib.hid (C1.out.trans c2)
  have HT := Lib.hid ht
  have HU2 := Lib.hid (owns_keep HU.out c2 (fun _ _ q => q))
  clear c2 ht HU HSU HR
  obtain ⟨E, hE⟩ : ∃ E, newC cs = E := ⟨_, rfl⟩
  rw [hE]
  have HE := Lib.hid hE
  clear hE
  go_wp2_with fail
  go_loopw [38] (fun i wr => ∃ j : Nat, j ≤ cs.length ∧ i = .int .i64 j ∧ (0 < cs.length → ∃ g, ua = some ⟨g, 0, none⟩ ∧ w0.heap.size ≤ g ∧ g < w1.heap.size ∧ RowC wr g cs.length) ∧ Ch (fun k => w0.heap.size ≤ k ∧ k < w1.heap.size) w2 wr) (fun i _ => cs.length - (intOf i).toNat)
  case atStart =>
    refine ⟨0, Nat.zero_le _, rfl, fun hp => ?_, Ch.refl _ _⟩
    obtain ⟨g, cap, hg, -, -, -⟩ := owns_pos HU2.out hp
    have hg' : ua = some ⟨g, 0, none⟩ ∧ uc = cap := by simpa using hg
    have := HUB.out g (by rw [hg]; rfl)
    refine ⟨g, hg'.1, this.1, this.2, cap, cs.flatMap Cls.cells, ?_⟩
    have h2 := HU2.out
    rw [hg] at h2
    exact h2
  case round =>
    obtain ⟨j, hj, rfl, hrow, hc⟩ := hrel
    have HC := Lib.hid hc
    have HRW := Lib.hid hrow
    clear hc hrow
    by_cases hlt : j < cs.length
    · obtain ⟨g, rfl, hg0, hg1, hr⟩ := HRW.out (by omega)
      obtain ⟨u0, k0⟩ := hr.cell (j * 4) (by omega)
      obtain ⟨u1, k1⟩ := hr.cell (j * 4 + 1) (by omega)
      obtain ⟨u2, k2⟩ := hr.cell (j * 4 + 2) (by omega)
      obtain ⟨u3, k3⟩ := hr.cell (j * 4 + 3) (by omega)
      have f0 := hr.free (j * 4)
      have f1 := hr.free (j * 4 + 1)
      have f2 := hr.free (j * 4 + 2)
      have f3 := hr.free (j * 4 + 3)
      have HRR := Lib.hid hr
      clear hr
      go_wp2_with fail
      go_roundw
      case rel =>
        refine ⟨j + 1, by omega, by go_num, fun _ => ⟨g, rfl, hg0, hg1, ?_⟩, ?_⟩
        · exact ((((HRR.out.set _ _).set _ _).set _ _).set _ _)
        · exact ((((HC.out.setCell (fun _ => ⟨hg0, hg1⟩) _).setCell (fun _ => ⟨hg0, hg1⟩) _).setCell (fun _ => ⟨hg0, hg1⟩) _).setCell (fun _ => ⟨hg0, hg1⟩) _)
      case measure => simp [intOf]; omega
    · obtain rfl : j = cs.length := by omega
      have C3 := Lib.hid (C2.out.trans' HC.out (S'' := fun _ => False) (fun _ _ q => q) (fun i hi q => by omega))
      have s3 := HC.out.size
      by_cases hE0 : E = 0
      · subst hE0
        rcases HT.out with ⟨-, p, rfl, ht⟩ | ⟨h0, -⟩
        · have HT3 := Lib.hid (ht.keep HC.out (fun k h1 h2 q => by omega))
          clear ht HU2 HUB HRW HC HT C1
          go_wp2_with fail
          go_loopw [48] (fun i wq => ∃ j : Nat, j ≤ cs.length ∧ i = .int .i64 j ∧ Ch0 wr wq) (fun i _ => cs.length - (intOf i).toNat)
          case atStart => exact ⟨0, Nat.zero_le _, rfl, Ch.refl _ _⟩
          case round =>
            obtain ⟨j, hj, rfl, hc⟩ := hrel
            have HC := Lib.hid hc
            have HT4 := Lib.hid (HT3.out.keep hc (fun _ _ _ q => q))
            clear hc
            by_cases hlt : j < cs.length
            · have hsee := HV.out.keep (C3.out.trans HC.out) (fun _ _ q => q)
              obtain ⟨g, o, c', hg, hsl, hcells⟩ := SeesC.cells hsee (by omega)
              obtain ⟨rfl, rfl⟩ : a = some ⟨g, o, none⟩ ∧ c = c' := by simpa using hsl
              obtain ⟨m0, m1, m2, m3⟩ := hcells j hlt
              have hgl := block_lt_of_cell m0
              have hov := of_yes _ _ _ cs j hlt _ HT4.out
              unfold Cls.val at hov
              generalize cs[j].kind = k at *
              generalize cs[j].refs = r at *
              generalize cs[j].data = d at *
              generalize cs[j].final = f at *
              have HOV := Lib.hid hov
              clear hsee hsl hcells hov
              go_wp2_with fail
              refine HOV.out.mono ?_
              rintro e w5 ⟨rfl, c5⟩
              have m0 := c5.cell m0 (fun q => q)
              have m1 := c5.cell m1 (fun q => q)
              have m2 := c5.cell m2 (fun q => q)
              have m3 := c5.cell m3 (fun q => q)
              have s5 := c5.size
              have hg5 : g < w5.heap.size := block_lt_of_cell m0
              have HC5 := Lib.hid (HC.out.trans c5)
              clear c5
              go_wp2_with fail
              go_quiet (fail)
              go_wp2_with fail
              go_roundw
              case rel => exact ⟨j + 1, by omega, by go_num, (HC5.out.alloc _).drewN _⟩
              case measure => simp [intOf]; omega
            · obtain rfl : j = cs.length := by omega
              have C4 := Lib.hid (C3.out.trans HC.out)
              clear HT4 HT3 HC C3
              go_wp2_with fail
              refine (of_no _ 0 n _ (by omega) (fun w' _ => tlen_nil w') (by omega)).mono ?_
              rintro e w5 ⟨rfl, c5⟩
              unfold Cls.none Cls.val
              have C5 := Lib.hid ((C4.out.trans c5).alloc (.cells #[.int .i64 0, .int .i64 0, .int .i64 0, .bool false] 26))
              clear c5
              go_wp2_with fail
              refine (shape_nil n 0 _).mono ?_
              rintro e w6 ⟨rfl, c6⟩
              have C6 := Lib.hid (C5.out.trans c6)
              clear c6
              go_wp2_with fail
              refine (twords_nil n 0 _).mono ?_
              rintro e w7 ⟨rfl, c7⟩
              have C7 := Lib.hid (C6.out.trans c7)
              clear c7
              go_wp2_with fail
              refine (tlen_nil _).mono ?_
              rintro e w' ⟨rfl, rfl⟩
              go_wp2_with fail
              refine (holds_nil n 1 _).mono ?_
              rintro e w8 ⟨rfl, c8⟩
              have C8 := Lib.hid (C7.out.trans c8)
              clear c8
              go_wp2_with fail
              go_ret
              exact ⟨rfl, C8.out⟩
        · exact absurd HE.out h0
      · have hE' : (E == 0) = false := beq_eq_false_iff_ne.2 hE0
        clear HT HU2 HUB HRW HC C1 hE0
        go_wp2_with fail
        go_loopw [48] (fun i wq => ∃ j : Nat, j ≤ cs.length ∧ i = .int .i64 j ∧ Ch0 wr wq) (fun i _ => cs.length - (intOf i).toNat)
        case atStart => exact ⟨0, Nat.zero_le _, rfl, Ch.refl _ _⟩
        case round =>
          obtain ⟨j, hj, rfl, hc⟩ := hrel
          have HC := Lib.hid hc
          clear hc
          by_cases hlt : j < cs.length
          · go_wp2_with fail
            go_roundw
            case rel => exact ⟨j + 1, by omega, by go_num, HC.out⟩
            case measure => simp [intOf]; omega
          · obtain rfl : j = cs.length := by omega
            have C4 := Lib.hid (C3.out.trans HC.out)
            clear HC C3
            go_wp2_with fail
            refine (of_no _ 0 n _ (by omega) (fun w' _ => tlen_nil w') (by omega)).mono ?_
            rintro e w5 ⟨rfl, c5⟩
            unfold Cls.none Cls.val
            have C5 := Lib.hid ((C4.out.trans c5).alloc (.cells #[.int .i64 0, .int .i64 0, .int .i64 0, .bool false] 26))
            clear c5
            go_wp2_with fail
            refine (shape_nil n 0 _).mono ?_
            rintro e w6 ⟨rfl, c6⟩
            have C6 := Lib.hid (C5.out.trans c6)
            clear c6
            go_wp2_with fail
            refine (twords_nil n 0 _).mono ?_
            rintro e w7 ⟨rfl, c7⟩
            have C7 := Lib.hid (C6.out.trans c7)
            clear c7
            go_wp2_with fail
            refine (tlen_nil _).mono ?_
            rintro e w' ⟨rfl, rfl⟩
            go_wp2_with fail
            refine (holds_nil n 1 _).mono ?_
            rintro e w8 ⟨rfl, c8⟩
            have C8 := Lib.hid (C7.out.trans c8)
            clear c8
            go_wp2_with fail
            go_ret
            exact ⟨rfl, C8.out⟩

end Go.Proofs.Ytkigokbdceaaaaa
