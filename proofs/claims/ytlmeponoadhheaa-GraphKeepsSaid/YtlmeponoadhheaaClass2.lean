/-
  Contracts of class.New$1, slices.IndexFunc, slices.ContainsFunc, slices.Clone at classes; class.New.
-/
import Derived.Test.YtlmeponoadhheaaClass
namespace Go.Proofs.Ytlmeponoadhheaa
set_option linter.unusedVariables false
open Go.RowKit

theorem Try.info40 : (Try.prog.info? 40).map (fun i => (i.zero, i.size, i.bytes)) = some (some (.agg #[.int .i64 0, .int .i64 0, .int .i64 0, .bool false]), 4, 32) := by kernel_rfl
theorem Try.under22 : Try.prog.underlying 22 = some (.slice 40) := by kernel_rfl

/-- a slice of classes in memory -/
abbrev SeesC (D : Nat → Prop) (w : World) (v : Value) (cs : List Cls) : Prop := Sees D w v 4 cs.length (cs.flatMap Cls.cells)

theorem flat_get (cs : List Cls) (j t : Nat) (hj : j < cs.length) (ht : t < 4) : (cs.flatMap Cls.cells)[j * 4 + t]? = (cs[j].cells)[t]? := by
  induction cs generalizing j with
  | nil => simp at hj
  | cons c cs ih =>
    rw [List.flatMap_cons, List.getElem?_append]
    have hl : c.cells.length = 4 := rfl
    cases j with
    | zero => rw [if_pos (by omega)]; simp
    | succ j =>
      rw [if_neg (by omega), hl, show (j + 1) * 4 + t - 4 = j * 4 + t by omega, ih j (by simpa using hj)]
      simp

theorem SeesC.cells {D : Nat → Prop} {w : World} {v : Value} {cs : List Cls} (h : SeesC D w v cs) (hp : 0 < cs.length) :
    ∃ g o c, D g ∧ v = .slice (some ⟨g, o, none⟩) cs.length c ∧ ∀ j (hj : j < cs.length), w.cell? ⟨g, o + j * 4, none⟩ = some (.int .i64 cs[j].kind) ∧ w.cell? ⟨g, o + j * 4 + 1, none⟩ = some (.int .i64 cs[j].refs) ∧
      w.cell? ⟨g, o + j * 4 + 2, none⟩ = some (.int .i64 cs[j].data) ∧ w.cell? ⟨g, o + j * 4 + 3, none⟩ = some (.bool cs[j].final) := by
  obtain ⟨h0, a, c, hv, hn, hm, hl⟩ := h
  rcases hl with hl | ⟨g, o, hg, rfl, hi⟩
  · omega
  · refine ⟨g, o, c, hg, hv, fun j hj => ?_⟩
    have key : ∀ t u, t < 4 → cs[j].cells[t]? = some u → w.cell? ⟨g, o + j * 4 + t, none⟩ = some u := fun t u ht hu => by
      rw [Nat.add_assoc]
      exact hi (j * 4 + t) u (by rw [flat_get cs j t hj ht]; exact hu)
    exact ⟨key 0 _ (by omega) rfl, key 1 _ (by omega) rfl, key 2 _ (by omega) rfl, key 3 _ (by omega) rfl⟩

def Cls.rightB (c : Cls) : Bool := Go.Proofs.Ytlmeponoadhheaa.rightB c.kind c.refs c.data c.final
def allRight (cs : List Cls) : Bool := cs.all Cls.rightB

set_option maxHeartbeats 400000 in
theorem lit_any (k r d : Int) (f : Bool) (w : World) (hr : -9223372036854775808 ≤ r ∧ r ≤ 9223372036854775807) (hd : -9223372036854775808 ≤ d ∧ d ≤ 9223372036854775807) :
    Calls Try.prog 95 #[.agg #[.int .i64 k, .int .i64 r, .int .i64 d, .bool f]] w fun e w' => e = .returned (.bool (!rightB k r d f)) ∧ Ch0 w w' := by
  have hR := fun w => right_any k r d f w hr hd
  generalize rightB k r d f = b at *
  have HR := Lib.hid hR
  clear hR
  go_enter Try.func95, Try.ntmps95
  go_wp2_with fail
  refine (HR.out _).mono ?_
  rintro e w1 ⟨rfl, c1⟩
  have C1 := Lib.hid (((Ch.refl (fun _ => False) w).alloc _).trans c1)
  clear c1
  go_wp2_with fail
  go_ret
  exact ⟨by simp, C1.out⟩

def Fit (cs : List Cls) : Prop := ∀ c ∈ cs, c.Fits

set_option maxHeartbeats 1000000 in
theorem idx_any (D : Nat → Prop) (v : Value) (cs : List Cls) (w : World) (hv : SeesC D w v cs) (hf : Fit cs) :
    Calls Try.prog 122 #[v, .func (.func 95) #[] #[]] w fun e w' => (∃ i : Int, e = .returned (.int .i64 i) ∧ decide (0 ≤ i) = !allRight cs) ∧ Ch0 w w' := by
  obtain ⟨a, c, rfl, hl⟩ := hv.len
  have HV := Lib.hid hv
  have HF := Lib.hid hf
  clear hv hf
  go_enter Try.func122, Try.ntmps122
  go_wp2_with fail
  go_loopw [8] (fun i wr => ∃ j : Nat, j ≤ cs.length ∧ i = .int .i64 j ∧ (∀ m (hm : m < cs.length), m < j → cs[m].rightB = true) ∧ Ch0 w wr) (fun i _ => cs.length - (intOf i).toNat)
  case atStart => exact ⟨0, Nat.zero_le _, rfl, fun m _ h => by omega, Ch.refl _ _⟩
  case round =>
    obtain ⟨j, hj, rfl, hall, hc⟩ := hrel
    have HA := Lib.hid hall
    have HC := Lib.hid hc
    clear hall hc
    by_cases hlt : j < cs.length
    · obtain ⟨g, o, c', hg, hsl, hcells⟩ := SeesC.cells (HV.out.keep HC.out (fun _ _ q => q)) (by omega)
      obtain ⟨rfl, rfl⟩ : a = some ⟨g, o, none⟩ ∧ c = c' := by simpa using hsl
      obtain ⟨m0, m1, m2, m3⟩ := hcells j hlt
      have hfit := HF.out cs[j] (List.getElem_mem hlt)
      have hL := lit_any cs[j].kind cs[j].refs cs[j].data cs[j].final
      obtain ⟨b, hb⟩ : ∃ b, rightB cs[j].kind cs[j].refs cs[j].data cs[j].final = b := ⟨_, rfl⟩
      have hL' := fun w => hL w ⟨hfit.r0, hfit.r1⟩ ⟨hfit.d0, hfit.d1⟩
      rw [hb] at hL'
      have HL := Lib.hid hL'
      have HB : Hid (cs[j].rightB = b) := hb
      clear hsl hcells hfit hL hL' hb
      generalize cs[j].kind = k at *
      generalize cs[j].refs = r at *
      generalize cs[j].data = d at *
      generalize cs[j].final = f at *
      go_wp2_with fail
      refine (HL.out _).mono ?_
      rintro e w1 ⟨rfl, c1⟩
      have C1 := Lib.hid (HC.out.trans c1)
      clear c1
      cases b
      · go_wp2_with fail
        go_ret
        refine ⟨⟨j, rfl, ?_⟩, C1.out⟩
        have : allRight cs = false := by
          rw [allRight, List.all_eq_false]
          exact ⟨cs[j], List.getElem_mem hlt, by rw [HB.out]; simp⟩
        rw [this]; simp
      · go_wp2_with fail
        go_roundw
        case rel =>
          refine ⟨j + 1, by omega, by go_num, fun m hm hmj => ?_, C1.out⟩
          by_cases e : m = j
          · subst e; exact HB.out
          · exact HA.out m hm (by omega)
        case measure => simp [intOf]; omega
    · obtain rfl : j = cs.length := by omega
      go_wp2_with fail
      go_ret
      refine ⟨⟨-1, rfl, ?_⟩, HC.out⟩
      have : allRight cs = true := by
        rw [allRight, List.all_eq_true]
        intro x hx
        obtain ⟨i, hi, rfl⟩ := List.getElem_of_mem hx
        exact HA.out i hi hi
      rw [this]; rfl

set_option maxHeartbeats 400000 in
theorem cont_any (D : Nat → Prop) (v : Value) (cs : List Cls) (w : World) (hv : SeesC D w v cs) (hf : Fit cs) :
    Calls Try.prog 94 #[v, .func (.func 95) #[] #[]] w fun e w' => e = .returned (.bool (!allRight cs)) ∧ Ch0 w w' := by
  have H := Lib.hid (idx_any D v cs w hv hf)
  clear hv hf
  go_enter Try.func94, Try.ntmps94
  go_wp2_with fail
  refine H.out.mono ?_
  rintro e w1 ⟨⟨i, rfl, hi⟩, c1⟩
  have C1 := Lib.hid c1
  have HI := Lib.hid hi
  clear c1 hi
  go_wp2_with fail
  go_ret
  exact ⟨by rw [← HI.out]; rfl, C1.out⟩

theorem one_cls (cs : List Cls) : ∀ u ∈ cs.flatMap Cls.cells, u.oneCell' = true := by
  intro u hu
  obtain ⟨c, _, hc⟩ := List.mem_flatMap.1 hu
  simp [Cls.cells] at hc
  rcases hc with rfl | rfl | rfl | rfl <;> rfl

set_option maxHeartbeats 400000 in
theorem clone_cls (D : Nat → Prop) (v : Value) (cs : List Cls) (w : World) (h : SeesC D w v cs) (hb : cs.length ≤ 1000000) :
    Calls Try.prog 97 #[v] w fun e w' => ∃ u, e = .returned u ∧ w'.ownsRow 0 40 4 u cs.length (cs.flatMap Cls.cells) ∧ (∀ k, u.ownBlock = some k → w.heap.size ≤ k) ∧ Ch0 w w' := by
  obtain ⟨i0, hi, hz0, hz1, hz2⟩ := info_parts Try.info40
  have hsees := h.keep (((Ch.refl (fun _ => False) w)).alloc (.cells #[] 40)) (fun _ _ q => q)
  obtain ⟨h0, a, c, rfl, hc, hm, hl⟩ := h
  cases a with
  | none =>
    have hx : cs.length = 0 := by
      rcases hl with hl | ⟨g, o, _, hn, _⟩
      · exact hl
      · cases hn
    obtain rfl : cs = [] := List.eq_nil_of_length_eq_zero hx
    have hnil : (binOp .eql 22 (.slice none 0 c) (.slice none 0 0)).run Try.prog w = .ok (.bool true) w := Lib.run_eql_slice_nil w 22 40 none 0 c 0 0 Try.under22
    clear hz0 hz1 hz2 hi h0 hl hx hsees
    go_enter Try.func97, Try.ntmps97
    go_wp2
    go_ret
    exact ⟨_, rfl, World.ownsRow_nil _ _ _ _, fun k hk => by simp [Value.ownBlock] at hk, Ch.refl _ _⟩
  | some a =>
    have hnil : (binOp .eql 22 (.slice (some a) cs.length c) (.slice none 0 0)).run Try.prog w = .ok (.bool false) w := Lib.run_eql_slice_nil w 22 40 (some a) _ c 0 0 Try.under22
    have hown : (w.alloc (.cells #[] 40)).ownsRow 0 40 4 (.slice (some ⟨w.heap.size, 0, none⟩) 0 0) 0 [] :=
      owns_block_empty (heap_alloc_new w _) (by simp) (by decide)
    obtain ⟨v', w', hrun, hown', hch, hblk, _⟩ := append_law (P := Try.prog) (w.alloc (.cells #[] 40)) 22 22 40 i0 _ 4 32 Try.under22 hi hz0 hz1 hz2 rfl _ 0 [] hown _ _ _ hsees (one_cls cs) (by unfold maxLen; omega) (by omega)
    have HO := Lib.hid hown'
    have HB := Lib.hid hblk
    have HC := Lib.hid hch
    clear hown' hblk hch hsees hown hl h0 hz0 hz1 hz2 hi
    have HR := Lib.hid hrun
    clear hrun
    go_enter Try.func97, Try.ntmps97
    go_wp2_with (at_builtin; refine wpList_append_run rfl _ _ 22 22 rfl rfl rfl HR.out ?_)
    go_wp2
    go_ret
    refine ⟨v', rfl, by simpa using HO.out, ?_, ?_⟩
    · intro k hk
      rcases HB.out with h | h
      · rw [hk] at h; simp [Value.ownBlock] at h; omega
      · rw [hk] at h; simp at h; omega
    · exact ((Ch.refl _ w).alloc _).trans' HC.out (fun _ _ q => q) (fun i hi q => by simp [Value.ownBlock] at q; omega)

end Go.Proofs.Ytlmeponoadhheaa
