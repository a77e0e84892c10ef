/-
  Texts of this seat, laid one behind the other: Class, Class2, Class3, Class4, RefClass, RefClass2, RefClass3, ClassArg, ClassNew.
-/
import Derived.Test.YtlmeponoadhheaaGen
import Derived.Deep.QuietTactic
import Derived.BigQuiet
/-
  Classes in memory: a class is four cells; contracts of class.small, class.Right, class.New$1.
-/
namespace Go.Proofs.Ytlmeponoadhheaa
set_option linter.unusedVariables false
open Go.RowKit

/-- a class: its kind, references, numbers, whether it is finalized -/
structure Cls where
  kind : Int
  refs : Int
  data : Int
  final : Bool
  deriving DecidableEq

/-- its numbers fit -/
structure Cls.Fits (c : Cls) : Prop where
  k0 : -9223372036854775808 ≤ c.kind
  k1 : c.kind ≤ 9223372036854775807
  r0 : -9223372036854775808 ≤ c.refs
  r1 : c.refs ≤ 9223372036854775807
  d0 : -9223372036854775808 ≤ c.data
  d1 : c.data ≤ 9223372036854775807

def Cls.cells (c : Cls) : List Value := [.int .i64 c.kind, .int .i64 c.refs, .int .i64 c.data, .bool c.final]
def Cls.val (c : Cls) : Value := .agg #[.int .i64 c.kind, .int .i64 c.refs, .int .i64 c.data, .bool c.final]

def Cls.small (c : Cls) : Prop := 0 ≤ c.refs ∧ 0 ≤ c.data ∧ c.refs ≤ 30 ∧ c.data ≤ 30 - c.refs
instance (c : Cls) : Decidable c.small := by unfold Cls.small; infer_instance

def Cls.right (c : Cls) : Prop :=
  (c.kind = 1 ∧ c.small) ∨ (c.kind = 2 ∧ c.refs = 0 ∧ c.data = 0) ∨ ((c.kind = 3 ∨ c.kind = 4 ∨ c.kind = 5) ∧ c.small ∧ 1 ≤ c.refs ∧ 2 ≤ c.data ∧ c.final = false)
instance (c : Cls) : Decidable c.right := by unfold Cls.right; infer_instance

set_option maxHeartbeats 400000 in
theorem small_any (k r d : Int) (f : Bool) (w : World) (hr : -9223372036854775808 ≤ r ∧ r ≤ 9223372036854775807) (hd : -9223372036854775808 ≤ d ∧ d ≤ 9223372036854775807) :
    Calls Try.prog 123 #[.agg #[.int .i64 k, .int .i64 r, .int .i64 d, .bool f]] w fun e w' => e = .returned (.bool (decide (0 ≤ r ∧ 0 ≤ d ∧ r ≤ 30 ∧ d ≤ 30 - r))) ∧ Ch0 w w' := by
  obtain ⟨b, hb⟩ : ∃ b, b = decide (0 ≤ r ∧ 0 ≤ d ∧ r ≤ 30 ∧ d ≤ 30 - r) := ⟨_, rfl⟩
  rw [← hb]
  obtain ⟨hr0, hr1⟩ := hr
  obtain ⟨hd0, hd1⟩ := hd
  by_cases h1 : 0 ≤ r
  · have g1 : decide (0 ≤ r) = true := decide_eq_true h1
    by_cases h2 : 0 ≤ d
    · have g2 : decide (0 ≤ d) = true := decide_eq_true h2
      by_cases h3 : r ≤ 30
      · have g3 : decide (r ≤ 30) = true := decide_eq_true h3
        by_cases h4 : d ≤ 30 - r
        · have g4 : decide (d ≤ 30 - r) = true := decide_eq_true h4
          obtain rfl : b = true := by rw [hb]; exact decide_eq_true ⟨h1, h2, h3, h4⟩
          clear hb
          go_enter Try.func123, Try.ntmps123
          go_wp2
          go_ret
          exact ⟨rfl, (Ch.refl _ _).alloc _⟩
        · have g4 : decide (d ≤ 30 - r) = false := decide_eq_false h4
          obtain rfl : b = false := by rw [hb]; exact decide_eq_false (fun q => h4 q.2.2.2)
          clear hb
          go_enter Try.func123, Try.ntmps123
          go_wp2
          go_ret
          exact ⟨rfl, (Ch.refl _ _).alloc _⟩
      · have g3 : decide (r ≤ 30) = false := decide_eq_false h3
        obtain rfl : b = false := by rw [hb]; exact decide_eq_false (fun q => h3 q.2.2.1)
        clear hb
        go_enter Try.func123, Try.ntmps123
        go_wp2
        go_ret
        exact ⟨rfl, (Ch.refl _ _).alloc _⟩
    · have g2 : decide (0 ≤ d) = false := decide_eq_false h2
      obtain rfl : b = false := by rw [hb]; exact decide_eq_false (fun q => h2 q.2.1)
      clear hb
      go_enter Try.func123, Try.ntmps123
      go_wp2
      go_ret
      exact ⟨rfl, (Ch.refl _ _).alloc _⟩
  · have g1 : decide (0 ≤ r) = false := decide_eq_false h1
    obtain rfl : b = false := by rw [hb]; exact decide_eq_false (fun q => h1 q.1)
    clear hb
    go_enter Try.func123, Try.ntmps123
    go_wp2
    go_ret
    exact ⟨rfl, (Ch.refl _ _).alloc _⟩

/-- what Right answers, for the walk: a name that it does not open -/
def rightB (k r d : Int) (f : Bool) : Bool := decide (Cls.right ⟨k, r, d, f⟩)

set_option maxHeartbeats 1000000 in
theorem right_any (k r d : Int) (f : Bool) (w : World) (hr : -9223372036854775808 ≤ r ∧ r ≤ 9223372036854775807) (hd : -9223372036854775808 ≤ d ∧ d ≤ 9223372036854775807) :
    Calls Try.prog 96 #[.agg #[.int .i64 k, .int .i64 r, .int .i64 d, .bool f]] w fun e w' => e = .returned (.bool (rightB k r d f)) ∧ Ch0 w w' := by
  obtain ⟨b, hb⟩ : ∃ b, b = rightB k r d f := ⟨_, rfl⟩
  rw [← hb]
  unfold rightB Cls.right at hb
  have hsm := fun w => small_any k r d f w hr hd
  have HS := Lib.hid hsm
  clear hsm
  have HB := Lib.hid hb
  clear hb
  by_cases k1 : k = 1
  · subst k1
    go_enter Try.func96, Try.ntmps96
    go_wp2_with fail
    refine (HS.out _).mono ?_
    rintro e w1 ⟨rfl, c1⟩
    have C1 := Lib.hid (((Ch.refl (fun _ => False) w).alloc _).trans c1)
    clear c1
    go_wp2_with fail
    go_ret
    refine ⟨?_, C1.out⟩
    rw [HB.out]
    simp [Cls.small]
  · have e1 : (k == 1) = false := beq_eq_false_iff_ne.2 k1
    by_cases k2 : k = 2
    · subst k2
      by_cases hr0 : r = 0
      · have g1 : (r == 0) = true := beq_iff_eq.2 hr0
        by_cases hd0 : d = 0
        · have g2 : (d == 0) = true := beq_iff_eq.2 hd0
          obtain rfl : b = true := by rw [HB.out]; simp [hr0, hd0]
          clear hr0 hd0
          go_enter Try.func96, Try.ntmps96
          go_wp2_with fail
          go_ret
          exact ⟨rfl, (Ch.refl _ _).alloc _⟩
        · have g2 : (d == 0) = false := beq_eq_false_iff_ne.2 hd0
          obtain rfl : b = false := by rw [HB.out]; simp [hd0]
          clear hr0 hd0
          go_enter Try.func96, Try.ntmps96
          go_wp2_with fail
          go_ret
          exact ⟨rfl, (Ch.refl _ _).alloc _⟩
      · have g1 : (r == 0) = false := beq_eq_false_iff_ne.2 hr0
        obtain rfl : b = false := by rw [HB.out]; simp [hr0]
        clear hr0
        go_enter Try.func96, Try.ntmps96
        go_wp2_with fail
        go_ret
        exact ⟨rfl, (Ch.refl _ _).alloc _⟩
    · have e2 : (k == 2) = false := beq_eq_false_iff_ne.2 k2
      by_cases k345 : k = 3 ∨ k = 4 ∨ k = 5
      · have hk : b = (decide (0 ≤ r ∧ 0 ≤ d ∧ r ≤ 30 ∧ d ≤ 30 - r) && (decide (1 ≤ r) && (decide (2 ≤ d) && !f))) := by
          rw [HB.out, Bool.eq_iff_iff]
          simp [Cls.small, k1, k2, k345, and_assoc]
        have HK := Lib.hid hk
        clear hk k1 k2 HB
        by_cases hs : 0 ≤ r ∧ 0 ≤ d ∧ r ≤ 30 ∧ d ≤ 30 - r
        · have hS : ∀ w, Calls Try.prog 123 #[.agg #[.int .i64 k, .int .i64 r, .int .i64 d, .bool f]] w fun e w' => e = .returned (.bool true) ∧ Ch0 w w' := fun w => by
            have := HS.out w
            rwa [decide_eq_true hs] at this
          have HS' := Lib.hid hS
          rw [decide_eq_true hs] at HK
          clear hS hs HS
          obtain ⟨x1, hx1⟩ : ∃ x, decide (1 ≤ r) = x := ⟨_, rfl⟩
          obtain ⟨x2, hx2⟩ : ∃ x, decide (2 ≤ d) = x := ⟨_, rfl⟩
          rw [hx1, hx2] at HK
          rcases k345 with rfl | rfl | rfl
          all_goals
            cases x1 <;> cases x2
            all_goals
              go_enter Try.func96, Try.ntmps96
              go_wp2_with fail
              refine (HS'.out _).mono ?_
              rintro e w1 ⟨rfl, c1⟩
              have C1 := Lib.hid (((Ch.refl (fun _ => False) w).alloc _).trans c1)
              have m1 := c1.cell (a := ⟨w.heap.size, 1, none⟩) (v := .int .i64 r) (by simp) (fun q => q)
              have m2 := c1.cell (a := ⟨w.heap.size, 2, none⟩) (v := .int .i64 d) (by simp) (fun q => q)
              have m3 := c1.cell (a := ⟨w.heap.size, 3, none⟩) (v := .bool f) (by simp) (fun q => q)
              clear c1
              go_wp2_with fail
              go_ret
              exact ⟨by rw [HK.out]; simp, C1.out⟩
        · have hS : ∀ w, Calls Try.prog 123 #[.agg #[.int .i64 k, .int .i64 r, .int .i64 d, .bool f]] w fun e w' => e = .returned (.bool false) ∧ Ch0 w w' := fun w => by
            have := HS.out w
            rwa [decide_eq_false hs] at this
          have HS' := Lib.hid hS
          rw [decide_eq_false hs] at HK
          clear hS hs HS
          rcases k345 with rfl | rfl | rfl
          all_goals
            go_enter Try.func96, Try.ntmps96
            go_wp2_with fail
            refine (HS'.out _).mono ?_
            rintro e w1 ⟨rfl, c1⟩
            have C1 := Lib.hid (((Ch.refl (fun _ => False) w).alloc _).trans c1)
            clear c1
            go_wp2_with fail
            go_ret
            exact ⟨by rw [HK.out]; rfl, C1.out⟩
      · have e3 : (k == 3) = false := beq_eq_false_iff_ne.2 (by omega)
        have e4 : (k == 4) = false := beq_eq_false_iff_ne.2 (by omega)
        have e5 : (k == 5) = false := beq_eq_false_iff_ne.2 (by omega)
        obtain rfl : b = false := by rw [HB.out]; simp [k1, k2]; omega
        clear k1 k2 k345
        go_enter Try.func96, Try.ntmps96
        go_wp2_with fail
        go_ret
        exact ⟨rfl, (Ch.refl _ _).alloc _⟩

end Go.Proofs.Ytlmeponoadhheaa

/-
  Contracts of class.New$1, slices.IndexFunc, slices.ContainsFunc, slices.Clone at classes; class.New.
-/
namespace Go.Proofs.Ytlmeponoadhheaa
set_option linter.unusedVariables false
open Go.RowKit

theorem Try.info40 : (Try.prog.info? 40).map (fun i => (i.zero, i.size, i.bytes)) = some (some (.agg #[.int .i64 0, .int .i64 0, .int .i64 0, .bool false]), 4, 32) := by kernel_rfl
theorem Try.under22 : Try.prog.underlying 22 = some (.slice 40) := by kernel_rfl

/-- a slice of classes in memory -/
abbrev SeesC (D : Nat → Prop) (w : World) (v : Value) (cs : List Cls) : Prop := Sees D w v 4 cs.length (cs.flatMap Cls.cells)

theorem flat_get (cs : List Cls) (j t : Nat) (hj : j < cs.length) (ht : t < 4) : (cs.flatMap Cls.cells)[j * 4 + t]? = (cs[j].cells)[t]? := by
  induction cs generalizing j with
  | nil => simp at hj
  | cons c cs ih =>
    rw [List.flatMap_cons, List.getElem?_append]
    have hl : c.cells.length = 4 := rfl
    cases j with
    | zero => rw [if_pos (by omega)]; simp
    | succ j =>
      rw [if_neg (by omega), hl, show (j + 1) * 4 + t - 4 = j * 4 + t by omega, ih j (by simpa using hj)]
      simp

theorem SeesC.cells {D : Nat → Prop} {w : World} {v : Value} {cs : List Cls} (h : SeesC D w v cs) (hp : 0 < cs.length) :
    ∃ g o c, D g ∧ v = .slice (some ⟨g, o, none⟩) cs.length c ∧ ∀ j (hj : j < cs.length), w.cell? ⟨g, o + j * 4, none⟩ = some (.int .i64 cs[j].kind) ∧ w.cell? ⟨g, o + j * 4 + 1, none⟩ = some (.int .i64 cs[j].refs) ∧
      w.cell? ⟨g, o + j * 4 + 2, none⟩ = some (.int .i64 cs[j].data) ∧ w.cell? ⟨g, o + j * 4 + 3, none⟩ = some (.bool cs[j].final) := by
  obtain ⟨h0, a, c, hv, hn, hm, hl⟩ := h
  rcases hl with hl | ⟨g, o, hg, rfl, hi⟩
  · omega
  · refine ⟨g, o, c, hg, hv, fun j hj => ?_⟩
    have key : ∀ t u, t < 4 → cs[j].cells[t]? = some u → w.cell? ⟨g, o + j * 4 + t, none⟩ = some u := fun t u ht hu => by
      rw [Nat.add_assoc]
      exact hi (j * 4 + t) u (by rw [flat_get cs j t hj ht]; exact hu)
    exact ⟨key 0 _ (by omega) rfl, key 1 _ (by omega) rfl, key 2 _ (by omega) rfl, key 3 _ (by omega) rfl⟩

def Cls.rightB (c : Cls) : Bool := Go.Proofs.Ytlmeponoadhheaa.rightB c.kind c.refs c.data c.final
def allRight (cs : List Cls) : Bool := cs.all Cls.rightB

set_option maxHeartbeats 400000 in
theorem lit_any (k r d : Int) (f : Bool) (w : World) (hr : -9223372036854775808 ≤ r ∧ r ≤ 9223372036854775807) (hd : -9223372036854775808 ≤ d ∧ d ≤ 9223372036854775807) :
    Calls Try.prog 95 #[.agg #[.int .i64 k, .int .i64 r, .int .i64 d, .bool f]] w fun e w' => e = .returned (.bool (!rightB k r d f)) ∧ Ch0 w w' := by
  have hR := fun w => right_any k r d f w hr hd
  generalize rightB k r d f = b at *
  have HR := Lib.hid hR
  clear hR
  go_enter Try.func95, Try.ntmps95
  go_wp2_with fail
  refine (HR.out _).mono ?_
  rintro e w1 ⟨rfl, c1⟩
  have C1 := Lib.hid (((Ch.refl (fun _ => False) w).alloc _).trans c1)
  clear c1
  go_wp2_with fail
  go_ret
  exact ⟨by simp, C1.out⟩

def Fit (cs : List Cls) : Prop := ∀ c ∈ cs, c.Fits

set_option maxHeartbeats 1000000 in
theorem idx_any (D : Nat → Prop) (v : Value) (cs : List Cls) (w : World) (hv : SeesC D w v cs) (hf : Fit cs) :
    Calls Try.prog 122 #[v, .func (.func 95) #[] #[]] w fun e w' => (∃ i : Int, e = .returned (.int .i64 i) ∧ decide (0 ≤ i) = !allRight cs) ∧ Ch0 w w' := by
  obtain ⟨a, c, rfl, hl⟩ := hv.len
  have HV := Lib.hid hv
  have HF := Lib.hid hf
  clear hv hf
  go_enter Try.func122, Try.ntmps122
  go_wp2_with fail
  go_loopw [8] (fun i wr => ∃ j : Nat, j ≤ cs.length ∧ i = .int .i64 j ∧ (∀ m (hm : m < cs.length), m < j → cs[m].rightB = true) ∧ Ch0 w wr) (fun i _ => cs.length - (intOf i).toNat)
  case atStart => exact ⟨0, Nat.zero_le _, rfl, fun m _ h => by omega, Ch.refl _ _⟩
  case round =>
    obtain ⟨j, hj, rfl, hall, hc⟩ := hrel
    have HA := Lib.hid hall
    have HC := Lib.hid hc
    clear hall hc
    by_cases hlt : j < cs.length
    · obtain ⟨g, o, c', hg, hsl, hcells⟩ := SeesC.cells (HV.out.keep HC.out (fun _ _ q => q)) (by omega)
      obtain ⟨rfl, rfl⟩ : a = some ⟨g, o, none⟩ ∧ c = c' := by simpa using hsl
      obtain ⟨m0, m1, m2, m3⟩ := hcells j hlt
      have hfit := HF.out cs[j] (List.getElem_mem hlt)
      have hL := lit_any cs[j].kind cs[j].refs cs[j].data cs[j].final
      obtain ⟨b, hb⟩ : ∃ b, rightB cs[j].kind cs[j].refs cs[j].data cs[j].final = b := ⟨_, rfl⟩
      have hL' := fun w => hL w ⟨hfit.r0, hfit.r1⟩ ⟨hfit.d0, hfit.d1⟩
      rw [hb] at hL'
      have HL := Lib.hid hL'
      have HB : Hid (cs[j].rightB = b) := hb
      clear hsl hcells hfit hL hL' hb
      generalize cs[j].kind = k at *
      generalize cs[j].refs = r at *
      generalize cs[j].data = d at *
      generalize cs[j].final = f at *
      go_wp2_with fail
      refine (HL.out _).mono ?_
      rintro e w1 ⟨rfl, c1⟩
      have C1 := Lib.hid (HC.out.trans c1)
      clear c1
      cases b
      · go_wp2_with fail
        go_ret
        refine ⟨⟨j, rfl, ?_⟩, C1.out⟩
        have : allRight cs = false := by
          rw [allRight, List.all_eq_false]
          exact ⟨cs[j], List.getElem_mem hlt, by rw [HB.out]; simp⟩
        rw [this]; simp
      · go_wp2_with fail
        go_roundw
        case rel =>
          refine ⟨j + 1, by omega, by go_num, fun m hm hmj => ?_, C1.out⟩
          by_cases e : m = j
          · subst e; exact HB.out
          · exact HA.out m hm (by omega)
        case measure => simp [intOf]; omega
    · obtain rfl : j = cs.length := by omega
      go_wp2_with fail
      go_ret
      refine ⟨⟨-1, rfl, ?_⟩, HC.out⟩
      have : allRight cs = true := by
        rw [allRight, List.all_eq_true]
        intro x hx
        obtain ⟨i, hi, rfl⟩ := List.getElem_of_mem hx
        exact HA.out i hi hi
      rw [this]; rfl

set_option maxHeartbeats 400000 in
theorem cont_any (D : Nat → Prop) (v : Value) (cs : List Cls) (w : World) (hv : SeesC D w v cs) (hf : Fit cs) :
    Calls Try.prog 94 #[v, .func (.func 95) #[] #[]] w fun e w' => e = .returned (.bool (!allRight cs)) ∧ Ch0 w w' := by
  have H := Lib.hid (idx_any D v cs w hv hf)
  clear hv hf
  go_enter Try.func94, Try.ntmps94
  go_wp2_with fail
  refine H.out.mono ?_
  rintro e w1 ⟨⟨i, rfl, hi⟩, c1⟩
  have C1 := Lib.hid c1
  have HI := Lib.hid hi
  clear c1 hi
  go_wp2_with fail
  go_ret
  exact ⟨by rw [← HI.out]; rfl, C1.out⟩

theorem one_cls (cs : List Cls) : ∀ u ∈ cs.flatMap Cls.cells, u.oneCell' = true := by
  intro u hu
  obtain ⟨c, _, hc⟩ := List.mem_flatMap.1 hu
  simp [Cls.cells] at hc
  rcases hc with rfl | rfl | rfl | rfl <;> rfl

set_option maxHeartbeats 400000 in
theorem clone_cls (D : Nat → Prop) (v : Value) (cs : List Cls) (w : World) (h : SeesC D w v cs) (hb : cs.length ≤ 1000000) :
    Calls Try.prog 97 #[v] w fun e w' => ∃ u, e = .returned u ∧ w'.ownsRow 0 40 4 u cs.length (cs.flatMap Cls.cells) ∧ (∀ k, u.ownBlock = some k → w.heap.size ≤ k) ∧ Ch0 w w' := by
  obtain ⟨i0, hi, hz0, hz1, hz2⟩ := info_parts Try.info40
  have hsees := h.keep (((Ch.refl (fun _ => False) w)).alloc (.cells #[] 40)) (fun _ _ q => q)
  obtain ⟨h0, a, c, rfl, hc, hm, hl⟩ := h
  cases a with
  | none =>
    have hx : cs.length = 0 := by
      rcases hl with hl | ⟨g, o, _, hn, _⟩
      · exact hl
      · cases hn
    obtain rfl : cs = [] := List.eq_nil_of_length_eq_zero hx
    have hnil : (binOp .eql 22 (.slice none 0 c) (.slice none 0 0)).run Try.prog w = .ok (.bool true) w := Lib.run_eql_slice_nil w 22 40 none 0 c 0 0 Try.under22
    clear hz0 hz1 hz2 hi h0 hl hx hsees
    go_enter Try.func97, Try.ntmps97
    go_wp2
    go_ret
    exact ⟨_, rfl, World.ownsRow_nil _ _ _ _, fun k hk => by simp [Value.ownBlock] at hk, Ch.refl _ _⟩
  | some a =>
    have hnil : (binOp .eql 22 (.slice (some a) cs.length c) (.slice none 0 0)).run Try.prog w = .ok (.bool false) w := Lib.run_eql_slice_nil w 22 40 (some a) _ c 0 0 Try.under22
    have hown : (w.alloc (.cells #[] 40)).ownsRow 0 40 4 (.slice (some ⟨w.heap.size, 0, none⟩) 0 0) 0 [] :=
      owns_block_empty (heap_alloc_new w _) (by simp) (by decide)
    obtain ⟨v', w', hrun, hown', hch, hblk, _⟩ := append_law (P := Try.prog) (w.alloc (.cells #[] 40)) 22 22 40 i0 _ 4 32 Try.under22 hi hz0 hz1 hz2 rfl _ 0 [] hown _ _ _ hsees (one_cls cs) (by unfold maxLen; omega) (by omega)
    have HO := Lib.hid hown'
    have HB := Lib.hid hblk
    have HC := Lib.hid hch
    clear hown' hblk hch hsees hown hl h0 hz0 hz1 hz2 hi
    have HR := Lib.hid hrun
    clear hrun
    go_enter Try.func97, Try.ntmps97
    go_wp2_with (at_builtin; refine wpList_append_run rfl _ _ 22 22 rfl rfl rfl HR.out ?_)
    go_wp2
    go_ret
    refine ⟨v', rfl, by simpa using HO.out, ?_, ?_⟩
    · intro k hk
      rcases HB.out with h | h
      · rw [hk] at h; simp [Value.ownBlock] at h; omega
      · rw [hk] at h; simp at h; omega
    · exact ((Ch.refl _ w).alloc _).trans' HC.out (fun _ _ q => q) (fun i hi q => by simp [Value.ownBlock] at q; omega)

end Go.Proofs.Ytlmeponoadhheaa

/-
  A table of classes in memory; contracts of class.New, Len, Of.
-/
namespace Go.Proofs.Ytlmeponoadhheaa
set_option linter.unusedVariables false
open Go.RowKit

/-- A table of classes: its one cell at block p, its classes; all lies in the blocks from lo up to hi. -/
structure Tab (lo hi : Nat) (w : World) (p : Nat) (cs : List Cls) : Prop where
  plo : lo ≤ p
  phi : p < hi
  le : cs.length < 64
  v : ∃ v, w.heap[p]? = some (.cells #[v] 127 (0, 0)) ∧ SeesC (fun k => lo ≤ k ∧ k < hi) w v cs
  fit : Fit cs
  right : allRight cs = true

theorem Tab.keep {lo hi : Nat} {S : Nat → Prop} {w w' : World} {p : Nat} {cs : List Cls} (h : Tab lo hi w p cs) (hc : Ch S w w') (hs : ∀ k, lo ≤ k → k < hi → ¬ S k) : Tab lo hi w' p cs := by
  obtain ⟨v, h1, h2⟩ := h.v
  exact ⟨h.plo, h.phi, h.le, ⟨v, hc.keep h1 (hs p h.plo h.phi), h2.keep hc (fun k hk => hs k hk.1 hk.2)⟩, h.fit, h.right⟩

theorem Tab.mono {lo hi lo' hi' : Nat} {w : World} {p : Nat} {cs : List Cls} (h : Tab lo hi w p cs) (h1 : lo' ≤ lo) (h2 : hi ≤ hi') : Tab lo' hi' w p cs := by
  obtain ⟨v, e1, e2⟩ := h.v
  exact ⟨Nat.le_trans h1 h.plo, Nat.lt_of_lt_of_le h.phi h2, h.le, ⟨v, e1, e2.mono (fun k hk => ⟨by omega, by omega⟩)⟩, h.fit, h.right⟩

set_option maxHeartbeats 400000 in
theorem new_wrong (D : Nat → Prop) (v : Value) (cs : List Cls) (w : World) (hv : SeesC D w v cs) (hf : Fit cs) (hr : allRight cs = false) :
    Calls Try.prog 30 #[v] w fun e w' => e = .returned (.tuple #[.pointer none, .int .i64 1]) ∧ Ch0 w w' := by
  have h := cont_any D v cs w hv hf
  rw [hr] at h
  have H := Lib.hid h
  clear h hv hf hr
  go_enter Try.func30, Try.ntmps30
  go_wp2_with fail
  refine H.out.mono ?_
  rintro e w1 ⟨rfl, c1⟩
  have C1 := Lib.hid c1
  clear c1
  go_wp2_with fail
  go_ret2
  exact ⟨rfl, C1.out⟩

set_option maxHeartbeats 400000 in
theorem new_full (D : Nat → Prop) (v : Value) (cs : List Cls) (w : World) (hv : SeesC D w v cs) (hf : Fit cs) (hr : allRight cs = true) (hl : 64 ≤ cs.length) :
    Calls Try.prog 30 #[v] w fun e w' => e = .returned (.tuple #[.pointer none, .int .i64 3]) ∧ Ch0 w w' := by
  have h := cont_any D v cs w hv hf
  rw [hr] at h
  have H := Lib.hid h
  obtain ⟨a, c, rfl, -⟩ := hv.len
  clear h hv hf hr
  go_enter Try.func30, Try.ntmps30
  go_wp2_with fail
  refine H.out.mono ?_
  rintro e w1 ⟨rfl, c1⟩
  have C1 := Lib.hid c1
  clear c1
  go_wp2_with fail
  go_ret2
  exact ⟨rfl, C1.out⟩

set_option maxHeartbeats 400000 in
theorem new_yes (D : Nat → Prop) (v : Value) (cs : List Cls) (w : World) (hv : SeesC D w v cs) (hf : Fit cs) (hr : allRight cs = true) (hl : cs.length < 64) :
    Calls Try.prog 30 #[v] w fun e w' => (∃ p, e = .returned (.tuple #[.pointer (some ⟨p, 0, none⟩), .int .i64 0]) ∧ Tab w.heap.size w'.heap.size w' p cs) ∧ Ch0 w w' := by
  have h := cont_any D v cs w hv hf
  rw [hr] at h
  have H := Lib.hid h
  have HC := Lib.hid (fun w' (hc : Ch0 w w') => clone_cls D v cs w' (hv.keep hc (fun _ _ q => q)) (by omega))
  obtain ⟨a, c, rfl, -⟩ := hv.len
  have HF := Lib.hid hf
  have HR := Lib.hid hr
  clear h hv hf hr
  go_enter Try.func30, Try.ntmps30
  go_wp2_with fail
  refine H.out.mono ?_
  rintro e w1 ⟨rfl, c1⟩
  have C1 := Lib.hid c1
  clear c1
  go_wp2_with fail
  refine (HC.out _ C1.out).mono ?_
  rintro e w2 ⟨u, rfl, ho, hb, c2⟩
  have C2 := Lib.hid (C1.out.trans c2)
  have s1 := C1.out.size
  obtain ⟨ua, uc, rfl, -⟩ := (sees_of_owns ho).len
  have HO := Lib.hid ho
  have HB := Lib.hid hb
  clear c2 ho hb
  go_wp2_with fail
  go_ret2
  refine ⟨⟨w2.heap.size, rfl, ?_⟩, C2.out.alloc _⟩
  have s2 := C2.out.size
  refine ⟨s2, by simp, hl, ⟨_, heap_alloc_new w2 _, ?_⟩, HF.out, HR.out⟩
  have hs := (sees_of_owns HO.out).keep ((Ch.refl (fun _ => False) w2).alloc (.cells #[.slice ua cs.length uc] 127)) (fun _ _ q => q)
  refine hs.mono (fun k hk => ?_)
  have h1 := HB.out k hk
  have h2 := owns_lt HO.out hk
  simp
  omega

set_option maxHeartbeats 400000 in
theorem tlen_any (lo hi p : Nat) (cs : List Cls) (w : World) (h : Tab lo hi w p cs) :
    Calls Try.prog 124 #[.pointer (some ⟨p, 0, none⟩)] w fun e w' => e = .returned (.int .i64 cs.length) ∧ w = w' := by
  obtain ⟨v, h1, h2⟩ := h.v
  obtain ⟨a, c, rfl, -⟩ := h2.len
  have hc := cell_of_one h1
  clear h h1 h2
  go_enter Try.func124, Try.ntmps124
  go_wp2
  go_ret
  exact ⟨rfl, rfl⟩

set_option maxHeartbeats 400000 in
theorem tlen_nil (w : World) : Calls Try.prog 124 #[.pointer none] w fun e w' => e = .returned (.int .i64 ((0 : Nat) : Int)) ∧ w = w' := by
  go_enter Try.func124, Try.ntmps124
  go_wp2
  go_ret
  exact ⟨rfl, rfl⟩

def Cls.none : Cls := ⟨0, 0, 0, false⟩

set_option maxHeartbeats 400000 in
theorem of_no (v : Value) (L : Nat) (n : Int) (w : World) (hL : L < 64) (hlen : ∀ w', Ch0 w w' → Calls Try.prog 124 #[v] w' fun e w'' => e = .returned (.int .i64 L) ∧ w' = w'') (hn : ¬ (1 ≤ n ∧ n ≤ L)) :
    Calls Try.prog 100 #[v, .int .i64 n] w fun e w' => e = .returned (.tuple #[Cls.none.val, .int .i64 4]) ∧ Ch0 w w' := by
  have HL := Lib.hid hlen
  clear hlen
  by_cases h1 : n < 1
  · clear hn
    go_enter Try.func100, Try.ntmps100
    go_wp2_with fail
    exact bodyPost_ret (v := .tuple #[Cls.none.val, .int .i64 4]) (by simp [results, Try.results100, go_sem]; rfl) rfl ⟨rfl, (Ch.refl _ _).alloc _⟩
  · have h2 : (L : Int) < n := by omega
    clear hn
    go_enter Try.func100, Try.ntmps100
    go_wp2_with fail
    refine (HL.out _ ((Ch.refl _ _).alloc _)).mono ?_
    rintro e w' ⟨rfl, rfl⟩
    go_wp2_with fail
    exact bodyPost_ret (v := .tuple #[Cls.none.val, .int .i64 4]) (by simp [results, Try.results100, go_sem]; rfl) rfl ⟨rfl, (Ch.refl _ _).alloc _⟩

set_option maxHeartbeats 400000 in
theorem of_yes (lo hi p : Nat) (cs : List Cls) (i : Nat) (hi' : i < cs.length) (w : World) (h : Tab lo hi w p cs) :
    Calls Try.prog 100 #[.pointer (some ⟨p, 0, none⟩), .int .i64 (i + 1)] w fun e w' => e = .returned (.tuple #[cs[i].val, .int .i64 0]) ∧ Ch0 w w' := by
  have HL := Lib.hid (fun w' (hc : Ch0 w w') => tlen_any lo hi p cs w' (h.keep hc (fun _ _ _ q => q)))
  obtain ⟨v, h1, h2⟩ := h.v
  have hp := lt_of_block h1
  obtain ⟨g, o, c, hg, rfl, hcells⟩ := SeesC.cells h2 (by omega)
  obtain ⟨m0, m1, m2, m3⟩ := hcells i hi'
  have hgl := block_lt_of_cell m0
  have hc := cell_of_one h1
  have hle := h.le
  clear h h1 h2 hcells
  unfold Cls.val
  generalize cs[i].kind = k at *
  generalize cs[i].refs = r at *
  generalize cs[i].data = d at *
  generalize cs[i].final = f at *
  go_enter Try.func100, Try.ntmps100
  go_wp2_with fail
  refine (HL.out _ ((Ch.refl _ _).alloc _)).mono ?_
  rintro e w' ⟨rfl, rfl⟩
  go_wp2_with fail
  exact bodyPost_ret (v := .tuple #[.agg #[.int .i64 k, .int .i64 r, .int .i64 d, .bool f], .int .i64 0]) (by simp [results, Try.results100, go_sem]) rfl ⟨rfl, (Ch.refl _ _).alloc _⟩

end Go.Proofs.Ytlmeponoadhheaa

/-
  Contracts of Shape, Words, Holds of a table of classes.
-/
namespace Go.Proofs.Ytlmeponoadhheaa
set_option linter.unusedVariables false
open Go.RowKit

theorem rightB_of (c : Cls) : c.rightB = true ↔ c.right := by unfold Cls.rightB Go.Proofs.Ytlmeponoadhheaa.rightB; simp

theorem allRight_get {cs : List Cls} (h : allRight cs = true) (i : Nat) (hi : i < cs.length) : cs[i].right := by
  rw [allRight, List.all_eq_true] at h
  exact (rightB_of _).1 (h _ (List.getElem_mem hi))

/-- what Shape answers of a class: references, numbers, the error's number -/
def shape1 (c : Cls) (length : Int) : Int × Int × Int :=
  if length < 0 ∨ (0 < length ∧ c.kind ≠ 2) then (0, 0, 1) else if 30 < length then (0, 0, 8) else (c.refs + length, c.data, 0)

def shapeC (cs : List Cls) (n length : Int) : Int × Int × Int :=
  if h : 1 ≤ n ∧ n ≤ cs.length then shape1 (cs[(n - 1).toNat]'(by omega)) length else (0, 0, 4)

theorem right_small {c : Cls} (h : c.right) : 0 ≤ c.refs ∧ 0 ≤ c.data ∧ c.refs + c.data ≤ 30 := by
  rcases h with ⟨_, h⟩ | ⟨_, h1, h2⟩ | ⟨_, h, _⟩
  · unfold Cls.small at h; omega
  · omega
  · unfold Cls.small at h; omega

set_option maxHeartbeats 400000 in
theorem shape_no (v : Value) (n l : Int) (w : World) (h : Calls Try.prog 100 #[v, .int .i64 n] w fun e w' => e = .returned (.tuple #[Cls.none.val, .int .i64 4]) ∧ Ch0 w w') :
    Calls Try.prog 98 #[v, .int .i64 n, .int .i64 l] w fun e w' => e = .returned (.tuple #[.int .i64 0, .int .i64 0, .int .i64 4]) ∧ Ch0 w w' := by
  have H := Lib.hid h
  clear h
  go_enter Try.func98, Try.ntmps98
  go_wp2_with fail
  refine H.out.mono ?_
  rintro e w1 ⟨rfl, c1⟩
  have C1 := Lib.hid c1
  clear c1
  unfold Cls.none Cls.val
  go_wp2_with fail
  go_ret3
  exact ⟨rfl, C1.out.alloc _⟩

set_option maxHeartbeats 1000000 in
theorem shape_yes (v : Value) (n l : Int) (c : Cls) (hr : c.right) (w : World) (h : Calls Try.prog 100 #[v, .int .i64 n] w fun e w' => e = .returned (.tuple #[c.val, .int .i64 0]) ∧ Ch0 w w') :
    Calls Try.prog 98 #[v, .int .i64 n, .int .i64 l] w fun e w' => e = .returned (.tuple #[.int .i64 (shape1 c l).1, .int .i64 (shape1 c l).2.1, .int .i64 (shape1 c l).2.2]) ∧ Ch0 w w' := by
  have hsm := right_small hr
  clear hr
  obtain ⟨hs1, hs2, hs3⟩ := hsm
  obtain ⟨k, r, d, f⟩ := c
  have H := Lib.hid h
  clear h
  unfold Cls.val at H
  simp only at hs1 hs2 hs3
  by_cases h0 : l < 0
  · have e1 : shape1 ⟨k, r, d, f⟩ l = (0, 0, 1) := by unfold shape1; rw [if_pos (.inl h0)]
    rw [e1]
    clear e1
    go_enter Try.func98, Try.ntmps98
    go_wp2_with fail
    refine H.out.mono ?_
    rintro e w1 ⟨rfl, c1⟩
    have C1 := Lib.hid c1
    clear c1
    go_wp2_with fail
    go_ret3
    exact ⟨rfl, C1.out.alloc _⟩
  · by_cases hl0 : 0 < l
    · by_cases hk : k = 2
      · subst hk
        by_cases h30 : 30 < l
        · have e1 : shape1 ⟨2, r, d, f⟩ l = (0, 0, 8) := by unfold shape1; rw [if_neg (by simp; omega), if_pos h30]
          rw [e1]
          clear e1
          go_enter Try.func98, Try.ntmps98
          go_wp2_with fail
          refine H.out.mono ?_
          rintro e w1 ⟨rfl, c1⟩
          have C1 := Lib.hid c1
          clear c1
          go_wp2_with fail
          go_ret3
          exact ⟨rfl, C1.out.alloc _⟩
        · have e1 : shape1 ⟨2, r, d, f⟩ l = (r + l, d, 0) := by unfold shape1; rw [if_neg (by simp; omega), if_neg h30]
          rw [e1]
          clear e1
          go_enter Try.func98, Try.ntmps98
          go_wp2_with fail
          refine H.out.mono ?_
          rintro e w1 ⟨rfl, c1⟩
          have C1 := Lib.hid c1
          clear c1
          go_wp2_with fail
          have q1 : IntKind.i64.wrap (r + l) = r + l := IntWalk.i64_in _ (by omega)
          go_quiet (fail)
          clear q1
          go_wp2_with fail
          go_ret3
          exact ⟨rfl, (C1.out.alloc _).drewN _⟩
      · have hk' : (k != 2) = true := bne_iff_ne.2 hk
        have e1 : shape1 ⟨k, r, d, f⟩ l = (0, 0, 1) := by unfold shape1; rw [if_pos (.inr ⟨hl0, hk⟩)]
        rw [e1]
        clear e1 hk
        go_enter Try.func98, Try.ntmps98
        go_wp2_with fail
        refine H.out.mono ?_
        rintro e w1 ⟨rfl, c1⟩
        have C1 := Lib.hid c1
        clear c1
        go_wp2_with fail
        go_ret3
        exact ⟨rfl, C1.out.alloc _⟩
    · obtain rfl : l = 0 := by omega
      have e1 : shape1 ⟨k, r, d, f⟩ 0 = (r, d, 0) := by unfold shape1; rw [if_neg (by simp), if_neg (by omega)]; simp
      rw [e1]
      clear e1
      go_enter Try.func98, Try.ntmps98
      go_wp2_with fail
      refine H.out.mono ?_
      rintro e w1 ⟨rfl, c1⟩
      have C1 := Lib.hid c1
      clear c1
      go_wp2_with fail
      have q1 : IntKind.i64.wrap r = r := IntWalk.i64_in _ (by omega)
      have q2 : IntKind.i64.wrap (r + 0) = r := by rw [Int.add_zero]; exact q1
      go_quiet (fail)
      clear q1 q2
      go_wp2_with fail
      go_ret3
      exact ⟨by simp, (C1.out.alloc _).drewN _⟩

theorem shape_any (lo hi p : Nat) (cs : List Cls) (n l : Int) (w : World) (h : Tab lo hi w p cs) :
    Calls Try.prog 98 #[.pointer (some ⟨p, 0, none⟩), .int .i64 n, .int .i64 l] w fun e w' =>
      e = .returned (.tuple #[.int .i64 (shapeC cs n l).1, .int .i64 (shapeC cs n l).2.1, .int .i64 (shapeC cs n l).2.2]) ∧ Ch0 w w' := by
  unfold shapeC
  by_cases hn : 1 ≤ n ∧ n ≤ cs.length
  · rw [dif_pos hn]
    obtain ⟨i, rfl⟩ : ∃ i : Nat, n = (i : Int) + 1 := ⟨(n - 1).toNat, by omega⟩
    have hi' : i < cs.length := by omega
    have := shape_yes _ ((i : Int) + 1) l cs[i] (allRight_get h.right i hi') w (of_yes lo hi p cs i hi' w h)
    simpa [show ((i : Int) + 1 - 1).toNat = i by omega] using this
  · rw [dif_neg hn]
    exact shape_no _ n l w (of_no _ cs.length n w h.le (fun w' hc => tlen_any lo hi p cs w' (h.keep hc (fun _ _ _ q => q))) hn)

theorem shape_nil (n l : Int) (w : World) :
    Calls Try.prog 98 #[.pointer none, .int .i64 n, .int .i64 l] w fun e w' => e = .returned (.tuple #[.int .i64 0, .int .i64 0, .int .i64 4]) ∧ Ch0 w w' :=
  shape_no _ n l w (of_no _ 0 n w (by omega) (fun w' _ => tlen_nil w') (by omega))

def wordsOf (s : Int × Int × Int) : Int := if s.2.2 = 0 then 2 + s.1 + s.2.1 else 0

theorem shapeC_bounds {lo hi p : Nat} {cs : List Cls} {w : World} (h : Tab lo hi w p cs) (n l : Int) : (shapeC cs n l).2.2 = 0 → 0 ≤ (shapeC cs n l).1 ∧ (shapeC cs n l).1 ≤ 60 ∧ 0 ≤ (shapeC cs n l).2.1 ∧ (shapeC cs n l).2.1 ≤ 60 := by
  unfold shapeC
  by_cases hn : 1 ≤ n ∧ n ≤ cs.length
  · rw [dif_pos hn]
    have := right_small (allRight_get h.right (n - 1).toNat (by omega))
    unfold shape1
    split
    · intro h; simp at h
    · split
      · intro h; simp at h
      · intro _; refine ⟨?_, ?_, ?_, ?_⟩ <;> dsimp only <;> omega
  · rw [dif_neg hn]; intro h; simp at h

/-! ### Holds -/

def holds1 (c : Cls) (field : Int) : Bool := decide (0 ≤ field) && (decide (0 < field) || (c.kind == 1 || c.kind == 2))

def holdsC (cs : List Cls) (n field : Int) : Bool := if h : 1 ≤ n ∧ n ≤ cs.length then holds1 (cs[(n - 1).toNat]'(by omega)) field else false

set_option maxHeartbeats 400000 in
theorem holds_no (v : Value) (n l : Int) (w : World) (h : Calls Try.prog 100 #[v, .int .i64 n] w fun e w' => e = .returned (.tuple #[Cls.none.val, .int .i64 4]) ∧ Ch0 w w') :
    Calls Try.prog 102 #[v, .int .i64 n, .int .i64 l] w fun e w' => e = .returned (.bool false) ∧ Ch0 w w' := by
  have H := Lib.hid h
  clear h
  go_enter Try.func102, Try.ntmps102
  go_wp2_with fail
  refine H.out.mono ?_
  rintro e w1 ⟨rfl, c1⟩
  have C1 := Lib.hid c1
  clear c1
  unfold Cls.none Cls.val
  go_wp2_with fail
  go_ret
  exact ⟨rfl, C1.out.alloc _⟩

set_option maxHeartbeats 1000000 in
theorem holds_yes (v : Value) (n l : Int) (c : Cls) (w : World) (h : Calls Try.prog 100 #[v, .int .i64 n] w fun e w' => e = .returned (.tuple #[c.val, .int .i64 0]) ∧ Ch0 w w') :
    Calls Try.prog 102 #[v, .int .i64 n, .int .i64 l] w fun e w' => e = .returned (.bool (holds1 c l)) ∧ Ch0 w w' := by
  obtain ⟨k, r, d, f⟩ := c
  have H := Lib.hid h
  clear h
  unfold Cls.val at H
  simp only at H
  by_cases h0 : l < 0
  · have e1 : holds1 ⟨k, r, d, f⟩ l = false := by unfold holds1; rw [decide_eq_false (by omega)]; rfl
    rw [e1]
    clear e1
    have g0 : decide (0 ≤ l) = false := decide_eq_false (by omega)
    go_enter Try.func102, Try.ntmps102
    go_wp2_with fail
    refine H.out.mono ?_
    rintro e w1 ⟨rfl, c1⟩
    have C1 := Lib.hid c1
    clear c1
    go_wp2_with fail
    go_ret
    exact ⟨rfl, C1.out.alloc _⟩
  · have g0 : decide (0 ≤ l) = true := decide_eq_true (by omega)
    by_cases h1 : 0 < l
    · have e1 : holds1 ⟨k, r, d, f⟩ l = true := by unfold holds1; rw [g0, decide_eq_true h1]; rfl
      rw [e1]
      clear e1
      have g1 : decide (0 < l) = true := decide_eq_true h1
      go_enter Try.func102, Try.ntmps102
      go_wp2_with fail
      refine H.out.mono ?_
      rintro e w1 ⟨rfl, c1⟩
      have C1 := Lib.hid c1
      clear c1
      go_wp2_with fail
      go_ret
      exact ⟨rfl, C1.out.alloc _⟩
    · obtain rfl : l = 0 := by omega
      by_cases k1 : k = 1
      · subst k1
        have e1 : holds1 ⟨1, r, d, f⟩ 0 = true := by simp [holds1]
        rw [e1]
        clear e1
        go_enter Try.func102, Try.ntmps102
        go_wp2_with fail
        refine H.out.mono ?_
        rintro e w1 ⟨rfl, c1⟩
        have C1 := Lib.hid c1
        clear c1
        go_wp2_with fail
        go_ret
        exact ⟨rfl, C1.out.alloc _⟩
      · have k1' : (k == 1) = false := beq_eq_false_iff_ne.2 k1
        have e1 : holds1 ⟨k, r, d, f⟩ 0 = (k == 2) := by simp [holds1, k1']
        rw [e1]
        clear e1 k1
        obtain ⟨b, hb⟩ : ∃ b, (k == 2) = b := ⟨_, rfl⟩
        rw [hb]
        go_enter Try.func102, Try.ntmps102
        go_wp2_with fail
        refine H.out.mono ?_
        rintro e w1 ⟨rfl, c1⟩
        have C1 := Lib.hid c1
        clear c1
        go_wp2_with fail
        go_ret
        exact ⟨rfl, C1.out.alloc _⟩

theorem holds_any (lo hi p : Nat) (cs : List Cls) (n l : Int) (w : World) (h : Tab lo hi w p cs) :
    Calls Try.prog 102 #[.pointer (some ⟨p, 0, none⟩), .int .i64 n, .int .i64 l] w fun e w' => e = .returned (.bool (holdsC cs n l)) ∧ Ch0 w w' := by
  unfold holdsC
  by_cases hn : 1 ≤ n ∧ n ≤ cs.length
  · rw [dif_pos hn]
    obtain ⟨i, rfl⟩ : ∃ i : Nat, n = (i : Int) + 1 := ⟨(n - 1).toNat, by omega⟩
    have hi' : i < cs.length := by omega
    have := holds_yes _ ((i : Int) + 1) l cs[i] w (of_yes lo hi p cs i hi' w h)
    simpa [show ((i : Int) + 1 - 1).toNat = i by omega] using this
  · rw [dif_neg hn]
    exact holds_no _ n l w (of_no _ cs.length n w h.le (fun w' hc => tlen_any lo hi p cs w' (h.keep hc (fun _ _ _ q => q))) hn)

theorem holds_nil (n l : Int) (w : World) : Calls Try.prog 102 #[.pointer none, .int .i64 n, .int .i64 l] w fun e w' => e = .returned (.bool false) ∧ Ch0 w w' :=
  holds_no _ n l w (of_no _ 0 n w (by omega) (fun w' _ => tlen_nil w') (by omega))

end Go.Proofs.Ytlmeponoadhheaa

/-
  Contracts of the document's Right, New, Shape, Holds of classes.
-/
namespace Go.Proofs.Ytlmeponoadhheaa
set_option linter.unusedVariables false
open Go.RowKit

theorem rightB_eq (k r d : Int) (f : Bool) : rightB k r d f = decide (Cls.right ⟨k, r, d, f⟩) := rfl

theorem rightB_out (k r d : Int) (f : Bool) (h : r < 0 ∨ d < 0 ∨ 32 < r ∨ 32 < d) : rightB k r d f = false := by
  rw [rightB_eq]
  apply decide_eq_false
  intro q
  have := right_small q
  simp at this
  omega

theorem rightB_1 (r d : Int) (f : Bool) (h : 0 ≤ r ∧ 0 ≤ d ∧ r ≤ 32 ∧ d ≤ 32) : rightB 1 r d f = decide (2 + r + d ≤ 32) := by
  rw [rightB_eq, Bool.eq_iff_iff]
  simp only [decide_eq_true_iff, Cls.right, Cls.small]
  constructor
  · rintro (⟨_, q⟩ | ⟨q, _⟩ | ⟨q, _⟩)
    · have := q.2.2.2; omega
    · cases q
    · omega
  · intro q; exact .inl ⟨by trivial, h.1, h.2.1, by show r ≤ 30; omega, by show d ≤ 30 - r; omega⟩

theorem rightB_2 (r d : Int) (f : Bool) : rightB 2 r d f = ((r == 0) && (d == 0)) := by
  rw [rightB_eq, Bool.eq_iff_iff]
  simp [Cls.right]

theorem rightB_345 (k r d : Int) (f : Bool) (h : 0 ≤ r ∧ 0 ≤ d ∧ r ≤ 32 ∧ d ≤ 32) (hk : k = 3 ∨ k = 4 ∨ k = 5) : rightB k r d f = (decide (2 + r + d ≤ 32) && (decide (1 ≤ r) && (decide (2 ≤ d) && !f))) := by
  rw [rightB_eq, Bool.eq_iff_iff]
  have h1 : ¬ k = 1 := by omega
  have h2 : ¬ k = 2 := by omega
  simp only [decide_eq_true_iff, Cls.right, Cls.small, h1, h2, hk, false_and, false_or, true_and, Bool.and_eq_true, Bool.not_eq_true']
  constructor
  · rintro ⟨q1, q2, q3, q4⟩; exact ⟨by omega, q2, q3, q4⟩
  · rintro ⟨q1, q2, q3, q4⟩; exact ⟨by omega, q2, q3, q4⟩

theorem rightB_else (k r d : Int) (f : Bool) (h1 : ¬ k = 1) (h2 : ¬ k = 2) (h : ¬ (k = 3 ∨ k = 4 ∨ k = 5)) : rightB k r d f = false := by
  rw [rightB_eq]
  apply decide_eq_false
  simp only [Cls.right]
  rintro (⟨q, _⟩ | ⟨q, _⟩ | ⟨q, _⟩)
  · exact h1 q
  · exact h2 q
  · exact h q

set_option maxHeartbeats 1000000 in
theorem rright_any (k r d : Int) (f : Bool) (w : World) :
    Calls Try.prog 93 #[.agg #[.int .i64 k, .int .i64 r, .int .i64 d, .bool f]] w fun e w' => e = .returned (.bool (rightB k r d f)) ∧ Ch0 w w' := by
  by_cases h1 : r < 0
  · rw [rightB_out k r d f (.inl h1)]
    go_enter Try.func93, Try.ntmps93
    go_wp2
    go_ret
    exact ⟨rfl, (Ch.refl _ _).alloc _⟩
  by_cases h2 : d < 0
  · rw [rightB_out k r d f (.inr (.inl h2))]
    go_enter Try.func93, Try.ntmps93
    go_wp2
    go_ret
    exact ⟨rfl, (Ch.refl _ _).alloc _⟩
  by_cases h3 : 32 < r
  · rw [rightB_out k r d f (.inr (.inr (.inl h3)))]
    go_enter Try.func93, Try.ntmps93
    go_wp2
    go_ret
    exact ⟨rfl, (Ch.refl _ _).alloc _⟩
  by_cases h4 : 32 < d
  · rw [rightB_out k r d f (.inr (.inr (.inr h4)))]
    go_enter Try.func93, Try.ntmps93
    go_wp2
    go_ret
    exact ⟨rfl, (Ch.refl _ _).alloc _⟩
  have hb : 0 ≤ r ∧ 0 ≤ d ∧ r ≤ 32 ∧ d ≤ 32 := by omega
  have r0 : 0 ≤ r := hb.1
  have d0 : 0 ≤ d := hb.2.1
  have r1 : r ≤ 32 := hb.2.2.1
  have d1 : d ≤ 32 := hb.2.2.2
  have g4 : decide (32 < d) = false := decide_eq_false (by omega)
  by_cases k1 : k = 1
  · subst k1
    rw [rightB_1 r d f hb]
    obtain ⟨s, hs⟩ : ∃ s, decide (2 + r + d ≤ 32) = s := ⟨_, rfl⟩
    rw [hs]
    clear hb
    go_enter Try.func93, Try.ntmps93
    go_wp2
    go_ret
    exact ⟨rfl, (Ch.refl _ _).alloc _⟩
  have e1 : (k == 1) = false := beq_eq_false_iff_ne.2 k1
  by_cases k2 : k = 2
  · subst k2
    rw [rightB_2 r d f]
    obtain ⟨x, hx⟩ : ∃ x, (r == 0) = x := ⟨_, rfl⟩
    obtain ⟨y, hy⟩ : ∃ y, (d == 0) = y := ⟨_, rfl⟩
    rw [hx, hy]
    clear hb
    cases x
    · go_enter Try.func93, Try.ntmps93
      go_wp2
      go_ret
      exact ⟨rfl, (Ch.refl _ _).alloc _⟩
    · go_enter Try.func93, Try.ntmps93
      go_wp2
      go_ret
      exact ⟨rfl, (Ch.refl _ _).alloc _⟩
  have e2 : (k == 2) = false := beq_eq_false_iff_ne.2 k2
  by_cases k345 : k = 3 ∨ k = 4 ∨ k = 5
  · rw [rightB_345 k r d f hb k345]
    obtain ⟨s, hs⟩ : ∃ s, decide (2 + r + d ≤ 32) = s := ⟨_, rfl⟩
    obtain ⟨x, hx⟩ : ∃ x, decide (1 ≤ r) = x := ⟨_, rfl⟩
    obtain ⟨y, hy⟩ : ∃ y, decide (2 ≤ d) = y := ⟨_, rfl⟩
    rw [hs, hx, hy]
    clear hb k1 k2
    rcases k345 with rfl | rfl | rfl
    all_goals
      cases s <;> cases x <;> cases y
      all_goals
        go_enter Try.func93, Try.ntmps93
        go_wp2
        go_ret
        exact ⟨by simp, (Ch.refl _ _).alloc _⟩
  · rw [rightB_else k r d f k1 k2 k345]
    have e3 : (k == 3) = false := beq_eq_false_iff_ne.2 (by omega)
    have e4 : (k == 4) = false := beq_eq_false_iff_ne.2 (by omega)
    have e5 : (k == 5) = false := beq_eq_false_iff_ne.2 (by omega)
    obtain ⟨s, hs⟩ : ∃ s, decide (2 + r + d ≤ 32) = s := ⟨_, rfl⟩
    clear hb k1 k2 k345
    go_enter Try.func93, Try.ntmps93
    go_wp2
    go_ret
    exact ⟨rfl, (Ch.refl _ _).alloc _⟩

end Go.Proofs.Ytlmeponoadhheaa

/-
  Contracts of the document's New, Shape, Holds of classes.
-/
namespace Go.Proofs.Ytlmeponoadhheaa
set_option linter.unusedVariables false
open Go.RowKit

def newC (cs : List Cls) : Int := if allRight cs = true then (if 64 ≤ cs.length then 3 else 0) else 1

set_option maxHeartbeats 1000000 in
theorem rnew_cls (D : Nat → Prop) (v : Value) (cs : List Cls) (w : World) (hv : SeesC D w v cs) :
    Calls Try.prog 29 #[v] w fun e w' => e = .returned (.int .i64 (newC cs)) ∧ Ch0 w w' := by
  obtain ⟨a, c, rfl, hl⟩ := hv.len
  have HV := Lib.hid hv
  clear hv
  go_enter Try.func29, Try.ntmps29
  go_wp2_with fail
  go_loopw [6] (fun i wr => ∃ j : Nat, j ≤ cs.length ∧ i = .int .i64 j ∧ (∀ m (hm : m < cs.length), m < j → cs[m].rightB = true) ∧ Ch0 w wr) (fun i _ => cs.length - (intOf i).toNat)
  case atStart => exact ⟨0, Nat.zero_le _, rfl, fun m _ h => by omega, Ch.refl _ _⟩
  case round =>
    obtain ⟨j, hj, rfl, hall, hc⟩ := hrel
    have HA := Lib.hid hall
    have HC := Lib.hid hc
    clear hall hc
    by_cases hlt : j < cs.length
    · obtain ⟨g, o, c', hg, hsl, hcells⟩ := SeesC.cells (HV.out.keep HC.out (fun _ _ q => q)) (by omega)
      obtain ⟨rfl, rfl⟩ : a = some ⟨g, o, none⟩ ∧ c = c' := by simpa using hsl
      obtain ⟨m0, m1, m2, m3⟩ := hcells j hlt
      have hL := rright_any cs[j].kind cs[j].refs cs[j].data cs[j].final
      obtain ⟨b, hb⟩ : ∃ b, rightB cs[j].kind cs[j].refs cs[j].data cs[j].final = b := ⟨_, rfl⟩
      rw [hb] at hL
      have HL := Lib.hid hL
      have HB : Hid (cs[j].rightB = b) := hb
      clear hsl hcells hL hb
      generalize cs[j].kind = k at *
      generalize cs[j].refs = r at *
      generalize cs[j].data = d at *
      generalize cs[j].final = f at *
      go_wp2_with fail
      refine (HL.out _).mono ?_
      rintro e w1 ⟨rfl, c1⟩
      have C1 := Lib.hid (HC.out.trans c1)
      clear c1
      cases b
      · go_wp2_with fail
        go_ret
        refine ⟨?_, C1.out⟩
        have : allRight cs = false := by
          rw [allRight, List.all_eq_false]
          exact ⟨cs[j], List.getElem_mem hlt, by rw [HB.out]; simp⟩
        unfold newC
        rw [this]; rfl
      · go_wp2_with fail
        go_roundw
        case rel =>
          refine ⟨j + 1, by omega, by go_num, fun m hm hmj => ?_, C1.out⟩
          by_cases e : m = j
          · subst e; exact HB.out
          · exact HA.out m hm (by omega)
        case measure => simp [intOf]; omega
    · obtain rfl : j = cs.length := by omega
      have har : allRight cs = true := by
        rw [allRight, List.all_eq_true]
        intro x hx
        obtain ⟨i, hi, rfl⟩ := List.getElem_of_mem hx
        exact HA.out i hi hi
      have HAR := Lib.hid har
      clear har
      by_cases h64 : 64 ≤ cs.length
      · go_wp2_with fail
        go_ret
        refine ⟨?_, HC.out⟩
        unfold newC
        rw [if_pos HAR.out, if_pos h64]; rfl
      · go_wp2_with fail
        go_ret
        refine ⟨?_, HC.out⟩
        unfold newC
        rw [if_pos HAR.out, if_neg h64]; rfl

end Go.Proofs.Ytlmeponoadhheaa

/-
  Contracts of the document's Shape, Holds of classes.
-/
namespace Go.Proofs.Ytlmeponoadhheaa
set_option linter.unusedVariables false
open Go.RowKit

set_option maxHeartbeats 400000 in
theorem rshape_no (D : Nat → Prop) (v : Value) (cs : List Cls) (n l : Int) (w : World) (hv : SeesC D w v cs) (hn : ¬ (1 ≤ n ∧ n ≤ cs.length)) :
    Calls Try.prog 106 #[v, .int .i64 n, .int .i64 l] w fun e w' => e = .returned (.tuple #[.int .i64 0, .int .i64 0, .int .i64 4]) ∧ Ch0 w w' := by
  obtain ⟨a, c, rfl, hl⟩ := hv.len
  clear hv
  by_cases h1 : n < 1
  · clear hn
    go_enter Try.func106, Try.ntmps106
    go_wp2
    go_ret3
    exact ⟨rfl, Ch.refl _ _⟩
  · have h2 : (cs.length : Int) < n := by omega
    clear hn
    go_enter Try.func106, Try.ntmps106
    go_wp2
    go_ret3
    exact ⟨rfl, Ch.refl _ _⟩

set_option maxHeartbeats 1000000 in
theorem rshape_yes (D : Nat → Prop) (v : Value) (cs : List Cls) (i : Nat) (hi : i < cs.length) (l : Int) (w : World) (hv : SeesC D w v cs) (hr : cs[i].right) (hcs : cs.length < 64) :
    Calls Try.prog 106 #[v, .int .i64 (i + 1), .int .i64 l] w fun e w' =>
      e = .returned (.tuple #[.int .i64 (shape1 cs[i] l).1, .int .i64 (shape1 cs[i] l).2.1, .int .i64 (shape1 cs[i] l).2.2]) ∧ Ch0 w w' := by
  obtain ⟨g, o, c', hg, rfl, hcells⟩ := SeesC.cells hv (by omega)
  obtain ⟨m0, m1, m2, m3⟩ := hcells i hi
  clear hv hcells
  obtain ⟨hs1, hs2, hs3⟩ := right_small hr
  clear hr
  generalize cs[i] = cc at *
  obtain ⟨k, r, d, f⟩ := cc
  simp only at m0 m1 m2 m3 hs1 hs2 hs3
  by_cases h0 : l < 0
  · have e1 : shape1 ⟨k, r, d, f⟩ l = (0, 0, 1) := by unfold shape1; rw [if_pos (.inl h0)]
    rw [e1]
    clear e1
    go_enter Try.func106, Try.ntmps106
    go_wp2
    go_ret3
    exact ⟨rfl, (Ch.refl _ _).alloc _⟩
  · by_cases hl0 : l = 0
    · subst hl0
      have e1 : shape1 ⟨k, r, d, f⟩ 0 = (r, d, 0) := by unfold shape1; rw [if_neg (by simp), if_neg (by omega)]; simp
      rw [e1]
      clear e1
      go_enter Try.func106, Try.ntmps106
      go_wp2
      have q1 : IntKind.i64.wrap r = r := IntWalk.i64_in _ (by omega)
      have q2 : IntKind.i64.wrap (r + 0) = r := by rw [Int.add_zero]; exact q1
      go_quiet (fail)
      clear q1 q2
      go_wp2_with fail
      go_ret3
      exact ⟨by simp, ((Ch.refl _ _).alloc _).drewN _⟩
    · have hln : (l != 0) = true := bne_iff_ne.2 hl0
      by_cases hk : k = 2
      · subst hk
        by_cases h30 : 30 < l
        · have e1 : shape1 ⟨2, r, d, f⟩ l = (0, 0, 8) := by unfold shape1; rw [if_neg (by simp; omega), if_pos h30]
          rw [e1]
          clear e1 hl0
          go_enter Try.func106, Try.ntmps106
          go_wp2
          go_ret3
          exact ⟨rfl, (Ch.refl _ _).alloc _⟩
        · have e1 : shape1 ⟨2, r, d, f⟩ l = (r + l, d, 0) := by unfold shape1; rw [if_neg (by simp; omega), if_neg h30]
          rw [e1]
          clear e1 hl0
          go_enter Try.func106, Try.ntmps106
          go_wp2
          have q1 : IntKind.i64.wrap (r + l) = r + l := IntWalk.i64_in _ (by omega)
          go_quiet (fail)
          clear q1
          go_wp2_with fail
          go_ret3
          exact ⟨rfl, ((Ch.refl _ _).alloc _).drewN _⟩
      · have hk' : (k != 2) = true := bne_iff_ne.2 hk
        have e1 : shape1 ⟨k, r, d, f⟩ l = (0, 0, 1) := by unfold shape1; rw [if_pos (.inr ⟨by omega, hk⟩)]
        rw [e1]
        clear e1 hk hl0
        go_enter Try.func106, Try.ntmps106
        go_wp2
        go_ret3
        exact ⟨rfl, (Ch.refl _ _).alloc _⟩

theorem rshape_any (D : Nat → Prop) (v : Value) (cs : List Cls) (n l : Int) (w : World) (hv : SeesC D w v cs) (hr : allRight cs = true) (hcs : cs.length < 64) :
    Calls Try.prog 106 #[v, .int .i64 n, .int .i64 l] w fun e w' =>
      e = .returned (.tuple #[.int .i64 (shapeC cs n l).1, .int .i64 (shapeC cs n l).2.1, .int .i64 (shapeC cs n l).2.2]) ∧ Ch0 w w' := by
  unfold shapeC
  by_cases hn : 1 ≤ n ∧ n ≤ cs.length
  · rw [dif_pos hn]
    obtain ⟨i, rfl⟩ : ∃ i : Nat, n = (i : Int) + 1 := ⟨(n - 1).toNat, by omega⟩
    have hi' : i < cs.length := by omega
    have := rshape_yes D v cs i hi' l w hv (allRight_get hr i hi') hcs
    simpa [show ((i : Int) + 1 - 1).toNat = i by omega] using this
  · rw [dif_neg hn]
    exact rshape_no D v cs n l w hv hn

end Go.Proofs.Ytlmeponoadhheaa

/-
  A list of classes that came in, as cells.
-/
namespace Go.Proofs.Ytlmeponoadhheaa
set_option linter.unusedVariables false
open Go.ChangeShapes Go.WideShapes Go.ChangeAt Go.RowKit

section
variable {H : Type} {enc : TypeId × Value → H}

theorem Cls.fits_of {k r d : Int} {f : Bool} (h1 : (Lit.int .i64 k).wf = true) (h2 : (Lit.int .i64 r).wf = true) (h3 : (Lit.int .i64 d).wf = true) : Cls.Fits ⟨k, r, d, f⟩ := by
  simp [Lit.wf, IntKind.min, IntKind.max, IntKind.signed, IntKind.bits] at h1 h2 h3
  exact ⟨h1.1, h1.2, h2.1, h2.2, h3.1, h3.2⟩

theorem RD.cls {W : World} {cs : List Value} (h : RD enc Try.prog W 40 cs) : ∃ c : Cls, cs = c.cells ∧ c.Fits := by
  obtain ⟨hl, hf⟩ := RD.struct Try.underlying40 h
  rw [show Try.prog.cellsOf 40 = 4 by kernel_rfl] at hl
  have ci : Try.prog.cellsOf 3 = 1 := by kernel_rfl
  have cb : Try.prog.cellsOf 4 = 1 := by kernel_rfl
  have g0 : RD enc Try.prog W 3 ((cs.drop 0).take (Try.prog.cellsOf 3)) := hf 0 _ rfl
  rw [ci] at g0
  have g1 : RD enc Try.prog W 3 ((cs.drop 1).take (Try.prog.cellsOf 3)) := hf 1 _ rfl
  rw [ci] at g1
  have g2 : RD enc Try.prog W 3 ((cs.drop 2).take (Try.prog.cellsOf 3)) := hf 2 _ rfl
  rw [ci] at g2
  have g3 : RD enc Try.prog W 4 ((cs.drop 3).take (Try.prog.cellsOf 4)) := hf 3 _ rfl
  rw [cb] at g3
  obtain ⟨k, hk, wk⟩ := RD.int Try.underlying3 g0
  obtain ⟨r, hr, wr⟩ := RD.int Try.underlying3 g1
  obtain ⟨d, hd, wd⟩ := RD.int Try.underlying3 g2
  obtain ⟨f, hb⟩ := RD.bool Try.underlying4 g3
  refine ⟨⟨k, r, d, f⟩, ?_, Cls.fits_of wk wr wd⟩
  have at_ : ∀ (i : Nat) (u : Value), (cs.drop i).take 1 = [u] → cs[i]? = some u := by
    intro i u h
    have : ((cs.drop i).take 1)[0]? = some u := by rw [h]; rfl
    simpa [List.getElem?_take, List.getElem?_drop] using this
  have a0 := at_ 0 _ hk
  have a1 := at_ 1 _ hr
  have a2 := at_ 2 _ hd
  have a3 := at_ 3 _ hb
  apply List.ext_getElem?
  intro i
  match i with
  | 0 => exact a0
  | 1 => exact a1
  | 2 => exact a2
  | 3 => exact a3
  | i + 4 => rw [List.getElem?_eq_none (by omega), List.getElem?_eq_none (by simp [Cls.cells])]

instance : Inhabited Cls := ⟨⟨0, 0, 0, false⟩⟩

theorem classes_of {n : Nat} {W : World} {v : Value} {cs : Nat → List Value} {D : Nat → Prop} (hs : Sees D W v 4 n ((List.range n).flatMap cs)) (hi : ∀ i, i < n → (cs i).length = 4 ∧ RD enc Try.prog W 40 (cs i)) :
    ∃ l : List Cls, SeesC D W v l ∧ Fit l := by
  obtain ⟨F, hF⟩ := Go.Deep.choose_lt (α := Cls) (n := n) (p := fun i x => cs i = x.cells ∧ x.Fits) (fun i hlt => RD.cls (hi i hlt).2)
  refine ⟨(List.range n).map F, ?_, fun c hc => ?_⟩
  · have : (List.range n).flatMap cs = ((List.range n).map F).flatMap Cls.cells := by
      rw [List.flatMap_map]
      exact Go.Deep.flatMap_congr_range fun i hi => (hF i hi).1
    rw [this] at hs
    unfold SeesC
    rw [List.length_map, List.length_range]
    exact hs
  · obtain ⟨i, hi, rfl⟩ := List.mem_map.1 hc
    exact (hF i (List.mem_range.1 hi)).2

set_option maxRecDepth 100000 in
/-- A list of classes that came in. -/
theorem open_classes {r : Reach} {b0 : Nat} {W : World} {v : Value} {d : DataW H} {p : List MemPlace} (hok : Value.okWide Try.prog W r b0 22 v) (h : DataW.Trod enc Try.prog W 0 (fun _ => true) true 22 v d p) :
    ∃ l : List Cls, SeesC (fun k => k < W.heap.size) W v l ∧ Fit l := by
  obtain ⟨n, cs, hs, hi⟩ := open_sees (k := 4) Try.underlying22 (by kernel_rfl) (by omega) hok h
  exact classes_of hs hi

set_option maxRecDepth 100000 in
/-- .. inside a struct. -/
theorem RD.classes {W : World} {cs0 : List Value} (h : RD enc Try.prog W 22 cs0) : ∃ v, ∃ l : List Cls, cs0 = [v] ∧ SeesC (fun k => k < W.heap.size) W v l ∧ Fit l := by
  obtain ⟨v, n, cs, rfl, hs, hi⟩ := RD.slice (k := 4) Try.underlying22 (by kernel_rfl) (by omega) h
  obtain ⟨l, h1, h2⟩ := classes_of hs hi
  exact ⟨v, l, rfl, h1, h2⟩

end

end Go.Proofs.Ytlmeponoadhheaa

/-
  class.New at whatever classes.
-/
namespace Go.Proofs.Ytlmeponoadhheaa
set_option linter.unusedVariables false
open Go.RowKit

/-- what New hands back -/
def NewT (w w' : World) (cs : List Cls) (v : Value) : Prop :=
  (newC cs = 0 ∧ ∃ p, v = .pointer (some ⟨p, 0, none⟩) ∧ Tab w.heap.size w'.heap.size w' p cs) ∨ (newC cs ≠ 0 ∧ v = .pointer none)

theorem newcls_any (D : Nat → Prop) (v : Value) (cs : List Cls) (w : World) (hv : SeesC D w v cs) (hf : Fit cs) :
    Calls Try.prog 30 #[v] w fun e w' => ∃ u, e = .returned (.tuple #[u, .int .i64 (newC cs)]) ∧ NewT w w' cs u ∧ Ch0 w w' := by
  by_cases hr : allRight cs = true
  · by_cases h64 : 64 ≤ cs.length
    · have e : newC cs = 3 := by unfold newC; rw [if_pos hr, if_pos h64]
      refine (new_full D v cs w hv hf hr h64).mono ?_
      rintro e w' ⟨rfl, hc⟩
      exact ⟨_, by rw [‹newC cs = 3›], .inr ⟨by omega, rfl⟩, hc⟩
    · have e : newC cs = 0 := by unfold newC; rw [if_pos hr, if_neg h64]
      refine (new_yes D v cs w hv hf hr (by omega)).mono ?_
      rintro e w' ⟨⟨p, rfl, ht⟩, hc⟩
      exact ⟨_, by rw [‹newC cs = 0›], .inl ⟨‹_›, p, rfl, ht⟩, hc⟩
  · have e : newC cs = 1 := by unfold newC; rw [if_neg hr]
    refine (new_wrong D v cs w hv hf (by simpa using hr)).mono ?_
    rintro e w' ⟨rfl, hc⟩
    exact ⟨_, by rw [‹newC cs = 1›], .inr ⟨by omega, rfl⟩, hc⟩

/-- A slice of one class that has just been laid. -/
theorem sees_one (c : Cls) (w : World) : SeesC (fun k => k = w.heap.size) (w.alloc (.cells #[.int .i64 c.kind, .int .i64 c.refs, .int .i64 c.data, .bool c.final] 40)) (.slice (some ⟨w.heap.size, 0, none⟩) 1 1) [c] := by
  refine ⟨rfl, _, 1, rfl, Nat.le_refl _, by decide, .inr ⟨w.heap.size, 0, rfl, rfl, fun i u hu => ?_⟩⟩
  rw [Nat.zero_add, cell_of_row _ w.heap.size i _ _ _ (heap_alloc_new w _)]
  simpa [Cls.cells] using hu

end Go.Proofs.Ytlmeponoadhheaa
