/-
  The document's set of queues in memory; contracts of its Put, Poll, All; of the law's 'length'.
-/
import Derived.Test.YtlmccjmbidfflaaNames12
namespace Go.Proofs.Ytlmccjmbidfflaa
set_option linter.unusedVariables false
open Go.RowKit

/-- the document's set: its queues q 0 .. q 3, what was ever put in q 4 -/
abbrev RQ (w : World) (b : Nat) (O : Nat → Prop) (q : Nat → List Int) (vs : Nat → Value) : Prop := RS w b 47 5 O q vs

/-- .. its values not told -/
def RQs (w : World) (b : Nat) (O : Nat → Prop) (q : Nat → List Int) : Prop := ∃ vs, RQ w b O q vs

theorem RQs.keep {w w' : World} {b : Nat} {O S : Nat → Prop} {q : Nat → List Int} (h : RQs w b O q) (c : Ch S w w') (hn : ∀ k, O k → ¬ S k) : RQs w' b O q := by
  obtain ⟨vs, h⟩ := h
  exact ⟨vs, h.keep c hn⟩

theorem RQs.small {w : World} {b : Nat} {O : Nat → Prop} {q : Nat → List Int} (h : RQs w b O q) : ∀ k, O k → k < w.heap.size := by
  obtain ⟨vs, h⟩ := h
  exact h.small

theorem five {i : Nat} (h : i < 5) : i = 0 ∨ i = 1 ∨ i = 2 ∨ i = 3 ∨ i = 4 := by omega

/-- append at a step of a region that draws its order: all of a slice -/
theorem step_ints {wx : World} {v : Value} {n : Nat} {xs : List Int} (hrow : RowAt wx 3 1 v n (xs.map (Value.int .i64))) (hlen : n < 4294967296) {D : Nat → Prop} {y : Value} {ys : List Int} (hy : SeesI D wx y ys) (hlen2 : ys.length < 4294967296)
    {ops : Array Oper} {o : Oper} {aa : Act} {K : Act → World → Prop} {Q : Exit → Act → World → Prop} {E : Prop} (hgd : o.guard = none) (s x : Operand)
    (ho : o.op = .call { callee := .builtin .append, args := #[s, x], argTypes := #[25, 25] }) (hs : aa.eval s = v) (hx : aa.eval x = y)
    (hK : ∀ a' c' w', RowAt w' 3 1 (.slice a' (n + ys.length) c') (n + ys.length) ((xs ++ ys).map (Value.int .i64)) → Ch (fun k => rblk v = some k) wx w' → (rblk (.slice a' (n + ys.length) c') = rblk v ∨ rblk (.slice a' (n + ys.length) c') = some wx.heap.size) →
      K (aa.put o.dst (.slice a' (n + ys.length) c')) w') :
    if Region.wanted o (yielded ops aa.tmps) = true then Oper.wp Try.prog o aa wx K Q else E := by
  obtain ⟨i0, hi, hz0, hz1, hz2⟩ := info_parts Try.info3
  refine step_append_at (P := Try.prog) hgd s x 25 ho 3 i0 _ 1 8 Try.underlying25 hi hz0 hz1 hz2 rfl v n (xs.map (Value.int .i64)) hs hrow _ _ _ hx hy (one_ints ys) ?_ ?_ ?_
  · unfold maxLen; omega
  · omega
  · intro a' c' w' h2 h3 h4
    refine hK a' c' w' ?_ h3 h4
    simpa using h2

/-- append([]int{}, ys...), where the empty row lies in block g -/
theorem step_copyAt {w wx : World} {g : Nat} {D : Nat → Prop} {y : Value} {ys : List Int} (cw : Ch0 w wx) (hg : wx.heap[g]? = some (.cells #[] 3 (0, 0))) (hgw : w.heap.size ≤ g) (hy : SeesI D wx y ys) (hlen2 : ys.length < 4294967296)
    {ops : Array Oper} {o : Oper} {aa : Act} {K : Act → World → Prop} {Q : Exit → Act → World → Prop} {E : Prop} (hgd : o.guard = none) (s x : Operand)
    (ho : o.op = .call { callee := .builtin .append, args := #[s, x], argTypes := #[25, 25] }) (hs : aa.eval s = .slice (some ⟨g, 0, none⟩) 0 0) (hx : aa.eval x = y)
    (hK : ∀ a' c' w', RowAt w' 3 1 (.slice a' ys.length c') ys.length (ys.map (Value.int .i64)) → Ch0 w w' → Ch (fun k => k = g) wx w' → (∀ k, rblk (.slice a' ys.length c') = some k → w.heap.size ≤ k) → K (aa.put o.dst (.slice a' ys.length c')) w') :
    if Region.wanted o (yielded ops aa.tmps) = true then Oper.wp Try.prog o aa wx K Q else E := by
  have hr : RowAt wx 3 1 (.slice (some ⟨g, 0, none⟩) 0 0) 0 (([] : List Int).map (Value.int .i64)) :=
    ⟨rfl, .inr ⟨g, 0, 0, #[], rfl, hg, Nat.le_refl _, by decide, by simp, by simp⟩⟩
  have hsz := cw.size
  refine step_ints hr (by decide) hy hlen2 hgd s x ho hs hx ?_
  intro a' c' w' h2 h3 h4
  have e : 0 + ys.length = ys.length := Nat.zero_add _
  rw [e] at h2 h4 ⊢
  rw [List.nil_append] at h2
  have h3' : Ch (fun k => k = g) wx w' := h3.mono (fun k _ e => by
    have e' : g = k := by simpa [rblk] using e
    exact e'.symm)
  refine hK a' c' w' h2 (cw.trans' h3' (fun _ _ e => e) (fun k hk e => by omega)) h3' (fun k hk => ?_)
  rcases h4 with q | q
  · rw [q] at hk
    have e' : g = k := by simpa [rblk] using hk
    omega
  · rw [q] at hk
    cases hk
    omega

theorem RS.facts {w : World} {b : Nat} {O : Nat → Prop} {q : Nat → List Int} {vs : Nat → Value} (h : RQ w b O q vs) {i : Nat} (hi : i < 5) :
    ∃ a c, vs i = .slice a (q i).length c ∧ w.cell? ⟨b, i, none⟩ = some (.slice a (q i).length c) ∧ w.frozen? ⟨b, i, none⟩ = false ∧ (q i).length ≤ 9223372036854775807 := by
  obtain ⟨a, c, e, h1, h2⟩ := (h.row i hi).isSlice
  refine ⟨a, c, e, by rw [← e]; exact h.cell hi, h.free i, ?_⟩
  unfold maxLen at h2; omega

theorem rput_out (b : Nat) (w : World) (k x : Int) (hk : ¬ (1 ≤ k ∧ k ≤ 4)) :
    Calls Try.prog 17 #[.pointer (some ⟨b, 0, none⟩), .int .i64 k, .int .i64 x] w fun e w' => e = .returned (.tuple #[.bool false, .int .i64 1]) ∧ SameW w w' := by
  by_cases h1 : k < 1
  · go_enter Try.func17, Try.ntmps17
    go_wp2_with fail
    go_ret2
    exact ⟨rfl, SameW.rfl' _⟩
  · have h2 : (4 : Int) < k := by omega
    go_enter Try.func17, Try.ntmps17
    go_wp2_with fail
    go_ret2
    exact ⟨rfl, SameW.rfl' _⟩

theorem rpoll_out (b : Nat) (w : World) (k : Int) (hk : ¬ (1 ≤ k ∧ k ≤ 4)) :
    Calls Try.prog 18 #[.pointer (some ⟨b, 0, none⟩), .int .i64 k] w fun e w' => e = .returned (.tuple #[.int .i64 0, .int .i64 1]) ∧ SameW w w' := by
  by_cases h1 : k < 1
  · go_enter Try.func18, Try.ntmps18
    go_wp2_with fail
    go_ret2
    exact ⟨rfl, SameW.rfl' _⟩
  · have h2 : (4 : Int) < k := by omega
    go_enter Try.func18, Try.ntmps18
    go_wp2_with fail
    go_ret2
    exact ⟨rfl, SameW.rfl' _⟩

theorem length_out (b : Nat) (w : World) (k : Int) (hk : ¬ (1 ≤ k ∧ k ≤ 4)) :
    Calls Try.prog 24 #[.pointer (some ⟨b, 0, none⟩), .int .i64 k] w fun e w' => e = .returned (.int .i64 0) ∧ SameW w w' := by
  by_cases h1 : k < 1
  · go_enter Try.func24, Try.ntmps24
    go_wp2_with fail
    go_ret
    exact ⟨rfl, SameW.rfl' _⟩
  · have h2 : (4 : Int) < k := by omega
    go_enter Try.func24, Try.ntmps24
    go_wp2_with fail
    go_ret
    exact ⟨rfl, SameW.rfl' _⟩

theorem length_in {w : World} {b : Nat} {O : Nat → Prop} {q : Nat → List Int} (h : RQs w b O q) (i : Nat) (hi : i < 4) (k : Int) (hk : k = i + 1) :
    Calls Try.prog 24 #[.pointer (some ⟨b, 0, none⟩), .int .i64 k] w fun e w' => e = .returned (.int .i64 ((q i).length : Int)) ∧ SameW w w' := by
  obtain ⟨vs, h⟩ := h
  obtain ⟨a, c, -, ki, -, -⟩ := h.facts (show i < 5 by omega)
  have g1 : decide (k < 1) = false := decide_eq_false (by omega)
  have g2 : decide (4 < k) = false := decide_eq_false (by omega)
  generalize (q i).length = n at ki ⊢
  have i1 : (0 : Int) ≤ (i : Int) := by omega
  have i2 : (i : Int) < 4 := by omega
  have i3 : IntKind.i64.wrap (k - 1) = (i : Int) := by
    rw [IntWalk.i64_in _ (by omega)]; omega
  clear h hk
  go_enter Try.func24, Try.ntmps24
  go_wp2_with fail
  go_ret
  exact ⟨rfl, SameW.rfl' _⟩

set_option maxHeartbeats 1000000 in
theorem rpoll_in {w : World} {b : Nat} {O : Nat → Prop} {q : Nat → List Int} (h : RQs w b O q) (i : Nat) (hi : i < 4) (k : Int) (hk : k = i + 1) :
    Calls Try.prog 18 #[.pointer (some ⟨b, 0, none⟩), .int .i64 k] w fun e w' => e = .returned (.tuple #[.int .i64 ((q i).headD 0), .int .i64 (if q i = [] then 10 else 0)]) ∧
      ∃ O', RQs w' b O' (updF q i (q i).tail) ∧ Turn w w' O O' := by
  obtain ⟨vs, h⟩ := h
  have g1 : decide (k < 1) = false := decide_eq_false (by omega)
  have g2 : decide (4 < k) = false := decide_eq_false (by omega)
  have i1 : (0 : Int) ≤ (i : Int) := by omega
  have i2 : (i : Int) < 4 := by omega
  have i3 : IntKind.i64.wrap (k - 1) = (i : Int) := by
    rw [IntWalk.i64_in _ (by omega)]; omega
  clear hk
  cases hq : q i with
  | nil =>
    obtain ⟨a, c, -, ki, -, -⟩ := h.facts (show i < 5 by omega)
    rw [hq] at ki
    simp only [List.length_nil] at ki
    have HH : Hid (∃ O', RQs w b O' (updF q i ([] : List Int)) ∧ Turn w w O O') := by
      refine Lib.hid ⟨O, ⟨vs, ?_⟩, Turn.refl _ _⟩
      have : updF q i ([] : List Int) = q := by
        funext j
        unfold updF
        split
        · rename_i e; rw [e, hq]
        · rfl
      rw [this]; exact h
    simp only [List.tail_nil, List.headD_nil, if_true]
    clear h hq
    go_enter Try.func18, Try.ntmps18
    go_wp2_with fail
    go_ret2
    exact ⟨rfl, HH.out⟩
  | cons x xs =>
    have hrow := h.row i (by omega)
    rw [hq] at hrow
    simp only [List.length_cons, List.map_cons] at hrow
    obtain ⟨g, o, c, ev, hc, hcm, hx, hrow', -⟩ := hrow.tail
    have ki := h.cell (show i < 5 by omega)
    rw [ev] at ki
    have fi := h.free i
    have hn : (((xs.length + 1 : Nat) : Int) == 0) = false := beq_eq_false_iff_ne.2 (by omega)
    have hend : ∀ v', v' = Value.slice (if c = 1 then some ⟨g, o, none⟩ else some ⟨g, o + 1, none⟩) xs.length (c - 1) → ∃ O', RQs (w.setCell ⟨b, i, none⟩ v') b O' (updF q i xs) ∧ Turn w (w.setCell ⟨b, i, none⟩ v') O O' := by
      rintro v' rfl
      obtain ⟨e1, e2⟩ := h.turn (show i < 5 by omega) (xs := xs) (Ch.refl _ _) hrow' (.inl (by rw [ev]; split <;> rfl))
      exact ⟨_, ⟨_, e1⟩, e2⟩
    have hsl : ∀ w, (Instr.slice 25 (.slice (some ⟨g, o, none⟩) (xs.length + 1) c) (some (.int .i64 1)) none none).run Try.prog w = .ok (.slice (if c = 1 then some ⟨g, o, none⟩ else some ⟨g, o + 1, none⟩) xs.length (c - 1)) w := by
      intro w
      obtain ⟨i0, hi0, hz0, hz1, hz2⟩ := info_parts Try.info3
      have e1 : ((1 : Int) ≤ ((xs.length + 1 : Nat) : Int)) := by omega
      simp [Instr.slice, Instr.sliceBounds, Instr.sliceBound, asIntOf, run_underlying Try.underlying25, sizeOf, typeInfo, hi0, hz1, Result.andThen, addr_add]
      rw [if_pos (show (1 : Int) ≤ (xs.length : Int) + 1 by omega)]
      simp
    obtain ⟨a', ha'⟩ : ∃ a' : Option Addr, a' = if c = 1 then some ⟨g, o, none⟩ else some ⟨g, o + 1, none⟩ := ⟨_, rfl⟩
    rw [← ha'] at hend
    simp only [← ha'] at hsl
    have hend2 : ∃ O', RQs (w.setCell ⟨b, i, none⟩ (.slice a' xs.length (c - 1))).drew b O' (updF q i xs) ∧ Turn w (w.setCell ⟨b, i, none⟩ (.slice a' xs.length (c - 1))).drew O O' := by
      obtain ⟨O', e1, e2⟩ := hend _ rfl
      exact ⟨O', e1.keep ((Ch.refl (fun _ => False) _).drew) (fun _ _ q => q), e2.after ((Ch.refl _ _).drew)⟩
    have HE := Lib.hid hend2
    have hlx : xs.length ≤ 9223372036854775806 := by
      unfold maxLen at hcm; omega
    generalize xs.length = n at *
    have hcell : w.cell? ⟨g, o, none⟩ = some (.int .i64 x) := hx
    clear h hend hend2 hrow hrow' hq hx ev ha'
    go_enter Try.func18, Try.ntmps18
    go_wp2_with fail
    clear hn hlx hcm hc
    go_region
    clear fi ki hsl i1 i2 i3 hcell
    go_wp2_with fail
    go_ret2
    exact ⟨rfl, HE.out⟩

theorem rall_in {w : World} {b : Nat} {O : Nat → Prop} {q : Nat → List Int} (h : RQs w b O q) (hl : (cat q 4).length < 4294967296) :
    Calls Try.prog 22 #[.pointer (some ⟨b, 0, none⟩)] w fun e w' => ∃ v, e = .returned v ∧ Ch0 w w' ∧ RowAt w' 3 1 v (cat q 4).length ((cat q 4).map (Value.int .i64)) ∧ ∀ k, rblk v = some k → w.heap.size ≤ k := by
  obtain ⟨vs, h⟩ := h
  have hl2 : ∀ i, i ≤ 4 → (cat q i).length < 4294967296 := fun i hi => by have := cat_le q hi; omega
  have HR := Lib.hid h
  have HL := Lib.hid hl2
  clear h hl hl2
  go_enter Try.func22, Try.ntmps22
  go_wp2_with fail
  go_loopw [3, 4] (fun v i wr => ∃ m : Nat, m ≤ 4 ∧ i = .int .i64 m ∧ Ch0 w wr ∧ RowAt wr 3 1 v (cat q m).length ((cat q m).map (Value.int .i64)) ∧ ∀ k, rblk v = some k → w.heap.size ≤ k) (fun _ i _ => 4 - (intOf i).toNat)
  case atStart => exact ⟨0, Nat.zero_le _, rfl, Ch.refl _ _, by simpa [cat] using RowAt.nil, fun k hk => by cases hk⟩
  case round =>
    obtain ⟨m, hm, rfl, d1, r1, b1⟩ := hrel
    obtain ⟨a1, c1, ev, -, -⟩ := r1.isSlice
    by_cases hlt : m < 4
    · obtain ⟨a2, c2, hv, ki, -, -⟩ := (HR.out.keep d1 (fun _ _ e => e)).facts (show m < 5 by omega)
      have hx := (((HR.out.keep d1 (fun _ _ e => e)).row m (by omega))).sees
      have hL1 := HL.out m (by omega)
      have hL2 := HL.out (m + 1) (by omega)
      rw [cat_succ, List.length_append] at hL2
      obtain ⟨a', c', w4, hrun, r4, d4, b4⟩ := run_ints r1 hL1 hx (by omega) 25
      rw [← cat_succ] at r4
      rw [ev, hv] at hrun
      have e1 : (cat q (m + 1)).length = (cat q m).length + (q m).length := by rw [cat_succ, List.length_append]
      have hnew : ∀ k, rblk (.slice a' ((cat q m).length + (q m).length) c') = some k → w.heap.size ≤ k := by
        intro k hk
        rcases b4 with e | e
        · rw [e] at hk; exact b1 k hk
        · rw [e] at hk; cases hk; exact d1.size
      have d5 : Ch0 w w4 := d1.trans' d4 (fun _ _ e => e) (fun k hk e => by have := b1 k e; omega)
      subst ev
      rw [← e1] at hrun r4 hnew
      have HF := Lib.hid (And.intro d5 (And.intro r4 hnew))
      clear d5 r4 hnew d4 b4 r1 d1 b1 e1 hL2 hv hx
      obtain ⟨N1, hN1⟩ : ∃ N1, N1 = (cat q (m + 1)).length := ⟨_, rfl⟩
      rw [← hN1] at hrun HF
      have HN := Lib.hid hN1
      clear hN1
      generalize (cat q m).length = N0 at *
      generalize (q m).length = N2 at *
      have i1 : (0 : Int) ≤ m := by omega
      have i2 : (m : Int) < 4 := by omega
      go_wp2_with (at_builtin; refine wpList_append_run rfl _ _ 25 25 rfl rfl rfl hrun ?_)
      go_roundw
      case rel => exact ⟨m + 1, by omega, by go_num, HF.out.1, by rw [← HN.out]; exact HF.out.2.1, HF.out.2.2⟩
      case measure => simp [intOf]; omega
    · obtain rfl : m = 4 := by omega
      have HF := Lib.hid (And.intro d1 (And.intro r1 b1))
      subst ev
      clear d1 r1 b1
      go_wp2_with fail
      go_ret
      exact ⟨_, rfl, HF.out.1, HF.out.2.1, HF.out.2.2⟩

theorem mem_getD {L : List Int} {x : Int} : x ∈ L ↔ ∃ m, m < L.length ∧ L.getD m 0 = x := by
  constructor
  · intro h
    obtain ⟨m, hm, e⟩ := List.getElem_of_mem h
    exact ⟨m, hm, by simp [List.getD_eq_getElem?_getD, hm, e]⟩
  · rintro ⟨m, hm, e⟩
    rw [← e]
    simp [List.getD_eq_getElem?_getD, hm]

theorem SeesI.at {D : Nat → Prop} {w : World} {v : Value} {xs : List Int} (h : SeesI D w v xs) (hp : 0 < xs.length) :
    ∃ g o c, D g ∧ v = .slice (some ⟨g, o, none⟩) xs.length c ∧ ∀ i, i < xs.length → w.cell? ⟨g, o + i, none⟩ = some (.int .i64 (xs.getD i 0)) := h.cell hp

set_option maxHeartbeats 2000000 in
theorem rput_old {w : World} {b : Nat} {O : Nat → Prop} {q : Nat → List Int} (h : RQs w b O q) (k : Int) (hk : 1 ≤ k ∧ k ≤ 4) (x : Int) (hx : x ∈ q 4) :
    Calls Try.prog 17 #[.pointer (some ⟨b, 0, none⟩), .int .i64 k, .int .i64 x] w fun e w' => e = .returned (.tuple #[.bool false, .int .i64 0]) ∧ SameW w w' := by
  obtain ⟨vs, h⟩ := h
  have g1 : decide (k < 1) = false := decide_eq_false (by omega)
  have g2 : decide (4 < k) = false := decide_eq_false (by omega)
  obtain ⟨a4, c4, e4, k4, -, l4⟩ := h.facts (show 4 < 5 by omega)
  have s4 := (h.row 4 (by omega)).sees
  rw [e4] at s4
  generalize q 4 = E at *
  replace hx := Lib.hid hx
  clear h e4 hk
  go_enter Try.func17, Try.ntmps17
  go_wp2_with fail
  go_loopw [20] (fun i wr => ∃ j : Nat, j ≤ E.length ∧ i = .int .i64 j ∧ (∀ m, m < j → E.getD m 0 ≠ x) ∧ SameW w wr) (fun i _ => E.length - (intOf i).toNat)
  case atStart => exact ⟨0, Nat.zero_le _, rfl, (fun m hm => by omega), SameW.rfl' _⟩
  case round =>
    obtain ⟨j, hj, rfl, hno, hs⟩ := hrel
    obtain rfl : w = wr := hs
    replace hno := Lib.hid hno
    by_cases hlt : j < E.length
    · obtain ⟨g, o, c1, -, hs1, hc1⟩ := SeesI.at s4 (by omega)
      obtain ⟨rfl, rfl⟩ : a4 = some ⟨g, o, none⟩ ∧ c4 = c1 := by simpa using hs1
      have hcl := hc1 j hlt
      have hxj := Lib.hid (show ∀ m, m < j + 1 → m < j ∨ E.getD m 0 = E.getD j 0 from fun m hm => by
          by_cases e : m = j
          · subst e; exact .inr rfl
          · exact .inl (by omega))
      clear hs1 hc1 s4
      generalize E.getD j 0 = X at *
      have i4 : (0 : Int) ≤ j := by omega
      have i5 : (j : Int) < E.length := by omega
      by_cases hxy : X = x
      · have t2 : (X == x) = true := by simpa using hxy
        clear hxy
        go_wp2_with fail
        go_ret2
        exact ⟨rfl, SameW.rfl' _⟩
      · have t2 : (X == x) = false := by simpa using hxy
        replace hxy := Lib.hid hxy
        go_wp2_with fail
        go_roundw
        case rel =>
          refine ⟨j + 1, by omega, by go_num, fun m hm => ?_, SameW.rfl' _⟩
          rcases hxj.out m hm with e | e
          · exact hno.out m e
          · rw [e]; exact hxy.out
        case measure => simp [intOf]; omega
    · obtain rfl : j = E.length := by omega
      obtain ⟨m, hm, e⟩ := mem_getD.1 hx.out
      exact absurd e (hno.out m hm)

set_option maxHeartbeats 2000000 in
theorem rput_new {w : World} {b : Nat} {O : Nat → Prop} {q : Nat → List Int} (h : RQs w b O q) (i : Nat) (hi : i < 4) (k : Int) (hk : k = i + 1) (x : Int) (hx : x ∉ q 4) (hlen : ∀ j, j < 5 → (q j).length < 4294967295) :
    Calls Try.prog 17 #[.pointer (some ⟨b, 0, none⟩), .int .i64 k, .int .i64 x] w fun e w' => e = .returned (.tuple #[.bool true, .int .i64 0]) ∧
      ∃ O', RQs w' b O' (updF (updF q 4 (q 4 ++ [x])) i (q i ++ [x])) ∧ Turn w w' O O' := by
  obtain ⟨vs, h⟩ := h
  have g1 : decide (k < 1) = false := decide_eq_false (by omega)
  have g2 : decide (4 < k) = false := decide_eq_false (by omega)
  have i1 : (0 : Int) ≤ (i : Int) := by omega
  have i2 : (i : Int) < 4 := by omega
  have i3 : IntKind.i64.wrap (k - 1) = (i : Int) := by
    rw [IntWalk.i64_in _ (by omega)]; omega
  obtain ⟨a4, c4, e4, k4, f4, l4⟩ := h.facts (show 4 < 5 by omega)
  have r4 := h.row 4 (by omega)
  rw [e4] at r4
  have s4 := r4.sees
  have hl4 := hlen 4 (by omega)
  have hli := hlen i (by omega)
  -- the new list of all that was put in
  obtain ⟨a', c', w4, hrun, r4', d4, b4⟩ := run_int (r4.keep ((Ch.refl (fun _ => False) w).alloc (.cells #[.int .i64 x] 3)) (fun _ _ e => e)) (by omega) w.heap.size x (heap_alloc_new w _) 25
  rw [World.size_alloc] at b4
  have hb4 : w4.heap[b]? = _ := d4.keep (((Ch.refl (fun _ => False) w).alloc (.cells #[.int .i64 x] 3)).keep h.blk (fun e => e)) (by rw [← e4]; exact h.ne_row (show 4 < 5 by omega))
  have k44 : w4.cell? ⟨b, 4, none⟩ = some (vs 4) := by rw [cell_of_row w4 b 4 _ _ _ hb4, cells_range vs 4 (by omega)]
  have f44 := frozen_of_row w4 b 4 _ _ hb4
  obtain ⟨h1, t1⟩ := h.turn (show 4 < 5 by omega) (xs := q 4 ++ [x]) (v' := .slice a' ((q 4).length + 1) c') (((Ch.refl (fun _ => False) w).alloc (.cells #[.int .i64 x] 3)).trans' d4 (fun _ _ e => e.elim) (fun _ _ e => by rw [e4]; exact e)) (by simpa using r4') (by rw [e4]; exact b4.imp id (fun e => .inr ⟨_, e, by omega⟩))
  have H1 := Lib.hid h1
  have T1 := Lib.hid t1
  have HL : Hid ((q 4).length < 4294967295 ∧ (q i).length < 4294967295) := Lib.hid ⟨hl4, hli⟩
  have hqi : updF q 4 (q 4 ++ [x]) i = q i := updF_other _ _ _ (by omega)
  replace hx := Lib.hid hx
  generalize updF q 4 (q 4 ++ [x]) = q1 at *
  replace hqi := Lib.hid hqi
  generalize q 4 = E at *
  clear h r4 r4' d4 b4 hb4 hk h1 t1 e4 l4 hlen hli
  go_enter Try.func17, Try.ntmps17
  go_wp2_with fail
  go_loopw [20] (fun i wr => ∃ j : Nat, j ≤ E.length ∧ i = .int .i64 j ∧ SameW w wr) (fun i _ => E.length - (intOf i).toNat)
  case atStart => exact ⟨0, Nat.zero_le _, rfl, SameW.rfl' _⟩
  case round =>
    obtain ⟨j, hj, rfl, hs⟩ := hrel
    obtain rfl : w = wr := hs
    by_cases hlt : j < E.length
    · obtain ⟨g, o, c1, -, hs1, hc1⟩ := SeesI.at s4 (by omega)
      obtain ⟨rfl, rfl⟩ : a4 = some ⟨g, o, none⟩ ∧ c4 = c1 := by simpa using hs1
      have hcl := hc1 j hlt
      have hne : E.getD j 0 ≠ x := fun e => hx.out (mem_getD.2 ⟨j, hlt, e⟩)
      clear hs1 hc1 hrun k44 f44 s4
      generalize E.getD j 0 = X at *
      have i4 : (0 : Int) ≤ j := by omega
      have i5 : (j : Int) < E.length := by omega
      have t2 : (X == x) = false := by simpa using hne
      clear hne
      go_wp2_with fail
      go_roundw
      case rel => exact ⟨j + 1, by omega, by go_num, SameW.rfl' _⟩
      case measure => simp [intOf]; omega
    · obtain rfl : j = E.length := by omega
      clear hx s4 hl4
      go_wp2_with (at_builtin; refine wpList_append_run rfl _ _ 25 25 rfl rfl rfl hrun ?_)
      go_wp2_with fail
      generalize w4.setCell ⟨b, 4, none⟩ (.slice a' (E.length + 1) c') = w6 at *
      obtain ⟨ai, ci, ei, ki, fi, li⟩ := RS.facts H1.out (show i < 5 by omega)
      have ri := RS.row H1.out i (by omega)
      rw [hqi.out] at ei ki li ri
      have hli := HL.out.2
      rw [ei] at ri
      have si := ri.sees
      -- the worlds in which the first append may run
      have cA : Ch0 w6 (w6.alloc (.cells #[] 3)) := (Ch.refl _ w6).alloc _
      have cX : Ch0 w6 (w6.alloc (.cells #[.int .i64 x] 3)) := (Ch.refl _ w6).alloc _
      have cB : Ch0 w6 ((w6.alloc (.cells #[] 3)).alloc (.cells #[.int .i64 x] 3)) := cA.alloc _
      have cC : Ch0 w6 ((w6.alloc (.cells #[.int .i64 x] 3)).alloc (.cells #[] 3)) := cX.alloc _
      have kA := cA.cell ki (fun e => e)
      have kX := cX.cell ki (fun e => e)
      have kB := cB.cell ki (fun e => e)
      have kC := cC.cell ki (fun e => e)
      have hB1 := ((Ch.refl (fun _ => False) (w6.alloc (.cells #[] 3))).alloc (.cells #[.int .i64 x] 3)).keep (heap_alloc_new w6 (.cells #[] 3)) (fun e => e)
      have hB2 := heap_alloc_new (w6.alloc (.cells #[] 3)) (.cells #[.int .i64 x] 3)
      have hC1 := ((Ch.refl (fun _ => False) (w6.alloc (.cells #[.int .i64 x] 3))).alloc (.cells #[] 3)).keep (heap_alloc_new w6 (.cells #[.int .i64 x] 3)) (fun e => e)
      have hC2 := heap_alloc_new (w6.alloc (.cells #[.int .i64 x] 3)) (.cells #[] 3)
      rw [World.size_alloc] at hB2 hC2
      have FA : Hid (Ch0 w6 ((w6.alloc (.cells #[] 3)).drew) ∧ (w6.alloc (.cells #[] 3)).drew.heap[w6.heap.size]? = some (.cells #[] 3 (0, 0))) := Lib.hid ⟨cA.drew, heap_alloc_new w6 _⟩
      have FB : Hid (Ch0 w6 (((w6.alloc (.cells #[] 3)).alloc (.cells #[.int .i64 x] 3)).drew) ∧ ((w6.alloc (.cells #[] 3)).alloc (.cells #[.int .i64 x] 3)).drew.heap[w6.heap.size]? = some (.cells #[] 3 (0, 0)) ∧
        ((w6.alloc (.cells #[] 3)).alloc (.cells #[.int .i64 x] 3)).drew.heap[w6.heap.size + 1]? = some (.cells #[.int .i64 x] 3 (0, 0))) := Lib.hid ⟨cB.drew, hB1, hB2⟩
      have FC : Hid (Ch0 w6 (((w6.alloc (.cells #[.int .i64 x] 3)).alloc (.cells #[] 3)).drew) ∧ ((w6.alloc (.cells #[.int .i64 x] 3)).alloc (.cells #[] 3)).drew.heap[w6.heap.size + 1]? = some (.cells #[] 3 (0, 0)) ∧
        ((w6.alloc (.cells #[.int .i64 x] 3)).alloc (.cells #[] 3)).drew.heap[w6.heap.size]? = some (.cells #[.int .i64 x] 3 (0, 0))) := Lib.hid ⟨cC.drew, hC2, hC1⟩
      have HE : Hid (∀ w7 v', Ch0 w6 w7 → RowAt w7 3 1 v' ((q i).length + 1) ((q i ++ [x]).map (Value.int .i64)) → (∀ k, rblk v' = some k → w6.heap.size ≤ k) →
          ∃ O', RQs (w7.setCell ⟨b, i, none⟩ v') b O' (updF q1 i (q i ++ [x])) ∧ Turn w (w7.setCell ⟨b, i, none⟩ v') O O') := Lib.hid (fun w7 v' d7 r7 b7 => by
        obtain ⟨z1, z2⟩ := RS.turn H1.out (show i < 5 by omega) (xs := q i ++ [x]) (d7.of0) (by simpa using r7) (by
          cases hv : rblk v' with
          | none => exact .inr (.inl rfl)
          | some g => exact .inr (.inr ⟨g, rfl, b7 g hv⟩))
        exact ⟨_, ⟨_, z1⟩, T1.out.trans z2⟩)
      have HB : Hid (∃ o, w6.heap[b]? = some o ∧ (∀ w7 : World, w7.heap[b]? = some o → w7.frozen? ⟨b, i, none⟩ = false)) := Lib.hid ⟨_, RS.blk H1.out, fun w7 e => frozen_of_row w7 b i _ _ e⟩
      replace si := Lib.hid si
      replace ki' := Lib.hid ki
      clear cA cX cB cC hB1 hB2 hC1 hC2 ri H1 T1 HL
      generalize hQ : q i = Q at *
      replace hQ := Lib.hid hQ
      go_region_law
        (first
          | (refine step_copyAt (w := w6) FA.out.1 FA.out.2 (Nat.le_refl _) (si.out.keep FA.out.1 (fun _ _ e => e)) (by omega) rfl _ _ (by rfl) (by rfl) (by rfl) ?_; intro a5 c5 w5 r5 d5 _ b5)
          | (refine step_copyAt (w := w6) FB.out.1 FB.out.2.1 (Nat.le_refl _) (si.out.keep FB.out.1 (fun _ _ e => e)) (by omega) rfl _ _ (by rfl) (by rfl) (by rfl) ?_; intro a5 c5 w5 r5 d5 z5 b5; have hG := z5.keep FB.out.2.2 (by omega))
          | (refine step_copyAt (w := w6) FC.out.1 FC.out.2.1 (Nat.le_succ _) (si.out.keep FC.out.1 (fun _ _ e => e)) (by omega) rfl _ _ (by rfl) (by rfl) (by rfl) ?_; intro a5 c5 w5 r5 d5 z5 b5; have hG := z5.keep FC.out.2.2 (by omega))
          | (refine step_int r5 rfl (by omega) _ _ (by rfl) _ _ (by rfl) (by rfl) (by rfl) (heap_alloc_new w5 _) ((Ch.refl _ w5).alloc _) ?_; intro a6 c6 w7 r6 d6 b6 e6; have d7 : Ch0 w6 w7 := (d5.trans e6).trans' d6 (fun _ _ e => e) (fun k hk e => by have := b5 k e; omega); have q7 := d7.cell ki'.out (fun e => e); have f7 := HB.out.elim (fun o ho => ho.2 w7 (d7.keep ho.1 (fun e => e))); have HF := Lib.hid (HE.out w7 _ d7 r6 (fun k hk => b6.elim (fun e => b5 k (by rw [← e]; exact hk)) (fun e => by have e2 := e.symm.trans hk; have := (d5.trans e6).size; simp only [Option.some.injEq] at e2; omega))))
          | (refine step_int r5 rfl (by omega) _ _ (by rfl) _ _ (by rfl) (by rfl) (by rfl) hG (Ch.refl _ w5) ?_; intro a6 c6 w7 r6 d6 b6 e6; have d7 : Ch0 w6 w7 := (d5.trans e6).trans' d6 (fun _ _ e => e) (fun k hk e => by have := b5 k e; omega); have q7 := d7.cell ki'.out (fun e => e); have f7 := HB.out.elim (fun o ho => ho.2 w7 (d7.keep ho.1 (fun e => e))); have HF := Lib.hid (HE.out w7 _ d7 r6 (fun k hk => b6.elim (fun e => b5 k (by rw [← e]; exact hk)) (fun e => by have e2 := e.symm.trans hk; have := (d5.trans e6).size; simp only [Option.some.injEq] at e2; omega)))))
      all_goals
        clear FA FB FC HE HB si ki' kA kX kB kC
        go_wp2_with fail
        go_ret2
        exact ⟨rfl, by rw [hQ.out]; exact HF.out⟩

end Go.Proofs.Ytlmccjmbidfflaa
