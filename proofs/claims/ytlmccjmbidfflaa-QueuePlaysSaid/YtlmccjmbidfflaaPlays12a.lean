/-
  For QueuePlays: the closures, and the plain law: the program's set and the document's side by side.
-/
import Derived.Test.YtlmccjmbidfflaaRefAdd12
import Derived.Test.YtlmccjmbidfflaaOps12
namespace Go.Proofs.Ytlmccjmbidfflaa
set_option linter.unusedVariables false
open Go.RowKit

theorem pclo1 (x n : Int) (b : Nat) (w : World) (hn : 0 ≤ n ∧ n ≤ 100) (hx : 0 ≤ x ∧ x ≤ 1000000) (hc : w.cell? ⟨b, 0, none⟩ = some (.int .i64 n)) :
    Calls Try.prog 20 #[.int .i64 x, .pointer (some ⟨b, 0, none⟩)] w fun e w' => e = .returned (.int .i64 (x + n)) ∧ Ch0 w w' := by
  obtain ⟨n0, n1⟩ := hn
  obtain ⟨x0, x1⟩ := hx
  go_enter Try.func20, Try.ntmps20
  go_wp2_with fail
  go_ret
  exact ⟨rfl, Ch.refl _ _⟩

/-- what the second closure makes of a thing -/
def forgetN (C : List Int) (X x : Int) : Int := if x ∈ C then x else if x < X then 0 else x

set_option maxHeartbeats 1000000 in
theorem pclo2 (x X : Int) (C : List Int) (bA bO : Nat) (w : World) {D : Nat → Prop} {a : Option Addr} {c : Nat} (hl : C.length < 4294967296) (hA : w.cell? ⟨bA, 0, none⟩ = some (.slice a C.length c)) (hs : SeesI D w (.slice a C.length c) C) (hX : w.cell? ⟨bO, 2, none⟩ = some (.int .i64 X)) :
    Calls Try.prog 23 #[.int .i64 x, .pointer (some ⟨bA, 0, none⟩), .pointer (some ⟨bO, 0, none⟩)] w fun e w' => e = .returned (.int .i64 (forgetN C X x)) ∧ Ch0 w w' := by
  generalize hN : forgetN C X x = y
  replace hN := Lib.hid hN
  go_enter Try.func23, Try.ntmps23
  go_wp2_with fail
  go_loopw [8] (fun i wr => ∃ j : Nat, j ≤ C.length ∧ i = .int .i64 j ∧ (∀ m, m < j → C.getD m 0 ≠ x) ∧ SameW w wr) (fun i _ => C.length - (intOf i).toNat)
  case atStart => exact ⟨0, Nat.zero_le _, rfl, (fun m hm => by omega), SameW.rfl' _⟩
  case round =>
    obtain ⟨j, hj, rfl, hno, hsw⟩ := hrel
    obtain rfl : w = wr := hsw
    replace hno := Lib.hid hno
    by_cases hlt : j < C.length
    · obtain ⟨g, o, c1, -, hs1, hc1⟩ := SeesI.at hs (by omega)
      obtain ⟨rfl, rfl⟩ : a = some ⟨g, o, none⟩ ∧ c = c1 := by simpa using hs1
      have hcl := hc1 j hlt
      have hxj := Lib.hid (show ∀ m, m < j + 1 → m < j ∨ C.getD m 0 = C.getD j 0 from fun m hm => by
          by_cases e : m = j
          · subst e; exact .inr rfl
          · exact .inl (by omega))
      have hmem := Lib.hid (show C.getD j 0 ∈ C by simp [List.getD_eq_getElem?_getD, hlt])
      clear hs1 hc1 hs
      generalize C.getD j 0 = Z at *
      have i4 : (0 : Int) ≤ j := by omega
      have i5 : (j : Int) < C.length := by omega
      by_cases hxy : Z = x
      · have t2 : (Z == x) = true := by simpa using hxy
        have hy := Lib.hid (show x = y by rw [← hN.out, forgetN, if_pos (hxy ▸ hmem.out)])
        clear hxy
        go_wp2_with fail
        go_ret
        exact ⟨by rw [← hy.out]; rfl, Ch.refl _ _⟩
      · have t2 : (Z == x) = false := by simpa using hxy
        replace hxy := Lib.hid hxy
        go_wp2_with fail
        go_roundw
        case rel =>
          refine ⟨j + 1, by omega, by go_num, fun m hm => ?_, SameW.rfl' _⟩
          rcases hxj.out m hm with e | e
          · exact hno.out m e
          · rw [e]; exact hxy.out
        case measure => simp [intOf]; omega
    · obtain rfl : j = C.length := by omega
      have hnc : x ∉ C := fun h => by
        obtain ⟨m, hm, e⟩ := mem_getD.1 h
        exact hno.out m hm e
      clear hs hA
      by_cases hlx : x < X
      · have hy := Lib.hid (show 0 = y by rw [← hN.out, forgetN, if_neg hnc, if_pos hlx])
        clear hnc
        go_wp2_with fail
        go_ret
        exact ⟨by rw [← hy.out]; rfl, Ch.refl _ _⟩
      · have hy := Lib.hid (show x = y by rw [← hN.out, forgetN, if_neg hnc, if_neg hlx])
        clear hnc
        go_wp2_with fail
        go_ret
        exact ⟨by rw [← hy.out]; rfl, Ch.refl _ _⟩

/-- the program's queues q, with L ever put in; the document's q2 -/
structure PP (q q2 : Nat → List Int) (L : List Int) (j : Nat) : Prop where
  eq : ∀ i, i < 4 → q i = q2 i
  mem : ∀ x, x ∈ L ↔ x ∈ q2 4
  pos : ∀ i, i < 5 → ∀ x ∈ q2 i, 1 ≤ x ∧ x ≤ 1000 + 100 * (j : Int)
  len : ∀ i, i < 5 → (q2 i).length ≤ j
  sub : ∀ i, i < 4 → ∀ x ∈ q2 i, x ∈ q2 4

section
variable {q q2 : Nat → List Int} {L : List Int} {j : Nat}

theorem PP.next (h : PP q q2 L j) : PP q q2 L (j + 1) where
  eq := h.eq
  mem := h.mem
  pos := fun i hi x hx => by have := h.pos i hi x hx; omega
  len := fun i hi => by have := h.len i hi; omega
  sub := h.sub

theorem pp_start : PP (fun _ => []) (fun _ => []) [] 0 where
  eq := fun _ _ => rfl
  mem := fun _ => Iff.rfl
  pos := fun _ _ x hx => by cases hx
  len := fun _ _ => Nat.le_refl _
  sub := fun _ _ x hx => by cases hx

theorem PP.put (h : PP q q2 L j) (i : Nat) (hi : i < 4) (x : Int) (hx : 1 ≤ x ∧ x ≤ 1000) :
    PP (updF q i (q i ++ [x])) (updF (updF q2 4 (q2 4 ++ [x])) i (q2 i ++ [x])) (L ++ [x]) (j + 1) := by
  have e4 : updF (updF q2 4 (q2 4 ++ [x])) i (q2 i ++ [x]) 4 = q2 4 ++ [x] := by
    rw [updF_other _ _ _ (by omega), updF_same]
  have ei : updF (updF q2 4 (q2 4 ++ [x])) i (q2 i ++ [x]) i = q2 i ++ [x] := updF_same _ _ _
  have eo : ∀ k, k ≠ i → k ≠ 4 → updF (updF q2 4 (q2 4 ++ [x])) i (q2 i ++ [x]) k = q2 k := fun k h1 h2 => by
    rw [updF_other _ _ _ h1, updF_other _ _ _ h2]
  refine ⟨fun k hk => ?_, fun y => ?_, fun k hk y hy => ?_, fun k hk => ?_, fun k hk y hy => ?_⟩
  · by_cases e : k = i
    · subst e; rw [ei, updF_same, h.eq k hk]
    · rw [eo k e (by omega), updF_other _ _ _ e, h.eq k hk]
  · rw [e4]; simp [h.mem y]
  · by_cases e : k = i
    · subst e
      rw [ei] at hy
      rcases List.mem_append.1 hy with hy | hy
      · have := h.pos k hk y hy; omega
      · rw [List.mem_singleton] at hy; omega
    · by_cases e2 : k = 4
      · subst e2
        rw [e4] at hy
        rcases List.mem_append.1 hy with hy | hy
        · have := h.pos 4 hk y hy; omega
        · rw [List.mem_singleton] at hy; omega
      · rw [eo k e e2] at hy
        have := h.pos k hk y hy; omega
  · have := h.len k hk
    by_cases e : k = i
    · subst e; rw [ei]; simpa using this
    · by_cases e2 : k = 4
      · subst e2; rw [e4]; simpa using this
      · rw [eo k e e2]; omega
  · rw [e4]
    by_cases e : k = i
    · subst e
      rw [ei] at hy
      rcases List.mem_append.1 hy with hy | hy
      · exact List.mem_append_left _ (h.sub k hk y hy)
      · exact List.mem_append_right _ hy
    · rw [eo k e (by omega)] at hy
      exact List.mem_append_left _ (h.sub k hk y hy)

theorem PP.poll (h : PP q q2 L j) (i : Nat) (hi : i < 4) : PP (updF q i (q i).tail) (updF q2 i (q2 i).tail) L (j + 1) := by
  have e4 : updF q2 i (q2 i).tail 4 = q2 4 := updF_other _ _ _ (by omega)
  refine ⟨fun k hk => ?_, fun y => ?_, fun k hk y hy => ?_, fun k hk => ?_, fun k hk y hy => ?_⟩
  · by_cases e : k = i
    · subst e; rw [updF_same, updF_same, h.eq k hk]
    · rw [updF_other _ _ _ e, updF_other _ _ _ e, h.eq k hk]
  · rw [e4]; exact h.mem y
  · by_cases e : k = i
    · subst e
      rw [updF_same] at hy
      have := h.pos k hk y (List.mem_of_mem_tail hy); omega
    · rw [updF_other _ _ _ e] at hy
      have := h.pos k hk y hy; omega
  · have := h.len k hk
    by_cases e : k = i
    · subst e; rw [updF_same]; simp; omega
    · rw [updF_other _ _ _ e]; omega
  · rw [e4]
    by_cases e : k = i
    · subst e
      rw [updF_same] at hy
      exact h.sub k hk y (List.mem_of_mem_tail hy)
    · rw [updF_other _ _ _ e] at hy
      exact h.sub k hk y hy

theorem addE_all {E C : List Int} {n : Int} (h : ∀ e ∈ E, 0 ≤ e) : addE E C n 0 = E.map (· + n) := by
  unfold addE
  congr 1
  rw [List.filter_eq_self]
  intro e he
  rw [Bool.or_eq_true]
  exact .inr (decide_eq_true (h e he))

theorem PP.add (h : PP q q2 L j) (n : Int) (hn : 1 ≤ n ∧ n ≤ 100) {LE : List Int} (hE : Evers q L (fun x => x + n) LE) :
    PP (fun i => (q i).map (fun x => x + n)) (updF (addQ q2 n 4 0) 4 (addE (q2 4) (cat (addQ q2 n 4 0) 4) n 0)) LE (j + 1) := by
  have h4 : addE (q2 4) (cat (addQ q2 n 4 0) 4) n 0 = (q2 4).map (· + n) := addE_all fun e he => by
    have := h.pos 4 (by omega) e he; omega
  rw [h4]
  have e4 : updF (addQ q2 n 4 0) 4 ((q2 4).map (· + n)) 4 = (q2 4).map (· + n) := updF_same _ _ _
  have eo : ∀ k, k < 4 → updF (addQ q2 n 4 0) 4 ((q2 4).map (· + n)) k = (q2 k).map (· + n) := fun k hk => by
    rw [updF_other _ _ _ (by omega), addQ_zero]; simp only [hk, if_true]
  have e5 : ∀ k, k < 5 → updF (addQ q2 n 4 0) 4 ((q2 4).map (· + n)) k = (q2 k).map (· + n) := fun k hk => by
    by_cases e : k = 4
    · subst e; exact e4
    · exact eo k (by omega)
  refine ⟨fun k hk => ?_, fun y => ?_, fun k hk y hy => ?_, fun k hk => ?_, fun k hk y hy => ?_⟩
  · rw [eo k hk, h.eq k hk]
  · rw [e4, hE y, List.mem_map]
    constructor
    · rintro (⟨-, x, hx, e⟩ | ⟨i, hi, x, hx, e⟩)
      · exact ⟨x, (h.mem x).1 hx, e⟩
      · exact ⟨x, h.sub i hi x (h.eq i hi ▸ hx), e⟩
    · rintro ⟨x, hx, e⟩
      have := h.pos 4 (by omega) x hx
      exact .inl ⟨by omega, x, (h.mem x).2 hx, e⟩
  · rw [e5 k hk, List.mem_map] at hy
    obtain ⟨x, hx, e⟩ := hy
    have := h.pos k hk x hx
    omega
  · rw [e5 k hk, List.length_map]
    have := h.len k hk; omega
  · rw [eo k hk, List.mem_map] at hy
    obtain ⟨x, hx, e⟩ := hy
    rw [e4, List.mem_map]
    exact ⟨x, h.sub k hk x hx, e⟩

theorem addQ_none (q : Nat → List Int) : addQ q 0 4 0 = q := by
  rw [addQ_zero]
  funext k
  split
  · simp
  · rfl

theorem PP.cat (h : PP q q2 L j) {i : Nat} (hi : i < 4) {x : Int} (hx : x ∈ q2 i) : x ∈ cat q2 4 :=
  List.mem_flatMap.2 ⟨i, List.mem_range.2 hi, hx⟩

theorem PP.forget (h : PP q q2 L j) (X : Int) {LE : List Int} (hE : Evers q L (forgetN (Go.Proofs.Ytlmccjmbidfflaa.cat q2 4) X) LE) :
    PP (fun i => (q i).map (forgetN (Go.Proofs.Ytlmccjmbidfflaa.cat q2 4) X)) (updF (addQ q2 0 4 0) 4 (addE (q2 4) (Go.Proofs.Ytlmccjmbidfflaa.cat (addQ q2 0 4 0) 4) 0 X)) LE (j + 1) := by
  rw [addQ_none]
  obtain ⟨A, hA⟩ : ∃ A, addE (q2 4) (Go.Proofs.Ytlmccjmbidfflaa.cat q2 4) 0 X = A := ⟨_, rfl⟩
  have mA : ∀ y, y ∈ A ↔ y ∈ q2 4 ∧ (y ∈ Go.Proofs.Ytlmccjmbidfflaa.cat q2 4 ∨ X ≤ y) := fun y => by
    rw [← hA]; simp [addE]
  have lA := addE_len (q2 4) (Go.Proofs.Ytlmccjmbidfflaa.cat q2 4) 0 X
  rw [hA] at lA ⊢
  have e4 : updF q2 4 A 4 = A := updF_same _ _ _
  have eo : ∀ k, k < 4 → updF q2 4 A k = q2 k := fun k hk => updF_other _ _ _ (by omega)
  have hN : ∀ k, k < 4 → ∀ x ∈ q2 k, forgetN (Go.Proofs.Ytlmccjmbidfflaa.cat q2 4) X x = x := fun k hk x hx => by
    rw [forgetN, if_pos (h.cat hk hx)]
  refine ⟨fun k hk => ?_, fun y => ?_, fun k hk y hy => ?_, fun k hk => ?_, fun k hk y hy => ?_⟩
  · rw [eo k hk, h.eq k hk]
    calc (q2 k).map (forgetN (Go.Proofs.Ytlmccjmbidfflaa.cat q2 4) X) = (q2 k).map id := List.map_congr_left (fun x hx => hN k hk x hx)
      _ = q2 k := List.map_id _
  · rw [e4, hE y, mA]
    constructor
    · rintro (⟨y0, x, hx, e⟩ | ⟨i, hi, x, hx, e⟩)
      · have hx4 := (h.mem x).1 hx
        unfold forgetN at e
        split at e
        · next hc => subst e; exact ⟨hx4, .inl hc⟩
        · split at e
          · exact absurd e.symm y0
          · subst e; exact ⟨hx4, .inr (by omega)⟩
      · rw [h.eq i hi] at hx
        rw [hN i hi x hx] at e
        subst e
        exact ⟨h.sub i hi x hx, .inl (h.cat hi hx)⟩
    · rintro ⟨hy, hc⟩
      have := h.pos 4 (by omega) y hy
      refine .inl ⟨by omega, y, (h.mem y).2 hy, ?_⟩
      unfold forgetN
      split
      · rfl
      · rcases hc with hc | hc
        · contradiction
        · rw [if_neg (by omega)]
  · have h2 : ∀ z ∈ q2 4, 1 ≤ z ∧ z ≤ 1000 + 100 * (j : Int) := h.pos 4 (by omega)
    by_cases e : k = 4
    · subst e
      rw [e4] at hy
      have := h2 y ((mA y).1 hy).1; omega
    · rw [eo k (by omega)] at hy
      have := h.pos k hk y hy; omega
  · by_cases e : k = 4
    · subst e
      rw [e4]
      have := h.len 4 (by omega); omega
    · rw [eo k (by omega)]
      have := h.len k hk; omega
  · rw [eo k hk] at hy
    rw [e4, mA]
    exact ⟨h.sub k hk y hy, .inl (h.cat hk hy)⟩

theorem PP.cats (h : PP q q2 L j) : Go.Proofs.Ytlmccjmbidfflaa.cat q 4 = Go.Proofs.Ytlmccjmbidfflaa.cat q2 4 := by
  unfold Go.Proofs.Ytlmccjmbidfflaa.cat
  exact Go.Deep.flatMap_congr_range fun i hi => h.eq i hi

theorem PP.catlen (h : PP q q2 L j) : (Go.Proofs.Ytlmccjmbidfflaa.cat q 4).length ≤ 4 * j := by
  have h0 := h.len 0 (by omega)
  have h1 := h.len 1 (by omega)
  have h2 := h.len 2 (by omega)
  have h3 := h.len 3 (by omega)
  rw [h.cats]
  simp [Go.Proofs.Ytlmccjmbidfflaa.cat, List.range_succ]
  omega

theorem PP.qlen (h : PP q q2 L j) (i : Nat) (hi : i < 4) : (q i).length ≤ j := by
  rw [h.eq i hi]; exact h.len i (by omega)

end

/-- both sets in memory, and what lies aside of them -/
structure PM (w0 w : World) (sB rB : Nat) (O O2 : Nat → Prop) (q q2 : Nat → List Int) (L : List Int) (D : Nat → Prop) (X : World → Prop) : Prop where
  s : Qs w sB O q L
  r : RQs w rB O2 q2
  ap : Apart O O2
  ms : Mine w0 w O
  mr : Mine w0 w O2
  ad : Aside w O D X
  ar : Aside w O2 D X

section
variable {w0 w w' : World} {sB rB : Nat} {O O2 O' : Nat → Prop} {q q2 q' : Nat → List Int} {L L' : List Int} {D D' : Nat → Prop} {X X' : World → Prop}

theorem PM.turnS (h : PM w0 w sB rB O O2 q q2 L D X) (hs : Qs w' sB O' q' L') (t : Turn w w' O O') : PM w0 w' sB rB O' O2 q' q2 L' D X where
  s := hs
  r := h.r.keep t.1 (fun k hk e => h.ap k e hk)
  ap := h.ap.turn t h.r.small
  ms := h.ms.turn t
  mr := ⟨(h.ms.turn t).ch, h.mr.f⟩
  ad := h.ad.turn t
  ar := h.ar.chg t.1 h.ad.off

theorem PM.turnR (h : PM w0 w sB rB O O2 q q2 L D X) (hs : RQs w' rB O' q') (t : Turn w w' O2 O') : PM w0 w' sB rB O O' q q' L D X where
  s := h.s.keep t.1 (fun k hk e => h.ap k hk e)
  r := hs
  ap := (h.ap.symm.turn t h.s.small).symm
  ms := ⟨(h.mr.turn t).ch, h.ms.f⟩
  mr := h.mr.turn t
  ad := h.ad.chg t.1 h.ar.off
  ar := h.ar.turn t

theorem PM.new (h : PM w0 w sB rB O O2 q q2 L D X) (c : Ch0 w w') : PM w0 w' sB rB O O2 q q2 L D X where
  s := h.s.keep c (fun _ _ e => e)
  r := h.r.keep c (fun _ _ e => e)
  ap := h.ap
  ms := h.ms.new c
  mr := h.mr.new c
  ad := h.ad.new c
  ar := h.ar.new c

theorem PM.with (h : PM w0 w sB rB O O2 q q2 L D X) (a : Aside w O D' X') (b : Aside w O2 D' X') : PM w0 w sB rB O O2 q q2 L D' X' where
  s := h.s
  r := h.r
  ap := h.ap
  ms := h.ms
  mr := h.mr
  ad := a
  ar := b

end

end Go.Proofs.Ytlmccjmbidfflaa
