/-
  gleaninglaw12.QueueNames answers true: the walk.
-/
import Derived.Test.YtlmccjmbidfflaaCommon12
import Derived.Test.YtlmccjmbidfflaaAside
import Derived.Shelf.Abstract
namespace Go.Proofs.Ytlmccjmbidfflaa
set_option linter.unusedVariables false
open Go.RowKit

theorem held_any (x : Int) (w : World) : Calls Try.prog 16 #[.int .i64 x] w fun e w' => e = .returned (.int .i64 (max 1 (min x 1000))) ∧ SameW w w' := by
  obtain ⟨y, hy⟩ : ∃ y : Int, max 1 (min x 1000) = y := ⟨_, rfl⟩
  rw [hy]
  by_cases h1 : x ≤ 1000
  · by_cases h2 : 1 ≤ x
    · obtain rfl : y = x := by omega
      clear hy
      by_cases h3 : y = 1
      · subst h3
        go_enter Try.func16, Try.ntmps16
        go_wp2_with fail
        go_ret
        exact ⟨rfl, SameW.rfl' _⟩
      · have h4 : 1 < y := by omega
        clear h3
        go_enter Try.func16, Try.ntmps16
        go_wp2_with fail
        go_ret
        exact ⟨rfl, SameW.rfl' _⟩
    · obtain rfl : y = 1 := by omega
      clear hy
      go_enter Try.func16, Try.ntmps16
      go_wp2_with fail
      all_goals
        go_ret
        exact ⟨by first | rfl | (congr 2; omega), SameW.rfl' _⟩
  · obtain rfl : y = 1000 := by omega
    clear hy
    go_enter Try.func16, Try.ntmps16
    go_wp2_with fail
    all_goals
      go_ret
      exact ⟨by first | rfl | (congr 2; omega), SameW.rfl' _⟩

/-- Rename by no function -/
theorem rename_nilfn (b : Nat) (w : World) : Calls Try.prog 19 #[.pointer (some ⟨b, 0, none⟩), .nilFunc] w fun e w' => e = .returned (.tuple #[]) ∧ SameW w w' := by
  have hq : ∀ w, (binOp .eql 40 .nilFunc .nilFunc).run Try.prog w = .ok (.bool true) w := fun w => by rfl
  go_enter Try.func19, Try.ntmps19
  go_wp2_with fail
  refine bodyPost_ret (results_none rfl _ _ _) rfl ?_
  exact ⟨rfl, SameW.rfl' _⟩

theorem clo1 (x n : Int) (b : Nat) (w : World) (hn : 0 ≤ n ∧ n ≤ 2000) (hx : 0 ≤ x ∧ x ≤ 1000) (hc : w.cell? ⟨b, 0, none⟩ = some (.int .i64 n)) :
    Calls Try.prog 25 #[.int .i64 x, .pointer (some ⟨b, 0, none⟩)] w fun e w' => e = .returned (.int .i64 (x + 1000 * n)) ∧ Ch0 w w' := by
  obtain ⟨n0, n1⟩ := hn
  obtain ⟨x0, x1⟩ := hx
  go_enter Try.func25, Try.ntmps25
  go_wp2_with fail
  go_ret
  exact ⟨rfl, Ch.refl _ _⟩

theorem clo2 (x n : Int) (b : Nat) (w : World) (hn : 0 ≤ n ∧ n ≤ 2000) (hx : 0 ≤ x ∧ x ≤ 10000000) (hc : w.cell? ⟨b, 0, none⟩ = some (.int .i64 n)) :
    Calls Try.prog 26 #[.int .i64 x, .pointer (some ⟨b, 0, none⟩)] w fun e w' => e = .returned (.int .i64 (x - 1000 * n + 500)) ∧ Ch0 w w' := by
  obtain ⟨n0, n1⟩ := hn
  obtain ⟨x0, x1⟩ := hx
  go_enter Try.func26, Try.ntmps26
  go_wp2_with fail
  go_ret
  exact ⟨rfl, Ch.refl _ _⟩

theorem clo3 (x : Int) (w : World) (hx : 0 ≤ x ∧ x ≤ 1000) :
    Calls Try.prog 27 (#[.int .i64 x] ++ #[]) w fun e w' => e = .returned (.int .i64 (x - 500)) ∧ Ch0 w w' := by
  obtain ⟨x0, x1⟩ := hx
  go_enter Try.func27, Try.ntmps27
  go_wp2_with fail
  go_ret
  exact ⟨rfl, Ch.refl _ _⟩

theorem Qs.ever {w : World} {b : Nat} {O : Nat → Prop} {q : Nat → List Int} {L : List Int} (h : Qs w b O q L) : ∀ i, i < 4 → ∀ x ∈ q i, x ∈ L := by
  obtain ⟨vs, m, h⟩ := h
  exact h.ever

theorem cat_map (q : Nat → List Int) (N : Int → Int) (n : Nat) : cat (fun i => (q i).map N) n = (cat q n).map N := by
  simp [cat, List.map_flatMap]

theorem cat_len {q : Nat → List Int} {n : Nat} (h : ∀ k, (q k).length ≤ n) : (cat q 4).length ≤ 4 * n := by
  have h0 := h 0
  have h1 := h 1
  have h2 := h 2
  have h3 := h 3
  simp [cat, List.range_succ]
  omega

set_option maxRecDepth 100000 in
set_option maxHeartbeats 4000000 in
theorem names_walk (xs : List Int) (n1 : Nat) (add : Int) (v : Value) (w : World) (hsee : SeesU (fun k => k < w.heap.size) w v xs) (hfit : ∀ x ∈ xs, 0 ≤ x ∧ x ≤ 255) (hn1 : n1 ≤ 255) (hadd : -9223372036854775808 ≤ add ∧ add ≤ 9223372036854775807) :
    Calls Try.prog 7 #[v, .int .u8 (n1 : Int), .int .i64 add] w fun e w' => e = .returned (.bool true) ∧ Ch0 w w' := by
  have HA := Lib.hid awake12
  obtain ⟨a, c, rfl, hlen⟩ := hsee.len
  obtain ⟨R, hR30, hR⟩ : ∃ R : Nat, R < 20 ∧ ((n1 : Int)).tmod 20 = (R : Int) := ⟨n1 % 20, by omega, by rw [Int.tmod_eq_emod_of_nonneg (by omega)]; omega⟩
  by_cases h200 : xs.length ≤ 200
  · have g1 : decide ((200 : Int) < xs.length) = false := decide_eq_false (by omega)
    have HS := Lib.hid hsee
    have HF := Lib.hid hfit
    obtain ⟨M, hM⟩ : ∃ M, max 1 (min add 1000) = M := ⟨_, rfl⟩
    have hM1 : 1 ≤ M := by omega
    have hM2 : M ≤ 1000 := by omega
    have hhd := held_any add
    rw [hM] at hhd
    replace hhd := Lib.hid hhd
    obtain ⟨n, hn⟩ : ∃ n, 1 + M = n := ⟨_, rfl⟩
    have hn2 : 2 ≤ n := by omega
    have hn3 : n ≤ 1001 := by omega
    replace hn := Lib.hid hn
    clear hsee hfit hM hadd
    go_enter Try.func7, Try.ntmps7
    go_wp2_with fail
    refine (HA.out _).mono ?_
    rintro e w1 ⟨rfl, c1⟩
    have h0 := Lib.hid (qs_new w1)
    have cs := Lib.hid c1.size
    replace c1 := Lib.hid (c1.alloc (.cells #[.slice none 0 0, .slice none 0 0, .slice none 0 0, .slice none 0 0, .map none] 29))
    go_wp2_with fail
    refine (hhd.out _).mono ?_
    rintro e w2 ⟨rfl, hs⟩
    obtain rfl := hs
    clear hhd
    go_wp2_with fail
    rw [hn.out]
    have f0 : ∀ k, k = w1.heap.size → w.heap.size ≤ k := by
      rintro k rfl
      exact cs.out
    have hq0 : Qs ((w1.alloc (.cells #[.slice none 0 0, .slice none 0 0, .slice none 0 0, .slice none 0 0, .map none] 29)).alloc (.cells #[.int .i64 n] 3)) w1.heap.size (fun k => k = w1.heap.size) (fun _ => []) [] := h0.out.keep ((Ch.refl (fun _ => False) _).alloc (.cells #[.int .i64 n] 3)) (fun _ _ e => e)
    have m0 : Mine w ((w1.alloc (.cells #[.slice none 0 0, .slice none 0 0, .slice none 0 0, .slice none 0 0, .map none] 29)).alloc (.cells #[.int .i64 n] 3)) (fun k => k = w1.heap.size) := ⟨c1.out.alloc (.cells #[.int .i64 n] 3), f0⟩
    have ha0 : Aside ((w1.alloc (.cells #[.slice none 0 0, .slice none 0 0, .slice none 0 0, .slice none 0 0, .map none] 29)).alloc (.cells #[.int .i64 n] 3)) (fun k => k = w1.heap.size) (fun k => k = w1.heap.size + 1) (fun w => w.heap[w1.heap.size + 1]? = some (.cells #[.int .i64 n] 3 (0, 0))) := by
      refine Aside.block ?_ (by omega)
      have := heap_alloc_new (w1.alloc (.cells #[.slice none 0 0, .slice none 0 0, .slice none 0 0, .slice none 0 0, .map none] 29)) (.cells #[.int .i64 n] 3)
      rw [World.size_alloc] at this
      exact this
    replace hq0 := Lib.hid hq0
    replace m0 := Lib.hid m0
    replace ha0 := Lib.hid ha0
    clear f0 h0 c1 cs
    generalize w1.heap.size = sB at *
    obtain ⟨nB, hnB⟩ : ∃ nB, sB + 1 = nB := ⟨_, rfl⟩
    rw [hnB] at ha0 ⊢
    replace hnB := Lib.hid hnB
    generalize (w1.alloc (.cells #[.slice none 0 0, .slice none 0 0, .slice none 0 0, .slice none 0 0, .map none] 29)).alloc (.cells #[.int .i64 n] 3) = W2 at *
    go_loopw [33] (fun i wr => ∃ j : Nat, j ≤ xs.length ∧ i = .int .i64 j ∧ ∃ O q L, Qs wr sB O q L ∧ Mine w wr O ∧ Aside wr O (fun k => k = nB) (fun w => w.heap[nB]? = some (.cells #[.int .i64 n] 3 (0, 0))) ∧ (∀ x ∈ L, 0 ≤ x ∧ x ≤ 255) ∧ (∀ m, m < j → xs.getD m 0 ∈ L) ∧ ∀ k, (q k).length ≤ j) (fun i _ => xs.length - (intOf i).toNat)
    case atStart => exact ⟨0, Nat.zero_le _, rfl, _, _, _, hq0.out, m0.out, ha0.out, (fun x h => by cases h), (fun m hm => by omega), fun _ => Nat.le_refl _⟩
    case round =>
      obtain ⟨j, hj, rfl, O, q, L, h2, m2, a2, hL, hLm, hq⟩ := hrel
      clear hq0 m0 ha0
      replace h2 := Lib.hid h2
      replace m2 := Lib.hid m2
      replace a2 := Lib.hid a2
      replace hL := Lib.hid hL
      replace hLm := Lib.hid hLm
      replace hq := Lib.hid hq
      by_cases hlt : j < xs.length
      · obtain ⟨g, off, c', -, hv, hc⟩ := Sees.cellF HS.out (by omega)
        obtain ⟨rfl, rfl⟩ : a = some ⟨g, off, none⟩ ∧ c = c' := by simpa using hv
        have hx := m2.out.ch.cell (hc j hlt) (fun e => e)
        have hX := HF.out (xs.getD j 0) (by simp [List.getD_eq_getElem?_getD, hlt])
        have hxj := Lib.hid (show ∀ m, m < j + 1 → m < j ∨ xs.getD m 0 = xs.getD j 0 from fun m hm => by
          by_cases e : m = j
          · subst e; exact .inr rfl
          · exact .inl (by omega))
        clear hv hc
        generalize xs.getD j 0 = X at *
        obtain ⟨m, hm4, hm⟩ : ∃ m : Nat, m < 4 ∧ ((j : Int)) % 4 = (m : Int) := ⟨j % 4, by omega, by omega⟩
        obtain ⟨p, hp, hpm⟩ : ∃ p : Nat, (1 : Int) + (m : Int) = (p : Int) ∧ p = m + 1 := ⟨m + 1, by omega, rfl⟩
        replace hpm := Lib.hid hpm
        have i1 : (0 : Int) ≤ j := by omega
        have i2 : (j : Int) < xs.length := by omega
        obtain ⟨x0, x1⟩ := hX
        have hql : (q m).length < 4294967296 := by have := hq.out m; omega
        go_wp2_with fail
        refine (put_in h2.out m hm4 _ (by have := hpm.out; omega) X hql).mono ?_
        rintro e w5 ⟨rfl, O5, h5, t5⟩
        have m5 := Lib.hid (m2.out.turn t5)
        have a5 := Lib.hid (a2.out.turn t5)
        have hE : ∃ q' L', Qs w5 sB O5 q' L' ∧ (∀ x ∈ L', 0 ≤ x ∧ x ≤ 255) ∧ (∀ m, m < j + 1 → xs.getD m 0 ∈ L') ∧ ∀ k, (q' k).length ≤ j + 1 := by
          by_cases hxm : X ∈ L
          · rw [if_pos hxm, if_pos hxm] at h5
            refine ⟨q, L, h5, hL.out, fun m hm => ?_, fun k => by have := hq.out k; omega⟩
            rcases hxj.out m hm with e | e
            · exact hLm.out m e
            · rw [e]; exact hxm
          · rw [if_neg hxm, if_neg hxm] at h5
            refine ⟨_, _, h5, fun x hx => ?_, fun m hm => ?_, fun k => ?_⟩
            · rcases List.mem_append.1 hx with hx | hx
              · exact hL.out x hx
              · rw [List.mem_singleton] at hx; omega
            · rcases hxj.out m hm with e | e
              · exact List.mem_append_left _ (hLm.out m e)
              · rw [e]; simp
            · unfold updF
              have := hq.out k
              have := hq.out m
              split <;> simp <;> omega
        obtain ⟨q', L', hE⟩ := hE
        replace hE := Lib.hid hE
        clear h5 t5
        go_wp2_with fail
        go_roundw
        case rel => exact ⟨j + 1, by omega, by go_num, O5, q', L', hE.out.1, m5.out, a5.out, hE.out.2.1, hE.out.2.2.1, hE.out.2.2.2⟩
        case measure => simp [intOf]; omega
      · obtain rfl : j = xs.length := by omega
        go_wp2_with fail
        have hqL : Hid (∀ k, (q k).length ≤ 200) := Lib.hid (fun k => by have := hq.out k; omega)
        clear hq
        go_loopw [49] (fun i wr => ∃ p : Nat, p ≤ R ∧ i = .int .u8 p ∧ ∃ O q, Qs wr sB O q L ∧ Mine w wr O ∧ Aside wr O (fun k => k = nB) (fun w => w.heap[nB]? = some (.cells #[.int .i64 n] 3 (0, 0))) ∧ ∀ k, (q k).length ≤ 200) (fun i _ => R - (intOf i).toNat)
        case atStart => exact ⟨0, Nat.zero_le _, rfl, O, q, h2.out, m2.out, a2.out, hqL.out⟩
        case round =>
          obtain ⟨p, hp, rfl, O2, q2, h3, m3, a3, hq2⟩ := hrel
          clear h2 m2 a2 hqL
          replace h3 := Lib.hid h3
          replace m3 := Lib.hid m3
          replace a3 := Lib.hid a3
          replace hq2 := Lib.hid hq2
          by_cases hpR : p < R
          · go_wp2_with fail
            refine (poll_in h3.out 0 (by omega) 1 rfl).mono ?_
            rintro e w5 ⟨rfl, O5, h5, t5⟩
            have m5 := Lib.hid (m3.out.turn t5)
            have a5 := Lib.hid (a3.out.turn t5)
            have hq5 : Hid (∀ k, ((updF q2 0 (q2 0).tail) k).length ≤ 200) := Lib.hid (fun k => by
              have := hq2.out k
              have := hq2.out 0
              unfold updF
              split
              · simp; omega
              · omega)
            replace h5 := Lib.hid h5
            clear t5
            go_wp2_with fail
            go_roundw
            case rel => exact ⟨p + 1, by omega, by go_num, _, _, h5.out, m5.out, a5.out, hq5.out⟩
            case measure => simp [intOf]; omega
          · obtain rfl : p = R := by omega
            have hC := cat_len hq2.out
            have hal := all_in h3.out (by omega)
            go_wp2_with fail
            refine hal.mono ?_
            rintro e w7 ⟨v7, rfl, c7, r7, b7⟩
            obtain ⟨a7, x7, rfl, -, -⟩ := r7.isSlice
            clear hal
            -- what lies aside: the box and the first list
            have h7 := h3.out.keep c7 (fun _ _ e => e)
            have m7 := Lib.hid (m3.out.new c7)
            have a7' := (a3.out.new c7).and (Aside.row r7 (fun k hk e => by have := Qs.small h3.out _ e; have := b7 k hk; omega))
            have hqe := Qs.ever h3.out
            obtain ⟨C, hCe⟩ : ∃ C, C = cat q2 4 := ⟨_, rfl⟩
            rw [← hCe] at hC r7 a7' ⊢
            have hCm : Hid (∀ x ∈ C, 0 ≤ x ∧ x ≤ 255) := Lib.hid (fun x hx => by
              rw [hCe] at hx
              obtain ⟨i, hi, hxi⟩ := List.mem_flatMap.1 hx
              exact hL.out x (hqe i (List.mem_range.1 hi) x hxi))
            have hmf : ∀ (fn : Fn) (first cap : Array Value) (w : World), (Instr.makeFunc fn first cap).run Try.prog w = .ok (.func fn first cap) w := fun _ _ _ _ => rfl
            have hren1 := rename_any h7 (fun i hi => by have := hq2.out i; omega) 25 #[.pointer (some ⟨nB, 0, none⟩)] (enters_of Try.func25 (by kernel_rfl) rfl) (fun x => x + 1000 * n)
              (fun W x cW hx => clo1 x n nB W ⟨by omega, by omega⟩ ⟨(hL.out x hx).1, by have := (hL.out x hx).2; omega⟩ (cW.cell (cell_of_one a7'.x.1) (fun e => e)))
            replace a7' := Lib.hid a7'
            replace hCe := Lib.hid hCe
            have hE0 := Lib.hid hqe
            clear h7 r7 b7 c7 hqe a3 m3 h3
            go_wp2_with fail
            refine hren1.mono ?_
            rintro e w8 ⟨rfl, O8, L8, hEv8, h8, t8⟩
            clear hren1
            have m8 := m7.out.turn t8
            have a8 := a7'.out.turn t8
            replace h8 := Lib.hid h8
            clear t8
            go_wp2_with fail
            refine (rename_nilfn sB w8).mono ?_
            rintro e w9 ⟨rfl, hs⟩
            obtain rfl := hs
            have hal := all_in h8.out (by rw [cat_map, List.length_map]; have := hCe.out; rw [← this]; omega)
            rw [cat_map, ← hCe.out] at hal
            go_wp2_with fail
            refine hal.mono ?_
            rintro e w10 ⟨v10, rfl, c10, r10, b10⟩
            obtain ⟨a10, x10, rfl, -, -⟩ := r10.isSlice
            clear hal
            have h10 := Lib.hid (h8.out.keep c10 (fun _ _ e => e))
            have m10 := Lib.hid (m8.new c10)
            have a10' := Lib.hid ((a8.new c10).and (Aside.row r10 (fun k hk e => by have := Qs.small h8.out _ e; have := b10 k hk; omega)))
            have hl10 : ((C.map (fun x => x + 1000 * n))).length = C.length := List.length_map _
            rw [hl10]
            have hL8 : Hid (∀ x ∈ L8, ∃ y ∈ L, y + 1000 * n = x) := Lib.hid (fun x hx => by
              rcases (hEv8 x).1 hx with ⟨_, y, hy, e⟩ | ⟨i, hi, y, hy, e⟩
              · exact ⟨y, hy, e⟩
              · exact ⟨y, hE0.out i hi y hy, e⟩)
            have hI8 : Hid (∀ y ∈ L, y + 1000 * n ∈ L8) := Lib.hid (fun y hy => (hEv8 _).2 (.inl ⟨by have := (hL.out y hy).1; omega, y, hy, rfl⟩))
            clear h8 m8 a8 r10 b10 c10 m7 a7' hEv8
            have hCx : Hid (∀ k, k < C.length → (C.map (fun x => x + 1000 * n)).getD k 0 = C.getD k 0 + 1000 * n) := Lib.hid (fun k hk => by simp [List.getD_eq_getElem?_getD, hk])
            go_wp2_with fail
            go_loopw [65] (fun i wr => ∃ k : Nat, k ≤ C.length ∧ i = .int .i64 k ∧ Ch0 w10 wr) (fun i _ => C.length - (intOf i).toNat)
            case atStart => exact ⟨0, Nat.zero_le _, rfl, Ch.refl _ _⟩
            case round =>
              obtain ⟨k, hk, rfl, d⟩ := hrel
              replace d := Lib.hid d
              have hbx := cell_of_one (a10'.out.new d.out).x.1.1
              by_cases hkC : k < C.length
              · obtain ⟨g7, o7, y7, -, e7, hc7⟩ := SeesI.cell (a10'.out.new d.out).x.1.2.sees (by omega)
                obtain ⟨rfl, rfl⟩ : a7 = some ⟨g7, o7, none⟩ ∧ x7 = y7 := by simpa using e7
                have hr10 := (a10'.out.new d.out).x.2
                rw [List.length_map] at hr10
                obtain ⟨g9, o9, y9, -, e9, hc9⟩ := Sees.cellF (f := .int .i64) (xs := C.map (fun x => x + 1000 * n)) (by rw [List.length_map]; exact hr10.sees) (by rw [List.length_map]; omega)
                obtain ⟨rfl, rfl⟩ : a10 = some ⟨g9, o9, none⟩ ∧ x10 = y9 := by simpa using e9
                have k7 := hc7 k hkC
                have k9 := hc9 k (by rw [List.length_map]; exact hkC)
                rw [hCx.out k hkC] at k9
                have hX := hCm.out (C.getD k 0) (by simp [List.getD_eq_getElem?_getD, hkC])
                clear e7 hc7 e9 hc9 hr10
                generalize C.getD k 0 = X at *
                obtain ⟨x0, x1⟩ := hX
                have i1 : (0 : Int) ≤ k := by omega
                have i2 : (k : Int) < C.length := by omega
                have g3 : decide ((C.length : Int) ≤ (k : Int)) = false := decide_eq_false (by omega)
                have g3n : decide (C.length ≤ k) = false := decide_eq_false (by omega)
                have t1 : ((X + 1000 * n) != (X + 1000 * n)) = false := by simp
                have e1 : IntKind.i64.wrap (1000 * n) = 1000 * n := IntWalk.i64_in _ (by omega)
                have e2 : IntKind.i64.wrap (X + 1000 * n) = X + 1000 * n := IntWalk.i64_in _ (by omega)
                go_wp2_with fail
                go_quiet (fail)
                clear e1 e2 k7 k9 hbx
                go_wp2_with fail
                go_roundw
                case rel => exact ⟨k + 1, by omega, by go_num, d.out.drewN _⟩
                case measure => simp [intOf]; omega
              · obtain rfl : k = C.length := by omega
                clear hbx
                have d10 := d
                clear d
                go_wp2_with fail
                go_loopw [89] (fun i wr => ∃ k : Nat, k ≤ xs.length ∧ i = .int .i64 k ∧ Ch0 w10 wr) (fun i _ => xs.length - (intOf i).toNat)
                case atStart => exact ⟨0, Nat.zero_le _, rfl, d10.out⟩
                case round =>
                  obtain ⟨k, hk, rfl, d⟩ := hrel
                  clear d10
                  replace d := Lib.hid d
                  have hbx := cell_of_one (a10'.out.new d.out).x.1.1
                  by_cases hkC : k < xs.length
                  · obtain ⟨g, off, c', -, hv, hc⟩ := Sees.cellF HS.out (by omega)
                    obtain ⟨rfl, rfl⟩ : a = some ⟨g, off, none⟩ ∧ c = c' := by simpa using hv
                    have hx := (m10.out.ch.trans d.out).cell (hc k hkC) (fun e => e)
                    have hX := HF.out (xs.getD k 0) (by simp [List.getD_eq_getElem?_getD, hkC])
                    have hXL := Lib.hid (hI8.out _ (hLm.out k hkC))
                    clear hv hc
                    generalize xs.getD k 0 = X at *
                    obtain ⟨vs, mm, hQS⟩ := h10.out
                    have hpt : ∀ N, Calls Try.prog 12 #[.pointer (some ⟨sB, 0, none⟩), .int .i64 2, .int .i64 (X + 1000 * n)] (wr.drewN N) fun e w'' => e = .returned (.tuple #[.bool false, .int .i64 0]) ∧ ∃ m, w'' = wr.drewN m := fun N =>
                      quietEq (put_old (hQS.keep (d.out.drewN N) (fun _ _ e => e)) 1 (by omega) 2 rfl _ hXL.out)
                    clear hQS
                    replace hpt := Lib.hid hpt
                    have i1 : (0 : Int) ≤ k := by omega
                    have i2 : (k : Int) < xs.length := by omega
                    obtain ⟨x0, x1⟩ := hX
                    have e1 : IntKind.i64.wrap (1000 * n) = 1000 * n := IntWalk.i64_in _ (by omega)
                    have e2 : IntKind.i64.wrap (X + 1000 * n) = X + 1000 * n := IntWalk.i64_in _ (by omega)
                    have e3 : IntKind.i64.wrap X = X := IntWalk.i64_in _ (by omega)
                    go_wp2_with fail
                    go_quiet ((go_at_call 12; exact hpt.out _))
                    clear e1 e2 e3 hbx hx
                    go_wp2_with fail
                    go_roundw
                    case rel => exact ⟨k + 1, by omega, by go_num, d.out.drewN _⟩
                    case measure => simp [intOf]; omega
                  · obtain rfl : k = xs.length := by omega
                    have hmf : ∀ (fn : Fn) (first cap : Array Value) (w : World), (Instr.makeFunc fn first cap).run Try.prog w = .ok (.func fn first cap) w := fun _ _ _ _ => rfl
                    have h11 := h10.out.keep d.out (fun _ _ e => e)
                    have m11 := Lib.hid (m10.out.new d.out)
                    have a11 := Lib.hid (a10'.out.new d.out)
                    have hren2 := rename_any h11 (fun i hi => by rw [List.length_map]; have := hq2.out i; omega) 26 #[.pointer (some ⟨nB, 0, none⟩)] (enters_of Try.func26 (by kernel_rfl) rfl) (fun x => x - 1000 * n + 500)
                      (fun W x cW hx => by
                        obtain ⟨y, hy, rfl⟩ := hL8.out x hx
                        have := hL.out y hy
                        exact clo2 (y + 1000 * n) n nB W ⟨by omega, by omega⟩ ⟨by omega, by omega⟩ (cW.cell hbx (fun e => e)))
                    clear h11 m10 a10' h10 d hbx
                    go_wp2_with fail
                    refine hren2.mono ?_
                    rintro e w12 ⟨rfl, O12, L12, hEv12, h12, t12⟩
                    clear hren2
                    have m12 := m11.out.turn t12
                    have a12 := a11.out.turn t12
                    have hL12 : ∀ x ∈ L12, ∃ y ∈ L, y + 500 = x := by
                      intro x hx
                      rcases (hEv12 x).1 hx with ⟨_, z, hz, e⟩ | ⟨i, hi, z, hz, e⟩ <;> replace e : z - 1000 * n + 500 = x := e
                      · obtain ⟨y, hy, e2⟩ := hL8.out z hz
                        exact ⟨y, hy, by omega⟩
                      · obtain ⟨y, hy, e2⟩ := List.mem_map.1 hz
                        replace e2 : y + 1000 * n = z := e2
                        exact ⟨y, hE0.out i hi y hy, by omega⟩
                    have hren3 := rename_any h12 (fun i hi => by rw [List.length_map, List.length_map]; have := hq2.out i; omega) 27 #[] (enters_of Try.func27 (by kernel_rfl) rfl) (fun x => x - 500)
                      (fun W x cW hx => by
                        obtain ⟨y, hy, rfl⟩ := hL12 x hx
                        have := hL.out y hy
                        exact clo3 (y + 500) W ⟨by omega, by omega⟩)
                    have HL12 := Lib.hid hL12
                    clear t12 m11 a11 hEv12 h12 hL12
                    go_wp2_with fail
                    refine hren3.mono ?_
                    rintro e w13 ⟨rfl, O13, L13, hEv13, h13, t13⟩
                    clear hren3
                    have m13 := m12.turn t13
                    have a13 := a12.turn t13
                    have hL13 : ∀ x ∈ L13, x ≤ 255 := by
                      intro x hx
                      rcases (hEv13 x).1 hx with ⟨_, z, hz, e⟩ | ⟨i, hi, z, hz, e⟩ <;> replace e : z - 500 = x := e
                      · obtain ⟨y, hy, e2⟩ := HL12.out z hz
                        have := hL.out y hy
                        omega
                      · obtain ⟨z1, hz1, e1⟩ := List.mem_map.1 hz
                        obtain ⟨y, hy, e2⟩ := List.mem_map.1 hz1
                        have := hL.out y (hE0.out i hi y hy)
                        replace e1 : z1 - 1000 * n + 500 = z := e1
                        replace e2 : y + 1000 * n = z1 := e2
                        omega
                    have hmap : ((C.map (fun x => x + 1000 * n)).map (fun x => x - 1000 * n + 500)).map (fun x => x - 500) = C := by
                      rw [List.map_map, List.map_map]
                      exact (List.map_congr_left (g := fun x => x) (fun x _ => by show x + 1000 * n - 1000 * n + 500 - 500 = x; omega)).trans (List.map_id' C)
                    have hcat : cat (fun i => (((q2 i).map (fun x => x + 1000 * n)).map (fun x => x - 1000 * n + 500)).map (fun x => x - 500)) 4 = C := by
                      rw [cat_map (fun i => ((q2 i).map (fun x => x + 1000 * n)).map (fun x => x - 1000 * n + 500)), cat_map (fun i => (q2 i).map (fun x => x + 1000 * n)), cat_map, ← hCe.out]
                      exact hmap
                    have hal := all_in h13 (by rw [hcat]; omega)
                    rw [hcat] at hal
                    have HQ13 := Lib.hid (And.intro h13 (And.intro m13 (And.intro a13 hL13)))
                    have HLq : Hid ((((((q2 2).map (fun x => x + 1000 * n)).map (fun x => x - 1000 * n + 500)).map (fun x => x - 500)).length < 4294967296)) := Lib.hid (by
                      have := hq2.out 2
                      simp; omega)
                    clear h13 m13 a13 hL13 hmap hcat t13 hEv13 m12 a12
                    go_wp2_with fail
                    refine hal.mono ?_
                    rintro e w14 ⟨v14, rfl, c14, r14, b14⟩
                    obtain ⟨a14, x14, rfl, -, -⟩ := r14.isSlice
                    clear hal b14
                    have hsm := same_any _ _ _ _ C C w14 r14.sees (HQ13.out.2.2.1.new c14).x.1.2.sees
                    rw [decide_eq_true rfl] at hsm
                    replace c14 := Lib.hid c14
                    clear r14
                    go_wp2_with fail
                    refine hsm.mono ?_
                    rintro e w15 ⟨rfl, kq, rfl⟩
                    clear hsm
                    have c15 := c14.out.drewN kq
                    generalize w14.drewN kq = w15 at *
                    have t2 : ((C.length : Int) != (C.length : Int)) = false := by simp
                    have hbx := cell_of_one (HQ13.out.2.2.1.new c15).x.1.1
                    have hput := put_in (HQ13.out.1.keep c15 (fun _ _ e => e)) 2 (by omega) 3 rfl (1000 * n + 256) HLq.out
                    have hno : (1000 * n + 256) ∉ L13 := fun h => by have := HQ13.out.2.2.2 _ h; omega
                    rw [if_neg hno, if_neg hno, decide_eq_true hno] at hput
                    have m15 := Lib.hid (HQ13.out.2.1.new c15)
                    clear hno c15 c14
                    go_wp2_with fail
                    refine hput.mono ?_
                    rintro e w16 ⟨rfl, O16, h16, t16⟩
                    have m16 := Lib.hid (m15.out.turn t16)
                    clear h16 t16 hput m15 hbx
                    go_wp2_with fail
                    go_ret
                    exact ⟨rfl, m16.out.ch⟩
  · have g1 : decide ((200 : Int) < xs.length) = true := decide_eq_true (by omega)
    clear hsee hfit
    go_enter Try.func7, Try.ntmps7
    go_wp2_with fail
    refine (HA.out _).mono ?_
    rintro e w1 ⟨rfl, c1⟩
    have d1 := Lib.hid c1
    clear c1
    go_wp2_with fail
    refine (HA.out _).mono ?_
    rintro e w2 ⟨rfl, c2⟩
    have d2 := Lib.hid (d1.out.trans c2)
    clear c2
    go_wp2_with fail
    go_ret
    exact ⟨rfl, d2.out⟩

end Go.Proofs.Ytlmccjmbidfflaa
