/-
  The keys of a map, sorted: slices.Sorted(maps.Keys(m)).
-/
import Derived.Test.YtlmeponoadhheaaShelf
namespace Go.Proofs.Ytlmeponoadhheaa
set_option linter.unusedVariables false
open Go.RowKit Go.Maps Go.Sort Go.Shelf

/-- any value reads -/
def anyR (_ : Value) : Option (DataW Unit × List MemPlace) := some (.lit (.bool true), [])

theorem keys_perm {w : World} {r n : Nat} {f : Int → Option Value} (h : IM w r n f) (hwf : ∀ k, (f k).isSome = true → (Lit.int .i64 k).wf = true) (hmax : n ≤ 1000000) {ks : List Int} (hn : ks.Nodup) (hk : ∀ k, k ∈ ks ↔ (f k).isSome = true) :
    ∃ D0 : DataW Unit, w.ownsMap Try.prog 3 anyR r n D0 ∧ (∀ ss : List Int, ss.Perm (intKeys D0) → ss.Perm ks) ∧ Maps.size D0 = n := by
  obtain ⟨es, clock, hb, hs, hsz, h1, h2⟩ := h
  have hrd : ∀ x ∈ es.toList, ∃ k, x.key = .int .i64 k ∧ WideElems.rd Try.prog 3 anyR x = some (.int .i64 k, .lit (.bool true)) := by
    intro x hx
    obtain ⟨k, e, e2⟩ := h1 x hx
    refine ⟨k, e, ?_⟩
    have := keyOf_int_mk (P := Try.prog) (k := 3) Try.underlying3 (hwf k (by rw [e2]; rfl))
    simp [WideElems.rd, e, this, anyR]
  refine ⟨_, ⟨es, clock, hb, ⟨by unfold maxLen; omega, hs, fun x hx => by obtain ⟨k, _, e⟩ := hrd x hx; exact ⟨_, e⟩⟩, by omega, rfl⟩, ?_, ?_⟩
  · intro ss hss
    refine hss.trans ?_
    have p1 : (intKeys (DataW.map ((es.toList.map (WideElems.rg Try.prog 3 anyR)).foldr DataW.insert []))).Perm ((es.toList.map (WideElems.rg Try.prog 3 anyR)).map fun p => _root_.Go.intOf p.1) :=
      (Go.WideShapes.sorted_perm _).map _
    refine p1.trans ?_
    rw [List.map_map]
    have hap := ((Go.MapKept.stamped_iff es clock).1 hs).2.2
    have hN : (es.toList.map ((fun p => _root_.Go.intOf p.1) ∘ WideElems.rg Try.prog 3 anyR)).Nodup := by
      unfold List.Nodup
      rw [List.pairwise_map]
      refine List.Pairwise.imp_of_mem ?_ hap
      intro a b ha hb' q e
      obtain ⟨ka, e1, e2⟩ := hrd a ha
      obtain ⟨kb, e3, e4⟩ := hrd b hb'
      simp only [Function.comp, WideElems.rg, e2, e4, Option.getD_some, _root_.Go.intOf] at e
      exact q (by rw [e1, e3, e])
    rw [List.perm_ext_iff_of_nodup hN hn]
    intro k
    rw [hk k]
    constructor
    · intro hm
      obtain ⟨x, hx, e⟩ := List.mem_map.1 hm
      obtain ⟨kx, e1, e2⟩ := hrd x hx
      obtain ⟨k', e3, e4⟩ := h1 x hx
      simp only [Function.comp, WideElems.rg, e2, Option.getD_some, _root_.Go.intOf] at e
      rw [e1] at e3
      cases e3
      rw [← e, e4]; rfl
    · intro hm
      obtain ⟨v, hv⟩ := Option.isSome_iff_exists.1 hm
      obtain ⟨x, hx, hxk⟩ := h2 k v hv
      obtain ⟨kx, e1, e2⟩ := hrd x hx
      refine List.mem_map.2 ⟨x, hx, ?_⟩
      rw [hxk] at e1
      cases e1
      simp only [Function.comp, WideElems.rg, e2, Option.getD_some, _root_.Go.intOf]
  · show ((es.toList.map (WideElems.rg Try.prog 3 anyR)).foldr DataW.insert []).length = n
    rw [(Go.WideShapes.sorted_perm _).length_eq]
    simp [hsz]

/-- a list that rises is what it is sorted to -/
theorem sorted_eq {ss ks : List Int} (hp : ss.Perm ks) (hr : ks.Pairwise (· ≤ ·)) : ss.mergeSort (fun x y => decide (x ≤ y)) = ks := by
  refine List.Perm.eq_of_pairwise (le := fun a b => a ≤ b) (fun a b _ _ h1 h2 => Int.le_antisymm h1 h2) ?_ hr ((List.mergeSort_perm ss _).trans hp)
  have := List.pairwise_mergeSort (le := fun x y : Int => decide (x ≤ y)) (fun a b c h1 h2 => by simp at *; omega) (fun a b => by simp; omega) ss
  exact this.imp (fun h => by simpa using h)

theorem sortsA (m : Nat) : AnyZI.SortsIn Try.prog sortedA_ren Fence.wide m :=
  ⟨fun blk off cap ss W hH hblk hsz => callsIn_wide.2 (AnyM.slices_Sort_int sortA blk off cap ss W hH hblk hsz),
   fun p cap W => callsIn_wide.2 (AnyM.slices_Sort_int_none sortA p cap W)⟩

theorem row_of_owns {w : World} {base : Nat} {v : Value} {n : Nat} {xs : List Value} (h : w.ownsRow base 3 1 v n xs) : RowAt w 3 1 v n xs ∧ ∀ k, rblk v = some k → base ≤ k := by
  have h0 : w.ownsRow 0 3 1 v n xs := by
    refine ⟨h.1, ?_⟩
    rcases h.2 with hl | ⟨g, cap, cur, hv, hb, r⟩
    · exact .inl hl
    · exact .inr ⟨g, cap, cur, hv, Nat.zero_le _, r⟩
  obtain ⟨h1, h2⟩ := rowAt_of_owns h0
  refine ⟨h1, fun k hk => ?_⟩
  rw [h2] at hk
  exact (h.lt k hk).1

theorem ch_of_below {w w' : World} (h : Below w.heap.size w w') : Ch0 w w' := ⟨h.os, h.tape, h.output, h.size, fun k hk _ => h.block k hk⟩

/-- maps.Keys of the nodes' map -/
theorem keysN_c (r : Nat) (W : World) : Calls Try.prog 104 #[.map (some r)] W fun e w' => e = .returned (.func (.func 127) #[] #[.pointer (some ⟨W.heap.size, 0, none⟩)]) ∧ w' = W.alloc (.cells #[.map (some r)] 128) :=
  (callsIn_wide (n := 5)).1 (AnyZI.keys_in keysN Fence.wide 5 trivial rfl (some r) W)

theorem keysB_c (r : Nat) (W : World) : Calls Try.prog 110 #[.map (some r)] W fun e w' => e = .returned (.func (.func 129) #[] #[.pointer (some ⟨W.heap.size, 0, none⟩)]) ∧ w' = W.alloc (.cells #[.map (some r)] 32) :=
  (callsIn_wide (n := 5)).1 (AnyZI.keys_in keysB Fence.wide 5 trivial rfl (some r) W)

theorem sortedN_c {W : World} {r n bB : Nat} {f : Int → Option Value} (h : IM W r n f) (hwf : ∀ k, (f k).isSome = true → (Lit.int .i64 k).wf = true) (hmax : n ≤ 1000000) {ks : List Int} (hr : ks.Pairwise (· < ·)) (hk : ∀ k, k ∈ ks ↔ (f k).isSome = true)
    (hB : W.cell? ⟨bB, 0, none⟩ = some (.map (some r))) :
    Calls Try.prog 103 #[.func (.func 127) #[] #[.pointer (some ⟨bB, 0, none⟩)]] W fun e w' => ∃ v, e = .returned v ∧ RowAt w' 3 1 v ks.length (ks.map (Value.int .i64)) ∧ (∀ k, rblk v = some k → W.heap.size ≤ k) ∧ Ch0 W w' := by
  have hn : ks.Nodup := hr.imp (fun h => by omega)
  obtain ⟨D0, hown, hp, hs⟩ := keys_perm h hwf hmax hn hk
  have hseq : SeqGives Fence.wide 2 Try.prog 127 #[.pointer (some ⟨bB, 0, none⟩)] encZ (fun ss => ss.Perm (intKeys D0)) (Maps.size D0) W :=
    AnyZI.keys_gives (ρ := keysN_ren) { keysN with } Fence.wide _ trivial rfl (by omega) bB r n D0 W (block_lt_of_cell hB) hB hown
  have cS := AnyZI.sorted_in sortedA Fence.wide 5 trivial trivial trivial trivial rfl (by omega) (sortsA _) (enters_of Try.func126 (by kernel_rfl) rfl) 127 #[.pointer (some ⟨bB, 0, none⟩)] trivial (enters_of Try.func127 (by kernel_rfl) rfl) _ _ (by rw [hs]; unfold maxLen; omega) (by rw [hs]; omega) W hseq
  change CallsIn _ _ Try.prog 103 _ _ _ at cS
  refine ((callsIn_wide (n := 5)).1 cS).mono ?_
  rintro e w' ⟨v, ss, rfl, hS, hrow, hnil, hb⟩
  have hq := hp ss hS
  rw [sorted_eq hq (hr.imp (fun h => by omega))] at hrow
  obtain ⟨h1, h2⟩ := row_of_owns hrow
  rw [hq.length_eq] at h1
  exact ⟨v, rfl, h1, h2, ch_of_below hb⟩

theorem sortedB_c {W : World} {r n bB : Nat} {f : Int → Option Value} (h : IM W r n f) (hwf : ∀ k, (f k).isSome = true → (Lit.int .i64 k).wf = true) (hmax : n ≤ 1000000) {ks : List Int} (hr : ks.Pairwise (· < ·)) (hk : ∀ k, k ∈ ks ↔ (f k).isSome = true)
    (hB : W.cell? ⟨bB, 0, none⟩ = some (.map (some r))) :
    Calls Try.prog 103 #[.func (.func 129) #[] #[.pointer (some ⟨bB, 0, none⟩)]] W fun e w' => ∃ v, e = .returned v ∧ RowAt w' 3 1 v ks.length (ks.map (Value.int .i64)) ∧ (∀ k, rblk v = some k → W.heap.size ≤ k) ∧ Ch0 W w' := by
  have hn : ks.Nodup := hr.imp (fun h => by omega)
  obtain ⟨D0, hown, hp, hs⟩ := keys_perm h hwf hmax hn hk
  have hseq : SeqGives Fence.wide 2 Try.prog 129 #[.pointer (some ⟨bB, 0, none⟩)] encZ (fun ss => ss.Perm (intKeys D0)) (Maps.size D0) W :=
    AnyZI.keys_gives (ρ := keysB_ren) { keysB with } Fence.wide _ trivial rfl (by omega) bB r n D0 W (block_lt_of_cell hB) hB hown
  have cS := AnyZI.sorted_in sortedA Fence.wide 5 trivial trivial trivial trivial rfl (by omega) (sortsA _) (enters_of Try.func126 (by kernel_rfl) rfl) 129 #[.pointer (some ⟨bB, 0, none⟩)] trivial (enters_of Try.func129 (by kernel_rfl) rfl) _ _ (by rw [hs]; unfold maxLen; omega) (by rw [hs]; omega) W hseq
  change CallsIn _ _ Try.prog 103 _ _ _ at cS
  refine ((callsIn_wide (n := 5)).1 cS).mono ?_
  rintro e w' ⟨v, ss, rfl, hS, hrow, hnil, hb⟩
  have hq := hp ss hS
  rw [sorted_eq hq (hr.imp (fun h => by omega))] at hrow
  obtain ⟨h1, h2⟩ := row_of_owns hrow
  rw [hq.length_eq] at h1
  exact ⟨v, rfl, h1, h2, ch_of_below hb⟩

end Go.Proofs.Ytlmeponoadhheaa
