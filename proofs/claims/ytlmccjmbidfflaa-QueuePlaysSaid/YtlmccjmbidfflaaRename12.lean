/-
  Contract of (*queue.Set).Rename: what is kept in memory while it runs; the walk.
-/
import Derived.Test.YtlmccjmbidfflaaQ2
import Derived.Test.YtlmccjmbidfflaaMap2
namespace Go.Proofs.Ytlmccjmbidfflaa
set_option linter.unusedVariables false
open Go.RowKit

/-- the names that are told already -/
def nmF (L : List Int) (left : Int → Bool) (N : Int → Int) : Int → Option Value := fun k => if k ∈ L ∧ left k = false then some (.int .i64 (N k)) else none

theorem nmF_put (L : List Int) (left : Int → Bool) (N : Int → Int) (k : Int) (hk : k ∈ L) :
    iput (nmF L left N) k (.int .i64 (N k)) = nmF L (fun i => left i && !(i == k)) N := by
  funext i
  unfold iput nmF
  by_cases e : i = k
  · subst e; simp [hk]
  · simp [e]

theorem isOf_mem {L : List Int} {x : Int} {v : Value} (h : isOf L x = some v) : x ∈ L := by
  unfold isOf at h
  split at h
  · assumption
  · cases h

theorem isOf_isSome (L : List Int) (x : Int) : (isOf L x).isSome = decide (x ∈ L) := by unfold isOf; split <;> simp_all

theorem row_ne_map {w : World} {e : TypeId} {size : Nat} {v : Value} {n : Nat} {xs : List Value} (h : RowAt w e size v n xs) {r n' : Nat} {f : Int → Option Value} (hm : IM w r n' f) : rblk v ≠ some r := fun e => by
  obtain ⟨es, clock, he, _⟩ := hm
  obtain ⟨cur, hc⟩ := h.block e
  rw [he] at hc; cases hc

/-- while the queues are renamed -/
structure RnS (w wr : World) (b rN rE : Nat) (q : Nat → List Int) (L : List Int) (N : Int → Int) (vs u : Nat → Value) (m : Value) (j : Nat) (LE : List Int) : Prop where
  ch : Ch (fun k => k = b) w wr
  blk : wr.heap[b]? = some (.cells #[u 0, u 1, u 2, u 3, m] 29 (0, 0))
  old : ∀ i, j ≤ i → u i = vs i
  new : ∀ i, i < j → RowAt wr 3 1 (u i) (q i).length (((q i).map N).map (Value.int .i64))
  fresh : ∀ i, i < j → ∀ k, rblk (u i) = some k → w.heap.size ≤ k
  apart : ∀ i i', i < j → i' < j → i ≠ i' → ∀ k, rblk (u i) = some k → rblk (u i') ≠ some k
  names : ∃ n, IM wr rN n (nmF L (fun _ => false) N)
  ever : ∃ n, IM wr rE n (isOf LE)

section
variable {w wr wr' : World} {b rN rE : Nat} {q : Nat → List Int} {L : List Int} {N : Int → Int} {vs u : Nat → Value} {m : Value} {j : Nat} {LE LE' : List Int}

theorem RnS.keep (h : RnS w wr b rN rE q L N vs u m j LE) {S : Nat → Prop} (c : Ch S wr wr') (hb : b < w.heap.size) (hS : ∀ k, S k → w.heap.size ≤ k) (hrow : ∀ i, i < j → ∀ k, rblk (u i) = some k → ¬ S k) (hN : ¬ S rN) (hE : ¬ S rE) :
    RnS w wr' b rN rE q L N vs u m j LE where
  ch := h.ch.trans' c (fun _ _ e => e) (fun k hk e => by have := hS k e; omega)
  blk := c.keep h.blk (fun e => by have := hS b e; omega)
  old := h.old
  new := fun i hi => (h.new i hi).keep c (hrow i hi)
  fresh := h.fresh
  apart := h.apart
  names := h.names.imp fun n hn => hn.keep c hN
  ever := h.ever.imp fun n hn => hn.keep c hE

theorem RnS.everTo (h : RnS w wr b rN rE q L N vs u m j LE) (c : Ch (fun k => k = rE) wr wr') (hb : b < w.heap.size) (hE : w.heap.size ≤ rE) (hNE : rN ≠ rE) (he : ∃ n, IM wr' rE n (isOf LE')) :
    RnS w wr' b rN rE q L N vs u m j LE' where
  ch := h.ch.trans' c (fun _ _ e => e) (fun k hk e => by omega)
  blk := c.keep h.blk (by omega)
  old := h.old
  new := fun i hi => (h.new i hi).keep c (fun k hk e => by
    obtain ⟨n, hn⟩ := h.ever
    exact row_ne_map (h.new i hi) hn (e ▸ hk))
  fresh := h.fresh
  apart := h.apart
  names := h.names.imp fun n hn => hn.keep c hNE
  ever := he

theorem RnS.store (h : RnS w wr b rN rE q L N vs u m j LE) (hj : j < 4) (hb : b < w.heap.size) (hNs : w.heap.size ≤ rN) (hEs : w.heap.size ≤ rE) {v : Value} (hrow : RowAt wr 3 1 v (q j).length (((q j).map N).map (Value.int .i64))) (hf : ∀ k, rblk v = some k → w.heap.size ≤ k)
    (hap : ∀ i, i < j → ∀ k, rblk (u i) = some k → rblk v ≠ some k) :
    RnS w (wr.setCell ⟨b, j, none⟩ v) b rN rE q L N vs (updF u j v) m (j + 1) LE := by
  have cs : Ch (fun k => k = b) wr (wr.setCell ⟨b, j, none⟩ v) := Ch.setCell (S := fun k => k = b) (Ch.refl _ _) (p := ⟨b, j, none⟩) (fun _ => rfl) _
  refine ⟨h.ch.trans cs, ?_, ?_, ?_, ?_, ?_, ?_, ?_⟩
  · rw [heap_setCell_same wr b j _ _ _ h.blk]
    rcases four hj with rfl | rfl | rfl | rfl <;> rfl
  · intro i hi
    rw [updF_other _ _ _ (by omega)]
    exact h.old i (by omega)
  · intro i hi
    by_cases e : i = j
    · subst e
      rw [updF_same]
      exact hrow.keep cs (fun k hk e => by have := hf k hk; omega)
    · rw [updF_other _ _ _ e]
      exact (h.new i (by omega)).keep cs (fun k hk e' => by have := h.fresh i (by omega) k hk; omega)
  · intro i hi k hk
    by_cases e : i = j
    · subst e; rw [updF_same] at hk; exact hf k hk
    · rw [updF_other _ _ _ e] at hk; exact h.fresh i (by omega) k hk
  · intro i i' hi hi' hne k hk
    by_cases e : i = j
    · subst e
      rw [updF_same] at hk
      rw [updF_other _ _ _ (Ne.symm hne)]
      exact fun e2 => hap i' (by omega) k e2 hk
    · rw [updF_other _ _ _ e] at hk
      by_cases e2 : i' = j
      · subst e2; rw [updF_same]; exact hap i (by omega) k hk
      · rw [updF_other _ _ _ e2]; exact h.apart i i' (by omega) (by omega) hne k hk
  · exact h.names.imp fun n hn => hn.keep cs (by omega)
  · exact h.ever.imp fun n hn => hn.keep cs (by omega)

/-- the end: the set is other -/
theorem RnS.done {O : Nat → Prop} (h : RnS w wr b rN rE q L N vs u m 4 LE) (hO : O b) (hsm : ∀ k, O k → k < w.heap.size) (hEs : w.heap.size ≤ rE) (hLE : ∀ i, i < 4 → ∀ x ∈ q i, N x ∈ LE) :
    ∃ O', Qs (wr.setCell ⟨b, 4, none⟩ (.map (some rE))) b O' (fun i => (q i).map N) LE ∧ Turn w (wr.setCell ⟨b, 4, none⟩ (.map (some rE))) O O' := by
  have cs : Ch (fun k => k = b) wr (wr.setCell ⟨b, 4, none⟩ (.map (some rE))) := Ch.setCell (S := fun k => k = b) (Ch.refl _ _) (p := ⟨b, 4, none⟩) (fun _ => rfl) _
  have hb := hsm b hO
  have hsz := h.ch.size
  have hs2 := cs.size
  obtain ⟨n, hn⟩ := h.ever
  refine ⟨fun k => O k ∨ (w.heap.size ≤ k ∧ k < wr.heap.size), ⟨u, .map (some rE), ⟨?_, .inl hO, ?_, ?_, ?_, ?_, .inr ⟨rE, n, rfl, .inr ⟨hEs, hn.lt⟩, hn.keep cs (by omega)⟩, ?_⟩⟩, ?_, ?_⟩
  · rw [heap_setCell_same wr b 4 _ _ _ h.blk]; rfl
  · rintro k (hk | hk)
    · have := hsm k hk; omega
    · omega
  · intro i hi
    have := (h.new i hi).keep cs (fun k hk e => by have := h.fresh i hi k hk; omega)
    simpa using this
  · intro i hi g hg
    exact .inr ⟨h.fresh i hi g hg, (h.new i hi).lt hg⟩
  · intro i i' hi hi' hne g hg
    exact h.apart i i' hi hi' hne g hg
  · intro i hi x hx
    obtain ⟨y, hy, rfl⟩ := List.mem_map.1 hx
    exact hLE i hi y hy
  · exact h.ch.trans' cs (fun k _ e => by rw [e]; exact hO) (fun k _ e => by rw [e]; exact hO)
  · rintro k (hk | hk)
    · exact .inl hk
    · exact .inr hk.1

end

theorem zeroInt (w : World) : (zeroValue 3).run Try.prog w = .ok (.int .i64 0) w := by
  have h : ∃ i, Try.prog.info? 3 = some i ∧ i.zero = some (.int .i64 0) := by
    have e : (Try.prog.info? 3).map (fun i => i.zero) = some (some (.int .i64 0)) := by kernel_rfl
    rw [Option.map_eq_some_iff] at e
    exact e
  obtain ⟨i, h1, h2⟩ := h
  simp [zeroValue, typeInfo, h1, h2, Result.andThen]

/-- what is in the new list of all that was ever put in -/
def Evers (q : Nat → List Int) (L : List Int) (N : Int → Int) (LE : List Int) : Prop := ∀ y, y ∈ LE ↔ (y ≠ 0 ∧ ∃ x ∈ L, N x = y) ∨ ∃ i, i < 4 ∧ ∃ x ∈ q i, N x = y

/-- .. while the queues' things come to it -/
def EversTo (q : Nat → List Int) (L : List Int) (N : Int → Int) (LE : List Int) (j k : Nat) : Prop := ∀ y, y ∈ LE ↔ (y ≠ 0 ∧ ∃ x ∈ L, N x = y) ∨ (∃ i, i < j ∧ ∃ x ∈ q i, N x = y) ∨ ∃ x ∈ (q j).take k, N x = y

theorem EversTo.next {q : Nat → List Int} {L : List Int} {N : Int → Int} {LE : List Int} {j k : Nat} (h : EversTo q L N LE j k) (hk : k < (q j).length) : EversTo q L N (LE ++ [N ((q j).getD k 0)]) j (k + 1) := by
  intro y
  rw [List.mem_append, h y, List.take_succ_eq_append_getElem hk]
  have e : (q j).getD k 0 = (q j)[k] := by simp [List.getD_eq_getElem?_getD, hk]
  rw [e]
  constructor
  · rintro ((h1 | h1 | ⟨x, h1, h2⟩) | h1)
    · exact .inl h1
    · exact .inr (.inl h1)
    · exact .inr (.inr ⟨x, List.mem_append_left _ h1, h2⟩)
    · simp at h1
      exact .inr (.inr ⟨_, List.mem_append_right _ (List.mem_singleton.2 rfl), h1.symm⟩)
  · rintro (h1 | h1 | ⟨x, h1, h2⟩)
    · exact .inl (.inl h1)
    · exact .inl (.inr (.inl h1))
    · rcases List.mem_append.1 h1 with h1 | h1
      · exact .inl (.inr (.inr ⟨x, h1, h2⟩))
      · simp at h1
        subst h1
        exact .inr (by simp [h2])

theorem EversTo.row {q : Nat → List Int} {L : List Int} {N : Int → Int} {LE : List Int} {j k : Nat} (h : EversTo q L N LE j k) (hk : k = (q j).length) : EversTo q L N LE (j + 1) 0 := by
  subst hk
  intro y
  rw [h y]
  simp only [List.take_length, List.take_zero, List.not_mem_nil, false_and, exists_false, or_false]
  constructor
  · rintro (h1 | ⟨i, hi, h1⟩ | h1)
    · exact .inl h1
    · exact .inr ⟨i, by omega, h1⟩
    · exact .inr ⟨j, by omega, h1⟩
  · rintro (h1 | ⟨i, hi, h1⟩)
    · exact .inl h1
    · by_cases e : i = j
      · subst e; exact .inr (.inr h1)
      · exact .inr (.inl ⟨i, by omega, h1⟩)

theorem EversTo.all {q : Nat → List Int} {L : List Int} {N : Int → Int} {LE : List Int} (h : EversTo q L N LE 4 0) : Evers q L N LE := by
  intro y
  rw [h y]
  simp

end Go.Proofs.Ytlmccjmbidfflaa
