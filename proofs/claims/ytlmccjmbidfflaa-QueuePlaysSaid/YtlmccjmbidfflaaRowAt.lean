/-
  Slices that lie anywhere in a row of their own (behind x[1:] too), and append on them. General, of no program.
-/
import Derived.Test.YtlmccjmbidfflaaAppend
import Derived.Deep.RegionHeld3
import Derived.Deep.DrawnRows
namespace Go.Proofs.Ytlmccjmbidfflaa
set_option linter.unusedVariables false
open Go.RowKit

/-- the block in which a slice lies -/
def rblk : Value → Option Nat
  | .slice (some a) _ _ => some a.block
  | _ => none

/-- v is a slice of n elements (size cells each) that holds xs: nil, or in a block of cells of type e, from cell o on, with all its room. -/
def RowAt (w : World) (e : TypeId) (size : Nat) (v : Value) (n : Nat) (xs : List Value) : Prop :=
  xs.length = n * size ∧ ((v = .slice none 0 0 ∧ n = 0) ∨
    ∃ g o cap cur, v = .slice (some ⟨g, o, none⟩) n cap ∧ w.heap[g]? = some (.cells cur e (0, 0)) ∧ n ≤ cap ∧ cap ≤ maxLen ∧ o + cap * size ≤ cur.size ∧ (cur.toList.drop o).take (n * size) = xs)

theorem RowAt.nil {w : World} {e : TypeId} {size : Nat} : RowAt w e size (.slice none 0 0) 0 [] := ⟨by simp, .inl ⟨rfl, rfl⟩⟩

theorem rowAt_of_owns {w : World} {e : TypeId} {size : Nat} {v : Value} {n : Nat} {xs : List Value} (h : w.ownsRow 0 e size v n xs) : RowAt w e size v n xs ∧ rblk v = v.ownBlock := by
  obtain ⟨h1, h2⟩ := h
  rcases h2 with ⟨rfl, rfl⟩ | ⟨g, cap, cur, rfl, hb, hg, hn, hm, hs, ht⟩
  · exact ⟨⟨h1, .inl ⟨rfl, rfl⟩⟩, rfl⟩
  · exact ⟨⟨h1, .inr ⟨g, 0, cap, cur, rfl, hg, hn, hm, by omega, by simpa using ht⟩⟩, rfl⟩

theorem RowAt.keep {S : Nat → Prop} {w w' : World} {e : TypeId} {size : Nat} {v : Value} {n : Nat} {xs : List Value} (h : RowAt w e size v n xs) (hc : Ch S w w') (hn : ∀ k, rblk v = some k → ¬ S k) : RowAt w' e size v n xs := by
  refine ⟨h.1, ?_⟩
  rcases h.2 with hl | ⟨g, o, cap, cur, rfl, hg, r⟩
  · exact .inl hl
  · exact .inr ⟨g, o, cap, cur, rfl, hc.keep hg (hn g rfl), r⟩

theorem RowAt.lt {w : World} {e : TypeId} {size : Nat} {v : Value} {n : Nat} {xs : List Value} (h : RowAt w e size v n xs) {g : Nat} (hg : rblk v = some g) : g < w.heap.size := by
  rcases h.2 with ⟨rfl, _⟩ | ⟨g', o, cap, cur, rfl, hb, r⟩
  · cases hg
  · cases hg; exact lt_of_block hb

/-- the row's block holds cells of its type -/
theorem RowAt.block {w : World} {e : TypeId} {size : Nat} {v : Value} {n : Nat} {xs : List Value} (h : RowAt w e size v n xs) {g : Nat} (hg : rblk v = some g) : ∃ cur, w.heap[g]? = some (.cells cur e (0, 0)) := by
  rcases h.2 with ⟨rfl, _⟩ | ⟨g', o, cap, cur, rfl, hb, r⟩
  · cases hg
  · cases hg; exact ⟨cur, hb⟩

theorem RowAt.isSlice {w : World} {e : TypeId} {size : Nat} {v : Value} {n : Nat} {xs : List Value} (h : RowAt w e size v n xs) : ∃ a c, v = .slice a n c ∧ n ≤ c ∧ c ≤ maxLen := by
  rcases h.2 with ⟨rfl, rfl⟩ | ⟨g', o, cap, cur, rfl, hb, hn, hm, r⟩
  · exact ⟨none, 0, rfl, Nat.le_refl _, by decide⟩
  · exact ⟨_, _, rfl, hn, hm⟩

theorem RowAt.sees {w : World} {e : TypeId} {size : Nat} {v : Value} {n : Nat} {xs : List Value} (h : RowAt w e size v n xs) : Sees (fun k => rblk v = some k) w v size n xs := by
  refine ⟨h.1, ?_⟩
  rcases h.2 with ⟨rfl, rfl⟩ | ⟨g, o, cap, cur, rfl, hg, hn, hm, hs, ht⟩
  · exact ⟨none, 0, rfl, Nat.le_refl _, by decide, .inl rfl⟩
  · refine ⟨_, cap, rfl, hn, hm, .inr ⟨g, o, rfl, rfl, fun i u hu => ?_⟩⟩
    rw [cell_of_row w g _ _ _ _ hg]
    rw [← ht, List.getElem?_take] at hu
    split at hu
    · rw [List.getElem?_drop, Array.getElem?_toList] at hu; exact hu
    · cases hu

/-- one element less in front: size 1 -/
theorem RowAt.tail {w : World} {e : TypeId} {v : Value} {n : Nat} {x : Value} {xs : List Value} (h : RowAt w e 1 v (n + 1) (x :: xs)) :
    ∃ g o cap, v = .slice (some ⟨g, o, none⟩) (n + 1) cap ∧ n + 1 ≤ cap ∧ cap ≤ maxLen ∧ w.cell? ⟨g, o, none⟩ = some x ∧
      RowAt w e 1 (.slice (if cap = 1 then some ⟨g, o, none⟩ else some ⟨g, o + 1, none⟩) n (cap - 1)) n xs ∧ w.heap[g]?.isSome := by
  have hl := h.1
  have hlen := h.sees
  rcases h.2 with ⟨_, hn⟩ | ⟨g, o, cap, cur, rfl, hg, hn, hm, hs, ht⟩
  · omega
  · refine ⟨g, o, cap, rfl, hn, hm, ?_, ⟨by simp at hl ⊢; exact hl, ?_⟩, by rw [hg]; rfl⟩
    · rw [cell_of_row w g _ _ _ _ hg]
      have h0 : ((cur.toList.drop o).take ((n + 1) * 1))[0]? = some x := by rw [ht]; rfl
      rw [List.getElem?_take, if_pos (by omega), List.getElem?_drop, Array.getElem?_toList] at h0
      exact h0
    · have hdrop : (cur.toList.drop (o + 1)).take (n * 1) = xs := by
        have h1 : (cur.toList.drop (o + 1)).take (n * 1) = ((cur.toList.drop o).take ((n + 1) * 1)).drop 1 := by
          rw [List.drop_take, List.drop_drop]
          congr 1
        rw [h1, ht]; rfl
      by_cases hc : cap = 1
      · rw [if_pos hc]
        obtain rfl : n = 0 := by omega
        refine .inr ⟨g, o, cap - 1, cur, rfl, hg, by omega, by omega, by omega, ?_⟩
        have hx : xs = [] := List.eq_nil_of_length_eq_zero (by simpa using hl)
        rw [hx]; rfl
      · rw [if_neg hc]
        exact .inr ⟨g, o + 1, cap - 1, cur, rfl, hg, by omega, by omega, by omega, hdrop⟩

section
variable {P : Program} (w : World)

/-- append on such a slice -/
theorem append_at (t ty e : TypeId) (i : TypeInfo) (z : Value) (size bytes : Nat) (ht : P.underlying t = some (.slice e)) (hi : P.info? e = some i) (hz : i.zero = some z)
    (hsize : i.size = size) (hby : i.bytes = bytes) (hzs : z.cells.size = size)
    (v : Value) (n : Nat) (xs : List Value) (hown : RowAt w e size v n xs)
    (x : Value) (m : Nat) (news : List Value) {D : Nat → Prop} (hx : Sees D w x size m news) (h1 : ∀ u ∈ news, u.oneCell' = true)
    (h63 : n + m ≤ maxLen) (hbytes : (n + m) * bytes ≤ 140737488355328) :
    ∃ v' w', (Builtin.append_ #[t, t] ty #[v, x]).run P w = .ok v' w' ∧ RowAt w' e size v' (n + m) (xs ++ news) ∧ Ch (fun k => rblk v = some k) w w' ∧
      (rblk v' = rblk v ∨ rblk v' = some w.heap.size) := by
  rcases Classical.em (∃ g cap, v = .slice (some ⟨g, 0, none⟩) n cap ∧ False) with ⟨_, _, _, hf⟩ | _
  · exact hf.elim
  subst hsize
  subst hby
  have hsees := hown.sees
  rcases hown.2 with ⟨rfl, rfl⟩ | ⟨g, o, cap, cur, rfl, hg, hnc, hcm, hcs, htake⟩
  · have ho : w.ownsRow 0 e i.size (.slice none 0 0) 0 xs := ⟨hown.1, .inl ⟨rfl, rfl⟩⟩
    obtain ⟨v', w', hr, h2, h3, h4, _⟩ := append_law w t ty e i z i.size i.bytes ht hi hz rfl rfl hzs _ 0 xs ho x m news hx h1 h63 hbytes
    obtain ⟨h5, h6⟩ := rowAt_of_owns h2
    refine ⟨v', w', hr, h5, h3.mono (fun k _ q => by simp [Value.ownBlock] at q), ?_⟩
    rw [h6]
    exact h4.imp (fun q => by rw [q]; rfl) id
  · obtain ⟨hl, a, c, rfl, hmc, hcm', hcells⟩ := hx
    have hsmall : n + m ≤ 9223372036854775807 := by simp only [maxLen] at h63; omega
    have hlen : (xs ++ news).length = (n + m) * i.size := by rw [List.length_append, hown.1, hl, Nat.add_mul]
    have hxcells : ∀ j u, xs[j]? = some u → w.cell? ((⟨g, o, none⟩ : Addr).add j) = some u := by
      intro j u hu
      obtain ⟨_, a', c', e1, _, _, h9⟩ := hsees
      cases e1
      rcases h9 with h9 | ⟨g', o', _, e2, h9⟩
      · subst h9
        have := List.eq_nil_of_length_eq_zero (by simpa using hown.1)
        subst this; simp at hu
      · cases e2
        rw [addr_add]; exact h9 j u hu
    by_cases hroom : n + m ≤ cap
    · have hfit : o + n * i.size + news.length ≤ cur.size := by
        have : (n + m) * i.size ≤ cap * i.size := Nat.mul_le_mul_right _ hroom
        rw [Nat.add_mul] at this
        rw [hl]; omega
      have hf : (Builtin.firstCells i.size m (.slice a m c)).run P w = .ok news.toArray w := by
        rcases hcells with rfl | ⟨g', o', _, rfl, hc⟩
        · have hn : news = [] := List.eq_nil_of_length_eq_zero (by simpa using hl)
          subst hn
          cases a <;> simp [Builtin.firstCells, loadCells, loadCellsFrom]
        · exact run_firstCells_some (P := P) w i.size m ⟨g', o', none⟩ m c news hl (fun j u hu => by rw [addr_add]; exact hc j u hu)
      have hst := run_storeCells_at P g (o + n * i.size) e news 0 cur w hg (by simpa using hfit) h1
      simp only [Nat.add_zero] at hst
      have hrun : (Builtin.append_ #[t, t] ty #[.slice (some ⟨g, o, none⟩) n cap, .slice a m c]).run P w =
          .ok (.slice (some ⟨g, o, none⟩) (n + m) cap) (w.setRow g (cur.toList.take (o + n * i.size) ++ news ++ cur.toList.drop (o + n * i.size + news.length)).toArray) := by
        simp [Builtin.append_, run_underlying ht, sizeOf, typeInfo, hi, Builtin.lenOf, hroom, hf, addr_add, hst]
      refine ⟨_, _, hrun, ⟨hlen, .inr ⟨g, o, cap, _, rfl, setRow_heap w g cur _ e _ hg, hroom, hcm, ?_, ?_⟩⟩, Ch.setRow (Ch.refl _ w) g (fun _ => by simp [rblk]) _, .inl rfl⟩
      · simp only [List.size_toArray, List.length_append, List.length_take, List.length_drop, Array.length_toList]
        omega
      · simp only
        have e1 : cur.toList.take (o + n * i.size) = cur.toList.take o ++ xs := by
          rw [← htake, List.take_add]
        have hol : o ≤ cur.toList.length := by rw [Array.length_toList]; omega
        rw [e1, List.append_assoc, List.append_assoc, List.drop_append_of_le_length (by simp [List.length_take]; omega)]
        rw [List.drop_of_length_le (by simp [List.length_take]; omega), List.nil_append, ← List.append_assoc, ← hlen]
        exact List.take_left
    · have hm : 0 < m := by omega
      obtain ⟨g', o', _, rfl, hcl⟩ := hcells.resolve_left (by omega)
      have hnews : ∀ j u, news[j]? = some u → w.cell? ((⟨g', o', none⟩ : Addr).add j) = some u := fun j u hu => by rw [addr_add]; exact hcl j u hu
      have hr := run_append_grow (P := P) w t ty e i z ht hi hz ⟨g, o, none⟩ n cap xs hown.1 hxcells ⟨g', o', none⟩ m c news hl hnews (by omega) (by omega) (growslice_fits (by omega) hbytes)
      have hge := grownCap_ge w (n + m) cap e
      have hcm2 : grownCap w (n + m) cap e ≤ maxLen := grownCap_le_maxLen w (n + m) cap e h63
      refine ⟨_, _, hr, ⟨hlen, .inr ⟨w.heap.size, 0, _, _, rfl, heap_alloc_new w.drew _, hge, hcm2, ?_, ?_⟩⟩, ((Ch.refl _ _).drew).alloc _, .inr rfl⟩
      · simp only [Array.size_append, List.size_toArray, size_zeroCells, hzs, hown.1, hl, ← Nat.add_mul, Nat.zero_add]
        exact Nat.mul_le_mul_right _ (by omega)
      · simp only [Array.toList_append, List.append_assoc, List.drop_zero]
        rw [← List.append_assoc, ← hlen]
        exact List.take_left

/-- at a step of a region that draws its order -/
theorem step_append_at {w : World} {ops : Array Oper} {o : Oper} {a : Act} {K : Act → World → Prop} {Q : Exit → Act → World → Prop} {E : Prop} (hgd : o.guard = none) (s x : Operand) (t : TypeId)
    (ho : o.op = .call { callee := .builtin .append, args := #[s, x], argTypes := #[t, t] })
    (e : TypeId) (i : TypeInfo) (z : Value) (size bytes : Nat) (ht : P.underlying t = some (.slice e)) (hi : P.info? e = some i) (hz : i.zero = some z)
    (hsize : i.size = size) (hby : i.bytes = bytes) (hzs : z.cells.size = size)
    (v : Value) (n : Nat) (xs : List Value) (hs : a.eval s = v) (hown : RowAt w e size v n xs)
    (y : Value) (m : Nat) (news : List Value) (hx : a.eval x = y) {D : Nat → Prop} (hsee : Sees D w y size m news) (h1 : ∀ u ∈ news, u.oneCell' = true)
    (h63 : n + m ≤ maxLen) (hbytes : (n + m) * bytes ≤ 140737488355328)
    (h : ∀ a' c' w', RowAt w' e size (.slice a' (n + m) c') (n + m) (xs ++ news) → Ch (fun k => rblk v = some k) w w' → (rblk (.slice a' (n + m) c') = rblk v ∨ rblk (.slice a' (n + m) c') = some w.heap.size) → K (a.put o.dst (.slice a' (n + m) c')) w') :
    if Region.wanted o (yielded ops a.tmps) = true then Oper.wp P o a w K Q else E := by
  have hw : Region.wanted o (yielded ops a.tmps) = true := by simp [Region.wanted, hgd]
  rw [if_pos hw]
  obtain ⟨v', w', hrun, h2, h3, h4⟩ := append_at w t o.type e i z size bytes ht hi hz hsize hby hzs v n xs hown y m news hsee h1 h63 hbytes
  obtain ⟨a', c', rfl, -, -⟩ := h2.isSlice
  unfold Oper.wp execOp
  simp only [ho, resolve, invoke, builtin, Sem.run_bind, Sem.run_pure, Result.andThen_ok, List.map_toArray, List.map_cons, List.map_nil, hs, hx, hrun]
  exact h a' c' w' h2 h3 h4

end

/-- a block of one cell, as a slice of one element -/
theorem sees_one_cell {w : World} {g : Nat} {x : Value} {T : TypeId} (h : w.heap[g]? = some (.cells #[x] T (0, 0))) : Sees (fun k => k = g) w (.slice (some ⟨g, 0, none⟩) 1 1) 1 1 [x] := by
  refine ⟨rfl, _, 1, rfl, Nat.le_refl _, by decide, .inr ⟨g, 0, rfl, rfl, fun i u hu => ?_⟩⟩
  have hi : i = 0 := by
    have := (List.getElem?_eq_some_iff.1 hu).1
    simpa using this
  subst hi
  rw [cell_of_row w g _ _ _ _ h]
  simpa using hu

end Go.Proofs.Ytlmccjmbidfflaa
