/-
  The built-in append and copy, said of owned rows ('ownsRow 0') and of slices that read as cells ('Sees'): general laws, of no program.
-/
import Derived.Test.YtlmccjmbidfflaaFrame
namespace Go.Proofs.Ytlmccjmbidfflaa
set_option linter.unusedVariables false
open Go.RowKit

theorem Sees.nil {D : Nat → Prop} {w : World} {size : Nat} : Sees D w (.slice none 0 0) size 0 [] := ⟨by simp, none, 0, rfl, Nat.le_refl _, by decide, .inl rfl⟩

/-- An owned row reads as its cells. -/
theorem sees_of_owns {w : World} {base : Nat} {e : TypeId} {size : Nat} {v : Value} {n : Nat} {xs : List Value} (h : w.ownsRow base e size v n xs) : Sees (fun k => v.ownBlock = some k) w v size n xs := by
  refine ⟨h.1, ?_⟩
  rcases h.2 with ⟨rfl, rfl⟩ | ⟨g, cap, cur, rfl, hb, hg, hn, hm, hs, ht⟩
  · exact ⟨none, 0, rfl, Nat.le_refl _, by decide, .inl rfl⟩
  · refine ⟨_, cap, rfl, hn, hm, .inr ⟨g, 0, rfl, rfl, fun i u hu => ?_⟩⟩
    have := h.cells (g := g) rfl i u hu
    rwa [addr_add] at this

theorem owns_keep {w w' : World} {base : Nat} {e : TypeId} {size : Nat} {v : Value} {n : Nat} {xs : List Value} {S : Nat → Prop} (h : w.ownsRow base e size v n xs) (hc : Ch S w w') (hn : ∀ k, v.ownBlock = some k → ¬ S k) : w'.ownsRow base e size v n xs := by
  refine ⟨h.1, ?_⟩
  rcases h.2 with hl | ⟨g, cap, cur, rfl, hb, hg, r⟩
  · exact .inl hl
  · exact .inr ⟨g, cap, cur, rfl, hb, hc.keep hg (hn g rfl), r⟩

/-- A block that is known whole is an owned row. -/
theorem owns_block {w : World} {e : TypeId} {size g n : Nat} {cs : List Value} (h : w.heap[g]? = some (.cells cs.toArray e (0, 0))) (hn : cs.length = n * size) (hm : n ≤ maxLen) : w.ownsRow 0 e size (.slice (some ⟨g, 0, none⟩) n n) n cs :=
  ⟨hn, .inr ⟨g, n, _, rfl, Nat.zero_le _, h, Nat.le_refl _, hm, by simp [hn], by simp [← hn]⟩⟩

/-- A row of more room than it holds. -/
theorem owns_block_empty {w : World} {e : TypeId} {size g n : Nat} {cur : Array Value} (h : w.heap[g]? = some (.cells cur e (0, 0))) (hn : cur.size = n * size) (hm : n ≤ maxLen) : w.ownsRow 0 e size (.slice (some ⟨g, 0, none⟩) 0 n) 0 [] :=
  ⟨by simp, .inr ⟨g, n, cur, rfl, Nat.zero_le _, h, Nat.zero_le _, hm, hn, by simp⟩⟩

/-- An owned row of at least one element. -/
theorem owns_pos {w : World} {e : TypeId} {size : Nat} {v : Value} {n : Nat} {xs : List Value} (h : w.ownsRow 0 e size v n xs) (hn : 0 < n) :
    ∃ g cap, v = .slice (some ⟨g, 0, none⟩) n cap ∧ n ≤ cap ∧ cap ≤ maxLen ∧ (∃ cur, w.heap[g]? = some (.cells cur e (0, 0)) ∧ cur.size = cap * size ∧ cur.toList.take (n * size) = xs) := by
  rcases h.2 with ⟨_, rfl⟩ | ⟨g, cap, cur, hv, _, hg, hnc, hm, hs, ht⟩
  · omega
  · exact ⟨g, cap, hv, hnc, hm, cur, hg, hs, ht⟩

theorem owns_cell {w : World} {e : TypeId} {size g cap : Nat} {n : Nat} {xs : List Value} (h : w.ownsRow 0 e size (.slice (some ⟨g, 0, none⟩) n cap) n xs) (i : Nat) (u : Value) (hu : xs[i]? = some u) : w.cell? ⟨g, i, none⟩ = some u := by
  have := h.cells (g := g) rfl i u hu
  rwa [addr_add, Nat.zero_add] at this

theorem owns_free {w : World} {e : TypeId} {size g cap : Nat} {n : Nat} {xs : List Value} (h : w.ownsRow 0 e size (.slice (some ⟨g, 0, none⟩) n cap) n xs) (i : Nat) : w.frozen? ⟨g, i, none⟩ = false := by
  rcases h.2 with ⟨hc, _⟩ | ⟨g', cap, cur, hv, _, hg, _⟩
  · cases hc
  · cases hv; exact frozen_of_row w g i _ _ hg

theorem owns_lt {w : World} {e : TypeId} {size : Nat} {v : Value} {n : Nat} {xs : List Value} (h : w.ownsRow 0 e size v n xs) {g : Nat} (hg : v.ownBlock = some g) : g < w.heap.size := (h.lt g hg).2

theorem owns_set {w : World} {e : TypeId} {size g cap : Nat} {n : Nat} {xs : List Value} (h : w.ownsRow 0 e size (.slice (some ⟨g, 0, none⟩) n cap) n xs) (i : Nat) (u : Value) :
    (w.setCell ⟨g, i, none⟩ u).ownsRow 0 e size (.slice (some ⟨g, 0, none⟩) n cap) n (if i < n * size then xs.set i u else xs) := by
  rcases h.2 with ⟨hc, _⟩ | ⟨g', cap', cur, hv, _, hg, hnc, hm, hs, ht⟩
  · cases hc
  · cases hv
    refine ⟨by split <;> simp [h.1], .inr ⟨g, cap, _, rfl, Nat.zero_le _, heap_setCell_same w g i cur e u hg, hnc, hm, by simp [hs], ?_⟩⟩
    rw [Array.toList_setIfInBounds, ← ht]
    split
    · rw [List.take_set]
    · rw [List.take_set, List.set_eq_of_length_le (by rw [ht, h.1]; omega)]

theorem one_int (k : IntKind) (x : Int) : (Value.int k x).oneCell' = true := rfl

theorem one_ints (xs : List Int) : ∀ u ∈ xs.map (Value.int .i64), u.oneCell' = true := by
  intro u hu
  obtain ⟨x, _, rfl⟩ := List.mem_map.1 hu
  rfl

section
variable {P : Program} (w : World)

/-- append, whatever its two operands hold. -/
theorem append_law (t ty e : TypeId) (i : TypeInfo) (z : Value) (size bytes : Nat) (ht : P.underlying t = some (.slice e)) (hi : P.info? e = some i) (hz : i.zero = some z)
    (hsize : i.size = size) (hby : i.bytes = bytes) (hzs : z.cells.size = size)
    (v : Value) (n : Nat) (xs : List Value) (hown : w.ownsRow 0 e size v n xs)
    (x : Value) (m : Nat) (news : List Value) {D : Nat → Prop} (hx : Sees D w x size m news) (h1 : ∀ u ∈ news, u.oneCell' = true)
    (h63 : n + m ≤ maxLen) (hbytes : (n + m) * bytes ≤ 140737488355328) :
    ∃ v' w', (Builtin.append_ #[t, t] ty #[v, x]).run P w = .ok v' w' ∧ w'.ownsRow 0 e size v' (n + m) (xs ++ news) ∧ Ch (fun k => v.ownBlock = some k) w w' ∧
      (v'.ownBlock = v.ownBlock ∨ v'.ownBlock = some w.heap.size) ∧ (v' = .slice none 0 0 ↔ v = .slice none 0 0 ∧ m = 0) := by
  subst hsize
  subst hby
  obtain ⟨hl, a, c, rfl, hmc, hcm', hcells⟩ := hx
  have hsmall : n + m ≤ 9223372036854775807 := by simp only [maxLen] at h63; omega
  have hlen : (xs ++ news).length = (n + m) * i.size := by rw [List.length_append, hown.1, hl, Nat.add_mul]
  have grown : ∀ (old : Nat), old < n + m → ∀ (S : Nat → Prop),
      (w.drew.alloc (.cells (xs.toArray ++ news.toArray ++ Builtin.zeroCells z.cells (grownCap w (n + m) old e - (n + m))) e)).ownsRow 0 e i.size
        (.slice (some ⟨w.heap.size, 0, none⟩) (n + m) (grownCap w (n + m) old e)) (n + m) (xs ++ news) ∧
      Ch S w (w.drew.alloc (.cells (xs.toArray ++ news.toArray ++ Builtin.zeroCells z.cells (grownCap w (n + m) old e - (n + m))) e)) := by
    intro old ho S
    have hge := grownCap_ge w (n + m) old e
    have hcm : grownCap w (n + m) old e ≤ maxLen := grownCap_le_maxLen w (n + m) old e h63
    refine ⟨⟨hlen, .inr ⟨w.heap.size, _, _, rfl, Nat.zero_le _, heap_alloc_new w.drew _, hge, hcm, ?_, ?_⟩⟩, ((Ch.refl _ _).drew).alloc _⟩
    · simp only [Array.size_append, List.size_toArray, size_zeroCells, hzs, hown.1, hl, ← Nat.add_mul]
      congr 1
      omega
    · simp only [Array.toList_append, List.append_assoc]
      rw [← List.append_assoc, ← hlen]
      exact List.take_left
  by_cases hm : m = 0
  · subst hm
    have hn : news = [] := List.eq_nil_of_length_eq_zero (by simpa using hl)
    subst hn
    have hfc : ∀ a : Option Addr, ∀ w : World, (Builtin.firstCells i.size 0 (.slice a 0 c)).run P w = .ok #[] w := by
      intro a w
      cases a <;> simp [Builtin.firstCells, loadCells, loadCellsFrom]
    refine ⟨v, w, ?_, by simpa using hown, Ch.refl _ _, .inl rfl, by simp⟩
    rcases hown.2 with ⟨rfl, rfl⟩ | ⟨g, cap, cur, rfl, hbg, hg, hnc, hcm, hcs, htake⟩
    · simp [Builtin.append_, run_underlying ht, sizeOf, typeInfo, hi, Builtin.lenOf, hfc]
    · simp [Builtin.append_, run_underlying ht, sizeOf, typeInfo, hi, Builtin.lenOf, hfc, hnc, storeCells]
  · obtain ⟨g', o', _, rfl, hcl⟩ := hcells.resolve_left hm
    have hnews : ∀ j u, news[j]? = some u → w.cell? ((⟨g', o', none⟩ : Addr).add j) = some u := by
      intro j u hu
      rw [addr_add]
      exact hcl j u hu
    rcases hown.2 with ⟨rfl, rfl⟩ | ⟨g, cap, cur, rfl, hbg, hg, hnc, hcm, hcs, htake⟩
    · have hx : xs = [] := List.eq_nil_of_length_eq_zero (by simpa using hown.1)
      subst hx
      have hr := run_append_nil (P := P) w t ty e i z ht hi hz ⟨g', o', none⟩ m c news hl hnews (by omega) (by omega) (by have hb := hbytes; simp only [Nat.zero_add] at hb; omega)
      have hgr := grown 0 (by omega) (fun k => Value.ownBlock (.slice none 0 0) = some k)
      simp only [Nat.zero_add, List.nil_append, Array.empty_append] at hgr ⊢
      exact ⟨_, _, hr, hgr.1, hgr.2, .inr rfl, by simp [hm]⟩
    · by_cases hroom : n + m ≤ cap
      · have hfit : n * i.size + news.length ≤ cur.size := by rw [hl, hcs, ← Nat.add_mul]; exact Nat.mul_le_mul_right _ hroom
        have hr := run_append_room (P := P) w t ty e i ht hi g n cap cur hg ⟨g', o', none⟩ m c news hl hnews h1 hroom hfit
        refine ⟨_, _, hr, ⟨hlen, .inr ⟨g, cap, _, rfl, hbg, setRow_heap w g cur _ e _ hg, hroom, hcm, ?_, ?_⟩⟩, Ch.setRow (Ch.refl _ w) g (fun _ => by simp [Value.ownBlock]) _, .inl rfl, by simp⟩
        · simp only [List.size_toArray, List.length_append, List.length_take, List.length_drop, Array.length_toList]
          omega
        · rw [htake, ← hlen]
          exact List.take_left
      · have holds : ∀ j u, xs[j]? = some u → w.cell? ((⟨g, 0, none⟩ : Addr).add j) = some u := hown.cells (g := g) rfl
        have hr := run_append_grow (P := P) w t ty e i z ht hi hz ⟨g, 0, none⟩ n cap xs hown.1 holds ⟨g', o', none⟩ m c news hl hnews (by omega) (by omega) (growslice_fits (by omega) hbytes)
        have hgr := grown cap (by omega) (fun k => Value.ownBlock (.slice (some ⟨g, 0, none⟩) n cap) = some k)
        exact ⟨_, _, hr, hgr.1, hgr.2, .inr rfl, by simp⟩

/-- The walk's arm at an append whose run is known: '(at_builtin; refine wpList_append_run rfl _ _ t rfl rfl rfl hrun ?_)'. -/
theorem wpList_append_run {w : World} {ops : Array Oper} {rest : List Oper} {o : Oper} {a : Act} {Q : Exit → Act → World → Prop} (hgd : o.guard = none) (s x : Operand) (t u : TypeId)
    (ho : o.op = .call { callee := .builtin .append, args := #[s, x], argTypes := #[t, u] }) {v y v' : Value} {w' : World} (hs : a.eval s = v) (hx : a.eval x = y)
    (hrun : (Builtin.append_ #[t, u] o.type #[v, y]).run P w = .ok v' w') (h : wpList P ops Q rest (a.put o.dst v') w') : wpList P ops Q (o :: rest) a w := by
  refine wpList_plain hgd fun K hK => ?_
  unfold Oper.wp execOp
  simp only [ho, resolve, invoke, builtin, Sem.run_bind, Sem.run_pure, Result.andThen_ok, List.map_toArray, List.map_cons, List.map_nil, hs, hx, hrun]
  exact hK _ _ h

end

end Go.Proofs.Ytlmccjmbidfflaa
