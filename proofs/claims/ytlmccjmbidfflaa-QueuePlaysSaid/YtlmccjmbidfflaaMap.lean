/-
  Maps keyed by integers, as partial functions: look up, store, delete, len, range: the laws of the runs, and each at the operation of a walk. General, of no program.
-/
import Derived.Test.YtlmccjmbidfflaaAppend
import Derived.MapKept
import Derived.Maps.RangeRun
import Derived.Maps.RangeWalk
namespace Go.Proofs.Ytlmccjmbidfflaa
set_option linter.unusedVariables false
open Go.RowKit
open Go.MapKept (Stamped IsKey stamped_empty stamped_push stamped_modify stamped_erase stamped_iff findNow_spec)
open Go.ChangeMaps (setBlock)

/-- Block r is a map of n entries, that reads as f. -/
def IM (w : World) (r n : Nat) (f : Int → Option Value) : Prop :=
  ∃ es clock, w.heap[r]? = some (.map es clock) ∧ Stamped es clock ∧ es.size = n ∧ (∀ x ∈ es.toList, ∃ k, x.key = .int .i64 k ∧ f k = some x.val) ∧ ∀ k v, f k = some v → ∃ x ∈ es.toList, x.key = .int .i64 k

def iput (f : Int → Option Value) (k : Int) (v : Value) : Int → Option Value := fun i => if i = k then some v else f i
def idel (f : Int → Option Value) (k : Int) : Int → Option Value := fun i => if i = k then none else f i

theorem IM.keep {S : Nat → Prop} {w w' : World} {r n : Nat} {f : Int → Option Value} (h : IM w r n f) (hc : Ch S w w') (hn : ¬ S r) : IM w' r n f := by
  obtain ⟨es, clock, hb, rest⟩ := h
  exact ⟨es, clock, hc.keep hb hn, rest⟩

theorem IM.lt {w : World} {r n : Nat} {f : Int → Option Value} (h : IM w r n f) : r < w.heap.size := by
  obtain ⟨es, clock, hb, _⟩ := h
  exact lt_of_block hb

theorem IM.made (w : World) : IM (w.alloc (.map #[] 0)) w.heap.size 0 (fun _ => none) :=
  ⟨#[], 0, (MapKept.heap_alloc w _).1, stamped_empty 0, rfl, by simp, by simp⟩

theorem IM.congr {w : World} {r n m : Nat} {f g : Int → Option Value} (h : IM w r n f) (hf : ∀ k, f k = g k) (hn : n = m) : IM w r m g := by
  have : f = g := funext hf
  subst this; subst hn; exact h

theorem ch_setBlock {w : World} {r : Nat} {o : Obj} (h : r < w.heap.size) : Ch (fun k => k = r) w (setBlock w r o) :=
  ⟨rfl, rfl, rfl, by simp [setBlock], fun k _ hn => by simp [setBlock, Ne.symm hn]⟩

section
variable {P : Program} {w : World} {r n : Nat} {f : Int → Option Value}

theorem ikeys {es : Array MapEntry} (h : ∀ x ∈ es.toList, ∃ k, x.key = .int .i64 k ∧ f k = some x.val) : ∀ x ∈ es.toList, IsKey (.int .i64) x.key := by
  intro x hx
  obtain ⟨k, hk, _⟩ := h x hx
  rw [hk]; exact rfl

theorem ifind {es : Array MapEntry} (h : ∀ x ∈ es.toList, ∃ k, x.key = .int .i64 k ∧ f k = some x.val) (h2 : ∀ k v, f k = some v → ∃ x ∈ es.toList, x.key = .int .i64 k) (k : Int) :
    (Instr.findNow (.int .i64) (.int .i64 k) es.toList 0 = some none ∧ f k = none ∧ ∀ x ∈ es.toList, x.key ≠ .int .i64 k) ∨
    ∃ j e, Instr.findNow (.int .i64) (.int .i64 k) es.toList 0 = some (some (j, e.val)) ∧ es.toList[j]? = some e ∧ e.key = .int .i64 k ∧ f k = some e.val := by
  rcases findNow_spec (d := .int .i64) (k := .int .i64 k) rfl es.toList 0 (ikeys h) with ⟨h1, hn⟩ | ⟨j, e, h1, hj, he⟩
  · refine .inl ⟨h1, ?_, hn⟩
    cases hf : f k with
    | none => rfl
    | some v =>
      obtain ⟨x, hx, hxk⟩ := h2 k v hf
      exact absurd hxk (hn x hx)
  · refine .inr ⟨j, e, by simpa using h1, hj, he, ?_⟩
    obtain ⟨k', hk', hf'⟩ := h e (List.mem_of_getElem? hj)
    rw [he] at hk'
    cases hk'
    exact hf'

theorem IM.lookup {t kt et : TypeId} {z : Value} (h : IM w r n f) (ht : P.underlying t = some (.map kt et)) (hk : P.underlying kt = some (.int .i64)) (hz : (zeroValue et).run P w = .ok z w) (k : Int) (c : Bool) :
    (Instr.lookup t (.map (some r)) (.int .i64 k) c).run P w = .ok (if c then .tuple #[(f k).getD z, .bool (f k).isSome] else (f k).getD z) w := by
  obtain ⟨es, clock, hb, hs, hn, h1, h2⟩ := h
  rcases ifind h1 h2 k with ⟨a, b, _⟩ | ⟨j, e, a, b, d, g⟩
  · simp [Instr.lookup, run_underlying ht, MapKept.run_getObj_map hb, MapKept.run_checkKey (d := .int .i64) hk (k := .int .i64 k) rfl, MapKept.run_findKey hk a, hz, b, Result.andThen]
  · simp [Instr.lookup, run_underlying ht, MapKept.run_getObj_map hb, MapKept.run_checkKey (d := .int .i64) hk (k := .int .i64 k) rfl, MapKept.run_findKey hk a, g, Result.andThen]

theorem lookup_nil {t kt et : TypeId} {z : Value} (ht : P.underlying t = some (.map kt et)) (hk : P.underlying kt = some (.int .i64)) (hz : (zeroValue et).run P w = .ok z w) (k : Int) (c : Bool) :
    (Instr.lookup t (.map none) (.int .i64 k) c).run P w = .ok (if c then .tuple #[z, .bool false] else z) w := by
  have a : Instr.findNow (.int .i64) (.int .i64 k) [] 0 = some none := rfl
  simp [Instr.lookup, run_underlying ht, MapKept.run_checkKey (d := .int .i64) hk (k := .int .i64 k) rfl, MapKept.run_findKey hk a, hz, Result.andThen]

theorem imap_apart {es : Array MapEntry} {clock : Nat} (hs : Stamped es clock) {x y : MapEntry} (hx : x ∈ es.toList) (hy : y ∈ es.toList) (h : x.key = y.key) : x = y := by
  have := ((stamped_iff es clock).1 hs).2.2
  exact entry_eq_of_key this hx hy h

theorem IM.update {t kt et : TypeId} (h : IM w r n f) (ht : P.underlying t = some (.map kt et)) (hk : P.underlying kt = some (.int .i64)) (k : Int) (v : Value) :
    ∃ w', (Instr.mapUpdate t (.map (some r)) (.int .i64 k) v).run P w = .ok () w' ∧ IM w' r (if (f k).isSome then n else n + 1) (iput f k v) ∧ Ch (fun i => i = r) w w' ∧ w'.heap.size = w.heap.size := by
  have hlt := h.lt
  obtain ⟨es, clock, hb, hs, hn, h1, h2⟩ := h
  rcases ifind h1 h2 k with ⟨a, b, hne⟩ | ⟨j, e, a, b, d, g⟩
  · refine ⟨setBlock w r (.map (es.push { key := .int .i64 k, val := v, born := clock }) (clock + 1)), ?_, ⟨_, _, (MapKept.heap_set hb).1, stamped_push hs hne, ?_, ?_, ?_⟩, ch_setBlock hlt, by simp [setBlock]⟩
    · simp [Instr.mapUpdate, run_underlying ht, MapKept.run_getObj_map hb, MapKept.run_checkKey (d := .int .i64) hk (k := .int .i64 k) rfl, MapKept.run_findKey hk a, MapKept.run_setObj_map _ hb, setBlock, Result.andThen]
    · simp [b, hn]
    · intro x hx
      simp only [Array.toList_push, List.mem_append, List.mem_singleton] at hx
      rcases hx with hx | rfl
      · obtain ⟨i, hi, hfi⟩ := h1 x hx
        refine ⟨i, hi, ?_⟩
        unfold iput
        rw [if_neg]
        · exact hfi
        · rintro rfl; exact hne x hx hi
      · exact ⟨k, rfl, by simp [iput]⟩
    · intro i u hu
      unfold iput at hu
      by_cases hik : i = k
      · exact ⟨{ key := .int .i64 k, val := v, born := clock }, by simp, by rw [hik]⟩
      · rw [if_neg hik] at hu
        obtain ⟨x, hx, hxk⟩ := h2 i u hu
        exact ⟨x, by simp [Array.mem_toList_iff.1 hx], hxk⟩
  · have hj : es[j]? = some e := by simpa using b
    have hmem : e ∈ es.toList := List.mem_of_getElem? b
    have hkey : ∀ e', es[j]? = some e' → ({ e' with key := .int .i64 k, val := v } : MapEntry).key = e'.key := fun e' he' => by rw [hj] at he'; cases he'; exact d.symm
    have hget : ∀ i, (es.modify j fun e => { e with key := .int .i64 k, val := v })[i]? = if j = i then some { e with key := .int .i64 k, val := v } else es[i]? := by
      intro i
      rw [Array.getElem?_modify]
      split
      · rename_i q; subst q; simp [hj]
      · rfl
    refine ⟨setBlock w r (.map (es.modify j fun e => { e with key := .int .i64 k, val := v }) clock), ?_, ⟨_, _, (MapKept.heap_set hb).1, stamped_modify hs _ _ (fun _ _ => rfl) (fun e' _ he' => hkey e' he'), ?_, ?_, ?_⟩, ch_setBlock hlt, by simp [setBlock]⟩
    · simp [Instr.mapUpdate, run_underlying ht, MapKept.run_getObj_map hb, MapKept.run_checkKey (d := .int .i64) hk (k := .int .i64 k) rfl, MapKept.run_findKey hk a, hj, d, MapKept.run_keyThatStays (d := .int .i64) (k := .int .i64 k) rfl, MapKept.run_setObj_map _ hb, setBlock, Result.andThen]
    · simp [g, hn]
    · intro x hx
      obtain ⟨i, hi⟩ := List.getElem?_of_mem hx
      rw [Array.getElem?_toList, hget i] at hi
      by_cases hij : j = i
      · rw [if_pos hij] at hi
        cases hi
        exact ⟨k, rfl, by simp [iput]⟩
      · rw [if_neg hij] at hi
        have hxm : x ∈ es.toList := Array.mem_toList_iff.2 (Array.mem_of_getElem? hi)
        obtain ⟨i', hi', hfi⟩ := h1 x hxm
        refine ⟨i', hi', ?_⟩
        unfold iput
        rw [if_neg]
        · exact hfi
        · rintro rfl
          have hxe := imap_apart hs hxm hmem (hi'.trans d.symm)
          subst hxe
          have h3 := ((stamped_iff es clock).1 hs).2.2
          obtain ⟨p1, q1⟩ := Array.getElem?_eq_some_iff.1 hi
          obtain ⟨p2, q2⟩ := Array.getElem?_eq_some_iff.1 hj
          have h4 := List.pairwise_iff_getElem.1 h3
          rcases Nat.lt_or_gt_of_ne hij with hlt' | hlt'
          · exact h4 j i (by simpa using p2) (by simpa using p1) hlt' (by simp [q1, q2])
          · exact h4 i j (by simpa using p1) (by simpa using p2) hlt' (by simp [q1, q2])
    · intro i u hu
      unfold iput at hu
      by_cases hik : i = k
      · refine ⟨{ e with key := .int .i64 k, val := v }, ?_, by rw [hik]⟩
        apply Array.mem_toList_iff.2
        have := hget j
        rw [if_pos rfl] at this
        exact Array.mem_of_getElem? this
      · rw [if_neg hik] at hu
        obtain ⟨x, hx, hxk⟩ := h2 i u hu
        obtain ⟨i', hi'⟩ := List.getElem?_of_mem hx
        have hji : j ≠ i' := by
          rintro rfl
          rw [b] at hi'
          cases hi'
          rw [d] at hxk
          cases hxk
          exact hik rfl
        refine ⟨x, ?_, hxk⟩
        have h5 := hget i'
        rw [if_neg hji] at h5
        rw [Array.getElem?_toList] at hi'
        exact Array.mem_toList_iff.2 (Array.mem_of_getElem? (h5.trans hi'))

theorem IM.delete {t kt et ty : TypeId} (h : IM w r n f) (ht : P.underlying t = some (.map kt et)) (hk : P.underlying kt = some (.int .i64)) (k : Int) :
    ∃ w', (Builtin.delete_ #[t, kt] ty #[.map (some r), .int .i64 k]).run P w = .ok (.tuple #[]) w' ∧ IM w' r (if (f k).isSome then n - 1 else n) (idel f k) ∧ Ch (fun i => i = r) w w' ∧ w'.heap.size = w.heap.size := by
  have hlt := h.lt
  obtain ⟨es, clock, hb, hs, hn, h1, h2⟩ := h
  rcases ifind h1 h2 k with ⟨a, b, hne⟩ | ⟨j, e, a, b, d, g⟩
  · refine ⟨setBlock w r (.map es clock), ?_, ⟨_, _, (MapKept.heap_set hb).1, hs, ?_, ?_, ?_⟩, ch_setBlock hlt, by simp [setBlock]⟩
    · simp [Builtin.delete_, run_underlying ht, MapKept.run_getObj_map hb, MapKept.run_checkKey (d := .int .i64) hk (k := .int .i64 k) rfl, MapKept.run_findKey hk a, MapKept.run_setObj_map _ hb, setBlock, Result.andThen]
    · simp [b, hn]
    · intro x hx
      obtain ⟨i, hi, hfi⟩ := h1 x hx
      refine ⟨i, hi, ?_⟩
      unfold idel
      rw [if_neg]
      · exact hfi
      · rintro rfl; exact hne x hx hi
    · intro i u hu
      unfold idel at hu
      by_cases hik : i = k
      · rw [if_pos hik] at hu; cases hu
      · rw [if_neg hik] at hu
        exact h2 i u hu
  · have hjl : j < es.toList.length := (List.getElem?_eq_some_iff.1 b).1
    have hjs : j < es.size := by simpa using hjl
    have hsub : (es.eraseIdxIfInBounds j).toList = es.toList.eraseIdx j := by
      unfold Array.eraseIdxIfInBounds
      rw [dif_pos hjs]
      simp
    have hmem : e ∈ es.toList := List.mem_of_getElem? b
    have hwho : ∀ x, x ∈ (es.eraseIdxIfInBounds j).toList ↔ (x ∈ es.toList ∧ x.key ≠ .int .i64 k) := by
      intro x
      rw [hsub, List.mem_eraseIdx_iff_getElem?]
      have h4 := List.pairwise_iff_getElem.1 ((stamped_iff es clock).1 hs).2.2
      obtain ⟨p2, q2⟩ := List.getElem?_eq_some_iff.1 b
      constructor
      · rintro ⟨i, hne, hi⟩
        refine ⟨List.mem_of_getElem? hi, fun q => ?_⟩
        obtain ⟨p1, q1⟩ := List.getElem?_eq_some_iff.1 hi
        rcases Nat.lt_or_gt_of_ne hne with hlt' | hlt'
        · exact h4 i j p1 p2 hlt' (by rw [q1, q2, q, d])
        · exact h4 j i p2 p1 hlt' (by rw [q1, q2, q, d])
      · rintro ⟨hx, hne⟩
        obtain ⟨i, hi⟩ := List.getElem?_of_mem hx
        refine ⟨i, fun e1 => hne ?_, hi⟩
        rw [e1, b] at hi
        cases hi
        exact d
    refine ⟨setBlock w r (.map (es.eraseIdxIfInBounds j) clock), ?_, ⟨_, _, (MapKept.heap_set hb).1, stamped_erase hs j, ?_, ?_, ?_⟩, ch_setBlock hlt, by simp [setBlock]⟩
    · simp [Builtin.delete_, run_underlying ht, MapKept.run_getObj_map hb, MapKept.run_checkKey (d := .int .i64) hk (k := .int .i64 k) rfl, MapKept.run_findKey hk a, MapKept.run_setObj_map _ hb, setBlock, Result.andThen]
    · have : (es.eraseIdxIfInBounds j).size = (es.toList.eraseIdx j).length := by rw [← hsub, Array.length_toList]
      rw [this, List.length_eraseIdx_of_lt hjl]
      simp [g, hn]
    · intro x hx
      obtain ⟨hx, hxk⟩ := (hwho x).1 hx
      obtain ⟨i, hi, hfi⟩ := h1 x hx
      refine ⟨i, hi, ?_⟩
      unfold idel
      rw [if_neg]
      · exact hfi
      · rintro rfl; exact hxk hi
    · intro i u hu
      unfold idel at hu
      by_cases hik : i = k
      · rw [if_pos hik] at hu; cases hu
      · rw [if_neg hik] at hu
        obtain ⟨x, hx, hxk⟩ := h2 i u hu
        exact ⟨x, (hwho x).2 ⟨hx, by rw [hxk]; intro q; cases q; exact hik rfl⟩, hxk⟩

theorem IM.len {t kt et ty : TypeId} (h : IM w r n f) (ht : P.underlying t = some (.map kt et)) : (Builtin.len_ #[t] ty #[.map (some r)]).run P w = .ok (.int .i64 n) w := by
  obtain ⟨es, clock, hb, hs, hn, h1, h2⟩ := h
  simp [Builtin.len_, run_underlying ht, MapKept.run_getObj_map hb, goInt, hn, Result.andThen]

theorem len_nil {t kt et ty : TypeId} (ht : P.underlying t = some (.map kt et)) : (Builtin.len_ #[t] ty #[.map none]).run P w = .ok (.int .i64 0) w := by
  simp [Builtin.len_, run_underlying ht, goInt, Result.andThen]

/-! ### a range over a map that the loop does not write -/

/-- Block b is an iterator over the map in block r; left: the keys that are still to come. -/
def IR (w : World) (r b n : Nat) (f : Int → Option Value) (left : Int → Bool) : Prop :=
  ∃ es clock since seen c0, w.heap[r]? = some (.map es clock) ∧ Stamped es clock ∧ es.size = n ∧ (∀ x ∈ es.toList, ∃ k, x.key = .int .i64 k ∧ f k = some x.val) ∧ (∀ k v, f k = some v → ∃ x ∈ es.toList, x.key = .int .i64 k) ∧
    w.heap[b]? = some (.mapIter (some r) since seen c0) ∧ (∀ x ∈ es.toList, x.born < since) ∧ since ≤ c0 ∧ since ≤ clock ∧
    (∀ x ∈ es.toList, ∀ k, x.key = .int .i64 k → left k = !seen.contains x.born) ∧ ∀ k, left k = true → (f k).isSome = true

theorem IR.map {b : Nat} {left : Int → Bool} (h : IR w r b n f left) : IM w r n f := by
  obtain ⟨es, clock, since, seen, c0, hb, hs, hn, h1, h2, _⟩ := h
  exact ⟨es, clock, hb, hs, hn, h1, h2⟩

theorem IR.keep {S : Nat → Prop} {w' : World} {b : Nat} {left : Int → Bool} (h : IR w r b n f left) (hc : Ch S w w') (hr : ¬ S r) (hb : ¬ S b) : IR w' r b n f left := by
  obtain ⟨es, clock, since, seen, c0, hm, hs, hn, h1, h2, hi, rest⟩ := h
  exact ⟨es, clock, since, seen, c0, hc.keep hm hr, hs, hn, h1, h2, hc.keep hi hb, rest⟩

theorem IR.ne {b : Nat} {left : Int → Bool} (h : IR w r b n f left) : b ≠ r := by
  obtain ⟨es, clock, since, seen, c0, hm, hs, hn, h1, h2, hi, rest⟩ := h
  rintro rfl
  rw [hm] at hi; cases hi

theorem IR.lt {b : Nat} {left : Int → Bool} (h : IR w r b n f left) : b < w.heap.size := by
  obtain ⟨es, clock, since, seen, c0, hm, hs, hn, h1, h2, hi, rest⟩ := h
  exact lt_of_block hi

/-- how many are to come: for a measure -/
def iterLeft (w : World) (r b : Nat) : Nat :=
  match w.heap[r]?, w.heap[b]? with
  | some (.map es _), some (.mapIter _ _ seen _) => (leftOf es seen).size
  | _, _ => 0

theorem iterLeft_keep {S : Nat → Prop} {w' : World} {b : Nat} {left : Int → Bool} (h : IR w r b n f left) (hc : Ch S w w') (hr : ¬ S r) (hb : ¬ S b) : iterLeft w' r b = iterLeft w r b := by
  have hl := h.lt
  have hl2 := h.map.lt
  unfold iterLeft
  rw [hc.block r hl2 hr, hc.block b hl hb]

theorem IM.range {t kt et : TypeId} (h : IM w r n f) (ht : P.underlying t = some (.map kt et)) :
    ∃ w', (Instr.range t (.map (some r))).run P w = .ok (.pointer (some ⟨w.heap.size, 0, none⟩)) w' ∧ IR w' r w.heap.size n f (fun k => (f k).isSome) ∧ Ch0 w w' ∧ w'.heap.size = w.heap.size + 1 := by
  have hlt := h.lt
  obtain ⟨es, clock, hb, hs, hn, h1, h2⟩ := h
  refine ⟨_, run_range_map w t kt et r es clock ht hb, ⟨es, clock, clock, #[], clock, ((MapKept.heap_alloc w _).2 r hlt).trans hb, hs, hn, h1, h2, (MapKept.heap_alloc w _).1, hs.1, Nat.le_refl _, Nat.le_refl _, ?_, fun k hk => hk⟩, (Ch.refl _ _).alloc _, by simp⟩
  intro x hx k hk
  obtain ⟨k', hk', hf⟩ := h1 x hx
  rw [hk] at hk'; cases hk'
  simp [hf]

theorem IR.next {b : Nat} {left : Int → Bool} (h : IR w r b n f left) (ty : TypeId) :
    ((∀ k, left k = false) ∧ (Instr.next (.pointer (some ⟨b, 0, none⟩)) false ty).run P w = .ok (.tuple #[.bool false]) w) ∨
    ∃ k v w', left k = true ∧ f k = some v ∧ (Instr.next (.pointer (some ⟨b, 0, none⟩)) false ty).run P w = .ok (.tuple #[.bool true, .int .i64 k, v]) w' ∧ IR w' r b n f (fun i => left i && !(i == k)) ∧ Ch (fun i => i = b) w w' ∧
      w'.heap.size = w.heap.size ∧ iterLeft w' r b < iterLeft w r b ∧ (Instr.entry (.pointer (some ⟨b, 0, none⟩))).run P w' = .ok (.tuple #[.int .i64 k, v]) w' := by
  have hne := h.ne
  obtain ⟨es, clock, since, seen, c0, hm, hs, hn, h1, h2, hi, hold, hsc, hsk, hl, hl2⟩ := h
  rcases run_next_at (P := P) w ty b r since c0 seen es clock hi hm hold hsc with ⟨h0, hrun⟩ | ⟨e, he, w1, hal, hrun⟩
  · refine .inl ⟨fun k => ?_, hrun⟩
    cases hk : left k with
    | false => rfl
    | true =>
      obtain ⟨v, hv⟩ := Option.isSome_iff_exists.1 (hl2 k hk)
      obtain ⟨x, hx, hxk⟩ := h2 k v hv
      rw [hl x hx k hxk, all_seen es seen h0 x hx] at hk
      cases hk
  · obtain ⟨hem, hes⟩ := mem_left he
    obtain ⟨k, hk, hf⟩ := h1 e hem
    have hst := (stamped_iff es clock).1 hs
    have hi1 : w1.heap[b]? = some (.mapIter (some r) since seen c0) := by rcases hal with rfl | rfl <;> exact hi
    have hm1 : w1.heap[r]? = some (.map es clock) := by rcases hal with rfl | rfl <;> exact hm
    have hset := MapKept.heap_set (o' := .mapIter (some r) since (seen.push e.born) clock) hi1
    have hm' : (setBlock w1 b (.mapIter (some r) since (seen.push e.born) clock)).heap[r]? = some (.map es clock) := (hset.2 r (fun e1 => hne e1.symm)).trans hm1
    have hi' : (setBlock w1 b (.mapIter (some r) since (seen.push e.born) clock)).heap[b]? = some (.mapIter (some r) since (seen.push e.born) clock) := hset.1
    refine .inr ⟨k, e.val, _, by rw [hl e hem k hk, hes]; rfl, hf, by rw [hrun, hk], ⟨es, clock, since, seen.push e.born, clock, hm', hs, hn, h1, h2, hi', hold, hsk, hsk, fun x hx i hxi => ?_, fun i hik => hl2 i (by simp at hik; exact hik.1)⟩, ?_, ?_, ?_, ?_⟩
    · show (left i && !(i == k)) = _
      rw [hl x hx i hxi, contains_push]
      by_cases hik : i = k
      · subst hik
        have := imap_apart hs hx hem (hxi.trans hk.symm)
        subst this
        simp
      · have hb : (x.born == e.born) = false := by
          rw [beq_eq_false_iff_ne]
          intro q
          have := born_inj hst.2.1 hx hem q
          subst this
          rw [hxi] at hk; cases hk; exact hik rfl
        rw [hb, beq_eq_false_iff_ne.2 hik]
        simp
    · have hc : Ch (fun i => i = b) w1 (setBlock w1 b (.mapIter (some r) since (seen.push e.born) clock)) := ch_setBlock (lt_of_block hi1)
      rcases hal with rfl | rfl
      · exact hc
      · exact ⟨hc.os, hc.tape, hc.output, hc.size, hc.block⟩
    · rcases hal with rfl | rfl <;> simp [setBlock]
    · have e1 : iterLeft (setBlock w1 b (.mapIter (some r) since (seen.push e.born) clock)) r b = (leftOf es (seen.push e.born)).size := by unfold iterLeft; rw [hm', hi']
      have e2 : iterLeft w r b = (leftOf es seen).size := by unfold iterLeft; rw [hm, hi]
      rw [e1, e2]
      exact left_shrinks es seen e he
    · rw [run_entry_at _ b r since seen es clock e hi' hm' hem hst.2.1, hk]
end

/-! ### at the operation -/
section
variable {P : Program} {w : World} {ops : Array Oper} {rest : List Oper} {o : Oper} {a : Act} {Q : Exit → Act → World → Prop}

/-- '(at_lookup; refine wpList_lookup_run rfl _ _ T rfl rfl rfl hrun ?_)' -/
theorem wpList_lookup_run (hg : o.guard = none) (m x : Operand) (t : TypeId) {c : Bool} (hop : o.op = Op.lookup t m x c) {mv key v : Value} (hm : a.eval m = mv) (hx : a.eval x = key)
    (hrun : (Instr.lookup t mv key c).run P w = .ok v w) (hK : wpList P ops Q rest (a.put o.dst v) w) : wpList P ops Q (o :: rest) a w := by
  refine wpList_plain hg fun K' hK' => ?_
  unfold Oper.wp
  simp [execOp, hop, hm, hx, hrun, Result.andThen]
  exact hK' _ _ hK

/-- '(at_mapUpdate; refine wpList_mapUpdate_run rfl _ _ _ T rfl rfl rfl rfl hrun ?_)' -/
theorem wpList_mapUpdate_run (hg : o.guard = none) (m x y : Operand) (t : TypeId) (hop : o.op = Op.mapUpdate t m x y) {mv key v : Value} {w' : World} (hm : a.eval m = mv) (hx : a.eval x = key) (hy : a.eval y = v)
    (hrun : (Instr.mapUpdate t mv key v).run P w = .ok () w') (hK : wpList P ops Q rest (a.put o.dst undef) w') : wpList P ops Q (o :: rest) a w := by
  refine wpList_plain hg fun K' hK' => ?_
  unfold Oper.wp
  simp [execOp, hop, hm, hx, hy, hrun, Result.andThen]
  exact hK' _ _ hK

theorem wpList_delete_run (hg : o.guard = none) (m x : Operand) (t k : TypeId) (hop : o.op = Op.call { callee := Callee.builtin Builtin.delete, args := #[m, x], argTypes := #[t, k] }) {mv key : Value} {w' : World} (hm : a.eval m = mv) (hx : a.eval x = key)
    (hrun : (Builtin.delete_ #[t, k] o.type #[mv, key]).run P w = .ok (.tuple #[]) w') (hK : wpList P ops Q rest (a.put o.dst (.tuple #[])) w') : wpList P ops Q (o :: rest) a w := by
  refine wpList_plain hg fun K' hK' => ?_
  unfold Oper.wp
  simp [execOp, hop, resolve, invoke, builtin, hm, hx, hrun, Result.andThen]
  exact hK' _ _ hK

theorem wpList_len_run (hg : o.guard = none) (m : Operand) (t : TypeId) (hop : o.op = Op.call { callee := Callee.builtin Builtin.len, args := #[m], argTypes := #[t] }) {mv v : Value} (hm : a.eval m = mv)
    (hrun : (Builtin.len_ #[t] o.type #[mv]).run P w = .ok v w) (hK : wpList P ops Q rest (a.put o.dst v) w) : wpList P ops Q (o :: rest) a w := by
  refine wpList_plain hg fun K' hK' => ?_
  unfold Oper.wp
  simp [execOp, hop, resolve, invoke, builtin, hm, hrun, Result.andThen]
  exact hK' _ _ hK

theorem wpList_range_run (hg : o.guard = none) (m : Operand) (t : TypeId) (hop : o.op = Op.range t m) {mv v : Value} {w' : World} (hm : a.eval m = mv)
    (hrun : (Instr.range t mv).run P w = .ok v w') (hK : wpList P ops Q rest (a.put o.dst v) w') : wpList P ops Q (o :: rest) a w := by
  refine wpList_plain hg fun K' hK' => ?_
  unfold Oper.wp
  simp [execOp, hop, hm, hrun, Result.andThen]
  exact hK' _ _ hK

theorem wpList_next_run (hg : o.guard = none) (it : Operand) (hop : o.op = Op.next it false) {iv v : Value} {w' : World} (hit : a.eval it = iv)
    (hrun : (Instr.next iv false o.type).run P w = .ok v w') (hK : wpList P ops Q rest (a.put o.dst v) w') : wpList P ops Q (o :: rest) a w := by
  refine wpList_plain hg fun K' hK' => ?_
  unfold Oper.wp
  simp [execOp, hop, hit, hrun, Result.andThen]
  exact hK' _ _ hK

/-- the step of a range over an IR -/
theorem wpList_next_IR (hg : o.guard = none) (it : Operand) (hop : o.op = Op.next it false) {r b n : Nat} {f : Int → Option Value} {left : Int → Bool} (hit : a.eval it = .pointer (some ⟨b, 0, none⟩)) (h : IR w r b n f left)
    (hDone : (∀ k, left k = false) → wpList P ops Q rest (a.put o.dst (.tuple #[.bool false])) w)
    (hMore : ∀ k v w', left k = true → f k = some v → IR w' r b n f (fun i => left i && !(i == k)) → Ch (fun i => i = b) w w' → w'.heap.size = w.heap.size → iterLeft w' r b < iterLeft w r b →
      (Instr.entry (.pointer (some ⟨b, 0, none⟩))).run P w' = .ok (.tuple #[.int .i64 k, v]) w' → wpList P ops Q rest (a.put o.dst (.tuple #[.bool true, .int .i64 k, v])) w') : wpList P ops Q (o :: rest) a w := by
  rcases h.next (P := P) o.type with ⟨h0, hrun⟩ | ⟨k, v, w', h1, h2, hrun, h3, h4, h5, h6, h7⟩
  · exact wpList_next_run hg it hop hit hrun (hDone h0)
  · exact wpList_next_run hg it hop hit hrun (hMore k v w' h1 h2 h3 h4 h5 h6 h7)
end

end Go.Proofs.Ytlmccjmbidfflaa
