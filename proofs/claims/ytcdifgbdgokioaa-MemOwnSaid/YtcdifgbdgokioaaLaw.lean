/-
  From a walk to a law's row: what the arguments read as is read again behind the call; slices that come in, as cells. General, of no program.
-/
import Derived.Test.YtcdifgbdgokioaaAppend
import Derived.ProofKit
import Derived.OpenShut
import Derived.Deep.Slices
import Derived.Deep.Fields
import Derived.Lib.SmallJoins
namespace Go.Proofs.Ytcdifgbdgokioaa
open Go.ChangeShapes Go.WideShapes Go.ChangeAt Go.RowKit Go.Deep Go.Joins

section
variable {H : Type} {enc : TypeId × Value → H} {P : Program}

/-- All arguments read behind the call as they read before, if nothing old is other. -/
theorem trodAll_below (hl : laidOutB P = true) {W W' : World} (hb : Below W.heap.size W W') : ∀ (ts : List TypeId) (vs : List Value) (ds : List (DataW H)) (ps : List MemPlace),
    (∀ t ∈ ts, P.readableRec t = true ∧ t < P.types.size) → DataW.TrodAll enc P W 0 (fun _ => true) true ts vs ds ps → (∀ x ∈ ps, x.block < W.heap.size) →
    DataW.TrodAll enc P W' 0 (fun b => decide (b < W.heap.size)) true ts vs ds ps
  | [], vs, ds, ps, _, h, _ => by
    obtain ⟨rfl, rfl, rfl⟩ := trodAll_nil h
    exact trodAll_mk0
  | t :: ts, vs, ds, ps, hr, h, hlt => by
    obtain ⟨v, vs', d, ds', p, q, rfl, rfl, rfl, h0, r0⟩ := trodAll_cons h
    refine trodAll_cons_mk (Below.trod hl (hr t (by simp)).1 (hr t (by simp)).2 h0 hb (fun x hx => hlt x (by simp [hx]))) ?_
    exact trodAll_below hl hb ts vs' ds' q (fun t ht => hr t (by simp [ht])) r0 (fun x hx => hlt x (by simp [hx]))

/-- The step of a law's row: the walk returns true and turns nothing old. -/
theorem law_step {f : Func} {F : FuncId} {s : ChangeSpec} {tb : TypeId} (hl : laidOutB P = true) (hv : s.vars = []) (hres : f.resultTypes = #[tb]) (hbool : P.underlying tb = some .bool)
    (hr : ∀ t ∈ f.params.toList, P.readableRec t = true ∧ t < P.types.size)
    {W : World} {args : Array Value} {ds gs : List (DataW H)} {before : List MemPlace}
    (hW : DataW.Whole enc P f.params.toList s.vars false W args.toList ds gs before)
    (hsp : ∀ ds : List (DataW H), ds.length = f.params.toList.length → s.fn H ds = { results := [.lit (.bool true)], args := ds })
    (hwalk : ∀ p, DataW.TrodAll enc P W 0 (fun _ => true) true f.params.toList args.toList ds p → Calls P F args W fun e W' => e = .returned (.bool true) ∧ Below W.heap.size W W') :
    Calls P F args W fun e W' => ∃ v, e = .returned v ∧ s.post enc P f false true false false W args v W' := by
  have hW' := hW
  obtain ⟨p, q, hA, hV, rfl, hfz, hnd⟩ := hW
  rw [hv] at hV
  obtain ⟨rfl, rfl⟩ := trodVars_none hV
  have hlen : ∀ (ts : List TypeId) (vs : List Value) (ds : List (DataW H)) (ps : List MemPlace), DataW.TrodAll enc P W 0 (fun _ => true) true ts vs ds ps → ds.length = ts.length := by
    intro ts
    induction ts with
    | nil => intro vs ds ps h; obtain ⟨rfl, rfl, rfl⟩ := trodAll_nil h; rfl
    | cons t ts ih => intro vs ds ps h; obtain ⟨v, vs', d, ds', p, q, rfl, rfl, rfl, _, r0⟩ := trodAll_cons h; simp [ih _ _ _ r0]
  have hsp' := hsp ds (hlen _ _ _ _ hA)
  simp only [List.append_nil] at hW'
  refine (hwalk p hA).mono fun e W' ⟨he, bel⟩ => ⟨_, he, ds, [], p, [], p, [], hW', ?_, ?_, ?_, bel.frame _, fun h => by cases h⟩
  · rw [List.append_nil, hsp', hres]
    exact trodAll_mk1 (shut_bool hbool _)
  · rw [List.append_nil, hsp']
    exact trodAll_below hl bel _ _ _ _ hr hA (fun x hx => hW'.lt x hx)
  · rw [List.append_nil, hsp', hv]
    rfl

/-! ### Slices that come in -/

theorem spot_none {w : World} {a : Addr} {v : Value} (h : w.cell? a = some v) : a = ⟨a.block, a.off, none⟩ := by
  unfold World.cell? at h
  split at h
  · split at h
    · cases h
    · rename_i hs
      cases a
      simp_all
  · cases h

theorem length_flatMap_const {α : Type} {k : Nat} (f : Nat → List α) : ∀ (n : Nat), (∀ i, i < n → (f i).length = k) → ((List.range n).flatMap f).length = n * k
  | 0, _ => by simp
  | n + 1, hf => by
    rw [List.range_succ, List.flatMap_append, List.length_append, length_flatMap_const f n (fun i hi => hf i (by omega)), Nat.add_mul]
    simp [hf n (by omega)]

theorem getElem?_flatMap_const {α : Type} {k : Nat} (f : Nat → List α) : ∀ (n : Nat), (∀ i, i < n → (f i).length = k) → ∀ i j, i < n → j < k → ((List.range n).flatMap f)[i * k + j]? = (f i)[j]?
  | 0, _, i, j, hi, _ => by omega
  | n + 1, hf, i, j, hi, hj => by
    have hlen : ((List.range n).flatMap f).length = n * k := by
      exact length_flatMap_const f n (fun i hi => hf i (by omega))
    rw [List.range_succ, List.flatMap_append, List.getElem?_append]
    by_cases h : i < n
    · have hlt : i * k + j < n * k := by
        have : (i + 1) * k ≤ n * k := Nat.mul_le_mul_right _ h
        rw [Nat.add_mul] at this; omega
      rw [if_pos (by rw [hlen]; exact hlt)]
      exact getElem?_flatMap_const f n (fun i hi => hf i (by omega)) i j h hj
    · obtain rfl : i = n := by omega
      rw [if_neg (by rw [hlen]; omega), hlen]
      simp

/-- A slice that came in: its elements' cells, and each element's own reading. -/
theorem open_sees {t e : TypeId} {k : Nat} {r : Reach} {b0 : Nat} {W : World} {v : Value} {d : DataW H} {p : List MemPlace} (ht : P.underlying t = some (.slice e)) (hC : P.cellsOf e = k) (hk : 0 < k)
    (hok : Value.okWide P W r b0 t v) (h : DataW.Trod enc P W 0 (fun _ => true) true t v d p) :
    ∃ n, ∃ cs : Nat → List Value, Sees (fun k => k < W.heap.size) W v k n ((List.range n).flatMap cs) ∧ ∀ i, i < n → (cs i).length = k ∧ ∃ fuel x, DataW.trod enc P W 0 (fun _ => true) true fuel e (cs i) = some x := by
  obtain ⟨a0, len, cap, rfl⟩ := okWide_slice ht hok
  obtain ⟨fuel, hf⟩ := h
  rcases open_slice ht hf with ⟨hcs, _⟩ | ⟨a, l, c, m, n, D, Pl, hcs, hb, hl, hm, hmm, hx, hi⟩
  · simp [Value.cells] at hcs
    obtain ⟨rfl, rfl, rfl⟩ := hcs
    exact ⟨0, fun _ => [], by simpa using (Sees.nil : Sees (fun k => k < W.heap.size) W (.slice none 0 0) k 0 []), fun i hi => by omega⟩
  · simp [Value.cells] at hcs
    obtain ⟨rfl, rfl, rfl⟩ := hcs
    rw [if_pos rfl] at hmm
    subst hmm
    obtain ⟨cs, hcs⟩ := choose_lt (α := List Value) (n := len) (p := fun i cs' => W.cells? 0 (a.add (i * k)) k = some cs' ∧ DataW.trod enc P W 0 (fun _ => true) true n e cs' = some (D i, Pl i)) (fun i hlt => by
      obtain ⟨cs', h1, h2⟩ := hi i (by omega)
      rw [hC] at h1
      exact ⟨cs', h1, h2⟩)
    have hlen : ∀ i, i < len → (cs i).length = k := fun i hlt => (World.cells?_some (hcs i hlt).1).2.1
    refine ⟨len, cs, ⟨length_flatMap_const cs len hlen, some a, _, rfl, hl, hm, ?_⟩, fun i hlt => ⟨hlen i hlt, n, _, (hcs i hlt).2⟩⟩
    rcases Nat.eq_zero_or_pos len with h0 | hpos
    · exact .inl h0
    · right
      have hat0 := (World.cells?_some (hcs 0 hpos).1).2.2 0 hk
      have hl0 := hlen 0 hpos
      have hcell0 : W.cell? a = some ((cs 0)[0]'(by omega)) := by
        have : (a.add (0 * k)).add 0 = a := by simp [Addr.add]
        rw [this, List.getElem?_eq_getElem (by omega)] at hat0
        exact hat0
      have hsp := spot_none hcell0
      refine ⟨a.block, a.off, block_lt_of_cell hcell0, by rw [← hsp], fun j u hu => ?_⟩
      have hjl : j < len * k := by
        rw [← length_flatMap_const cs len hlen]
        exact (List.getElem?_eq_some_iff.1 hu).1
      have hd : j / k < len := Nat.div_lt_of_lt_mul (by rwa [Nat.mul_comm])
      have hmod : j % k < k := Nat.mod_lt _ hk
      have hj : j / k * k + j % k = j := by rw [Nat.mul_comm]; exact Nat.div_add_mod j k
      rw [← hj, getElem?_flatMap_const cs len hlen _ _ hd hmod] at hu
      have hat := (World.cells?_some (hcs _ hd).1).2.2 _ hmod
      rw [Go.Deep.add_add, hj, hu, hsp, addr_add] at hat
      exact hat

/-- A slice of integers that came in. -/
theorem open_seesI {t e : TypeId} {K : IntKind} {r : Reach} {b0 : Nat} {W : World} {v : Value} {d : DataW H} {p : List MemPlace} (ht : P.underlying t = some (.slice e)) (he : P.underlying e = some (.int K)) (hC : P.cellsOf e = 1)
    (hok : Value.okWide P W r b0 t v) (h : DataW.Trod enc P W 0 (fun _ => true) true t v d p) :
    ∃ xs : List Int, Sees (fun k => k < W.heap.size) W v 1 xs.length (xs.map (Value.int K)) ∧ ∀ x ∈ xs, (Lit.int K x).wf = true := by
  obtain ⟨n, cs, hs, hi⟩ := open_sees ht hC (by omega) hok h
  obtain ⟨X, hX⟩ := choose_lt (α := Int) (n := n) (p := fun i x => cs i = [.int K x] ∧ (Lit.int K x).wf = true) (fun i hlt => by
    obtain ⟨hl, fuel, y, hy⟩ := hi i hlt
    match hc : cs i, hl with
    | [u], _ =>
      rw [hc] at hy
      obtain ⟨x, e0, _, wx⟩ := DataW.trod_int he hy
      simp at e0
      exact ⟨x, by rw [e0], wx⟩)
  refine ⟨(List.range n).map X, ?_, fun x hx => ?_⟩
  · have : (List.range n).flatMap cs = ((List.range n).map X).map (Value.int K) := by
      rw [List.map_map, ← List.flatMap_singleton' ((List.range n).map _)]
      rw [List.flatMap_map]
      exact flatMap_congr_range fun i hi => (hX i hi).1
    rw [this] at hs
    simpa using hs
  · obtain ⟨i, hi, rfl⟩ := List.mem_map.1 hx
    exact (hX i (List.mem_range.1 hi)).2

end

end Go.Proofs.Ytcdifgbdgokioaa
