/-
  From a walk to a law's row: what the arguments read as is read again behind the call; slices that come in, as cells. General, of no program.
-/
import Derived.Test.YtlmccjmbidfflaaAppend
import Derived.ProofKit
import Derived.OpenShut
import Derived.Deep.Slices
import Derived.Deep.Fields
import Derived.Lib.SmallJoins
namespace Go.Proofs.Ytlmccjmbidfflaa
set_option linter.unusedVariables false
open Go.ChangeShapes Go.WideShapes Go.ChangeAt Go.RowKit Go.Deep Go.Joins

section
variable {H : Type} {enc : TypeId × Value → H} {P : Program}

/-- All arguments read behind the call as they read before, if nothing old is other. -/
theorem trodAll_below (hl : laidOutB P = true) {W W' : World} (hb : Below W.heap.size W W') : ∀ (ts : List TypeId) (vs : List Value) (ds : List (DataW H)) (ps : List MemPlace),
    (∀ t ∈ ts, P.readableRec t = true ∧ t < P.types.size) → DataW.TrodAll enc P W 0 (fun _ => true) true ts vs ds ps → (∀ x ∈ ps, x.block < W.heap.size) →
    DataW.TrodAll enc P W' 0 (fun b => decide (b < W.heap.size)) true ts vs ds ps
  | [], vs, ds, ps, _, h, _ => by
    obtain ⟨rfl, rfl, rfl⟩ := trodAll_nil h
    exact trodAll_mk0
  | t :: ts, vs, ds, ps, hr, h, hlt => by
    obtain ⟨v, vs', d, ds', p, q, rfl, rfl, rfl, h0, r0⟩ := trodAll_cons h
    refine trodAll_cons_mk (Below.trod hl (hr t (by simp)).1 (hr t (by simp)).2 h0 hb (fun x hx => hlt x (by simp [hx]))) ?_
    exact trodAll_below hl hb ts vs' ds' q (fun t ht => hr t (by simp [ht])) r0 (fun x hx => hlt x (by simp [hx]))

/-- The step of a law's row: the walk returns true and turns nothing old. -/
theorem law_step {f : Func} {F : FuncId} {s : ChangeSpec} {tb : TypeId} (hl : laidOutB P = true) (hv : s.vars = []) (hres : f.resultTypes = #[tb]) (hbool : P.underlying tb = some .bool)
    (hr : ∀ t ∈ f.params.toList, P.readableRec t = true ∧ t < P.types.size)
    {W : World} {args : Array Value} {ds gs : List (DataW H)} {before : List MemPlace}
    (hW : DataW.Whole enc P f.params.toList s.vars false W args.toList ds gs before)
    (hsp : ∀ ds : List (DataW H), ds.length = f.params.toList.length → s.fn H ds = { results := [.lit (.bool true)], args := ds })
    (hwalk : ∀ p, DataW.TrodAll enc P W 0 (fun _ => true) true f.params.toList args.toList ds p → Calls P F args W fun e W' => e = .returned (.bool true) ∧ Below W.heap.size W W') :
    Calls P F args W fun e W' => ∃ v, e = .returned v ∧ s.post enc P f false true false false W args v W' := by
  have hW' := hW
  obtain ⟨p, q, hA, hV, rfl, hfz, hnd⟩ := hW
  rw [hv] at hV
  obtain ⟨rfl, rfl⟩ := trodVars_none hV
  have hlen : ∀ (ts : List TypeId) (vs : List Value) (ds : List (DataW H)) (ps : List MemPlace), DataW.TrodAll enc P W 0 (fun _ => true) true ts vs ds ps → ds.length = ts.length := by
    intro ts
    induction ts with
    | nil => intro vs ds ps h; obtain ⟨rfl, rfl, rfl⟩ := trodAll_nil h; rfl
    | cons t ts ih => intro vs ds ps h; obtain ⟨v, vs', d, ds', p, q, rfl, rfl, rfl, _, r0⟩ := trodAll_cons h; simp [ih _ _ _ r0]
  have hsp' := hsp ds (hlen _ _ _ _ hA)
  simp only [List.append_nil] at hW'
  refine (hwalk p hA).mono fun e W' ⟨he, bel⟩ => ⟨_, he, ds, [], p, [], p, [], hW', ?_, ?_, ?_, bel.frame _, fun h => by cases h⟩
  · rw [List.append_nil, hsp', hres]
    exact trodAll_mk1 (shut_bool hbool _)
  · rw [List.append_nil, hsp']
    exact trodAll_below hl bel _ _ _ _ hr hA (fun x hx => hW'.lt x hx)
  · rw [List.append_nil, hsp', hv]
    rfl

/-! ### Slices that come in -/

theorem spot_none {w : World} {a : Addr} {v : Value} (h : w.cell? a = some v) : a = ⟨a.block, a.off, none⟩ := by
  unfold World.cell? at h
  split at h
  · split at h
    · cases h
    · rename_i hs
      cases a
      simp_all
  · cases h

theorem length_flatMap_const {α : Type} {k : Nat} (f : Nat → List α) : ∀ (n : Nat), (∀ i, i < n → (f i).length = k) → ((List.range n).flatMap f).length = n * k
  | 0, _ => by simp
  | n + 1, hf => by
    rw [List.range_succ, List.flatMap_append, List.length_append, length_flatMap_const f n (fun i hi => hf i (by omega)), Nat.add_mul]
    simp [hf n (by omega)]

theorem getElem?_flatMap_const {α : Type} {k : Nat} (f : Nat → List α) : ∀ (n : Nat), (∀ i, i < n → (f i).length = k) → ∀ i j, i < n → j < k → ((List.range n).flatMap f)[i * k + j]? = (f i)[j]?
  | 0, _, i, j, hi, _ => by omega
  | n + 1, hf, i, j, hi, hj => by
    have hlen : ((List.range n).flatMap f).length = n * k := by
      exact length_flatMap_const f n (fun i hi => hf i (by omega))
    rw [List.range_succ, List.flatMap_append, List.getElem?_append]
    by_cases h : i < n
    · have hlt : i * k + j < n * k := by
        have : (i + 1) * k ≤ n * k := Nat.mul_le_mul_right _ h
        rw [Nat.add_mul] at this; omega
      rw [if_pos (by rw [hlen]; exact hlt)]
      exact getElem?_flatMap_const f n (fun i hi => hf i (by omega)) i j h hj
    · obtain rfl : i = n := by omega
      rw [if_neg (by rw [hlen]; omega), hlen]
      simp

/-- cells that are read as a value of a type -/
def RD (enc : TypeId × Value → H) (P : Program) (W : World) (t : TypeId) (cs : List Value) : Prop := ∃ fuel x, DataW.trod enc P W 0 (fun _ => true) true fuel t cs = some x

theorem RD.int {W : World} {t : TypeId} {K : IntKind} {cs : List Value} (ht : P.underlying t = some (.int K)) (h : RD enc P W t cs) : ∃ x : Int, cs = [.int K x] ∧ (Lit.int K x).wf = true := by
  obtain ⟨fuel, y, hy⟩ := h
  obtain ⟨x, e0, _, wx⟩ := DataW.trod_int ht hy
  exact ⟨x, e0, wx⟩

theorem RD.bool {W : World} {t : TypeId} {cs : List Value} (ht : P.underlying t = some .bool) (h : RD enc P W t cs) : ∃ x : Bool, cs = [.bool x] := by
  obtain ⟨fuel, y, hy⟩ := h
  obtain ⟨x, e0, _⟩ := DataW.trod_bool ht hy
  exact ⟨x, e0⟩

theorem RD.struct {W : World} {t : TypeId} {fs : Array Field} {cs : List Value} (ht : P.underlying t = some (.struct fs)) (h : RD enc P W t cs) :
    cs.length = P.cellsOf t ∧ ∀ (i : Nat) (f : Field), fs[i]? = some f → RD enc P W f.type ((cs.drop f.offset).take (P.cellsOf f.type)) := by
  obtain ⟨fuel, y, hy⟩ := h
  obtain ⟨xs, n, _, _, hl, hxl, hf⟩ := DataW.trod_struct ht hy
  refine ⟨hl, fun i f hi => ?_⟩
  have hlt : i < xs.length := by rw [hxl]; exact (Array.getElem?_eq_some_iff.1 hi).1
  exact ⟨n, xs[i], by rw [hf i f hi, List.getElem?_eq_getElem hlt]⟩

/-- A slice that is read: its elements' cells, and each element's own reading. -/
theorem RD.slice {t e : TypeId} {k : Nat} {W : World} {cs0 : List Value} (ht : P.underlying t = some (.slice e)) (hC : P.cellsOf e = k) (hk : 0 < k) (h : RD enc P W t cs0) :
    ∃ v n, ∃ cs : Nat → List Value, cs0 = [v] ∧ Sees (fun k => k < W.heap.size) W v k n ((List.range n).flatMap cs) ∧ ∀ i, i < n → (cs i).length = k ∧ RD enc P W e (cs i) := by
  obtain ⟨fuel, x0, hf⟩ := h
  rcases open_slice ht hf with ⟨rfl, _⟩ | ⟨a, len, c, m, n, D, Pl, rfl, hb, hl, hm, hmm, hx, hi⟩
  · exact ⟨_, 0, fun _ => [], rfl, by simpa using (Sees.nil : Sees (fun k => k < W.heap.size) W (.slice none 0 0) k 0 []), fun i hi => by omega⟩
  · rw [if_pos rfl] at hmm
    subst hmm
    obtain ⟨cs, hcs⟩ := choose_lt (α := List Value) (n := len) (p := fun i cs' => W.cells? 0 (a.add (i * k)) k = some cs' ∧ DataW.trod enc P W 0 (fun _ => true) true n e cs' = some (D i, Pl i)) (fun i hlt => by
      obtain ⟨cs', h1, h2⟩ := hi i (by omega)
      rw [hC] at h1
      exact ⟨cs', h1, h2⟩)
    have hlen : ∀ i, i < len → (cs i).length = k := fun i hlt => (World.cells?_some (hcs i hlt).1).2.1
    refine ⟨_, len, cs, rfl, ⟨length_flatMap_const cs len hlen, some a, _, rfl, hl, hm, ?_⟩, fun i hlt => ⟨hlen i hlt, n, _, (hcs i hlt).2⟩⟩
    rcases Nat.eq_zero_or_pos len with h0 | hpos
    · exact .inl h0
    · right
      have hat0 := (World.cells?_some (hcs 0 hpos).1).2.2 0 hk
      have hl0 := hlen 0 hpos
      have hcell0 : W.cell? a = some ((cs 0)[0]'(by omega)) := by
        have : (a.add (0 * k)).add 0 = a := by simp [Addr.add]
        rw [this, List.getElem?_eq_getElem (by omega)] at hat0
        exact hat0
      have hsp := spot_none hcell0
      refine ⟨a.block, a.off, block_lt_of_cell hcell0, by rw [← hsp], fun j u hu => ?_⟩
      have hjl : j < len * k := by
        rw [← length_flatMap_const cs len hlen]
        exact (List.getElem?_eq_some_iff.1 hu).1
      have hd : j / k < len := Nat.div_lt_of_lt_mul (by rwa [Nat.mul_comm])
      have hmod : j % k < k := Nat.mod_lt _ hk
      have hj : j / k * k + j % k = j := by rw [Nat.mul_comm]; exact Nat.div_add_mod j k
      rw [← hj, getElem?_flatMap_const cs len hlen _ _ hd hmod] at hu
      have hat := (World.cells?_some (hcs _ hd).1).2.2 _ hmod
      rw [Go.Deep.add_add, hj, hu, hsp, addr_add] at hat
      exact hat

/-- A slice of integers that is read. -/
theorem RD.ints {t e : TypeId} {K : IntKind} {W : World} {cs0 : List Value} (ht : P.underlying t = some (.slice e)) (he : P.underlying e = some (.int K)) (hC : P.cellsOf e = 1) (h : RD enc P W t cs0) :
    ∃ v, ∃ xs : List Int, cs0 = [v] ∧ Sees (fun k => k < W.heap.size) W v 1 xs.length (xs.map (Value.int K)) ∧ ∀ x ∈ xs, (Lit.int K x).wf = true := by
  obtain ⟨v, n, cs, rfl, hs, hi⟩ := RD.slice ht hC (by omega) h
  obtain ⟨X, hX⟩ := choose_lt (α := Int) (n := n) (p := fun i x => cs i = [.int K x] ∧ (Lit.int K x).wf = true) (fun i hlt => RD.int he (hi i hlt).2)
  refine ⟨v, (List.range n).map X, rfl, ?_, fun x hx => ?_⟩
  · have : (List.range n).flatMap cs = ((List.range n).map X).map (Value.int K) := by
      rw [List.map_map, ← List.flatMap_singleton' ((List.range n).map _)]
      rw [List.flatMap_map]
      exact flatMap_congr_range fun i hi => (hX i hi).1
    rw [this] at hs
    simpa using hs
  · obtain ⟨i, hi, rfl⟩ := List.mem_map.1 hx
    exact (hX i (List.mem_range.1 hi)).2

theorem RD.of_arg {W : World} {t : TypeId} {v : Value} {d : DataW H} {p : List MemPlace} (h : DataW.Trod enc P W 0 (fun _ => true) true t v d p) : RD enc P W t v.cells.toList := by
  obtain ⟨fuel, hf⟩ := h
  exact ⟨fuel, _, hf⟩

/-- A slice of integers that came in. -/
theorem open_seesI {t e : TypeId} {K : IntKind} {r : Reach} {b0 : Nat} {W : World} {v : Value} {d : DataW H} {p : List MemPlace} (ht : P.underlying t = some (.slice e)) (he : P.underlying e = some (.int K)) (hC : P.cellsOf e = 1)
    (hok : Value.okWide P W r b0 t v) (h : DataW.Trod enc P W 0 (fun _ => true) true t v d p) :
    ∃ xs : List Int, Sees (fun k => k < W.heap.size) W v 1 xs.length (xs.map (Value.int K)) ∧ ∀ x ∈ xs, (Lit.int K x).wf = true := by
  have hr := RD.of_arg h
  obtain ⟨a0, len, cap, rfl⟩ := okWide_slice ht hok
  obtain ⟨v, xs, hv, h⟩ := RD.ints ht he hC hr
  simp [Value.cells] at hv
  subst hv
  exact ⟨xs, h⟩

/-- A slice that came in: its elements' cells, each read. -/
theorem open_sees {t e : TypeId} {k : Nat} {r : Reach} {b0 : Nat} {W : World} {v : Value} {d : DataW H} {p : List MemPlace} (ht : P.underlying t = some (.slice e)) (hC : P.cellsOf e = k) (hk : 0 < k)
    (hok : Value.okWide P W r b0 t v) (h : DataW.Trod enc P W 0 (fun _ => true) true t v d p) :
    ∃ n, ∃ cs : Nat → List Value, Sees (fun k => k < W.heap.size) W v k n ((List.range n).flatMap cs) ∧ ∀ i, i < n → (cs i).length = k ∧ RD enc P W e (cs i) := by
  have hr := RD.of_arg h
  obtain ⟨a0, len, cap, rfl⟩ := okWide_slice ht hok
  obtain ⟨v, n, cs, hv, h⟩ := RD.slice ht hC hk hr
  simp [Value.cells] at hv
  subst hv
  exact ⟨n, cs, h⟩

/-- A struct that came in by value. -/
theorem open_agg {t : TypeId} {fs : Array Field} {r : Reach} {b0 : Nat} {W : World} {v : Value} {d : DataW H} {p : List MemPlace} (ht : P.underlying t = some (.struct fs))
    (hok : Value.okWide P W r b0 t v) (h : DataW.Trod enc P W 0 (fun _ => true) true t v d p) :
    ∃ cs : List Value, v = .agg cs.toArray ∧ cs.length = P.cellsOf t ∧ RD enc P W t cs := by
  have hr := RD.of_arg h
  obtain ⟨cs, rfl, hsz⟩ := okWide_struct ht hok
  exact ⟨cs.toList, by simp, by simpa using hsz, hr⟩

/-- cells that are all integers of one kind -/
theorem RD.ints5 {W : World} {t T : TypeId} {K : IntKind} {fs : Array Field} {cs : List Value} (ht : P.underlying t = some (.struct fs)) (hT : P.underlying T = some (.int K)) (hC : P.cellsOf T = 1)
    (hfs : fs.map (fun f => (f.offset, f.type)) = #[(0, T), (1, T), (2, T), (3, T), (4, T)]) (hn : P.cellsOf t = 5) (h : RD enc P W t cs) :
    ∃ a b c d e : Int, cs = [.int K a, .int K b, .int K c, .int K d, .int K e] ∧ ∀ x ∈ [a, b, c, d, e], (Lit.int K x).wf = true := by
  obtain ⟨hl, hf⟩ := RD.struct ht h
  rw [hn] at hl
  have key : ∀ i, i < 5 → ∃ x : Int, cs[i]? = some (.int K x) ∧ (Lit.int K x).wf = true := by
    intro i hi
    have hi' : (fs.map (fun f => (f.offset, f.type)))[i]? = some (i, T) := by
      rw [hfs]
      match i, hi with
      | 0, _ => rfl
      | 1, _ => rfl
      | 2, _ => rfl
      | 3, _ => rfl
      | 4, _ => rfl
    rw [Array.getElem?_map, Option.map_eq_some_iff] at hi'
    obtain ⟨f, hfi, hfe⟩ := hi'
    have e1 : f.offset = i := congrArg Prod.fst hfe
    have e2 : f.type = T := congrArg Prod.snd hfe
    have h1 := hf i f hfi
    rw [e1, e2, hC] at h1
    obtain ⟨x, hx, wx⟩ := RD.int hT h1
    refine ⟨x, ?_, wx⟩
    have : ((cs.drop i).take 1)[0]? = some (.int K x) := by rw [hx]; rfl
    simpa [List.getElem?_take, List.getElem?_drop] using this
  obtain ⟨a, ha, wa⟩ := key 0 (by omega)
  obtain ⟨b, hb, wb⟩ := key 1 (by omega)
  obtain ⟨c, hc, wc⟩ := key 2 (by omega)
  obtain ⟨d, hd, wd⟩ := key 3 (by omega)
  obtain ⟨e, he, we⟩ := key 4 (by omega)
  have hcs : cs = [.int K a, .int K b, .int K c, .int K d, .int K e] := by
    apply List.ext_getElem?
    intro i
    match i with
    | 0 => exact ha
    | 1 => exact hb
    | 2 => exact hc
    | 3 => exact hd
    | 4 => exact he
    | i + 5 => rw [List.getElem?_eq_none (by omega), List.getElem?_eq_none (by simp)]
  exact ⟨a, b, c, d, e, hcs, by simp [wa, wb, wc, wd, we]⟩

end

end Go.Proofs.Ytlmccjmbidfflaa
