/-
  The calls that a law of graphs takes, in memory; the law's few.
-/
import Derived.Test.YtlmeponoadhheaaLaw
import Derived.Test.YtlmeponoadhheaaRowsIn
namespace Go.Proofs.Ytlmeponoadhheaa
set_option linter.unusedVariables false
open Go.RowKit Go.ChangeShapes Go.WideShapes Go.ChangeAt

/-- a call: Kind, A, B, C, L (its value, what it reads as) -/
structure OpG where
  kind : Int
  a : Int
  b : Int
  c : Int
  v : Value
  ls : List Int

instance : Inhabited OpG := ⟨⟨0, 0, 0, 0, .slice none 0 0, []⟩⟩

def OpG.cells (o : OpG) : List Value := [.int .i64 o.kind, .int .i64 o.a, .int .i64 o.b, .int .i64 o.c, o.v]

structure OpG.Fits (o : OpG) : Prop where
  k0 : -9223372036854775808 ≤ o.kind
  k1 : o.kind ≤ 9223372036854775807
  a0 : -9223372036854775808 ≤ o.a
  a1 : o.a ≤ 9223372036854775807
  b0 : -9223372036854775808 ≤ o.b
  b1 : o.b ≤ 9223372036854775807
  c0 : -9223372036854775808 ≤ o.c
  c1 : o.c ≤ 9223372036854775807

def ogCells (l : List OpG) : List Value := l.flatMap OpG.cells

theorem ogCells_get (l : List OpG) (j : Nat) (o : OpG) (h : l[j]? = some o) (i : Nat) : i < 5 → (ogCells l)[j * 5 + i]? = o.cells[i]? := by
  induction l generalizing j with
  | nil => simp at h
  | cons a l ih =>
    intro hi
    cases j with
    | zero =>
      simp at h
      subst h
      show (a.cells ++ ogCells l)[0 * 5 + i]? = _
      rw [List.getElem?_append_left (by simp [OpG.cells]; omega)]
      simp
    | succ j =>
      show (a.cells ++ ogCells l)[(j + 1) * 5 + i]? = _
      rw [List.getElem?_append_right (by simp [OpG.cells]; omega)]
      have : (j + 1) * 5 + i - a.cells.length = j * 5 + i := by simp [OpG.cells]; omega
      rw [this]
      exact ih j (by simpa using h) hi

/-- a slice of calls -/
structure SeesG (D : Nat → Prop) (w : World) (v : Value) (l : List OpG) : Prop where
  row : Sees D w v 5 l.length (ogCells l)
  ls : ∀ o ∈ l, SeesI D w o.v o.ls

theorem SeesG.keep {D S : Nat → Prop} {w w' : World} {v : Value} {l : List OpG} (h : SeesG D w v l) (c : Ch S w w') (hd : ∀ k, D k → ¬ S k) : SeesG D w' v l := ⟨h.row.keep c hd, fun o ho => (h.ls o ho).keep c hd⟩

theorem SeesG.cell {D : Nat → Prop} {w : World} {v : Value} {l : List OpG} (h : SeesG D w v l) (hp : 0 < l.length) :
    ∃ g o c, D g ∧ v = .slice (some ⟨g, o, none⟩) l.length c ∧ ∀ j a, l[j]? = some a →
      w.cell? ⟨g, o + j * 5, none⟩ = some (.int .i64 a.kind) ∧ w.cell? ⟨g, o + j * 5 + 1, none⟩ = some (.int .i64 a.a) ∧ w.cell? ⟨g, o + j * 5 + 2, none⟩ = some (.int .i64 a.b) ∧
      w.cell? ⟨g, o + j * 5 + 3, none⟩ = some (.int .i64 a.c) ∧ w.cell? ⟨g, o + j * 5 + 4, none⟩ = some a.v := by
  obtain ⟨h0, a, c, hv, hn, hm, hl⟩ := h.row
  rcases hl with hl | ⟨g, o, hg, rfl, hi⟩
  · omega
  · refine ⟨g, o, c, hg, hv, fun j a hj => ⟨?_, ?_, ?_, ?_, ?_⟩⟩
    · exact hi (j * 5) _ (by rw [show j * 5 = j * 5 + 0 from rfl, ogCells_get l j a hj 0 (by omega)]; rfl)
    · rw [Nat.add_assoc]; exact hi (j * 5 + 1) _ (by rw [ogCells_get l j a hj 1 (by omega)]; rfl)
    · rw [Nat.add_assoc]; exact hi (j * 5 + 2) _ (by rw [ogCells_get l j a hj 2 (by omega)]; rfl)
    · rw [Nat.add_assoc]; exact hi (j * 5 + 3) _ (by rw [ogCells_get l j a hj 3 (by omega)]; rfl)
    · rw [Nat.add_assoc]; exact hi (j * 5 + 4) _ (by rw [ogCells_get l j a hj 4 (by omega)]; rfl)

section
variable {H : Type} {enc : TypeId × Value → H}

set_option maxRecDepth 100000 in
theorem RD.opg {W : World} {cs : List Value} (h : RD enc Try.prog W 54 cs) : ∃ o : OpG, cs = o.cells ∧ o.Fits ∧ SeesI (fun k => k < W.heap.size) W o.v o.ls := by
  obtain ⟨fs, hfs⟩ : ∃ fs, Try.prog.underlying 54 = some (.struct fs) ∧ fs.map (fun f => (f.offset, f.type)) = #[(0, 3), (1, 3), (2, 3), (3, 3), (4, 34)] := ⟨_, Try.underlying54, by simp⟩
  obtain ⟨hf, hm⟩ := hfs
  obtain ⟨hl, hr⟩ := RD.struct hf h
  have hn : Try.prog.cellsOf 54 = 5 := by kernel_rfl
  have hC : Try.prog.cellsOf 3 = 1 := by kernel_rfl
  have hCs : Try.prog.cellsOf 34 = 1 := by kernel_rfl
  rw [hn] at hl
  have key : ∀ i, i < 4 → ∃ x : Int, cs[i]? = some (.int .i64 x) ∧ (Lit.int .i64 x).wf = true := by
    intro i hi
    have hi' : (fs.map (fun f => (f.offset, f.type)))[i]? = some (i, 3) := by
      rw [hm]
      match i, hi with
      | 0, _ => rfl
      | 1, _ => rfl
      | 2, _ => rfl
      | 3, _ => rfl
    rw [Array.getElem?_map, Option.map_eq_some_iff] at hi'
    obtain ⟨f, hfi, hfe⟩ := hi'
    have e1 : f.offset = i := congrArg Prod.fst hfe
    have e2 : f.type = 3 := congrArg Prod.snd hfe
    have h1 := hr i f hfi
    rw [e1, e2, hC] at h1
    obtain ⟨x, hx, wx⟩ := RD.int Try.underlying3 h1
    refine ⟨x, ?_, wx⟩
    have : ((cs.drop i).take 1)[0]? = some (.int .i64 x) := by rw [hx]; rfl
    simpa [List.getElem?_take, List.getElem?_drop] using this
  have key4 : ∃ v, ∃ xs : List Int, cs[4]? = some v ∧ SeesI (fun k => k < W.heap.size) W v xs := by
    have hi' : (fs.map (fun f => (f.offset, f.type)))[4]? = some (4, 34) := by rw [hm]; rfl
    rw [Array.getElem?_map, Option.map_eq_some_iff] at hi'
    obtain ⟨f, hfi, hfe⟩ := hi'
    have e1 : f.offset = 4 := congrArg Prod.fst hfe
    have e2 : f.type = 34 := congrArg Prod.snd hfe
    have h1 := hr 4 f hfi
    rw [e1, e2, hCs] at h1
    obtain ⟨v, xs, hv, hs, -⟩ := RD.ints Try.underlying34 Try.underlying3 hC h1
    refine ⟨v, xs, ?_, hs⟩
    have : ((cs.drop 4).take 1)[0]? = some v := by rw [hv]; rfl
    simpa [List.getElem?_take, List.getElem?_drop] using this
  obtain ⟨a, ha, wa⟩ := key 0 (by omega)
  obtain ⟨b, hb, wb⟩ := key 1 (by omega)
  obtain ⟨c, hc, wc⟩ := key 2 (by omega)
  obtain ⟨d, hd, wd⟩ := key 3 (by omega)
  obtain ⟨v, xs, hv, hs⟩ := key4
  simp [Lit.wf, IntKind.min, IntKind.max, IntKind.signed, IntKind.bits] at wa wb wc wd
  refine ⟨⟨a, b, c, d, v, xs⟩, ?_, ⟨wa.1, wa.2, wb.1, wb.2, wc.1, wc.2, wd.1, wd.2⟩, hs⟩
  apply List.ext_getElem?
  intro i
  match i with
  | 0 => exact ha
  | 1 => exact hb
  | 2 => exact hc
  | 3 => exact hd
  | 4 => exact hv
  | i + 5 => rw [List.getElem?_eq_none (by omega), List.getElem?_eq_none (by simp [OpG.cells])]

set_option maxRecDepth 100000 in
/-- calls that came in -/
theorem open_opg {r : Reach} {b0 : Nat} {W : World} {v : Value} {d : DataW H} {p : List MemPlace}
    (hok : Value.okWide Try.prog W r b0 45 v) (h : DataW.Trod enc Try.prog W 0 (fun _ => true) true 45 v d p) :
    ∃ l : List OpG, SeesG (fun k => k < W.heap.size) W v l ∧ ∀ o ∈ l, o.Fits := by
  obtain ⟨n, cs, hs, hi⟩ := open_sees (e := 54) (k := 5) (by kernel_rfl) (by kernel_rfl) (by omega) hok h
  obtain ⟨X, hX⟩ := Go.Deep.choose_lt (α := OpG) (n := n) (p := fun i o => cs i = o.cells ∧ o.Fits ∧ SeesI (fun k => k < W.heap.size) W o.v o.ls) (fun i hlt => RD.opg (hi i hlt).2)
  refine ⟨(List.range n).map X, ⟨?_, fun o ho => ?_⟩, fun o ho => ?_⟩
  · have : (List.range n).flatMap cs = ogCells ((List.range n).map X) := by
      unfold ogCells
      rw [List.flatMap_map]
      exact Go.Deep.flatMap_congr_range fun i hi => (hX i hi).1
    rw [this] at hs
    simpa using hs
  · obtain ⟨i, hi, rfl⟩ := List.mem_map.1 ho
    exact (hX i (List.mem_range.1 hi)).2.2
  · obtain ⟨i, hi, rfl⟩ := List.mem_map.1 ho
    exact (hX i (List.mem_range.1 hi)).2.1

end

/-- are these few? -/
def fewB (l : List OpG) : Bool := decide (l.length ≤ 100) && l.all (fun o => decide (o.ls.length ≤ 100))

set_option maxRecDepth 100000 in
set_option maxHeartbeats 1000000 in
theorem few_any (D : Nat → Prop) (v : Value) (l : List OpG) (w : World) (h : SeesG D w v l) :
    Calls Try.prog 37 #[v] w fun e w' => e = .returned (.bool (fewB l)) ∧ SameW w w' := by
  obtain ⟨a, c, rfl, hlen⟩ := h.row.len
  have HS := Lib.hid h
  clear h
  obtain ⟨y, hy⟩ : ∃ y : Bool, y = fewB l := ⟨_, rfl⟩
  rw [← hy]
  by_cases h100 : l.length ≤ 100
  · have g1 : decide ((100 : Int) < l.length) = false := decide_eq_false (by omega)
    have hy2 : Hid (y = l.all (fun o => decide (o.ls.length ≤ 100))) := Lib.hid (by rw [hy]; unfold fewB; simp [h100])
    clear hy
    go_enter Try.func37, Try.ntmps37
    go_wp2_with fail
    go_loop [9] (fun i => ∃ j : Nat, j ≤ l.length ∧ i = .int .i64 j ∧ ∀ m o, m < j → l[m]? = some o → o.ls.length ≤ 100) (fun i => l.length - (intOf i).toNat)
    case atStart => exact ⟨0, Nat.zero_le _, rfl, fun m o hm => by omega⟩
    case round =>
      obtain ⟨j, hj, rfl, hne⟩ := hrel
      have HN := Lib.hid hne
      clear hne
      by_cases hlt : j < l.length
      · obtain ⟨o, ho⟩ : ∃ o, l[j]? = some o := ⟨_, List.getElem?_eq_getElem hlt⟩
        obtain ⟨g, off, c1, -, e1, hcell⟩ := HS.out.cell (by omega)
        obtain ⟨rfl, rfl⟩ : a = some ⟨g, off, none⟩ ∧ c = c1 := by simpa using e1
        obtain ⟨-, -, -, -, k4⟩ := hcell j o ho
        obtain ⟨a5, c5, e5, l5⟩ := (HS.out.ls o (List.mem_of_getElem? ho)).len
        rw [e5] at k4
        have i1 : (0 : Int) ≤ j := by omega
        have i2 : (j : Int) < l.length := by omega
        replace ho := Lib.hid ho
        clear hcell e1 e5
        by_cases hle : o.ls.length ≤ 100
        · have g2 : decide ((100 : Int) < o.ls.length) = false := decide_eq_false (by omega)
          have HX : Hid (∀ m o', m < j + 1 → l[m]? = some o' → o'.ls.length ≤ 100) := Lib.hid (fun m o' hm ho' => by
            by_cases e : m = j
            · subst e; rw [ho.out] at ho'; cases ho'; exact hle
            · exact HN.out m o' (by omega) ho')
          go_wp2_with fail
          go_round
          case rel => exact ⟨j + 1, by omega, by go_num, HX.out⟩
          case measure => simp [intOf]; omega
        · have g2 : decide ((100 : Int) < o.ls.length) = true := decide_eq_true (by omega)
          have hyf : Hid (y = false) := Lib.hid (by
            rw [hy2.out, Bool.eq_false_iff]
            intro h
            rw [List.all_eq_true] at h
            exact hle (of_decide_eq_true (h o (List.mem_of_getElem? ho.out))))
          clear hle
          go_wp2_with fail
          go_ret
          exact ⟨by rw [hyf.out]; rfl, SameW.rfl' _⟩
      · obtain rfl : j = l.length := by omega
        have hyt : Hid (y = true) := Lib.hid (by
          rw [hy2.out, List.all_eq_true]
          intro o ho
          obtain ⟨m, hm, e⟩ := List.getElem_of_mem ho
          exact decide_eq_true (HN.out m o hm (by rw [List.getElem?_eq_getElem hm, e])))
        go_wp2_with fail
        go_ret
        exact ⟨by rw [hyt.out]; rfl, SameW.rfl' _⟩
  · have g1 : decide ((100 : Int) < l.length) = true := decide_eq_true (by omega)
    have hyf : Hid (y = false) := Lib.hid (by rw [hy]; unfold fewB; simp [h100])
    clear hy
    go_enter Try.func37, Try.ntmps37
    go_wp2_with fail
    go_ret
    exact ⟨by rw [hyf.out]; rfl, SameW.rfl' _⟩

end Go.Proofs.Ytlmeponoadhheaa
