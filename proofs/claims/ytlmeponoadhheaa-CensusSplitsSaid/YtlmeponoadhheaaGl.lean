/-
  Texts of this seat, laid one behind the other: OpsG, Awake9, Play9, Laws9, Held9, Own9a, Sets9a.
-/
import Derived.Test.YtlmeponoadhheaaGen
import Derived.Test.YtlmeponoadhheaaGr
import Derived.Test.YtlmeponoadhheaaCls
/-
  The calls that a law of graphs takes, in memory; the law's few.
-/
namespace Go.Proofs.Ytlmeponoadhheaa
set_option linter.unusedVariables false
open Go.RowKit Go.ChangeShapes Go.WideShapes Go.ChangeAt

/-- a call: Kind, A, B, C, L (its value, what it reads as) -/
structure OpG where
  kind : Int
  a : Int
  b : Int
  c : Int
  v : Value
  ls : List Int

instance : Inhabited OpG := ⟨⟨0, 0, 0, 0, .slice none 0 0, []⟩⟩

def OpG.cells (o : OpG) : List Value := [.int .i64 o.kind, .int .i64 o.a, .int .i64 o.b, .int .i64 o.c, o.v]

structure OpG.Fits (o : OpG) : Prop where
  k0 : -9223372036854775808 ≤ o.kind
  k1 : o.kind ≤ 9223372036854775807
  a0 : -9223372036854775808 ≤ o.a
  a1 : o.a ≤ 9223372036854775807
  b0 : -9223372036854775808 ≤ o.b
  b1 : o.b ≤ 9223372036854775807
  c0 : -9223372036854775808 ≤ o.c
  c1 : o.c ≤ 9223372036854775807

def ogCells (l : List OpG) : List Value := l.flatMap OpG.cells

theorem ogCells_get (l : List OpG) (j : Nat) (o : OpG) (h : l[j]? = some o) (i : Nat) : i < 5 → (ogCells l)[j * 5 + i]? = o.cells[i]? := by
  induction l generalizing j with
  | nil => simp at h
  | cons a l ih =>
    intro hi
    cases j with
    | zero =>
      simp at h
      subst h
      show (a.cells ++ ogCells l)[0 * 5 + i]? = _
      rw [List.getElem?_append_left (by simp [OpG.cells]; omega)]
      simp
    | succ j =>
      show (a.cells ++ ogCells l)[(j + 1) * 5 + i]? = _
      rw [List.getElem?_append_right (by simp [OpG.cells]; omega)]
      have : (j + 1) * 5 + i - a.cells.length = j * 5 + i := by simp [OpG.cells]; omega
      rw [this]
      exact ih j (by simpa using h) hi

/-- a slice of calls -/
structure SeesG (D : Nat → Prop) (w : World) (v : Value) (l : List OpG) : Prop where
  row : Sees D w v 5 l.length (ogCells l)
  ls : ∀ o ∈ l, SeesI D w o.v o.ls

theorem SeesG.keep {D S : Nat → Prop} {w w' : World} {v : Value} {l : List OpG} (h : SeesG D w v l) (c : Ch S w w') (hd : ∀ k, D k → ¬ S k) : SeesG D w' v l := ⟨h.row.keep c hd, fun o ho => (h.ls o ho).keep c hd⟩

theorem SeesG.cell {D : Nat → Prop} {w : World} {v : Value} {l : List OpG} (h : SeesG D w v l) (hp : 0 < l.length) :
    ∃ g o c, D g ∧ v = .slice (some ⟨g, o, none⟩) l.length c ∧ ∀ j a, l[j]? = some a →
      w.cell? ⟨g, o + j * 5, none⟩ = some (.int .i64 a.kind) ∧ w.cell? ⟨g, o + j * 5 + 1, none⟩ = some (.int .i64 a.a) ∧ w.cell? ⟨g, o + j * 5 + 2, none⟩ = some (.int .i64 a.b) ∧
      w.cell? ⟨g, o + j * 5 + 3, none⟩ = some (.int .i64 a.c) ∧ w.cell? ⟨g, o + j * 5 + 4, none⟩ = some a.v := by
  obtain ⟨h0, a, c, hv, hn, hm, hl⟩ := h.row
  rcases hl with hl | ⟨g, o, hg, rfl, hi⟩
  · omega
  · refine ⟨g, o, c, hg, hv, fun j a hj => ⟨?_, ?_, ?_, ?_, ?_⟩⟩
    · exact hi (j * 5) _ (by rw [show j * 5 = j * 5 + 0 from rfl, ogCells_get l j a hj 0 (by omega)]; rfl)
    · rw [Nat.add_assoc]; exact hi (j * 5 + 1) _ (by rw [ogCells_get l j a hj 1 (by omega)]; rfl)
    · rw [Nat.add_assoc]; exact hi (j * 5 + 2) _ (by rw [ogCells_get l j a hj 2 (by omega)]; rfl)
    · rw [Nat.add_assoc]; exact hi (j * 5 + 3) _ (by rw [ogCells_get l j a hj 3 (by omega)]; rfl)
    · rw [Nat.add_assoc]; exact hi (j * 5 + 4) _ (by rw [ogCells_get l j a hj 4 (by omega)]; rfl)

section
variable {H : Type} {enc : TypeId × Value → H}

set_option maxRecDepth 100000 in
theorem RD.opg {W : World} {cs : List Value} (h : RD enc Try.prog W 54 cs) : ∃ o : OpG, cs = o.cells ∧ o.Fits ∧ SeesI (fun k => k < W.heap.size) W o.v o.ls := by
  obtain ⟨fs, hfs⟩ : ∃ fs, Try.prog.underlying 54 = some (.struct fs) ∧ fs.map (fun f => (f.offset, f.type)) = #[(0, 3), (1, 3), (2, 3), (3, 3), (4, 34)] := ⟨_, Try.underlying54, by simp⟩
  obtain ⟨hf, hm⟩ := hfs
  obtain ⟨hl, hr⟩ := RD.struct hf h
  have hn : Try.prog.cellsOf 54 = 5 := by kernel_rfl
  have hC : Try.prog.cellsOf 3 = 1 := by kernel_rfl
  have hCs : Try.prog.cellsOf 34 = 1 := by kernel_rfl
  rw [hn] at hl
  have key : ∀ i, i < 4 → ∃ x : Int, cs[i]? = some (.int .i64 x) ∧ (Lit.int .i64 x).wf = true := by
    intro i hi
    have hi' : (fs.map (fun f => (f.offset, f.type)))[i]? = some (i, 3) := by
      rw [hm]
      match i, hi with
      | 0, _ => rfl
      | 1, _ => rfl
      | 2, _ => rfl
      | 3, _ => rfl
    rw [Array.getElem?_map, Option.map_eq_some_iff] at hi'
    obtain ⟨f, hfi, hfe⟩ := hi'
    have e1 : f.offset = i := congrArg Prod.fst hfe
    have e2 : f.type = 3 := congrArg Prod.snd hfe
    have h1 := hr i f hfi
    rw [e1, e2, hC] at h1
    obtain ⟨x, hx, wx⟩ := RD.int Try.underlying3 h1
    refine ⟨x, ?_, wx⟩
    have : ((cs.drop i).take 1)[0]? = some (.int .i64 x) := by rw [hx]; rfl
    simpa [List.getElem?_take, List.getElem?_drop] using this
  have key4 : ∃ v, ∃ xs : List Int, cs[4]? = some v ∧ SeesI (fun k => k < W.heap.size) W v xs := by
    have hi' : (fs.map (fun f => (f.offset, f.type)))[4]? = some (4, 34) := by rw [hm]; rfl
    rw [Array.getElem?_map, Option.map_eq_some_iff] at hi'
    obtain ⟨f, hfi, hfe⟩ := hi'
    have e1 : f.offset = 4 := congrArg Prod.fst hfe
    have e2 : f.type = 34 := congrArg Prod.snd hfe
    have h1 := hr 4 f hfi
    rw [e1, e2, hCs] at h1
    obtain ⟨v, xs, hv, hs, -⟩ := RD.ints Try.underlying34 Try.underlying3 hC h1
    refine ⟨v, xs, ?_, hs⟩
    have : ((cs.drop 4).take 1)[0]? = some v := by rw [hv]; rfl
    simpa [List.getElem?_take, List.getElem?_drop] using this
  obtain ⟨a, ha, wa⟩ := key 0 (by omega)
  obtain ⟨b, hb, wb⟩ := key 1 (by omega)
  obtain ⟨c, hc, wc⟩ := key 2 (by omega)
  obtain ⟨d, hd, wd⟩ := key 3 (by omega)
  obtain ⟨v, xs, hv, hs⟩ := key4
  simp [Lit.wf, IntKind.min, IntKind.max, IntKind.signed, IntKind.bits] at wa wb wc wd
  refine ⟨⟨a, b, c, d, v, xs⟩, ?_, ⟨wa.1, wa.2, wb.1, wb.2, wc.1, wc.2, wd.1, wd.2⟩, hs⟩
  apply List.ext_getElem?
  intro i
  match i with
  | 0 => exact ha
  | 1 => exact hb
  | 2 => exact hc
  | 3 => exact hd
  | 4 => exact hv
  | i + 5 => rw [List.getElem?_eq_none (by omega), List.getElem?_eq_none (by simp [OpG.cells])]

set_option maxRecDepth 100000 in
/-- calls that came in -/
theorem open_opg {r : Reach} {b0 : Nat} {W : World} {v : Value} {d : DataW H} {p : List MemPlace}
    (hok : Value.okWide Try.prog W r b0 45 v) (h : DataW.Trod enc Try.prog W 0 (fun _ => true) true 45 v d p) :
    ∃ l : List OpG, SeesG (fun k => k < W.heap.size) W v l ∧ ∀ o ∈ l, o.Fits := by
  obtain ⟨n, cs, hs, hi⟩ := open_sees (e := 54) (k := 5) (by kernel_rfl) (by kernel_rfl) (by omega) hok h
  obtain ⟨X, hX⟩ := Go.Deep.choose_lt (α := OpG) (n := n) (p := fun i o => cs i = o.cells ∧ o.Fits ∧ SeesI (fun k => k < W.heap.size) W o.v o.ls) (fun i hlt => RD.opg (hi i hlt).2)
  refine ⟨(List.range n).map X, ⟨?_, fun o ho => ?_⟩, fun o ho => ?_⟩
  · have : (List.range n).flatMap cs = ogCells ((List.range n).map X) := by
      unfold ogCells
      rw [List.flatMap_map]
      exact Go.Deep.flatMap_congr_range fun i hi => (hX i hi).1
    rw [this] at hs
    simpa using hs
  · obtain ⟨i, hi, rfl⟩ := List.mem_map.1 ho
    exact (hX i (List.mem_range.1 hi)).2.2
  · obtain ⟨i, hi, rfl⟩ := List.mem_map.1 ho
    exact (hX i (List.mem_range.1 hi)).2.1

end

/-- are these few? -/
def fewB (l : List OpG) : Bool := decide (l.length ≤ 100) && l.all (fun o => decide (o.ls.length ≤ 100))

set_option maxRecDepth 100000 in
set_option maxHeartbeats 1000000 in
theorem few_any (D : Nat → Prop) (v : Value) (l : List OpG) (w : World) (h : SeesG D w v l) :
    Calls Try.prog 37 #[v] w fun e w' => e = .returned (.bool (fewB l)) ∧ SameW w w' := by
  obtain ⟨a, c, rfl, hlen⟩ := h.row.len
  have HS := Lib.hid h
  clear h
  obtain ⟨y, hy⟩ : ∃ y : Bool, y = fewB l := ⟨_, rfl⟩
  rw [← hy]
  by_cases h100 : l.length ≤ 100
  · have g1 : decide ((100 : Int) < l.length) = false := decide_eq_false (by omega)
    have hy2 : Hid (y = l.all (fun o => decide (o.ls.length ≤ 100))) := Lib.hid (by rw [hy]; unfold fewB; simp [h100])
    clear hy
    go_enter Try.func37, Try.ntmps37
    go_wp2_with fail
    go_loop [9] (fun i => ∃ j : Nat, j ≤ l.length ∧ i = .int .i64 j ∧ ∀ m o, m < j → l[m]? = some o → o.ls.length ≤ 100) (fun i => l.length - (intOf i).toNat)
    case atStart => exact ⟨0, Nat.zero_le _, rfl, fun m o hm => by omega⟩
    case round =>
      obtain ⟨j, hj, rfl, hne⟩ := hrel
      have HN := Lib.hid hne
      clear hne
      by_cases hlt : j < l.length
      · obtain ⟨o, ho⟩ : ∃ o, l[j]? = some o := ⟨_, List.getElem?_eq_getElem hlt⟩
        obtain ⟨g, off, c1, -, e1, hcell⟩ := HS.out.cell (by omega)
        obtain ⟨rfl, rfl⟩ : a = some ⟨g, off, none⟩ ∧ c = c1 := by simpa using e1
        obtain ⟨-, -, -, -, k4⟩ := hcell j o ho
        obtain ⟨a5, c5, e5, l5⟩ := (HS.out.ls o (List.mem_of_getElem? ho)).len
        rw [e5] at k4
        have i1 : (0 : Int) ≤ j := by omega
        have i2 : (j : Int) < l.length := by omega
        replace ho := Lib.hid ho
        clear hcell e1 e5
        by_cases hle : o.ls.length ≤ 100
        · have g2 : decide ((100 : Int) < o.ls.length) = false := decide_eq_false (by omega)
          have HX : Hid (∀ m o', m < j + 1 → l[m]? = some o' → o'.ls.length ≤ 100) := Lib.hid (fun m o' hm ho' => by
            by_cases e : m = j
            · subst e; rw [ho.out] at ho'; cases ho'; exact hle
            · exact HN.out m o' (by omega) ho')
          go_wp2_with fail
          go_round
          case rel => exact ⟨j + 1, by omega, by go_num, HX.out⟩
          case measure => simp [intOf]; omega
        · have g2 : decide ((100 : Int) < o.ls.length) = true := decide_eq_true (by omega)
          have hyf : Hid (y = false) := Lib.hid (by
            rw [hy2.out, Bool.eq_false_iff]
            intro h
            rw [List.all_eq_true] at h
            exact hle (of_decide_eq_true (h o (List.mem_of_getElem? ho.out))))
          clear hle
          go_wp2_with fail
          go_ret
          exact ⟨by rw [hyf.out]; rfl, SameW.rfl' _⟩
      · obtain rfl : j = l.length := by omega
        have hyt : Hid (y = true) := Lib.hid (by
          rw [hy2.out, List.all_eq_true]
          intro o ho
          obtain ⟨m, hm, e⟩ := List.getElem_of_mem ho
          exact decide_eq_true (HN.out m o hm (by rw [List.getElem?_eq_getElem hm, e])))
        go_wp2_with fail
        go_ret
        exact ⟨by rw [hyt.out]; rfl, SameW.rfl' _⟩
  · have g1 : decide ((100 : Int) < l.length) = true := decide_eq_true (by omega)
    have hyf : Hid (y = false) := Lib.hid (by rw [hy]; unfold fewB; simp [h100])
    clear hy
    go_enter Try.func37, Try.ntmps37
    go_wp2_with fail
    go_ret
    exact ⟨by rw [hyf.out]; rfl, SameW.rfl' _⟩

end Go.Proofs.Ytlmeponoadhheaa

/-
  The law's awake (graph).
-/
namespace Go.Proofs.Ytlmeponoadhheaa
set_option linter.unusedVariables false
open Go.RowKit

def ac1 : List Cls := [⟨4, 1, 2, false⟩]
def al1 : List GN := addL ac1 [] 1 1 0
def al2 : List GN := addL ac1 al1 2 1 0
def al3 : List GN := setRefL al2 1 0 2

set_option maxRecDepth 100000 in
set_option maxHeartbeats 1000000 in
theorem awake9 (w : World) : Calls Try.prog 28 #[] w fun e w' => e = .returned (.bool true) ∧ Ch0 w w' := by
  have x1 : addE ac1 [] 1 1 0 = 0 := by decide
  have x2 : addE ac1 al1 2 1 0 = 0 := by decide
  have x3 : setRefE al2 1 0 2 = 0 := by decide
  have x4 : gaim ac1 al3 1 = (2, 4) := by decide
  have x5 : gholds ac1 al3 1 = [] := by decide
  have x6 : gwords al3 = 10 := by decide
  have x7 : al3.length ≤ 1000000 := by decide
  go_enter Try.func28, Try.ntmps28
  go_wp2_with fail
  refine (newcls_any _ _ ac1 _ (sees_one ⟨4, 1, 2, false⟩ w) (by intro c hc; simp [ac1] at hc; subst hc; constructor <;> decide)).mono ?_
  rintro e w1 ⟨u, rfl, hT, c1⟩
  have x0 : newC ac1 = 0 := by decide
  obtain ⟨p, rfl, hTab⟩ : ∃ p, u = .pointer (some ⟨p, 0, none⟩) ∧ Tab (w.alloc (.cells #[.int .i64 4, .int .i64 1, .int .i64 2, .bool false] 40)).heap.size w1.heap.size w1 p ac1 := by
    rcases hT with ⟨_, p, h1, h2⟩ | ⟨h1, _⟩
    · exact ⟨p, h1, h2⟩
    · exact absurd x0 h1
  have cA : Ch0 w w1 := ((Ch.refl (fun _ => False) w).alloc _).trans c1
  have hn := gnew_of hTab (Nat.le_refl _)
  rw [x0]
  replace cA := Lib.hid cA
  clear c1 hT hTab x0
  generalize (w.alloc (.cells #[.int .i64 4, .int .i64 1, .int .i64 2, .bool false] 40)).heap.size = lo at *
  go_wp2_with fail
  refine hn.mono ?_
  rintro e w2 ⟨b, rfl, O, hG, hO, c2⟩
  have hM : Mine w w2 O := ⟨cA.out.trans c2, fun k hk => by have := hO k hk; have := cA.out.size; omega⟩
  have ha := add_of hG 1 1 0 (by omega)
  rw [x1] at ha
  replace hM := Lib.hid hM
  clear hn hO c2 cA hG
  go_wp2_with fail
  refine ha.mono ?_
  rintro e w3 ⟨rfl, O3, hG3, t3⟩
  have hM3 := Lib.hid (hM.out.turn t3)
  have ha := add_of hG3 2 1 0 (by omega)
  rw [show addE ac1 (addL ac1 [] 1 1 0) 2 1 0 = 0 from x2] at ha
  clear hM t3 hG3
  go_wp2_with fail
  refine ha.mono ?_
  rintro e w4 ⟨rfl, O4, hG4, t4⟩
  have hM4 := Lib.hid (hM3.out.turn t4)
  have hs := setref_of hG4 1 0 2
  rw [show setRefE (addL ac1 (addL ac1 [] 1 1 0) 2 1 0) 1 0 2 = 0 from x3] at hs
  clear hM3 t4 hG4 ha
  go_wp2_with fail
  refine hs.mono ?_
  rintro e w5 ⟨rfl, hG5, t5⟩
  have hM5 := Lib.hid (hM4.out.turn t5)
  replace hG5 : Gt w5 b O4 ac1 al3 p lo w1.heap.size := hG5
  have hA := aim_of hG5 1
  rw [x4] at hA
  replace hG5 := Lib.hid hG5
  clear hM4 t5 hs
  go_wp2_with fail
  refine hA.mono ?_
  rintro e w6 ⟨rfl, c6⟩
  have hH := holds_of (hG5.out.new c6) 1
  rw [x5] at hH
  replace c6 := Lib.hid c6
  clear hA
  go_wp2_with fail
  refine hH.mono ?_
  rintro e w7 ⟨v, rfl, r7, -, c7⟩
  obtain ⟨a, c, rfl, -, -⟩ := r7.isSlice
  have hW := words_of (hG5.out.new (c6.out.trans c7)) x7
  rw [x6] at hW
  replace c7 := Lib.hid c7
  clear hH r7
  go_wp2_with fail
  refine hW.mono ?_
  rintro e w8 ⟨rfl, c8⟩
  have HC := Lib.hid (((hM5.out.ch.trans c6.out).trans c7.out).trans c8)
  clear hW c8 c7 c6
  go_wp2_with fail
  go_ret
  exact ⟨rfl, HC.out⟩

end Go.Proofs.Ytlmeponoadhheaa

/-
  The law's play: all calls.
-/
namespace Go.Proofs.Ytlmeponoadhheaa
set_option linter.unusedVariables false
open Go.RowKit

def stepL (cs : List Cls) (L : List GN) (o : OpG) : List GN :=
  if o.kind = 1 then addL cs L o.a o.b o.c else if o.kind = 2 then setRefL L o.a o.b o.c else if o.kind = 3 then setNumL L o.a o.b o.c else if o.kind = 4 then doneL L o.a else L

def playL (cs : List Cls) (L : List GN) (l : List OpG) : List GN := l.foldl (stepL cs) L

theorem playL_snoc (cs : List Cls) (L : List GN) (l : List OpG) (o : OpG) : playL cs L (l ++ [o]) = stepL cs (playL cs L l) o := by simp [playL]

theorem take_snocO (l : List OpG) (k : Nat) (o : OpG) (h : l[k]? = some o) : l.take (k + 1) = l.take k ++ [o] := by
  rw [List.take_add_one, h]; rfl

set_option maxRecDepth 100000 in
set_option maxHeartbeats 4000000 in
theorem play_of {w : World} {b : Nat} {O : Nat → Prop} {cs : List Cls} {L : List GN} {p lo hi : Nat} (h : Gt w b O cs L p lo hi) (D : Nat → Prop) (v : Value) (l : List OpG) (hs : SeesG D w v l) (hf : ∀ o ∈ l, o.Fits) (hD : ∀ k, D k → ¬ O k ∧ k < w.heap.size) :
    Calls Try.prog 38 #[.pointer (some ⟨b, 0, none⟩), v] w fun e w' => e = .returned (.tuple #[]) ∧ ∃ O', Gt w' b O' cs (playL cs L l) p lo hi ∧ Turn w w' O O' := by
  obtain ⟨a, c, rfl, hlen⟩ := hs.row.len
  have HG := Lib.hid h
  have HS := Lib.hid hs
  have HF := Lib.hid hf
  have HD := Lib.hid hD
  clear h hs hf hD
  go_enter Try.func38, Try.ntmps38
  go_wp2_with fail
  go_loopw [7] (fun i wr => ∃ j : Nat, j ≤ l.length ∧ i = .int .i64 j ∧ ∃ O', Gt wr b O' cs (playL cs L (l.take j)) p lo hi ∧ Turn w wr O O') (fun i _ => l.length - (intOf i).toNat)
  case atStart => exact ⟨0, Nat.zero_le _, rfl, O, HG.out, Turn.refl _ _⟩
  case round =>
    obtain ⟨j, hj, rfl, O1, hG, t1⟩ := hrel
    by_cases hlt : j < l.length
    · obtain ⟨o, ho⟩ : ∃ o, l[j]? = some o := ⟨_, List.getElem?_eq_getElem hlt⟩
      have hSr := HS.out.keep t1.1 (fun k hk => (HD.out k hk).1)
      obtain ⟨g, off, c1, hDg, e1, hcell⟩ := hSr.cell (by omega)
      obtain ⟨rfl, rfl⟩ : a = some ⟨g, off, none⟩ ∧ c = c1 := by simpa using e1
      obtain ⟨k0, k1, k2, k3, k4⟩ := hcell j o ho
      have hfo := HF.out o (List.mem_of_getElem? ho)
      have hng : ¬ O1 g := fun e => by
        rcases t1.2 g e with e | e
        · exact (HD.out g hDg).1 e
        · have := (HD.out g hDg).2; omega
      have hst : Hid (playL cs L (l.take (j + 1)) = stepL cs (playL cs L (l.take j)) o) := Lib.hid (by rw [take_snocO l j o ho, playL_snoc])
      have him := hfo.a1
      have i1 : (0 : Int) ≤ j := by omega
      have i2 : (j : Int) < l.length := by omega
      clear hSr e1 hcell hfo ho k4
      generalize playL cs L (l.take j) = LL at *
      obtain ⟨ok, oa, ob, oc, ov, ols⟩ := o
      simp only at k0 k1 k2 k3 him
      have HA : Hid (∀ w', Ch0 wr w' → _) := Lib.hid (fun w' (c : Ch0 wr w') => add_of (hG.new c) oa ob oc him)
      have HR : Hid (∀ w', Ch0 wr w' → _) := Lib.hid (fun w' (c : Ch0 wr w') => setref_of (hG.new c) oa ob oc)
      have HN : Hid (∀ w', Ch0 wr w' → _) := Lib.hid (fun w' (c : Ch0 wr w') => setnum_of (hG.new c) oa ob oc)
      have HO : Hid (∀ w', Ch0 wr w' → _) := Lib.hid (fun w' (c : Ch0 wr w') => done_of (hG.new c) oa)
      replace hG := Lib.hid hG
      replace t1 := Lib.hid t1
      by_cases q1 : ok = 1
      · have e1 : (ok == 1) = true := by simp [q1]
        have hL : Hid (playL cs L (l.take (j + 1)) = addL cs LL oa ob oc) := Lib.hid (by rw [hst.out]; unfold stepL; rw [if_pos q1])
        clear q1 hst HR HN HO him
        generalize addE cs LL oa ob oc = E at *
        go_wp2_with fail
        go_region_held3 (fun w' => w'.cell? ⟨g, off + j * 5 + 1, none⟩ = some (.int .i64 oa) ∧ w'.cell? ⟨g, off + j * 5 + 2, none⟩ = some (.int .i64 ob) ∧ w'.cell? ⟨g, off + j * 5 + 3, none⟩ = some (.int .i64 oc))
          (first | go_keep | exact ⟨cx.cell (by simpa using k1) hng, cx.cell (by simpa using k2) hng, cx.cell (by simpa using k3) hng⟩)
          ((go_at_call 32; refine (HA.out _ ?_).mono ?_; exact (Ch.refl _ _).drew; rintro e wx ⟨rfl, Ox, hGx, tx⟩; have cx := tx.1))
        rename_i hheld
        have HE := Lib.hid (And.intro hGx (t1.out.trans (Turn.trans (Turn.of0 O1 (Ch.refl _ wr).drew) tx)))
        clear hheld cx tx hGx HA
        go_wp2_with fail
        go_roundw
        case rel => exact ⟨j + 1, by omega, by go_num, Ox, by rw [hL.out]; exact HE.out.1, HE.out.2⟩
        case measure => simp [intOf]; omega
      · have e1 : (ok == 1) = false := by simpa using q1
        by_cases q2 : ok = 2
        · have e2 : (ok == 2) = true := by simp [q2]
          have hL : Hid (playL cs L (l.take (j + 1)) = setRefL LL oa ob oc) := Lib.hid (by rw [hst.out]; unfold stepL; rw [if_neg q1, if_pos q2])
          clear q1 q2 hst HA HN HO him
          generalize setRefE LL oa ob oc = E at *
          go_wp2_with fail
          go_region_held3 (fun w' => w'.cell? ⟨g, off + j * 5 + 1, none⟩ = some (.int .i64 oa) ∧ w'.cell? ⟨g, off + j * 5 + 2, none⟩ = some (.int .i64 ob) ∧ w'.cell? ⟨g, off + j * 5 + 3, none⟩ = some (.int .i64 oc))
            (first | go_keep | exact ⟨cx.cell (by simpa using k1) hng, cx.cell (by simpa using k2) hng, cx.cell (by simpa using k3) hng⟩)
            ((go_at_call 42; refine (HR.out _ ?_).mono ?_; exact (Ch.refl _ _).drew; rintro e wx ⟨rfl, hGx, tx⟩; have cx := tx.1))
          rename_i hheld
          have HE := Lib.hid (And.intro hGx (t1.out.trans (Turn.trans (Turn.of0 O1 (Ch.refl _ wr).drew) tx)))
          clear hheld cx tx hGx HR
          go_wp2_with fail
          go_roundw
          case rel => exact ⟨j + 1, by omega, by go_num, O1, by rw [hL.out]; exact HE.out.1, HE.out.2⟩
          case measure => simp [intOf]; omega
        · have e2 : (ok == 2) = false := by simpa using q2
          by_cases q3 : ok = 3
          · have e3 : (ok == 3) = true := by simp [q3]
            have hL : Hid (playL cs L (l.take (j + 1)) = setNumL LL oa ob oc) := Lib.hid (by rw [hst.out]; unfold stepL; rw [if_neg q1, if_neg q2, if_pos q3])
            clear q1 q2 q3 hst HA HR HO him
            generalize setNumE LL oa ob = E at *
            go_wp2_with fail
            go_region_held3 (fun w' => w'.cell? ⟨g, off + j * 5 + 1, none⟩ = some (.int .i64 oa) ∧ w'.cell? ⟨g, off + j * 5 + 2, none⟩ = some (.int .i64 ob) ∧ w'.cell? ⟨g, off + j * 5 + 3, none⟩ = some (.int .i64 oc))
              (first | go_keep | exact ⟨cx.cell (by simpa using k1) hng, cx.cell (by simpa using k2) hng, cx.cell (by simpa using k3) hng⟩)
              ((go_at_call 43; refine (HN.out _ ?_).mono ?_; exact (Ch.refl _ _).drew; rintro e wx ⟨rfl, hGx, tx⟩; have cx := tx.1))
            rename_i hheld
            have HE := Lib.hid (And.intro hGx (t1.out.trans (Turn.trans (Turn.of0 O1 (Ch.refl _ wr).drew) tx)))
            clear hheld cx tx hGx HN
            go_wp2_with fail
            go_roundw
            case rel => exact ⟨j + 1, by omega, by go_num, O1, by rw [hL.out]; exact HE.out.1, HE.out.2⟩
            case measure => simp [intOf]; omega
          · have e3 : (ok == 3) = false := by simpa using q3
            by_cases q4 : ok = 4
            · have e4 : (ok == 4) = true := by simp [q4]
              have hL : Hid (playL cs L (l.take (j + 1)) = doneL LL oa) := Lib.hid (by rw [hst.out]; unfold stepL; rw [if_neg q1, if_neg q2, if_neg q3, if_pos q4])
              have hd := HO.out wr (Ch.refl _ _)
              clear q1 q2 q3 q4 hst HA HR HN HO him
              generalize doneE LL oa = E at *
              go_wp2_with fail
              refine hd.mono ?_
              rintro e wx ⟨rfl, hGx, tx⟩
              have HE := Lib.hid (And.intro hGx (t1.out.trans tx))
              clear hd hGx tx
              go_wp2_with fail
              go_roundw
              case rel => exact ⟨j + 1, by omega, by go_num, O1, by rw [hL.out]; exact HE.out.1, HE.out.2⟩
              case measure => simp [intOf]; omega
            · have e4 : (ok == 4) = false := by simpa using q4
              have hL : Hid (playL cs L (l.take (j + 1)) = LL) := Lib.hid (by rw [hst.out]; unfold stepL; rw [if_neg q1, if_neg q2, if_neg q3, if_neg q4])
              clear q1 q2 q3 q4 hst HA HR HN HO him
              go_wp2_with fail
              go_roundw
              case rel => exact ⟨j + 1, by omega, by go_num, O1, by rw [hL.out]; exact hG.out, t1.out⟩
              case measure => simp [intOf]; omega
    · obtain rfl : j = l.length := by omega
      rw [List.take_length] at hG
      have HE := Lib.hid (And.intro hG t1)
      clear hG t1
      go_wp2_with fail
      go_end0
      exact ⟨rfl, O1, HE.out⟩

end Go.Proofs.Ytlmeponoadhheaa

/-
  Words for the laws of graphs: a map aside; bytes; a node's copy.
-/
namespace Go.Proofs.Ytlmeponoadhheaa
set_option linter.unusedVariables false
open Go.RowKit

theorem Aside.im {w : World} {O : Nat → Prop} {r n : Nat} {f : Int → Option Value} (h : IM w r n f) (hO : ¬ O r) : Aside w O (fun k => k = r) (fun w => IM w r n f) where
  x := h
  k := fun _ _ _ c hS x => x.keep c (hS r rfl)
  off := fun k hk => by rw [hk]; exact hO
  lt := fun k hk => by rw [hk]; exact h.lt

theorem Gt.small {w : World} {b : Nat} {O : Nat → Prop} {cs : List Cls} {L : List GN} {p lo hi : Nat} (h : Gt w b O cs L p lo hi) : ∀ k, O k → k < w.heap.size := h.g.small

abbrev SeesU9 (D : Nat → Prop) (w : World) (v : Value) (xs : List Int) : Prop := Sees D w v 1 xs.length (xs.map (Value.int .u8))

theorem newC_zero {cs : List Cls} (h : newC cs = 0) : allRight cs = true ∧ cs.length < 64 := by
  unfold newC at h
  split at h
  · split at h
    · omega
    · rename_i e1 e2; exact ⟨e1, by omega⟩
  · omega

/-- what class.New hands back where the classes are right -/
theorem newT_zero {w w' : World} {cs : List Cls} {v : Value} (h : NewT w w' cs v) (h0 : newC cs = 0) : ∃ p, v = .pointer (some ⟨p, 0, none⟩) ∧ Tab w.heap.size w'.heap.size w' p cs := by
  rcases h with ⟨_, p, h1, h2⟩ | ⟨h1, _⟩
  · exact ⟨p, h1, h2⟩
  · exact absurd h0 h1

theorem quietE {P : Program} {f : FuncId} {args : Array Value} {w : World} {n : Nat} {v : Value} (h : Calls P f args (w.drewN n) fun e w' => e = .returned v ∧ SameW (w.drewN n) w') :
    Calls P f args (w.drewN n) fun e w'' => e = .returned v ∧ ∃ m, w'' = w.drewN m := h.mono fun _ _ ⟨he, hw⟩ => ⟨he, n, (show w.drewN n = _ from hw).symm⟩

end Go.Proofs.Ytlmeponoadhheaa

/-
  A node's copy that a law keeps in a block of its own.
-/
namespace Go.Proofs.Ytlmeponoadhheaa
set_option linter.unusedVariables false
open Go.RowKit

/-- the node nd, copied, lies in block B; all of it lies below M -/
structure Held1 (M : Nat) (w : World) (B : Nat) (nd : GN) (vr vd : Value) : Prop where
  lt : B < M
  y0 : w.cell? ⟨B, 0, none⟩ = some (.int .i64 nd.id)
  y1 : w.cell? ⟨B, 1, none⟩ = some (.int .i64 nd.cls)
  y2 : w.cell? ⟨B, 2, none⟩ = some vr
  y3 : w.cell? ⟨B, 3, none⟩ = some vd
  y4 : w.cell? ⟨B, 4, none⟩ = some (.bool nd.fin)
  refs : SeesI (fun k => k < M) w vr nd.refs
  data : SeesI (fun k => k < M) w vd nd.data

theorem Held1.keep {S : Nat → Prop} {M B : Nat} {w w' : World} {nd : GN} {vr vd : Value} (h : Held1 M w B nd vr vd) (c : Ch S w w') (hS : ∀ k, S k → M ≤ k) : Held1 M w' B nd vr vd := by
  have hB : ¬ S B := fun e => by have := hS _ e; have := h.lt; omega
  exact ⟨h.lt, c.cell h.y0 hB, c.cell h.y1 hB, c.cell h.y2 hB, c.cell h.y3 hB, c.cell h.y4 hB, h.refs.keep c (fun k hk e => by have := hS _ e; omega), h.data.keep c (fun k hk e => by have := hS _ e; omega)⟩

theorem Held1.mono {M M' B : Nat} {w : World} {nd : GN} {vr vd : Value} (h : Held1 M w B nd vr vd) (hM : M ≤ M') : Held1 M' w B nd vr vd :=
  ⟨Nat.lt_of_lt_of_le h.lt hM, h.y0, h.y1, h.y2, h.y3, h.y4, Sees.mono h.refs (fun k hk => Nat.lt_of_lt_of_le hk hM), Sees.mono h.data (fun k hk => Nat.lt_of_lt_of_le hk hM)⟩

theorem Held1.new {w w1 : World} {nd : GN} {v vr vd : Value} (h : Copy w w1 nd v vr vd) :
    Held1 (w1.heap.size + 1) (w1.alloc (.cells #[.int .i64 nd.id, .int .i64 nd.cls, vr, vd, .bool nd.fin] 36)) w1.heap.size nd vr vd := by
  have bb := heap_alloc_new w1 (.cells #[.int .i64 nd.id, .int .i64 nd.cls, vr, vd, .bool nd.fin] 36)
  have cb : Ch0 w1 (w1.alloc (.cells #[.int .i64 nd.id, .int .i64 nd.cls, vr, vd, .bool nd.fin] 36)) := (Ch.refl _ _).alloc _
  refine ⟨by omega, cell_of_row _ _ 0 _ _ _ bb, cell_of_row _ _ 1 _ _ _ bb, cell_of_row _ _ 2 _ _ _ bb, cell_of_row _ _ 3 _ _ _ bb, cell_of_row _ _ 4 _ _ _ bb, ?_, ?_⟩
  · exact Sees.mono (Sees.keep h.refs.sees cb (fun _ _ e => e)) (fun k hk => by have := h.refs.lt hk; omega)
  · exact Sees.mono (Sees.keep h.data.sees cb (fun _ _ e => e)) (fun k hk => by have := h.data.lt hk; omega)

theorem Held1.nv {M B : Nat} {w : World} {nd : GN} {vr vd : Value} (h : Held1 M w B nd vr vd) : NV (fun k => k < M) w (.agg #[.int .i64 nd.id, .int .i64 nd.cls, vr, vd, .bool nd.fin]) nd vr vd := ⟨rfl, h.refs, h.data⟩

theorem row_set {w : World} {v : Value} {n : Nat} {xs : List Int} (h : RowAt w 3 1 v n (xs.map (Value.int .i64))) (hl : xs.length = n) (i : Nat) (hi : i < n) (x : Int) :
    ∃ g o cap u, v = .slice (some ⟨g, o, none⟩) n cap ∧ w.cell? ⟨g, o + i, none⟩ = some u ∧ w.frozen? ⟨g, o + i, none⟩ = false ∧
      RowAt (w.setCell ⟨g, o + i, none⟩ (.int .i64 x)) 3 1 v n ((xs.set i x).map (Value.int .i64)) ∧ Ch (fun k => rblk v = some k) w (w.setCell ⟨g, o + i, none⟩ (.int .i64 x)) := by
  obtain ⟨g, o, cap, rfl, h1, h2, h3⟩ := h.set i hi (.int .i64 x)
  refine ⟨g, o, cap, (xs.map (Value.int .i64))[i]'(by simpa [hl] using hi), rfl, by rw [h2, List.getElem?_eq_getElem], h3, ?_, Ch.setCell (S := fun k => rblk (.slice (some ⟨g, o, none⟩) n cap) = some k) (Ch.refl _ _) (p := ⟨g, o + i, none⟩) (fun _ => rfl) _⟩
  rw [List.map_set]; exact h1

end Go.Proofs.Ytlmeponoadhheaa

/-
  Plain laws: how long a played graph is; what a node holds, beside its aim.
-/
namespace Go.Proofs.Ytlmeponoadhheaa
set_option linter.unusedVariables false

theorem ins_len (nd : GN) (L : List GN) : (ins nd L).length = L.length + 1 := by
  induction L with
  | nil => rfl
  | cons a l ih =>
    unfold ins
    split
    · simp [ih]
    · simp

theorem stepL_len (cs : List Cls) (L : List GN) (o : OpG) : (stepL cs L o).length ≤ L.length + 1 := by
  unfold stepL
  split
  · unfold addL; split
    · rw [ins_len]; omega
    · omega
  split
  · unfold setRefL; split
    · simp [upd]
    · omega
  split
  · unfold setNumL; split
    · simp [upd]
    · omega
  split
  · simp [doneL, upd]
  · omega

theorem playL_len (cs : List Cls) (l : List OpG) : ∀ L : List GN, (playL cs L l).length ≤ L.length + l.length := by
  induction l with
  | nil => intro L; simp [playL]
  | cons o l ih =>
    intro L
    have h1 := ih (stepL cs L o)
    have h2 := stepL_len cs L o
    have : playL cs L (o :: l) = playL cs (stepL cs L o) l := rfl
    rw [this, List.length_cons]
    omega

theorem few_len {l : List OpG} (h : fewB l = true) : l.length ≤ 100 := by
  unfold fewB at h
  simp at h
  exact h.1

def hl (f k : Nat) (r : List Int) : List Int := ((r.take k).drop f).filter (fun t => decide (t ≠ 0))

theorem hl_succ (f k : Nat) (r : List Int) (hk : k < r.length) (hf : f ≤ k) : hl f (k + 1) r = hl f k r ++ (if r.getD k 0 ≠ 0 then [r.getD k 0] else []) := by
  unfold hl
  have e : r.getD k 0 = r[k] := by simp [List.getD_eq_getElem?_getD, hk]
  rw [List.take_add_one, List.getElem?_eq_getElem hk, List.drop_append_of_le_length (by simp; omega), List.filter_append, e]
  congr 1
  by_cases h : r[k] = 0 <;> simp [h]

theorem hl_len (f k : Nat) (r : List Int) : (hl f k r).length ≤ r.length := by
  unfold hl
  refine Nat.le_trans (List.length_filter_le _ _) ?_
  simp
  omega

theorem hl_low (f k : Nat) (r : List Int) (hf : k ≤ f) : hl f k r = [] := by
  unfold hl
  rw [List.drop_eq_nil_of_le (by simp; omega)]
  rfl

theorem heldTo_eq (cs : List Cls) (nd : GN) (f : Nat) (h : ∀ i : Nat, holdsC cs nd.cls i = decide (f ≤ i)) (k : Nat) (hk : k ≤ nd.refs.length) : heldTo cs nd k = hl f k nd.refs := by
  induction k with
  | zero => simp [heldTo, hl]
  | succ k ih =>
    rw [heldTo_succ, ih (by omega), h]
    by_cases hf : f ≤ k
    · rw [hl_succ f k _ (by omega) hf]
      simp [hf]
    · rw [hl_low f k _ (by omega), hl_low f (k + 1) _ (by omega)]
      simp [hf]

/-- a node's aim, and what it holds beside it -/
theorem aim_law {cs : List Cls} {L : List GN} {nd : GN} (hr : allRight cs = true) (hat : gat L nd.id = some nd) (hw : WfN cs nd) :
    ((gaim cs L nd.id).2 ≠ 0 ∧ 1 ≤ nd.refs.length ∧ nd.refs.getD 0 0 = (gaim cs L nd.id).1 ∧ gholds cs L nd.id = hl 1 nd.refs.length nd.refs) ∨
    ((gaim cs L nd.id).2 = 0 ∧ gholds cs L nd.id = hl 0 nd.refs.length nd.refs) := by
  have h1 := hw.c1
  have h2 := hw.c2
  have hh : ∀ i : Int, holdsC cs nd.cls i = holds1 (cs[(nd.cls - 1).toNat]'(by omega)) i := fun i => by unfold holdsC; rw [dif_pos ⟨h1, h2⟩]
  have hlt : (nd.cls - 1).toNat < cs.length := by omega
  have hkd : kindOf cs nd.cls = (cs[(nd.cls - 1).toNat]'hlt).kind := by unfold kindOf; rw [List.getD_eq_getElem?_getD, List.getElem?_eq_getElem hlt]; rfl
  have hg : gholds cs L nd.id = heldTo cs nd nd.refs.length := by unfold gholds; rw [hat]; rfl
  have hright := allRight_get hr (nd.cls - 1).toNat hlt
  generalize (cs[(nd.cls - 1).toNat]'hlt) = C at *
  have ha := hw.aim
  unfold gaim
  rw [hat, hg]
  simp only
  by_cases h0 : C.kind = 1 ∨ C.kind = 2
  · have e0 : holdsC cs nd.cls 0 = true := by rw [hh]; unfold holds1; simp; exact h0
    rw [if_pos e0]
    refine .inr ⟨rfl, heldTo_eq cs nd 0 (fun i => ?_) _ (Nat.le_refl _)⟩
    rw [hh]; unfold holds1
    rcases h0 with h0 | h0 <;> simp [h0]
  · have e0 : holdsC cs nd.cls 0 = false := by
      rw [hh]; unfold holds1
      have : C.kind ≠ 1 ∧ C.kind ≠ 2 := ⟨fun e => h0 (.inl e), fun e => h0 (.inr e)⟩
      simp [this]
    rw [if_neg (by rw [e0]; simp)]
    refine .inl ⟨?_, ha e0, rfl, heldTo_eq cs nd 1 (fun i => ?_) _ (Nat.le_refl _)⟩
    · show kindOf cs nd.cls ≠ 0
      rw [hkd]
      rcases hright with ⟨e, _⟩ | ⟨e, _⟩ | ⟨e, _⟩
      · exact absurd (.inl e) h0
      · exact absurd (.inr e) h0
      · omega
    · rw [hh]; unfold holds1
      have : C.kind ≠ 1 ∧ C.kind ≠ 2 := ⟨fun e => h0 (.inl e), fun e => h0 (.inr e)⟩
      have t1 : (C.kind == 1) = false := by simpa using this.1
      have t2 : (C.kind == 2) = false := by simpa using this.2
      rw [t1, t2, Bool.or_false, Bool.or_false, Bool.eq_iff_iff]
      simp
      omega

end Go.Proofs.Ytlmeponoadhheaa

/-
  Plain laws: what is set is there, and nothing else is changed; what is kept is as it was.
-/
namespace Go.Proofs.Ytlmeponoadhheaa
set_option linter.unusedVariables false

theorem setRefE_zero {L : List GN} {A B C : Int} (h : setRefE L A B C = 0) : ∃ nd, gat L A = some nd ∧ 0 ≤ B ∧ B < nd.refs.length ∧ (C = 0 ∨ C ∈ ids L) := by
  unfold setRefE at h
  split at h
  · cases h
  · rename_i nd hat
    by_cases hf : 0 ≤ B ∧ B < nd.refs.length
    · rw [if_pos hf] at h
      by_cases ht : C ≠ 0 ∧ C ∉ ids L
      · rw [if_pos ht] at h; cases h
      · exact ⟨nd, hat, hf.1, hf.2, by
          by_cases c0 : C = 0
          · exact .inl c0
          · exact .inr (Classical.byContradiction fun e => ht ⟨c0, e⟩)⟩
    · rw [if_neg hf] at h; cases h

theorem setNumE_zero {L : List GN} {A B : Int} (h : setNumE L A B = 0) : ∃ nd, gat L A = some nd ∧ 0 ≤ B ∧ B < nd.data.length := by
  unfold setNumE at h
  split at h
  · cases h
  · rename_i nd hat
    by_cases hf : 0 ≤ B ∧ B < nd.data.length
    · exact ⟨nd, hat, hf.1, hf.2⟩
    · rw [if_neg hf] at h; cases h

theorem setRefL_ids (L : List GN) (A B C : Int) : ids (setRefL L A B C) = ids L := by
  unfold setRefL
  split
  · exact upd_ids _ _ _ (fun _ => rfl)
  · rfl

theorem setNumL_ids (L : List GN) (A B C : Int) : ids (setNumL L A B C) = ids L := by
  unfold setNumL
  split
  · exact upd_ids _ _ _ (fun _ => rfl)
  · rfl

theorem doneL_ids (L : List GN) (A : Int) : ids (doneL L A) = ids L := upd_ids _ _ _ (fun _ => rfl)

def setR1 (L : List GN) (A B C : Int) (nd : GN) : GN := if nd.id = A ∧ setRefE L A B C = 0 then { nd with refs := nd.refs.set B.toNat C } else nd

def setN1 (L : List GN) (A B C : Int) (nd : GN) : GN := if nd.id = A ∧ setNumE L A B = 0 then { nd with data := nd.data.set B.toNat C } else nd

theorem setR1_mem {L : List GN} {A B C : Int} {nd : GN} (h : nd ∈ L) : setR1 L A B C nd ∈ setRefL L A B C := by
  unfold setR1 setRefL
  by_cases e : setRefE L A B C = 0
  · rw [if_pos e]
    refine List.mem_map.2 ⟨nd, h, ?_⟩
    by_cases e2 : nd.id = A <;> simp [e, e2]
  · rw [if_neg e, if_neg (fun q => e q.2)]; exact h

theorem setN1_mem {L : List GN} {A B C : Int} {nd : GN} (h : nd ∈ L) : setN1 L A B C nd ∈ setNumL L A B C := by
  unfold setN1 setNumL
  by_cases e : setNumE L A B = 0
  · rw [if_pos e]
    refine List.mem_map.2 ⟨nd, h, ?_⟩
    by_cases e2 : nd.id = A <;> simp [e, e2]
  · rw [if_neg e, if_neg (fun q => e q.2)]; exact h

theorem setR1_id (L : List GN) (A B C : Int) (nd : GN) : (setR1 L A B C nd).id = nd.id := by unfold setR1; split <;> rfl
theorem setN1_id (L : List GN) (A B C : Int) (nd : GN) : (setN1 L A B C nd).id = nd.id := by unfold setN1; split <;> rfl

/-- the references of a node behind what is set -/
theorem setR1_refs {L : List GN} (hr : Rising L) {A B C : Int} {nd : GN} (h : nd ∈ L) (ha : nd.id = A) (he : setRefE L A B C = 0) : 0 ≤ B ∧ B < nd.refs.length ∧ setR1 L A B C nd = { nd with refs := nd.refs.set B.toNat C } := by
  obtain ⟨n, h1, h2, h3, -⟩ := setRefE_zero he
  have h4 := hr.at h
  rw [ha, h1] at h4
  cases h4
  exact ⟨h2, h3, if_pos ⟨ha, he⟩⟩

theorem setN1_data {L : List GN} (hr : Rising L) {A B C : Int} {nd : GN} (h : nd ∈ L) (ha : nd.id = A) (he : setNumE L A B = 0) : 0 ≤ B ∧ B < nd.data.length ∧ setN1 L A B C nd = { nd with data := nd.data.set B.toNat C } := by
  obtain ⟨n, h1, h2, h3⟩ := setNumE_zero he
  have h4 := hr.at h
  rw [ha, h1] at h4
  cases h4
  exact ⟨h2, h3, if_pos ⟨ha, he⟩⟩

theorem setR1_data (L : List GN) (A B C : Int) (nd : GN) : (setR1 L A B C nd).data = nd.data := by unfold setR1; split <;> rfl

/-- a node behind what is set -/
theorem sets_law {L : List GN} (hr : Rising L) (A B C : Int) (odd : Bool) {E F : Int} (hE : E = setRefE L A B C) (hF : F = (if odd = true then setNumE (setRefL L A B C) A B else 0)) {nd : GN} (h : nd ∈ L) :
    ∃ fn ∈ (if odd = true then setNumL (setRefL L A B C) A B C else setRefL L A B C), fn.id = nd.id ∧ fn.cls = nd.cls ∧ fn.fin = nd.fin ∧
      ((nd.id = A ∧ E = 0 ∧ 0 ≤ B ∧ B < nd.refs.length ∧ fn.refs = nd.refs.set B.toNat C) ∨ (¬ (nd.id = A ∧ E = 0) ∧ fn.refs = nd.refs)) ∧
      ((nd.id = A ∧ odd = true ∧ F = 0 ∧ 0 ≤ B ∧ B < nd.data.length ∧ fn.data = nd.data.set B.toNat C) ∨ (¬ (nd.id = A ∧ odd = true ∧ F = 0) ∧ fn.data = nd.data)) := by
  subst hE
  have h1 := setR1_mem (A := A) (B := B) (C := C) h
  have hr1 : Rising (setRefL L A B C) := rising_of_ids hr (setRefL_ids _ _ _ _)
  have hid := setR1_id L A B C nd
  have hdt := setR1_data L A B C nd
  have hcf : (setR1 L A B C nd).cls = nd.cls ∧ (setR1 L A B C nd).fin = nd.fin := by unfold setR1; split <;> exact ⟨rfl, rfl⟩
  have hrf : (nd.id = A ∧ setRefE L A B C = 0 ∧ 0 ≤ B ∧ B < nd.refs.length ∧ (setR1 L A B C nd).refs = nd.refs.set B.toNat C) ∨ (¬ (nd.id = A ∧ setRefE L A B C = 0) ∧ (setR1 L A B C nd).refs = nd.refs) := by
    by_cases e : nd.id = A ∧ setRefE L A B C = 0
    · obtain ⟨q1, q2, q3⟩ := setR1_refs hr h e.1 e.2
      exact .inl ⟨e.1, e.2, q1, q2, by rw [q3]⟩
    · exact .inr ⟨e, by unfold setR1; rw [if_neg e]⟩
  cases odd
  · exact ⟨_, h1, hid, hcf.1, hcf.2, hrf, .inr ⟨by simp, hdt⟩⟩
  · simp only [if_true] at hF ⊢
    subst hF
    refine ⟨_, setN1_mem (A := A) (B := B) (C := C) h1, (setN1_id _ _ _ _ _).trans hid, ?_, ?_, ?_, ?_⟩
    · rw [← hcf.1]; unfold setN1; split <;> rfl
    · rw [← hcf.2]; unfold setN1; split <;> rfl
    · have : (setN1 (setRefL L A B C) A B C (setR1 L A B C nd)).refs = (setR1 L A B C nd).refs := by unfold setN1; split <;> rfl
      rw [this]; exact hrf
    · by_cases e : nd.id = A ∧ setNumE (setRefL L A B C) A B = 0
      · obtain ⟨q1, q2, q3⟩ := setN1_data (C := C) hr1 h1 (hid.trans e.1) e.2
        rw [hdt] at q2
        exact .inl ⟨e.1, trivial, e.2, q1, q2, by rw [q3]; simp only; rw [hdt]⟩
      · refine .inr ⟨fun q => e ⟨q.1, q.2.2⟩, ?_⟩
        unfold setN1
        rw [if_neg (by rw [hid]; exact e), hdt]

/-! ### references go to nodes -/

def RefsIn (L : List GN) : Prop := ∀ nd ∈ L, ∀ t ∈ nd.refs, t = 0 ∨ t ∈ ids L

theorem mem_ids {L : List GN} {k : Int} : k ∈ ids L ↔ ∃ nd ∈ L, nd.id = k := by simp [ids]

theorem refsIn_add {cs : List Cls} {L : List GN} (h : RefsIn L) (a b c : Int) : RefsIn (addL cs L a b c) := by
  unfold addL
  split
  · intro nd hnd t ht
    rcases mem_ins.1 hnd with rfl | hnd
    · left
      unfold newNode at ht
      simp at ht
      exact ht.2
    · rcases h nd hnd t ht with q | q
      · exact .inl q
      · exact .inr ((ins_ids _).2 (.inr q))
  · exact h

theorem refsIn_setRef {L : List GN} (h : RefsIn L) (A B C : Int) : RefsIn (setRefL L A B C) := by
  intro nd hnd t ht
  rw [setRefL_ids]
  unfold setRefL at hnd
  split at hnd
  · rename_i e
    obtain ⟨-, -, -, -, hc⟩ := setRefE_zero e
    rcases mem_upd hnd with q | ⟨y, hy, -, rfl⟩
    · exact h nd q t ht
    · rcases List.mem_or_eq_of_mem_set ht with q | q
      · exact h y hy t q
      · rw [q]; exact hc
  · exact h nd hnd t ht

theorem refsIn_upd {L : List GN} (h : RefsIn L) (id : Int) (g : GN → GN) (hg : ∀ nd, (g nd).id = nd.id ∧ (g nd).refs = nd.refs) : RefsIn (upd L id g) := by
  intro nd hnd t ht
  rw [upd_ids _ _ _ (fun nd => (hg nd).1)]
  rcases mem_upd hnd with q | ⟨y, hy, -, rfl⟩
  · exact h nd q t ht
  · rw [(hg y).2] at ht; exact h y hy t ht

theorem refsIn_step {cs : List Cls} {L : List GN} (h : RefsIn L) (o : OpG) : RefsIn (stepL cs L o) := by
  unfold stepL
  split
  · exact refsIn_add h _ _ _
  split
  · exact refsIn_setRef h _ _ _
  split
  · unfold setNumL
    split
    · exact refsIn_upd h _ _ (fun _ => ⟨rfl, rfl⟩)
    · exact h
  split
  · exact refsIn_upd h _ _ (fun _ => ⟨rfl, rfl⟩)
  · exact h

theorem refsIn_play {cs : List Cls} (l : List OpG) : ∀ {L : List GN}, RefsIn L → RefsIn (playL cs L l) := by
  induction l with
  | nil => intro L h; exact h
  | cons o l ih => intro L h; exact ih (refsIn_step h o)

/-- references to what isn't told are 0 -/
def cutK (ks : List Int) (l : List Int) : List Int := l.map (fun t => if t ∈ ks then t else 0)

/-- what is kept, and how it was -/
theorem keep_law {L : List GN} (hi : RefsIn L) (ks : List Int) {nd : GN} (h : nd ∈ keepL L ks) : ∃ old ∈ L, old.id = nd.id ∧ nd.id ∈ ks ∧ nd = { old with refs := cutK ks old.refs } := by
  obtain ⟨old, ho, rfl⟩ := List.mem_map.1 h
  obtain ⟨h1, h2⟩ := mem_keepN.1 ho
  refine ⟨old, h1, rfl, h2, ?_⟩
  unfold cutN cutR cutK
  congr 1
  apply List.map_congr_left
  intro t ht
  by_cases hk : t ∈ ids (keepN L ks)
  · rw [if_pos hk, if_pos ((keepN_ids t).1 hk).2]
  · rw [if_neg hk]
    by_cases h3 : t ∈ ks
    · rw [if_pos h3]
      rcases hi old h1 t ht with q | q
      · exact q.symm
      · exact absurd ((keepN_ids t).2 ⟨q, h3⟩) hk
    · rw [if_neg h3]

theorem keepL_ids (L : List GN) (ks : List Int) : ids (keepL L ks) = ids (keepN L ks) := by
  unfold keepL ids
  rw [List.map_map]; rfl

/-- kept once more nothing goes -/
theorem keep_again (L : List GN) : (keepL L (ids L)).length = L.length := by
  rw [keepL_length]
  unfold keepN
  rw [List.filter_eq_self.2 (fun nd hnd => decide_eq_true (mem_ids.2 ⟨nd, hnd, rfl⟩))]

theorem keep_none (L : List GN) : keepL L [] = [] := by
  unfold keepL keepN
  rw [List.filter_eq_nil_iff.2 (fun nd _ => by simp)]
  rfl

theorem keepL_len (L : List GN) (ks : List Int) : (keepL L ks).length ≤ L.length := by
  rw [keepL_length]
  exact List.length_filter_le _ _

end Go.Proofs.Ytlmeponoadhheaa
