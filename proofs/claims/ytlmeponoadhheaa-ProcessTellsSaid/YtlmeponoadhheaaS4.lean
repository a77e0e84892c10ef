/-
  Contracts of the document's Close, Within, Of.
-/
import Derived.Test.YtlmeponoadhheaaS3
import Derived.Test.YtlmeponoadhheaaRg
namespace Go.Proofs.Ytlmeponoadhheaa
set_option linter.unusedVariables false
open Go.RowKit

theorem Try.infoB4 : (Try.prog.info? 4).map (fun i => (i.zero, i.size, i.bytes)) = some (some (.bool false), 1, 1) := by kernel_rfl
theorem Try.underB121 : Try.prog.underlying 121 = some (.slice 4) := by kernel_rfl

/-- truth values as a row of cells -/
def bools (bs : List Bool) : Array Value := (bs.map Value.bool).toArray

theorem bools_size (bs : List Bool) : (bools bs).size = bs.length := by simp [bools]

theorem bools_set (bs : List Bool) (i : Nat) (x : Bool) : (bools bs).setIfInBounds i (.bool x) = bools (bs.set i x) := by
  simp [bools, List.map_set]

theorem bools_cell {w : World} {g : Nat} {bs : List Bool} {T : TypeId} (h : w.heap[g]? = some (.cells (bools bs) T (0, 0))) (i : Nat) (hi : i < bs.length) : w.cell? ⟨g, i, none⟩ = some (.bool (bs[i])) := by
  rw [cell_of_row w g i _ _ _ h]
  simp [bools, hi]

theorem madeCells_false (n : Nat) : madeCells (Value.bool false).cells n = bools (List.replicate n false) := by
  apply Array.ext
  · simp [madeCells, bools]
  · intro i h1 h2
    simp [madeCells, bools, Value.cells, Nat.mod_one]

theorem make_bools (w : World) (n : Nat) (hn : n ≤ 1000000) :
    (Instr.makeSlice 121 (.int .i64 (n : Int)) (.int .i64 (n : Int))).run Try.prog w = .ok (.slice (some ⟨w.heap.size, 0, none⟩) n n) (w.alloc (.cells (bools (List.replicate n false)) 4)) := by
  obtain ⟨i0, hi, hz0, hz1, hz2⟩ := info_parts Try.infoB4
  have := run_make (P := Try.prog) w 121 4 i0 _ Try.underB121 hi hz0 .i64 .i64 n n (by omega) (by omega) (by rw [hz2]; omega) (by omega)
  simp only [hz1, Int.toNat_natCast, Nat.mul_one, madeCells_false] at this
  exact this

/-- which nodes are told in a list -/
def markF (L : List GN) (l : List Int) : List Bool := L.map (fun nd => decide (nd.id ∈ l))

theorem markF_out {L : List GN} {l : List Int} {x : Int} (h : x ∉ ids L) : markF L (l ++ [x]) = markF L l := by
  unfold markF
  apply List.map_congr_left
  intro nd hnd
  have : nd.id ≠ x := fun e => h (mem_ids.2 ⟨nd, hnd, e⟩)
  simp [this]

theorem markF_in {L : List GN} (hr : Rising L) {l : List Int} {p : Nat} (hp : p < L.length) : markF L (l ++ [L[p].id]) = (markF L l).set p true := by
  apply List.ext_getElem
  · simp [markF]
  · intro m h1 h2
    have hm : m < L.length := by simpa [markF] using h1
    rw [List.getElem_set]
    by_cases e : p = m
    · subst e; simp [markF]
    · rw [if_neg e]
      have hne : L[m].id ≠ L[p].id := by
        have h := List.pairwise_iff_getElem.1 hr
        rcases Nat.lt_or_gt_of_ne e with q | q
        · have := h p m hp hm q; omega
        · have := h m p hm hp q; omega
      simp [markF, hne]

theorem bools_put {w : World} {g : Nat} {bs : List Bool} {T : TypeId} (h : w.heap[g]? = some (.cells (bools bs) T (0, 0))) (i : Nat) (x : Bool) : (w.setCell ⟨g, i, none⟩ (.bool x)).heap[g]? = some (.cells (bools (bs.set i x)) T (0, 0)) := by
  rw [heap_setCell_same w g i _ _ _ h, bools_set]

theorem markF_length (L : List GN) (l : List Int) : (markF L l).length = L.length := by simp [markF]

theorem take_step {xs : List Int} {j : Nat} (hj : j < xs.length) : xs.take (j + 1) = xs.take j ++ [xs.getD j 0] := by
  rw [List.take_add_one]
  simp [List.getD, List.getElem?_eq_getElem hj]

/-- .. with the final nodes among the first j -/
def markT (L : List GN) (l : List Int) (c : Bool) (j : Nat) : List Bool := (L.take j).map (fun nd => decide (nd.id ∈ l) || (c && nd.fin)) ++ (L.drop j).map (fun nd => decide (nd.id ∈ l))

theorem markT_zero (L : List GN) (l : List Int) (c : Bool) : markT L l c 0 = markF L l := by simp [markT, markF]

theorem markT_length (L : List GN) (l : List Int) (c : Bool) (j : Nat) : (markT L l c j).length = L.length := by simp [markT]; omega

theorem markT_get {L : List GN} {l : List Int} {c : Bool} {j : Nat} (hj : j < L.length) : (markT L l c j)[j]'(by rw [markT_length]; exact hj) = decide (L[j].id ∈ l) := by
  unfold markT
  rw [List.getElem_append_right (by simp; omega)]
  simp [Nat.min_eq_left (Nat.le_of_lt hj)]

theorem markT_at {L : List GN} {l : List Int} {c : Bool} {j m : Nat} (hj : j ≤ L.length) (hm : m < L.length) : (markT L l c j)[m]? = some (decide (L[m].id ∈ l) || (decide (m < j) && (c && L[m].fin))) := by
  unfold markT
  rw [List.getElem?_append]
  by_cases e : m < j
  · rw [if_pos (by simp; omega)]
    simp [e, hm]
  · rw [if_neg (by simp; omega)]
    have e2 : j + (m - j) = m := by omega
    simp [Nat.min_eq_left hj, e, e2, hm]

theorem markT_step {L : List GN} {l : List Int} {c : Bool} {j : Nat} (hj : j < L.length) : (markT L l c j).set j (decide (L[j].id ∈ l) || (c && L[j].fin)) = markT L l c (j + 1) := by
  apply List.ext_getElem?
  intro m
  by_cases hm : m < L.length
  · rw [List.getElem?_set, markT_at (by omega) hm, markT_at (by omega) hm]
    by_cases e : j = m
    · subst e
      rw [if_pos rfl, if_pos (by rw [markT_length]; exact hm)]
      simp
    · rw [if_neg e]
      have : decide (m < j) = decide (m < j + 1) := by
        by_cases q : m < j
        · rw [decide_eq_true q, decide_eq_true (by omega)]
        · rw [decide_eq_false q, decide_eq_false (by omega)]
      rw [this]
  · rw [List.getElem?_eq_none (by simp [markT_length]; omega), List.getElem?_eq_none (by rw [markT_length]; omega)]

theorem rising_one {L : List GN} (hr : Rising L) {x y : GN} (hx : x ∈ L) (hy : y ∈ L) (e : x.id = y.id) : x = y := by
  obtain ⟨i, hi, rfl⟩ := List.mem_iff_getElem.1 hx
  obtain ⟨j, hj, rfl⟩ := List.mem_iff_getElem.1 hy
  have h := List.pairwise_iff_getElem.1 hr
  rcases Nat.lt_trichotomy i j with q | q | q
  · have := h i j hi hj q; omega
  · subst q; rfl
  · have := h j i hj hi q; omega

theorem markT_all {L : List GN} (hr : Rising L) (l : List Int) (level : Int) : markT L l (decide (4 ≤ level)) L.length = markF L (startL L level l) := by
  unfold markT markF startL
  rw [List.take_length, List.drop_length]
  simp only [List.map_nil, List.append_nil]
  apply List.map_congr_left
  intro nd hnd
  have hf : nd.id ∈ finalsL L ↔ nd.fin = true := by
    unfold finalsL
    rw [mem_ids]
    constructor
    · rintro ⟨x, hx, e⟩
      rw [List.mem_filter] at hx
      rw [← rising_one hr hx.1 hnd e]; exact hx.2
    · intro h
      exact ⟨nd, List.mem_filter.2 ⟨hnd, h⟩, rfl⟩
  by_cases h : 4 ≤ level
  · simp [h, hf]
  · simp [h]

/-- how many cells of a row of truth values are not set -/
def unset (w : World) (B : Nat) : Nat := match w.heap[B]? with
  | some (.cells vs _ _) => vs.toList.countP (fun v => match v with | .bool false => true | _ => false)
  | _ => 0

theorem unset_of {w : World} {B : Nat} {bs : List Bool} {T : TypeId} (h : w.heap[B]? = some (.cells (bools bs) T (0, 0))) : unset w B = bs.countP (fun x => !x) := by
  unfold unset
  rw [h]
  simp only [bools, List.toList_toArray]
  rw [List.countP_map]
  congr 1
  funext x
  cases x <;> rfl

theorem unset_put {bs : List Bool} {k : Nat} (hk : k < bs.length) (h : bs[k] = false) : (bs.set k true).countP (fun x => !x) + 1 = bs.countP (fun x => !x) := by
  have hp : 0 < bs.countP (fun x => !x) := List.countP_pos_iff.2 ⟨bs[k], List.getElem_mem hk, by simp [h]⟩
  rw [List.countP_set hk]
  simp [h]
  omega

open Classical in
theorem close_told {cs : List Cls} {L : List GN} {level : Int} {fr S : List Int} (h1 : ∀ x ∈ startL L level fr, x ∈ S) (h2 : ∀ x ∈ S, x ∈ ids L → x ∈ closeL cs L level fr)
    (h3 : ∀ x ∈ S, x ∈ ids L → ∀ y ∈ nextL cs L level x, y ∈ ids L → y ∈ S) : (ids L).filter (fun x => decide (x ∈ S)) = closeL cs L level fr := by
  have key : ∀ x, Rch (ids L) (nextL cs L level) (fun x => x ∈ startL L level fr) x → x ∈ S := by
    intro x h
    induction h with
    | root a _ => exact h1 _ a
    | step a c d ih => exact h3 _ ih a.inV _ c d
  unfold closeL rchL
  apply List.filter_congr
  intro x hx
  by_cases e : x ∈ S
  · rw [decide_eq_true e, decide_eq_true (mem_rchL.1 (h2 x e hx))]
  · rw [decide_eq_false e, decide_eq_false (fun q => e (key x q))]

theorem filt_snoc {L : List GN} {S : List Int} {j : Nat} (hj : j < L.length) : (ids (L.take (j + 1))).filter (fun x => decide (x ∈ S)) = (ids (L.take j)).filter (fun x => decide (x ∈ S)) ++ (if decide (L[j].id ∈ S) = true then [L[j].id] else []) := by
  rw [take_snocG L j hj]
  unfold ids
  rw [List.map_append, List.filter_append]
  congr 1
  by_cases h : L[j].id ∈ S <;> simp [h]

theorem filt_len (L : List GN) (S : List Int) (j : Nat) : ((ids (L.take j)).filter (fun x => decide (x ∈ S))).length ≤ L.length := by
  refine Nat.le_trans (List.length_filter_le _ _) ?_
  simp [ids]
  omega

/-- how many nodes are not told -/
def un (L : List GN) (S : List Int) : Nat := (markF L S).countP (fun x => !x)

theorem unset_un {w : World} {B : Nat} {L : List GN} {S : List Int} {T : TypeId} (h : w.heap[B]? = some (.cells (bools (markF L S)) T (0, 0))) : unset w B = un L S := unset_of h

theorem un_add {L : List GN} (hr : Rising L) {S : List Int} {p : Nat} (hp : p < L.length) (h : L[p].id ∉ S) : un L (S ++ [L[p].id]) + 1 = un L S := by
  unfold un
  rw [markF_in hr hp]
  exact unset_put (by rw [markF_length]; exact hp) (by simp [markF, h])

theorem row_lt {w : World} {k : Nat} {o : Obj} (h : w.heap[k]? = some o) : k < w.heap.size := (Array.getElem?_eq_some_iff.1 h).1

section
variable {w : World} {b : Nat} {O D : Nat → Prop} {cs : List Cls} {cv : Value} {L : List GN}

set_option maxRecDepth 100000 in
set_option maxHeartbeats 4000000 in
theorem rclose_of (h : Rt w b O D cs cv L) (hr : allRight cs = true) (hL : L.length ≤ 1000) (Df : Nat → Prop) (v : Value) (from_ : List Int) (hv : SeesI Df w v from_) (level : Int) :
    Calls Try.prog 60 #[.pointer (some ⟨b, 0, none⟩), .int .i64 level, v] w fun e w' => ∃ u, e = .returned u ∧ RowAt w' 3 1 u (closeL cs L level from_).length ((closeL cs L level from_).map (Value.int .i64)) ∧ (∀ k, rblk u = some k → w.heap.size ≤ k) ∧ Ch0 w w' := by
  obtain ⟨nv, vr, vd, ow, g⟩ := h.g
  obtain ⟨a, c, rfl, -, -⟩ := g.row.isSlice
  obtain ⟨fa, fc, rfl, hfl⟩ := hv.len
  obtain ⟨k0, k1⟩ := g.cells
  have HG := Lib.hid g
  have H := Lib.hid h
  have HV := Lib.hid hv
  clear g h hv k0
  have mkB := make_bools w L.length (by omega)
  have hb0 := heap_alloc_new w (.cells (bools (List.replicate L.length false)) 4)
  have cM : Ch0 w (w.alloc (.cells (bools (List.replicate L.length false)) 4)) := (Ch.refl _ _).alloc _
  have h0 : List.replicate L.length false = markF L [] := by simp [markF, List.map_const']
  rw [h0] at mkB hb0 cM
  replace hb0 := Lib.hid hb0
  replace cM := Lib.hid cM
  clear h0
  go_enter Try.func60, Try.ntmps60
  go_wp2_with fail
  generalize hB : w.heap.size = B at *
  replace hB := Lib.hid hB
  generalize w.alloc (.cells (bools (markF L [])) 4) = W1 at *
  clear mkB
  go_loopw [28] (fun i wr => ∃ j : Nat, j ≤ from_.length ∧ i = .int .i64 j ∧ wr.heap[B]? = some (.cells (bools (markF L (from_.take j))) 4 (0, 0)) ∧ Ch0 w wr) (fun i _ => from_.length - (intOf i).toNat)
  case atStart => exact ⟨0, Nat.zero_le _, rfl, by simpa using hb0.out, cM.out⟩
  case round =>
    obtain ⟨j, hj, rfl, hb, d⟩ := hrel
    by_cases hlt : j < from_.length
    · obtain ⟨gf, o, c1, -, e1, hcell⟩ := SeesI.cell (HV.out.keep d (fun _ _ e => e)) (by omega)
      obtain ⟨rfl, rfl⟩ : fa = some ⟨gf, o, none⟩ ∧ fc = c1 := by simpa using e1
      have hx := hcell j hlt
      clear hcell e1
      have i1 : (0 : Int) ≤ j := by omega
      have i2 : (j : Int) < from_.length := by omega
      have hat := rat_any (H.out.new d) (from_.getD j 0)
      have HT := Lib.hid (take_step hlt)
      have hB2 := Lib.hid hb
      have D2 := Lib.hid d
      generalize from_.getD j 0 = X at *
      clear hb d
      go_wp2_with fail
      refine hat.mono ?_
      rintro e w1 ⟨rfl, hs⟩
      obtain rfl : wr = w1 := hs
      clear hat
      by_cases hin : X ∈ ids L
      · obtain ⟨p, hp, q1, q2, -⟩ := gpos_some hin
        rw [q1]
        have g0 : decide ((0 : Int) ≤ p) = true := decide_eq_true (by omega)
        have g1 : (0 : Int) ≤ p := by omega
        have g2 : (p : Int) < L.length := by omega
        have hbc := bools_cell hB2.out p (by rw [markF_length]; exact hp)
        have hbf := frozen_of_row wr B p _ _ hB2.out
        have hbp := bools_put hB2.out p true
        have hnew : markF L (from_.take (j + 1)) = (markF L (from_.take j)).set p true := by
          rw [HT.out, ← q2]; exact markF_in H.out.rise hp
        rw [← hnew] at hbp
        have hcs : Ch0 w (wr.setCell ⟨B, p, none⟩ (.bool true)) := D2.out.setCell (fun e => by have := hB.out; simp at e; omega) _
        have HR := Lib.hid (And.intro hbp hcs)
        clear hbp hcs hnew q1 q2 hin
        go_wp2_with fail
        go_roundw
        case rel => exact ⟨j + 1, by omega, by go_num, HR.out.1, HR.out.2⟩
        case measure => simp [intOf]; omega
      · rw [gpos_none hin]
        have HR : Hid (wr.heap[B]? = some (.cells (bools (markF L (from_.take (j + 1)))) 4 (0, 0))) := Lib.hid (by rw [HT.out, markF_out hin]; exact hB2.out)
        clear hin
        go_wp2_with fail
        go_roundw
        case rel => exact ⟨j + 1, by omega, by go_num, HR.out, D2.out⟩
        case measure => simp [intOf]; omega
    · obtain rfl : j = from_.length := by omega
      rw [List.take_length] at hb
      rw [← markT_zero L from_ (decide (4 ≤ level))] at hb
      have z1 := d.cell k1 (fun e => e)
      have hB2 := Lib.hid hb
      have D2 := Lib.hid d
      clear hb d
      go_wp2_with fail
      go_loopw [48] (fun i wr => ∃ j : Nat, j ≤ L.length ∧ i = .int .i64 j ∧ wr.heap[B]? = some (.cells (bools (markT L from_ (decide (4 ≤ level)) j)) 4 (0, 0)) ∧ Ch0 w wr) (fun i _ => L.length - (intOf i).toNat)
      case atStart => exact ⟨0, Nat.zero_le _, rfl, hB2.out, D2.out⟩
      case round =>
        clear hB2 D2 z1
        obtain ⟨j, hj, rfl, hb, d⟩ := hrel
        by_cases hlt : j < L.length
        · obtain ⟨gn, o, c1, e1, -, hcell⟩ := (HG.out.keep d (fun _ _ e => e)).node (by omega)
          obtain ⟨rfl, rfl⟩ : a = some ⟨gn, o, none⟩ ∧ c = c1 := by simpa using e1
          obtain ⟨-, -, -, -, x4⟩ := hcell j hlt
          have z1 := d.cell k1 (fun e => e)
          have i1 : (0 : Int) ≤ j := by omega
          have i2 : (j : Int) < L.length := by omega
          have hbc := bools_cell hb j (by rw [markT_length]; exact hlt)
          rw [markT_get hlt] at hbc
          have hbf := frozen_of_row _ B j _ _ hb
          have hst := markT_step (l := from_) (c := decide (4 ≤ level)) hlt
          have hbp := fun x => bools_put hb j x
          have hcs : Hid (∀ x, Ch0 w (World.setCell _ ⟨B, j, none⟩ (.bool x))) := Lib.hid (fun x => d.setCell (fun e => by have := hB.out; simp at e; omega) _)
          have HR : Hid (_ ∧ _) := Lib.hid (And.intro (hst ▸ hbp _) (hcs.out (decide (L[j].id ∈ from_) || (decide (4 ≤ level) && L[j].fin))))
          clear hst hbp hcs hcell e1
          replace hb := Lib.hid hb
          replace d := Lib.hid d
          generalize decide (L[j].id ∈ from_) = q1 at *
          generalize L[j].fin = q2 at *
          generalize h3 : decide (4 ≤ level) = q3 at *
          cases q1 <;> cases q3
          all_goals
            go_wp2_with fail
          all_goals
            go_roundw
            case rel => exact ⟨j + 1, by omega, by go_num, by first | exact HR.out.1 | (cases q2 <;> exact HR.out.1), by first | exact HR.out.2 | (cases q2 <;> exact HR.out.2)⟩
            case measure => simp [intOf]; omega
        · obtain rfl : j = L.length := by omega
          have z1 := d.cell k1 (fun e => e)
          rw [markT_all H.out.rise] at hb
          have hB2 := Lib.hid hb
          have D2 := Lib.hid d
          clear hb d
          go_wp2_with fail
          go_loopw [11] (fun mo wr => ∃ (m : Bool) (S : List Int), mo = .bool m ∧ wr.heap[B]? = some (.cells (bools (markF L S)) 4 (0, 0)) ∧ Ch0 w wr ∧ (∀ x ∈ startL L level from_, x ∈ S) ∧ (∀ x ∈ S, x ∈ ids L → x ∈ closeL cs L level from_) ∧ (m = false → ∀ x ∈ S, x ∈ ids L → ∀ y ∈ nextL cs L level x, y ∈ ids L → y ∈ S)) (fun mo wr => 2 * unset wr B + (match mo with | .bool true => 1 | _ => 0))
          case atStart =>
            refine ⟨true, startL L level from_, rfl, hB2.out, D2.out, fun _ h => h, ?_, fun h => by cases h⟩
            intro x hx hi
            exact mem_rchL.2 (.root hx hi)
          case round =>
            obtain ⟨m, S, rfl, hb, d, hS1, hS2, hS3⟩ := hrel
            have z1 := d.cell k1 (fun e => e)
            clear hB2 D2
            replace hb := Lib.hid hb
            replace d := Lib.hid d
            replace hS1 := Lib.hid hS1
            replace hS2 := Lib.hid hS2
            replace hS3 := Lib.hid hS3
            cases m
            · go_wp2_with fail
              generalize wr = wo at *
              go_loopw [18, 170] (fun out i wq => ∃ j : Nat, j ≤ L.length ∧ i = .int .i64 j ∧ Ch0 wo wq ∧ RowAt wq 3 1 out ((ids (L.take j)).filter (fun x => decide (x ∈ S))).length (((ids (L.take j)).filter (fun x => decide (x ∈ S))).map (Value.int .i64)) ∧ ∀ k, rblk out = some k → wo.heap.size ≤ k) (fun _ i _ => L.length - (intOf i).toNat)
              case atStart => exact ⟨0, Nat.zero_le _, rfl, Ch.refl _ _, RowAt.nil, (fun k hk => by cases hk)⟩
              case round =>
                obtain ⟨j, hj, rfl, dq, hr4, hf4⟩ := hrel
                obtain ⟨a3, c3, rfl, -, -⟩ := hr4.isSlice
                by_cases hlt : j < L.length
                · have dt := d.out.trans dq
                  have hB4 := dq.keep hb.out (fun e => e)
                  obtain ⟨gn, o, c1, e1, -, hcell⟩ := (HG.out.keep dt (fun _ _ e => e)).node (by omega)
                  obtain ⟨rfl, rfl⟩ : a = some ⟨gn, o, none⟩ ∧ c = c1 := by simpa using e1
                  obtain ⟨x0, -, -, -, -⟩ := hcell j hlt
                  have i1 : (0 : Int) ≤ j := by omega
                  have i2 : (j : Int) < L.length := by omega
                  have hbc := bools_cell hB4 j (by rw [markF_length]; exact hlt)
                  rw [show (markF L S)[j]'(by rw [markF_length]; exact hlt) = decide (L[j].id ∈ S) by simp [markF]] at hbc
                  have z1 := dt.cell k1 (fun e => e)
                  have hfs := filt_snoc (S := S) hlt
                  have hfl := filt_len L S j
                  clear hcell e1 hB4
                  replace dt := Lib.hid dt
                  generalize L[j].id = X at *
                  cases hq : decide (X ∈ S) with
                  | false =>
                    rw [hq] at hbc hfs
                    have HE := Lib.hid (And.intro dq (And.intro hr4 hf4))
                    have HQ : Hid (_ = _) := Lib.hid hfs
                    clear hfs hr4 hf4 dq hq
                    go_wp2_with fail
                    go_roundw
                    case rel => exact ⟨j + 1, by omega, by go_num, HE.out.1, by rw [HQ.out]; simpa using HE.out.2.1, HE.out.2.2⟩
                    case measure => simp [intOf]; omega
                  | true =>
                    rw [hq] at hbc hfs
                    have ca : Ch0 wr (wr.alloc (.cells #[.int .i64 X] 3)) := (Ch.refl _ _).alloc _
                    obtain ⟨a4, c4, w4, hrun, r4, d4, b4⟩ := run_int (hr4.keep ca (fun _ _ e => e)) (by omega) wr.heap.size X (heap_alloc_new wr _) 34
                    have HF : Hid (Ch0 wo w4 ∧ RowAt w4 3 1 (.slice a4 (((ids (L.take j)).filter (fun x => decide (x ∈ S))).length + 1) c4) ((ids (L.take (j + 1))).filter (fun x => decide (x ∈ S))).length (((ids (L.take (j + 1))).filter (fun x => decide (x ∈ S))).map (Value.int .i64)) ∧ ∀ k, rblk (.slice a4 (((ids (L.take j)).filter (fun x => decide (x ∈ S))).length + 1) c4) = some k → wo.heap.size ≤ k) := by
                      refine Lib.hid ⟨(dq.trans ca).trans' d4 (fun _ _ e => e) (fun k hk e => by have := hf4 k e; omega), ?_, ?_⟩
                      · rw [hfs, if_pos rfl, List.length_append]; exact r4
                      · intro k hk
                        rcases b4 with e | e
                        · rw [e] at hk; exact hf4 k hk
                        · rw [e] at hk; cases hk; rw [World.size_alloc]; have := dq.size; omega
                    clear hfs hr4 hf4 dq hq ca r4 d4 b4
                    go_wp2_with (at_builtin; refine wpList_append_run rfl _ _ 34 34 rfl rfl rfl hrun ?_)
                    go_roundw
                    case rel => exact ⟨j + 1, by omega, by go_num, HF.out⟩
                    case measure => simp [intOf]; omega
                · obtain rfl : j = L.length := by omega
                  rw [List.take_length, close_told hS1.out hS2.out (hS3.out (by trivial))] at hr4
                  rw [List.take_length, close_told hS1.out hS2.out (hS3.out (by trivial))] at hf4
                  have hsz := d.out.size
                  have HE := Lib.hid (And.intro hr4 (And.intro (fun k hk => Nat.le_trans hsz (hf4 k hk)) (d.out.trans dq)))
                  rw [List.take_length, close_told hS1.out hS2.out (hS3.out (by trivial))]
                  clear hr4 hf4 dq hsz
                  go_wp2_with fail
                  go_ret
                  exact ⟨_, rfl, HE.out⟩
            · obtain ⟨w3, hw3⟩ : ∃ x, wr = x := ⟨_, rfl⟩
              have hun : Hid (unset w3 B = un L S) := Lib.hid (hw3 ▸ unset_un hb.out)
              replace hw3 := Lib.hid hw3
              go_wp2_with fail
              go_loopw [11, 79] (fun mo i wq => ∃ (m : Bool) (j : Nat) (T : List Int), mo = .bool m ∧ j ≤ L.length ∧ i = .int .i64 j ∧ wq.heap[B]? = some (.cells (bools (markF L T)) 4 (0, 0)) ∧ Ch0 w wq ∧ (∀ x ∈ S, x ∈ T) ∧ (∀ x ∈ T, x ∈ ids L → x ∈ closeL cs L level from_) ∧ (m = false → (∀ x ∈ T, x ∈ ids (L.take j) → ∀ y ∈ nextL cs L level x, y ∈ ids L → y ∈ T) ∧ un L T ≤ un L S) ∧ (m = true → un L T + 1 ≤ un L S)) (fun _ i _ => L.length - (intOf i).toNat)
              case atStart => exact ⟨false, 0, S, rfl, Nat.zero_le _, rfl, hb.out, d.out, fun _ h => h, hS2.out, fun _ => ⟨fun x _ h => by simp [ids] at h, Nat.le_refl _⟩, fun h => by cases h⟩
              case round =>
                obtain ⟨m, j, T, rfl, hj, rfl, hb1, d1, hST, hTC, hT0, hT1⟩ := hrel
                have z1 := d1.cell k1 (fun e => e)
                by_cases hlt : j < L.length
                · generalize wr = wj at *
                  have hBlt := row_lt hb1
                  obtain ⟨gn, o, c1, e1, -, hcell⟩ := (HG.out.keep d1 (fun _ _ e => e)).node (by omega)
                  obtain ⟨rfl, rfl⟩ : a = some ⟨gn, o, none⟩ ∧ c = c1 := by simpa using e1
                  obtain ⟨x0, -, -, -, -⟩ := hcell j hlt
                  have i1 : (0 : Int) ≤ j := by omega
                  have i2 : (j : Int) < L.length := by omega
                  have hbc := bools_cell hb1 j (by rw [markF_length]; exact hlt)
                  rw [show (markF L T)[j]'(by rw [markF_length]; exact hlt) = decide (L[j].id ∈ T) by simp [markF]] at hbc
                  have htk : Hid (ids (L.take (j + 1)) = ids (L.take j) ++ [L[j].id]) := Lib.hid (by unfold ids; rw [take_snocG L j hlt, List.map_append]; rfl)
                  clear hcell e1
                  replace hb1 := Lib.hid hb1
                  replace d1 := Lib.hid d1
                  replace hST := Lib.hid hST
                  replace hTC := Lib.hid hTC
                  replace hT0 := Lib.hid hT0
                  replace hT1 := Lib.hid hT1
                  have hXI := Lib.hid (mem_ids.2 ⟨L[j], List.getElem_mem hlt, rfl⟩ : L[j].id ∈ ids L)
                  generalize L[j].id = X at *
                  cases hq : decide (X ∈ T) with
                  | false =>
                    rw [hq] at hbc
                    have hXT : X ∉ T := of_decide_eq_false hq
                    have HE : Hid (m = false → (∀ x ∈ T, x ∈ ids (L.take (j + 1)) → ∀ y ∈ nextL cs L level x, y ∈ ids L → y ∈ T) ∧ un L T ≤ un L S) := Lib.hid (fun h => by
                      refine ⟨fun x hx hi => ?_, (hT0.out h).2⟩
                      rw [htk.out] at hi
                      rcases List.mem_append.1 hi with q | q
                      · exact (hT0.out h).1 x hx q
                      · exact absurd (List.mem_singleton.1 q ▸ hx) hXT)
                    clear hq hXT
                    go_wp2_with fail
                    go_roundw
                    case rel => exact ⟨m, j + 1, T, rfl, by omega, by go_num, hb1.out, d1.out, hST.out, hTC.out, HE.out, hT1.out⟩
                    case measure => simp [intOf]; omega
                  | true =>
                    rw [hq] at hbc
                    have hXT := Lib.hid (of_decide_eq_true hq : X ∈ T)
                    clear hq
                    have hh := rholds_of (H.out.new d1.out) hr X
                    have HM : Hid (∀ w', Ch0 wj w' → _) := Lib.hid (fun w' (c : Ch0 wj w') => raim_any (H.out.new (d1.out.trans c)) hr X)
                    have hlen := gholds_len H.out.wf X
                    have hnx : nextL cs L level X = gholds cs L X ++ (if (gaim cs L X).1 ≠ 0 ∧ goesB (gaim cs L X).2 level = true then [(gaim cs L X).1] else []) := rfl
                    generalize gholds cs L X = gh at *
                    generalize (gaim cs L X).1 = to at *
                    generalize (gaim cs L X).2 = kd at *
                    obtain ⟨res, hres⟩ : ∃ res, res = nextL cs L level X := ⟨_, rfl⟩
                    replace hnx := Lib.hid (hres.trans hnx)
                    replace hres := Lib.hid hres
                    go_wp2_with fail
                    refine hh.mono ?_
                    rintro e w1 ⟨v1, rfl, r1, f1, c1⟩
                    obtain ⟨a5, c5, rfl, -, -⟩ := r1.isSlice
                    have hm := HM.out _ c1
                    have z1 := c1.cell z1 (fun e => e)
                    have x0 := c1.cell x0 (fun e => e)
                    replace c1 := Lib.hid c1
                    replace r1 := Lib.hid r1
                    replace f1 := Lib.hid f1
                    clear hh HM
                    go_wp2_with fail
                    refine hm.mono ?_
                    rintro e w2 ⟨rfl, n2, hw2⟩
                    have c2 : Ch0 w1 w2 := hw2 ▸ ch_drewN' w1 n2
                    have r2 := r1.out.keep c2 (fun _ _ e => e)
                    replace c2 := Lib.hid (c1.out.trans c2)
                    clear hm c1 r1 hw2
                    refine (if hto : to = 0 then ?kA else if h3 : kd = 3 then (if hl : 2 ≤ level then ?kB else ?kC) else if h4 : kd = 4 then (if hl : 3 ≤ level then ?kD else ?kE) else if h5 : kd = 5 then (if hl : 5 ≤ level then ?kF else ?kG) else ?kH)
                    case' kA =>
                      have t0 : (to != 0) = false := by simp [hto]
                      have hrs : res = gh := by rw [hnx.out, if_neg (fun q => q.1 hto), List.append_nil]
                      obtain ⟨nz, hnz⟩ : ∃ nz, nz = gh.length := ⟨_, rfl⟩
                      have hnl : nz ≤ 61 := by omega
                      rw [← hnz] at r2 f1 ⊢
                      replace hnz : Hid (nz = res.length) := Lib.hid (by rw [hrs]; exact hnz)
                      have HR : Hid (RowAt w2 3 1 (.slice a5 nz c5) nz (res.map (Value.int .i64)) ∧ (∀ k, rblk (.slice a5 nz c5) = some k → wj.heap.size ≤ k) ∧ Ch0 wj w2) := Lib.hid ⟨hrs ▸ r2, f1.out, c2.out⟩
                      clear r2 hto hrs
                      generalize w2 = wz at *
                      generalize a5 = az at *
                      generalize c5 = cz at *
                      go_wp2_with fail
                    case' kB =>
                      subst h3
                      have t0 : (to != 0) = true := by simpa using hto
                      have l0 : decide (2 ≤ level) = true := decide_eq_true hl
                      have hrs : res = gh ++ [to] := by rw [hnx.out, if_pos ⟨hto, by simp [goesB, hl]⟩]
                      have ca : Ch0 w2 (w2.alloc (.cells #[.int .i64 to] 3)) := (Ch.refl _ _).alloc _
                      obtain ⟨az, cz, wz, hrun, r4, d4, b4⟩ := run_int (r2.keep ca (fun _ _ e => e)) (by omega) w2.heap.size to (heap_alloc_new w2 _) 34
                      have HR : Hid (RowAt wz 3 1 (.slice az (gh.length + 1) cz) (gh.length + 1) (res.map (Value.int .i64)) ∧ (∀ k, rblk (.slice az (gh.length + 1) cz) = some k → wj.heap.size ≤ k) ∧ Ch0 wj wz) := by
                        refine Lib.hid ⟨by rw [hrs]; exact r4, ?_, (c2.out.trans ca).trans' d4 (fun _ _ e => e) (fun k hk e => by have := f1.out k e; omega)⟩
                        intro k hk
                        rcases b4 with e | e
                        · rw [e] at hk; exact f1.out k hk
                        · rw [e] at hk; cases hk; rw [World.size_alloc]; have := c2.out.size; omega
                      obtain ⟨nz, hnz⟩ : ∃ nz, nz = gh.length + 1 := ⟨_, rfl⟩
                      have hnl : nz ≤ 61 := by omega
                      rw [← hnz] at HR hrun
                      replace hnz : Hid (nz = res.length) := Lib.hid (by rw [hrs, List.length_append]; exact hnz)
                      clear r2 ca r4 d4 b4 hto hrs hl
                      go_wp2_with (at_builtin; refine wpList_append_run rfl _ _ 34 34 rfl rfl rfl hrun ?_)
                    case' kC =>
                      subst h3
                      have t0 : (to != 0) = true := by simpa using hto
                      have l0 : decide (2 ≤ level) = false := decide_eq_false hl
                      have hrs : res = gh := by rw [hnx.out, if_neg (by simp [goesB, hl]), List.append_nil]
                      obtain ⟨nz, hnz⟩ : ∃ nz, nz = gh.length := ⟨_, rfl⟩
                      have hnl : nz ≤ 61 := by omega
                      rw [← hnz] at r2 f1 ⊢
                      replace hnz : Hid (nz = res.length) := Lib.hid (by rw [hrs]; exact hnz)
                      have HR : Hid (RowAt w2 3 1 (.slice a5 nz c5) nz (res.map (Value.int .i64)) ∧ (∀ k, rblk (.slice a5 nz c5) = some k → wj.heap.size ≤ k) ∧ Ch0 wj w2) := Lib.hid ⟨hrs ▸ r2, f1.out, c2.out⟩
                      clear r2 hto hrs hl
                      generalize w2 = wz at *
                      generalize a5 = az at *
                      generalize c5 = cz at *
                      go_wp2_with fail
                    case' kD =>
                      subst h4
                      have t0 : (to != 0) = true := by simpa using hto
                      have l0 : decide (3 ≤ level) = true := decide_eq_true hl
                      have hrs : res = gh ++ [to] := by rw [hnx.out, if_pos ⟨hto, by simp [goesB, hl]⟩]
                      have ca : Ch0 w2 (w2.alloc (.cells #[.int .i64 to] 3)) := (Ch.refl _ _).alloc _
                      obtain ⟨az, cz, wz, hrun, r4, d4, b4⟩ := run_int (r2.keep ca (fun _ _ e => e)) (by omega) w2.heap.size to (heap_alloc_new w2 _) 34
                      have HR : Hid (RowAt wz 3 1 (.slice az (gh.length + 1) cz) (gh.length + 1) (res.map (Value.int .i64)) ∧ (∀ k, rblk (.slice az (gh.length + 1) cz) = some k → wj.heap.size ≤ k) ∧ Ch0 wj wz) := by
                        refine Lib.hid ⟨by rw [hrs]; exact r4, ?_, (c2.out.trans ca).trans' d4 (fun _ _ e => e) (fun k hk e => by have := f1.out k e; omega)⟩
                        intro k hk
                        rcases b4 with e | e
                        · rw [e] at hk; exact f1.out k hk
                        · rw [e] at hk; cases hk; rw [World.size_alloc]; have := c2.out.size; omega
                      obtain ⟨nz, hnz⟩ : ∃ nz, nz = gh.length + 1 := ⟨_, rfl⟩
                      have hnl : nz ≤ 61 := by omega
                      rw [← hnz] at HR hrun
                      replace hnz : Hid (nz = res.length) := Lib.hid (by rw [hrs, List.length_append]; exact hnz)
                      clear r2 ca r4 d4 b4 hto hrs hl
                      go_wp2_with (at_builtin; refine wpList_append_run rfl _ _ 34 34 rfl rfl rfl hrun ?_)
                    case' kE =>
                      subst h4
                      have t0 : (to != 0) = true := by simpa using hto
                      have l0 : decide (3 ≤ level) = false := decide_eq_false hl
                      have hrs : res = gh := by rw [hnx.out, if_neg (by simp [goesB, hl]), List.append_nil]
                      obtain ⟨nz, hnz⟩ : ∃ nz, nz = gh.length := ⟨_, rfl⟩
                      have hnl : nz ≤ 61 := by omega
                      rw [← hnz] at r2 f1 ⊢
                      replace hnz : Hid (nz = res.length) := Lib.hid (by rw [hrs]; exact hnz)
                      have HR : Hid (RowAt w2 3 1 (.slice a5 nz c5) nz (res.map (Value.int .i64)) ∧ (∀ k, rblk (.slice a5 nz c5) = some k → wj.heap.size ≤ k) ∧ Ch0 wj w2) := Lib.hid ⟨hrs ▸ r2, f1.out, c2.out⟩
                      clear r2 hto hrs hl
                      generalize w2 = wz at *
                      generalize a5 = az at *
                      generalize c5 = cz at *
                      go_wp2_with fail
                    case' kF =>
                      subst h5
                      have t0 : (to != 0) = true := by simpa using hto
                      have l0 : decide (5 ≤ level) = true := decide_eq_true hl
                      have hrs : res = gh ++ [to] := by rw [hnx.out, if_pos ⟨hto, by simp [goesB, hl]⟩]
                      have ca : Ch0 w2 (w2.alloc (.cells #[.int .i64 to] 3)) := (Ch.refl _ _).alloc _
                      obtain ⟨az, cz, wz, hrun, r4, d4, b4⟩ := run_int (r2.keep ca (fun _ _ e => e)) (by omega) w2.heap.size to (heap_alloc_new w2 _) 34
                      have HR : Hid (RowAt wz 3 1 (.slice az (gh.length + 1) cz) (gh.length + 1) (res.map (Value.int .i64)) ∧ (∀ k, rblk (.slice az (gh.length + 1) cz) = some k → wj.heap.size ≤ k) ∧ Ch0 wj wz) := by
                        refine Lib.hid ⟨by rw [hrs]; exact r4, ?_, (c2.out.trans ca).trans' d4 (fun _ _ e => e) (fun k hk e => by have := f1.out k e; omega)⟩
                        intro k hk
                        rcases b4 with e | e
                        · rw [e] at hk; exact f1.out k hk
                        · rw [e] at hk; cases hk; rw [World.size_alloc]; have := c2.out.size; omega
                      obtain ⟨nz, hnz⟩ : ∃ nz, nz = gh.length + 1 := ⟨_, rfl⟩
                      have hnl : nz ≤ 61 := by omega
                      rw [← hnz] at HR hrun
                      replace hnz : Hid (nz = res.length) := Lib.hid (by rw [hrs, List.length_append]; exact hnz)
                      clear r2 ca r4 d4 b4 hto hrs hl
                      go_wp2_with (at_builtin; refine wpList_append_run rfl _ _ 34 34 rfl rfl rfl hrun ?_)
                    case' kG =>
                      subst h5
                      have t0 : (to != 0) = true := by simpa using hto
                      have l0 : decide (5 ≤ level) = false := decide_eq_false hl
                      have hrs : res = gh := by rw [hnx.out, if_neg (by simp [goesB, hl]), List.append_nil]
                      obtain ⟨nz, hnz⟩ : ∃ nz, nz = gh.length := ⟨_, rfl⟩
                      have hnl : nz ≤ 61 := by omega
                      rw [← hnz] at r2 f1 ⊢
                      replace hnz : Hid (nz = res.length) := Lib.hid (by rw [hrs]; exact hnz)
                      have HR : Hid (RowAt w2 3 1 (.slice a5 nz c5) nz (res.map (Value.int .i64)) ∧ (∀ k, rblk (.slice a5 nz c5) = some k → wj.heap.size ≤ k) ∧ Ch0 wj w2) := Lib.hid ⟨hrs ▸ r2, f1.out, c2.out⟩
                      clear r2 hto hrs hl
                      generalize w2 = wz at *
                      generalize a5 = az at *
                      generalize c5 = cz at *
                      go_wp2_with fail
                    case' kH =>
                      have t0 : (to != 0) = true := by simpa using hto
                      have t3 : (kd == 3) = false := by simpa using h3
                      have t4 : (kd == 4) = false := by simpa using h4
                      have t5 : (kd == 5) = false := by simpa using h5
                      have hrs : res = gh := by rw [hnx.out, if_neg (by simp [goesB, h3, h4, h5]), List.append_nil]
                      obtain ⟨nz, hnz⟩ : ∃ nz, nz = gh.length := ⟨_, rfl⟩
                      have hnl : nz ≤ 61 := by omega
                      rw [← hnz] at r2 f1 ⊢
                      replace hnz : Hid (nz = res.length) := Lib.hid (by rw [hrs]; exact hnz)
                      have HR : Hid (RowAt w2 3 1 (.slice a5 nz c5) nz (res.map (Value.int .i64)) ∧ (∀ k, rblk (.slice a5 nz c5) = some k → wj.heap.size ≤ k) ∧ Ch0 wj w2) := Lib.hid ⟨hrs ▸ r2, f1.out, c2.out⟩
                      clear r2 hto hrs h3 h4 h5
                      generalize w2 = wz at *
                      generalize a5 = az at *
                      generalize c5 = cz at *
                      go_wp2_with fail
                    all_goals
                      go_loopw [11, 142] (fun mo i wq => ∃ (m3 : Bool) (t : Nat) (U : List Int), mo = .bool m3 ∧ t ≤ nz ∧ i = .int .i64 t ∧ wq.heap[B]? = some (.cells (bools (markF L U)) 4 (0, 0)) ∧ Ch (fun k => k = B) wz wq ∧ (∀ x ∈ T, x ∈ U) ∧ (∀ x ∈ U, x ∈ ids L → x ∈ closeL cs L level from_) ∧ (m3 = false → U = T ∧ m = false ∧ ∀ y ∈ res.take t, y ∈ ids L → y ∈ T) ∧ (m3 = true → un L U + 1 ≤ un L S)) (fun _ i _ => nz - (intOf i).toNat)
                      case atStart => exact ⟨m, 0, T, rfl, Nat.zero_le _, rfl, HR.out.2.2.keep hb1.out (fun e => e), Ch.refl _ _, fun _ h => h, hTC.out, fun h => ⟨rfl, h, fun y hy => by simp at hy⟩, hT1.out⟩
                      case round =>
                        obtain ⟨m3, t, U, rfl, ht, rfl, hbU, dq, hTU, hUC, hU0, hU1⟩ := hrel
                        have hdW : Hid (Ch0 w wr) := Lib.hid ((d1.out.trans HR.out.2.2).trans' dq (fun _ _ e => e) (fun k hk e => by have := hB.out; have e' : k = B := e; omega))
                        by_cases hlt2 : t < nz
                        · have hs := (HR.out.1.keep dq (fun k hk e => by have := HR.out.2.1 k hk; have e' : k = B := e; omega)).sees
                          have hnz2 := hnz.out
                          rw [show nz = res.length from hnz2] at hs
                          obtain ⟨gf, off, cc, -, e1, hcell⟩ := SeesI.cell hs (by omega)
                          rw [← hnz2] at e1
                          obtain ⟨rfl, rfl⟩ : az = some ⟨gf, off, none⟩ ∧ cz = cc := by simpa using e1
                          have hx := hcell t (by omega)
                          have htk2 : Hid (res.take (t + 1) = res.take t ++ [res.getD t 0]) := Lib.hid (take_step (by omega))
                          have hYr : Hid (res.getD t 0 ∈ res) := Lib.hid (by rw [List.getD_eq_getElem?_getD, List.getElem?_eq_getElem (by omega)]; exact List.getElem_mem _)
                          have j1 : (0 : Int) ≤ t := by omega
                          have j2 : (t : Int) < nz := by omega
                          have hat := rat_any (H.out.new hdW.out) (res.getD t 0)
                          clear hs hnz2 e1 hcell
                          generalize res.getD t 0 = Y at *
                          replace hbU := Lib.hid hbU
                          replace dq := Lib.hid dq
                          replace hTU := Lib.hid hTU
                          replace hUC := Lib.hid hUC
                          replace hU0 := Lib.hid hU0
                          replace hU1 := Lib.hid hU1
                          have HKeep : Hid ((m3 = false → Y ∈ ids L → Y ∈ T) → m3 = false → U = T ∧ m = false ∧ ∀ y ∈ res.take (t + 1), y ∈ ids L → y ∈ T) := Lib.hid (fun hY h => by
                            obtain ⟨q1, q2, q3⟩ := hU0.out h
                            refine ⟨q1, q2, fun y hy hi => ?_⟩
                            rw [htk2.out] at hy
                            rcases List.mem_append.1 hy with q | q
                            · exact q3 y q hi
                            · rw [List.mem_singleton.1 q] at hi ⊢; exact hY h hi)
                          go_wp2_with fail
                          refine hat.mono ?_
                          rintro e w5 ⟨rfl, hs⟩
                          obtain rfl : wr = w5 := hs
                          clear hat
                          by_cases hin : Y ∈ ids L
                          · obtain ⟨p, hp, q1, q2, -⟩ := gpos_some hin
                            rw [q1]
                            have g0 : decide ((0 : Int) ≤ p) = true := decide_eq_true (by omega)
                            have g1 : (0 : Int) ≤ p := by omega
                            have g2 : (p : Int) < L.length := by omega
                            have hbc2 := bools_cell hbU.out p (by rw [markF_length]; exact hp)
                            rw [show (markF L U)[p]'(by rw [markF_length]; exact hp) = decide (L[p].id ∈ U) by simp [markF], q2] at hbc2
                            cases hq2 : decide (Y ∈ U) with
                            | true =>
                              rw [hq2] at hbc2
                              have HE := Lib.hid (HKeep.out (fun h _ => (hU0.out h).1 ▸ of_decide_eq_true hq2))
                              clear hq2 hin q1 q2
                              go_wp2_with fail
                              go_roundw
                              case rel => exact ⟨m3, t + 1, U, rfl, by omega, by go_num, hbU.out, dq.out, hTU.out, hUC.out, HE.out, hU1.out⟩
                              case measure => simp [intOf]; omega
                            | false =>
                              rw [hq2] at hbc2
                              have hYU : Y ∉ U := of_decide_eq_false hq2
                              have hbf := frozen_of_row wr B p _ _ hbU.out
                              have hbp := bools_put hbU.out p true
                              rw [show (markF L U).set p true = markF L (U ++ [Y]) by rw [← q2]; exact (markF_in H.out.rise hp).symm] at hbp
                              have hYC : Y ∈ closeL cs L level from_ := close_next (hTC.out X hXT.out hXI.out) (hres.out ▸ hYr.out) hin
                              have hun2 := un_add H.out.rise hp (S := U) (by rw [q2]; exact hYU)
                              rw [q2] at hun2
                              have HE : Hid (_ ∧ _ ∧ _ ∧ _ ∧ _) := Lib.hid (And.intro hbp (And.intro (show Ch (fun k => k = B) wz (wr.setCell ⟨B, p, none⟩ (.bool true)) from dq.out.setCell (fun _ => rfl) _) (And.intro (show ∀ x ∈ T, x ∈ U ++ [Y] from fun x hx => List.mem_append.2 (.inl (hTU.out x hx))) (And.intro (fun x hx hi => (List.mem_append.1 hx).elim (fun q => hUC.out x q hi) (fun q => List.mem_singleton.1 q ▸ hYC)) (show un L (U ++ [Y]) + 1 ≤ un L S by
                                cases m3 with
                                | true => have := hU1.out rfl; omega
                                | false =>
                                  obtain ⟨e1, e2, -⟩ := hU0.out rfl
                                  have := (hT0.out e2).2
                                  rw [e1] at hun2 ⊢
                                  omega)))))
                              clear hq2 hin q1 q2 hYU hbp hYC hun2
                              go_wp2_with fail
                              go_roundw
                              case rel => exact ⟨true, t + 1, U ++ [Y], rfl, by omega, by go_num, HE.out.1, HE.out.2.1, HE.out.2.2.1, HE.out.2.2.2.1, (fun h => by cases h), (fun _ => HE.out.2.2.2.2)⟩
                              case measure => simp [intOf]; omega
                          · rw [gpos_none hin]
                            have HE := Lib.hid (HKeep.out (fun _ h => absurd h hin))
                            clear hin
                            go_wp2_with fail
                            go_roundw
                            case rel => exact ⟨m3, t + 1, U, rfl, by omega, by go_num, hbU.out, dq.out, hTU.out, hUC.out, HE.out, hU1.out⟩
                            case measure => simp [intOf]; omega
                        · obtain rfl : t = nz := by omega
                          have HE : Hid (_ ∧ _ ∧ _ ∧ _ ∧ _) := Lib.hid (And.intro hbU (And.intro (fun x hx => hTU x (hST.out x hx)) (And.intro hUC (And.intro (show m3 = false → (∀ x ∈ U, x ∈ ids (L.take (j + 1)) → ∀ y ∈ nextL cs L level x, y ∈ ids L → y ∈ U) ∧ un L U ≤ un L S from (fun h => by
                            obtain ⟨e1, e2, e3⟩ := hU0 h
                            rw [hnz.out, List.take_length] at e3
                            subst e1
                            refine ⟨fun x hx hi y hy hyi => ?_, (hT0.out e2).2⟩
                            rw [htk.out] at hi
                            rcases List.mem_append.1 hi with q | q
                            · exact (hT0.out e2).1 x hx q y hy hyi
                            · rw [List.mem_singleton.1 q, ← hres.out] at hy
                              exact e3 y hy hyi)) hU1))))
                          clear hbU dq hTU hUC hU0 hU1
                          go_wp2_with fail
                          go_roundw
                          case rel => exact ⟨m3, j + 1, U, rfl, by omega, by go_num, HE.out.1, hdW.out, HE.out.2.1, HE.out.2.2.1, HE.out.2.2.2.1, HE.out.2.2.2.2⟩
                          case measure => simp [intOf]; omega
                · obtain rfl : j = L.length := by omega
                  have hun1 := unset_un hb1
                  rw [List.take_length] at hT0
                  have HE : Hid (_ ∧ _ ∧ _ ∧ _ ∧ _) := Lib.hid (And.intro hb1 (And.intro d1 (And.intro (fun x hx => hST x (hS1.out x hx)) (And.intro hTC (fun h x hx hi y hy hyi => (hT0 h).1 x hx hi y hy hyi)))))
                  have HMs : Hid (2 * unset wr B + (match Value.bool m with | .bool true => 1 | _ => 0) < 2 * unset w3 B + 1) := Lib.hid (by
                    rw [hun1, hun.out]
                    cases m with
                    | false => have := (hT0 rfl).2; simp; omega
                    | true => have := hT1 rfl; simp; omega)
                  clear hb1 d1 hST hTC hT0 hT1 hun1
                  go_wp2_with fail
                  go_roundw
                  case rel => exact ⟨m, T, rfl, HE.out⟩
                  case measure => have hw := hw3.out; subst hw; exact HMs.out

end

end Go.Proofs.Ytlmeponoadhheaa
