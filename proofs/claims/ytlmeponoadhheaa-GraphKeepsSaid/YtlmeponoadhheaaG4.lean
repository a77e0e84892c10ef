/-
  A graph with its table; contracts of (*graph.Graph).Node where there is none, Holds, Aim.
-/
import Derived.Test.YtlmeponoadhheaaG3
namespace Go.Proofs.Ytlmeponoadhheaa
set_option linter.unusedVariables false
open Go.RowKit

def kindOf (cs : List Cls) (n : Int) : Int := (cs.getD (n - 1).toNat Cls.none).kind

/-- a node as a class wants it -/
structure WfN (cs : List Cls) (nd : GN) : Prop where
  c1 : 1 ≤ nd.cls
  c2 : nd.cls ≤ cs.length
  refs : nd.refs.length ≤ 60
  data : nd.data.length ≤ 60
  aim : holdsC cs nd.cls 0 = false → 1 ≤ nd.refs.length
  id : 1 ≤ nd.id
  idm : nd.id ≤ 9223372036854775807

/-- a graph, its table, its classes -/
structure Gt (w : World) (b : Nat) (O : Nat → Prop) (cs : List Cls) (L : List GN) (p lo hi : Nat) : Prop where
  g : Gr w b O (.pointer (some ⟨p, 0, none⟩)) L
  t : Tab lo hi w p cs
  off : ∀ k, lo ≤ k → k < hi → ¬ O k
  hiw : hi ≤ w.heap.size
  wf : ∀ nd ∈ L, WfN cs nd

section
variable {w w' : World} {b : Nat} {O O' : Nat → Prop} {cs : List Cls} {L L' : List GN} {p lo hi : Nat}

theorem Gt.keep (h : Gt w b O cs L p lo hi) {S : Nat → Prop} (c : Ch S w w') (h1 : ∀ k, O k → ¬ S k) (h2 : ∀ k, lo ≤ k → k < hi → ¬ S k) : Gt w' b O cs L p lo hi where
  g := h.g.keep c h1
  t := h.t.keep c h2
  off := h.off
  hiw := Nat.le_trans h.hiw c.size
  wf := h.wf

theorem Gt.new (h : Gt w b O cs L p lo hi) (c : Ch0 w w') : Gt w' b O cs L p lo hi := h.keep c (fun _ _ e => e) (fun _ _ _ e => e)

theorem Gt.turn (h : Gt w b O cs L p lo hi) (hg : Gr w' b O' (.pointer (some ⟨p, 0, none⟩)) L') (t : Turn w w' O O') (hw : ∀ nd ∈ L', WfN cs nd) : Gt w' b O' cs L' p lo hi where
  g := hg
  t := h.t.keep t.1 h.off
  off := fun k h1 h2 e => by
    rcases t.2 k e with e | e
    · exact h.off k h1 h2 e
    · have := h.hiw; omega
  hiw := Nat.le_trans h.hiw t.1.size
  wf := hw

end

theorem ch_drewN' (w : World) (n : Nat) : Ch0 w (w.drewN n) := (Ch.refl _ w).drewN n

theorem zeroNode (w : World) : (zeroValue 36).run Try.prog w = .ok (.agg #[.int .i64 0, .int .i64 0, .slice none 0 0, .slice none 0 0, .bool false]) w := by
  have h : ∃ i, Try.prog.info? 36 = some i ∧ i.zero = some (.agg #[.int .i64 0, .int .i64 0, .slice none 0 0, .slice none 0 0, .bool false]) := by
    have e : (Try.prog.info? 36).map (fun i => i.zero) = some (some (.agg #[.int .i64 0, .int .i64 0, .slice none 0 0, .slice none 0 0, .bool false])) := by kernel_rfl
    rw [Option.map_eq_some_iff] at e
    exact e
  obtain ⟨i, h1, h2⟩ := h
  simp [zeroValue, typeInfo, h1, h2, Result.andThen]

def noNode : Value := .agg #[.int .i64 0, .int .i64 0, .slice none 0 0, .slice none 0 0, .bool false]

section
variable {w : World} {b : Nat} {O : Nat → Prop} {tv : Value} {L : List GN} {cs : List Cls} {p lo hi : Nat}

set_option maxRecDepth 100000 in
set_option maxHeartbeats 400000 in
theorem node_no (h : Gr w b O tv L) {id : Int} (hid : id ∉ ids L) :
    Calls Try.prog 33 #[.pointer (some ⟨b, 0, none⟩), .int .i64 id] w fun e w' => e = .returned (.tuple #[noNode, .int .i64 7]) ∧ Ch0 w w' := by
  obtain ⟨r, n, pn, vr, vd, ow, h⟩ := h
  have hz := zeroNode w
  have cA : Ch0 w (w.alloc (.cells #[.int .i64 0, .int .i64 0, .slice none 0 0, .slice none 0 0, .bool false] 36)) := (Ch.refl _ _).alloc _
  have hl := look_no (h.keep cA (fun _ _ e => e)) hid
  clear h hid
  go_enter Try.func33, Try.ntmps33
  go_wp2_with fail
  refine hl.mono ?_
  rintro e w1 ⟨rfl, hs⟩
  obtain rfl := hs
  clear hl
  go_wp2_with fail
  exact bodyPost_ret (v := .tuple #[.agg #[.int .i64 0, .int .i64 0, .slice none 0 0, .slice none 0 0, .bool false], .int .i64 7]) (by simp [results, Try.results33, go_sem]) rfl ⟨rfl, cA⟩

/-! ### what a node holds -/

def heldTo (cs : List Cls) (nd : GN) (k : Nat) : List Int := (List.range k).flatMap (fun i => if nd.refs.getD i 0 ≠ 0 ∧ holdsC cs nd.cls i = true then [nd.refs.getD i 0] else [])

def held (cs : List Cls) (nd : GN) : List Int := heldTo cs nd nd.refs.length

def gholds (cs : List Cls) (L : List GN) (id : Int) : List Int :=
  match gat L id with
  | none => []
  | some nd => held cs nd

theorem heldTo_succ (cs : List Cls) (nd : GN) (k : Nat) : heldTo cs nd (k + 1) = heldTo cs nd k ++ (if nd.refs.getD k 0 ≠ 0 ∧ holdsC cs nd.cls k = true then [nd.refs.getD k 0] else []) := by
  simp [heldTo, List.range_succ]

theorem heldTo_len (cs : List Cls) (nd : GN) (k : Nat) : (heldTo cs nd k).length ≤ k := by
  induction k with
  | zero => simp [heldTo]
  | succ k ih => rw [heldTo_succ, List.length_append]; split <;> simp <;> omega

set_option maxRecDepth 100000 in
set_option maxHeartbeats 1000000 in
theorem holds_of (h : Gt w b O cs L p lo hi) (id : Int) :
    Calls Try.prog 34 #[.pointer (some ⟨b, 0, none⟩), .int .i64 id] w fun e w' => ∃ v, e = .returned v ∧ RowAt w' 3 1 v (gholds cs L id).length ((gholds cs L id).map (Value.int .i64)) ∧ (∀ k, rblk v = some k → w.heap.size ≤ k) ∧ Ch0 w w' := by
  obtain ⟨hg, ht, hoff, hiw, hwf⟩ := h
  obtain ⟨r, n, pn, vr, vd, ow, h⟩ := hg
  cases hat : gat L id with
  | none =>
    have e0 : gholds cs L id = [] := by unfold gholds; rw [hat]
    rw [e0]
    have hl := look_no h (gat_none hat)
    clear h hat e0 ht hoff hwf hiw
    go_enter Try.func34, Try.ntmps34
    go_wp2_with fail
    refine hl.mono ?_
    rintro e w1 ⟨rfl, hs⟩
    obtain rfl : w = w1 := hs
    clear hl
    go_wp2_with fail
    go_ret
    exact ⟨_, rfl, RowAt.nil, (fun k hk => by cases hk), Ch.refl _ _⟩
  | some nd =>
    obtain ⟨hnd, rfl⟩ := gat_mem hat
    have e0 : gholds cs L nd.id = held cs nd := by unfold gholds; rw [hat]
    rw [e0]
    unfold held
    have hid : nd.id ∈ ids L := List.mem_map.2 ⟨nd, hnd, rfl⟩
    have hl := look_yes h hid
    have hN := h.node nd hnd
    obtain ⟨a, c, ev, hlc, hcm⟩ := hN.refs.isSlice
    have hlen := (hwf nd hnd).refs
    have HN := Lib.hid hN
    have HG := Lib.hid h.blk
    have HT := Lib.hid ht
    obtain ⟨g0, g1⟩ := h.cells
    obtain ⟨k0, k1, k2, k3, k4⟩ := hN.cells
    rw [ev] at k2
    replace ev := Lib.hid ev
    generalize pn nd.id = P at *
    clear h hat e0 ht hoff hwf hiw hN hid hnd
    go_enter Try.func34, Try.ntmps34
    go_wp2_with fail
    refine hl.mono ?_
    rintro e w1 ⟨rfl, hs⟩
    obtain rfl : w = w1 := hs
    clear hl
    go_wp2_with fail
    go_loopw [6, 19] (fun out i wr => ∃ j : Nat, j ≤ nd.refs.length ∧ i = .int .i64 j ∧ Ch0 w wr ∧ RowAt wr 3 1 out (heldTo cs nd j).length ((heldTo cs nd j).map (Value.int .i64)) ∧ ∀ k, rblk out = some k → w.heap.size ≤ k) (fun _ i _ => nd.refs.length - (intOf i).toNat)
    case atStart => exact ⟨0, Nat.zero_le _, rfl, Ch.refl _ _, by simpa [heldTo] using RowAt.nil, (fun k hk => by cases hk)⟩
    case round =>
      obtain ⟨j, hj, rfl, d, hr, hf⟩ := hrel
      clear g0 g1 k0 k1 k2 k3 k4
      by_cases hlt : j < nd.refs.length
      · obtain ⟨g, o, c1, -, e1, hcell⟩ := SeesI.cell (HN.out.refs.sees.keep d (fun _ _ e => e)) (by omega)
        rw [ev.out] at e1
        obtain ⟨rfl, rfl⟩ : a = some ⟨g, o, none⟩ ∧ c = c1 := by simpa using e1
        have hx := hcell j hlt
        have hsn := heldTo_succ cs nd j
        have hhl := heldTo_len cs nd j
        have g0 := cell_of_row wr b 0 _ _ _ (d.keep HG.out (fun e => e))
        have k1 := (HN.out.keep d (fun _ _ e => e)).cells.2.1
        simp at g0
        have HH : Hid (∀ w', Ch0 wr w' → Calls Try.prog 102 #[.pointer (some ⟨p, 0, none⟩), .int .i64 nd.cls, .int .i64 j] w' fun e w'' => e = .returned (.bool (holdsC cs nd.cls j)) ∧ Ch0 w' w'') :=
          Lib.hid (fun w' c => holds_any lo hi p cs nd.cls j w' (HT.out.keep (d.trans c) (fun _ _ _ e => e)))
        obtain ⟨a3, c3, rfl, -, -⟩ := hr.isSlice
        have i1 : (0 : Int) ≤ j := by omega
        have i2 : (j : Int) < nd.refs.length := by omega
        clear hcell e1
        generalize nd.refs.getD j 0 = X at *
        generalize holdsC cs nd.cls j = B at *
        by_cases hX : X = 0
        · have t0 : (X != 0) = false := by simp [hX]
          have HE := Lib.hid (And.intro d (And.intro hr hf))
          have HS : Hid (heldTo cs nd (j + 1) = heldTo cs nd j) := Lib.hid (by rw [hsn, if_neg (fun e => e.1 hX), List.append_nil])
          clear d hr hf hsn hX HH
          go_wp2_with fail
          go_quiet (fail)
          go_wp2_with fail
          go_roundw
          case rel => exact ⟨j + 1, by omega, by go_num, HE.out.1.drewN _, by rw [HS.out]; exact HE.out.2.1.keep (ch_drewN' _ _) (fun _ _ e => e), HE.out.2.2⟩
          case measure => simp [intOf]; omega
        · have t0 : (X != 0) = true := by simpa using hX
          cases B with
          | false =>
            have HE := Lib.hid (And.intro d (And.intro hr hf))
            have HS : Hid (heldTo cs nd (j + 1) = heldTo cs nd j) := Lib.hid (by rw [hsn, if_neg (fun e => by cases e.2), List.append_nil])
            clear d hr hf hsn hX
            go_wp2_with fail
            go_region_held3 (fun w' => w'.cell? ⟨b, 0, none⟩ = some (.pointer (some ⟨p, 0, none⟩)) ∧ w'.cell? ⟨P, 1, none⟩ = some (.int .i64 nd.cls))
              (first | go_keep | exact ⟨cx.cell (by simpa using g0) (fun e => e), cx.cell (by simpa using k1) (fun e => e)⟩)
              ((go_at_call 102; refine (HH.out _ ?_).mono ?_; exact (Ch.refl _ _).drew; rintro e wx ⟨rfl, cx⟩))
            rename_i hheld
            have HC := Lib.hid ((Ch.refl (fun _ => False) wr).drew.trans cx)
            clear hheld cx HH
            go_wp2_with fail
            go_roundw
            case rel => exact ⟨j + 1, by omega, by go_num, HE.out.1.trans HC.out, by rw [HS.out]; exact HE.out.2.1.keep HC.out (fun _ _ e => e), HE.out.2.2⟩
            case measure => simp [intOf]; omega
          | true =>
            have HE := Lib.hid (And.intro d (And.intro hr hf))
            have HS : Hid (heldTo cs nd (j + 1) = heldTo cs nd j ++ [X]) := Lib.hid (by rw [hsn, if_pos ⟨hX, rfl⟩])
            have hml : (heldTo cs nd j).length < 4294967296 := by omega
            clear d hr hf hsn hX
            go_wp2_with fail
            go_region_held3 (fun w' => w'.cell? ⟨b, 0, none⟩ = some (.pointer (some ⟨p, 0, none⟩)) ∧ w'.cell? ⟨P, 1, none⟩ = some (.int .i64 nd.cls))
              (first | go_keep | exact ⟨cx.cell (by simpa using g0) (fun e => e), cx.cell (by simpa using k1) (fun e => e)⟩)
              ((go_at_call 102; refine (HH.out _ ?_).mono ?_; exact (Ch.refl _ _).drew; rintro e wx ⟨rfl, cx⟩))
            rename_i hheld
            have HC := (Ch.refl (fun _ => False) wr).drew.trans cx
            have ca : Ch0 wx (wx.alloc (.cells #[.int .i64 X] 3)) := (Ch.refl _ _).alloc _
            obtain ⟨a4, c4, w4, hrun, r4, d4, b4⟩ := run_int ((HE.out.2.1.keep HC (fun _ _ e => e)).keep ca (fun _ _ e => e)) hml wx.heap.size X (heap_alloc_new wx _) 34
            have HF : Hid (Ch0 w w4 ∧ RowAt w4 3 1 (.slice a4 ((heldTo cs nd j).length + 1) c4) (heldTo cs nd (j + 1)).length ((heldTo cs nd (j + 1)).map (Value.int .i64)) ∧ ∀ k, rblk (.slice a4 ((heldTo cs nd j).length + 1) c4) = some k → w.heap.size ≤ k) := by
              refine Lib.hid ⟨((HE.out.1.trans HC).trans ca).trans' d4 (fun _ _ e => e) (fun k hk e => by have := HE.out.2.2 k e; omega), ?_, ?_⟩
              · rw [HS.out, List.length_append]; exact r4
              · intro k hk
                rcases b4 with e | e
                · rw [e] at hk; exact HE.out.2.2 k hk
                · rw [e] at hk; cases hk; rw [World.size_alloc]; have := (HE.out.1.trans HC).size; omega
            clear hheld cx HH HC ca r4 d4 b4
            go_wp2_with (at_builtin; refine wpList_append_run rfl _ _ 34 34 rfl rfl rfl hrun ?_)
            go_roundw
            case rel => exact ⟨j + 1, by omega, by go_num, HF.out.1, HF.out.2.1, HF.out.2.2⟩
            case measure => simp [intOf]; omega
      · obtain rfl : j = nd.refs.length := by omega
        have HE := Lib.hid (And.intro d (And.intro hr hf))
        obtain ⟨a3, c3, rfl, -, -⟩ := hr.isSlice
        clear d hr hf
        go_wp2_with fail
        go_ret
        exact ⟨_, rfl, HE.out.2.1, HE.out.2.2, HE.out.1⟩

end

end Go.Proofs.Ytlmeponoadhheaa
