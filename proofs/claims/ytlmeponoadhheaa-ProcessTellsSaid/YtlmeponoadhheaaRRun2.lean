/-
  What the document's Run holds in memory: parts for its contract.
-/
import Derived.Test.YtlmeponoadhheaaPRun
import Derived.Test.YtlmeponoadhheaaRRun1
import Derived.Test.YtlmeponoadhheaaGrows10
namespace Go.Proofs.Ytlmeponoadhheaa
set_option linter.unusedVariables false
open Go.RowKit

theorem SoftI.sub {cs : List Cls} {L : List GN} {keep : Int → Bool} {roots live asked asked' : List Int} (h : SoftI cs L keep roots live asked) (hs : ∀ x ∈ asked', x ∈ asked) : SoftI cs L keep roots live asked' :=
  ⟨h.a, h.b, h.c, h.p, fun x hx => h.q x (hs x hx)⟩

/-- what holds while the document's Run asks which aims are kept -/
structure SoftB (cs : List Cls) (L : List GN) (kp : Int → Bool) (roots : List Int) (w0 w : World) (lv av : Value) (live asked : List Int) : Prop where
  l : RowAt w 3 1 lv live.length (live.map (Value.int .i64))
  a : RowAt w 3 1 av asked.length (asked.map (Value.int .i64))
  lf : ∀ k, rblk lv = some k → w0.heap.size ≤ k ∧ rblk av ≠ some k
  af : ∀ k, rblk av = some k → w0.heap.size ≤ k
  s : SoftI cs L kp roots live asked
  nd : asked.Nodup
  ai : ∀ x ∈ asked, x ∈ ids L
  ch : Ch0 w0 w

section
variable {cs : List Cls} {L : List GN} {kp : Int → Bool} {roots : List Int} {w0 w w' : World} {lv av : Value} {live asked : List Int}

theorem SoftB.new (h : SoftB cs L kp roots w0 w lv av live asked) (c : Ch0 w w') : SoftB cs L kp roots w0 w' lv av live asked :=
  ⟨h.l.keep c (fun _ _ e => e), h.a.keep c (fun _ _ e => e), h.lf, h.af, h.s, h.nd, h.ai, h.ch.trans c⟩

theorem SoftB.alen (h : SoftB cs L kp roots w0 w lv av live asked) : asked.length ≤ L.length := by
  have := nodup_len h.nd h.ai
  simpa [ids] using this

/-- one more is asked, and was not kept -/
theorem SoftB.ask {wx w4 : World} {av' : Value} {x : Int} (h : SoftB cs L kp roots w0 w lv av live asked) (hx : x ∉ asked) (hl : x ∈ live) (cx : Ch0 w wx) (r4 : RowAt w4 3 1 av' (asked.length + 1) ((asked ++ [x]).map (Value.int .i64))) (c4 : Ch (fun k => rblk av = some k) wx w4)
    (b4 : rblk av' = rblk av ∨ rblk av' = some wx.heap.size) (hs : SoftI cs L kp roots live (x :: asked)) : SoftB cs L kp roots w0 w4 lv av' live (asked ++ [x]) := by
  have hlx := h.l.keep cx (fun _ _ e => e)
  refine ⟨hlx.keep c4 (fun k hk e => (h.lf k hk).2 e), by rw [List.length_append]; exact r4, fun k hk => ⟨(h.lf k hk).1, fun e => ?_⟩, fun k hk => ?_, hs.sub (fun y hy => by simp at hy ⊢; exact hy.symm), ?_, ?_, (h.ch.trans cx).trans' c4 (fun _ _ e => e) (fun k hk e => by have := h.af k e; omega)⟩
  · rcases b4 with q | q
    · rw [q] at e; exact (h.lf k hk).2 e
    · rw [q] at e; cases e; have := hlx.lt hk; omega
  · rcases b4 with q | q
    · rw [q] at hk; exact h.af k hk
    · rw [q] at hk; cases hk; have := h.ch.size; have := cx.size; omega
  · rw [List.nodup_append]
    exact ⟨h.nd, by simp, fun a ha b hb e => hx (by rw [List.mem_singleton.1 hb] at e; exact e ▸ ha)⟩
  · intro y hy
    rcases List.mem_append.1 hy with q | q
    · exact h.ai y q
    · rw [List.mem_singleton.1 q]; exact live_ids (h.s.a _ hl)

/-- one more is asked, was kept, and what is live is found anew -/
theorem SoftB.enterE {wx w4 w9 : World} {av' lv' : Value} {live' : List Int} {x : Int} (h : SoftB cs L kp roots w0 w lv av live asked) (hx : x ∉ asked) (hl : x ∈ live) (cx : Ch0 w wx) (r4 : RowAt w4 3 1 av' (asked.length + 1) ((asked ++ [x]).map (Value.int .i64))) (c4 : Ch (fun k => rblk av = some k) wx w4)
    (b4 : rblk av' = rblk av ∨ rblk av' = some wx.heap.size) (c9 : Ch0 w4 w9) (r9 : RowAt w9 3 1 lv' live'.length (live'.map (Value.int .i64))) (f9 : ∀ k, rblk lv' = some k → w4.heap.size ≤ k) (hs : SoftI cs L kp roots live' (x :: asked)) : SoftB cs L kp roots w0 w9 lv' av' live' (asked ++ [x]) := by
  have h04 : Ch0 w0 w4 := (h.ch.trans cx).trans' c4 (fun _ _ e => e) (fun k hk e => by have := h.af k e; omega)
  refine ⟨r9, by rw [List.length_append]; exact r4.keep c9 (fun _ _ e => e), fun k hk => ⟨by have := f9 k hk; have := h04.size; omega, fun e => by have := r4.lt e; have := f9 k hk; omega⟩, fun k hk => ?_, hs.sub (fun y hy => by simp at hy ⊢; exact hy.symm), ?_, ?_, h04.trans c9⟩
  · rcases b4 with q | q
    · rw [q] at hk; exact h.af k hk
    · rw [q] at hk; cases hk; have := h.ch.size; have := cx.size; omega
  · rw [List.nodup_append]
    exact ⟨h.nd, by simp, fun a ha b hb e => hx (by rw [List.mem_singleton.1 hb] at e; exact e ▸ ha)⟩
  · intro y hy
    rcases List.mem_append.1 hy with q | q
    · exact h.ai y q
    · rw [List.mem_singleton.1 q]; exact live_ids (h.s.a _ hl)

/-- what is live, found anew -/
theorem SoftB.again {lv' : Value} {live' : List Int} (h : SoftB cs L kp roots w0 w lv av live asked) (c : Ch0 w w') (r : RowAt w' 3 1 lv' live'.length (live'.map (Value.int .i64))) (f : ∀ k, rblk lv' = some k → w.heap.size ≤ k) (hs : SoftI cs L kp roots live' asked) : SoftB cs L kp roots w0 w' lv' av live' asked :=
  ⟨r, h.a.keep c (fun _ _ e => e), fun k hk => ⟨by have := f k hk; have := h.ch.size; omega, fun e => by have := h.a.lt e; have := f k hk; omega⟩, h.af, hs, h.nd, h.ai, h.ch.trans c⟩

end

def moreN (v : Value) : Nat := match v with
  | .bool true => 1
  | _ => 0

/-- block r: a Result of the document's that is being filled; all of it behind M -/
structure ResR (M : Nat) (w : World) (r : Nat) (cv fv : Value) (C F : List Int) : Prop where
  blk : w.heap[r]? = some (.cells #[.slice none 0 0, cv, fv] 94 (0, 0))
  c : RowAt w 3 1 cv C.length (C.map (Value.int .i64))
  f : RowAt w 3 1 fv F.length (F.map (Value.int .i64))
  cb : ∀ k, rblk cv = some k → M ≤ k
  fb : ∀ k, rblk fv = some k → M ≤ k
  rb : M ≤ r
  ap : ∀ k, rblk cv = some k → rblk fv ≠ some k

section
variable {M r : Nat} {w w' : World} {cv fv : Value} {C F : List Int}

theorem ResR.keep {S : Nat → Prop} (h : ResR M w r cv fv C F) (c : Ch S w w') (h0 : ¬ S r) (h1 : ∀ k, rblk cv = some k → ¬ S k) (h2 : ∀ k, rblk fv = some k → ¬ S k) : ResR M w' r cv fv C F :=
  ⟨c.keep h.blk h0, h.c.keep c h1, h.f.keep c h2, h.cb, h.fb, h.rb, h.ap⟩

theorem ResR.new (h : ResR M w r cv fv C F) (c : Ch0 w w') : ResR M w' r cv fv C F := h.keep c (fun e => e) (fun _ _ e => e) (fun _ _ e => e)

theorem ResR.ne (h : ResR M w r cv fv C F) : (∀ k, rblk cv = some k → ¬ k = r) ∧ (∀ k, rblk fv = some k → ¬ k = r) :=
  ⟨row_ne_cells h.c h.blk (by decide), row_ne_cells h.f h.blk (by decide)⟩

theorem ResR.cells (h : ResR M w r cv fv C F) : w.cell? ⟨r, 0, none⟩ = some (.slice none 0 0) ∧ w.cell? ⟨r, 1, none⟩ = some cv ∧ w.cell? ⟨r, 2, none⟩ = some fv :=
  ⟨cell_of_row w r 0 _ _ _ h.blk, cell_of_row w r 1 _ _ _ h.blk, cell_of_row w r 2 _ _ _ h.blk⟩

/-- one more is cleared -/
theorem ResR.addC {wx w4 : World} {cv' : Value} {C' : List Int} (h : ResR M w r cv fv C F) (hM : M ≤ w.heap.size) (c5 : Ch0 w wx) (c4 : Ch (fun k => rblk cv = some k) wx w4) (r4 : RowAt w4 3 1 cv' C'.length (C'.map (Value.int .i64))) (b4 : rblk cv' = rblk cv ∨ rblk cv' = some wx.heap.size) :
    ResR M (w4.setCell ⟨r, 1, none⟩ cv') r cv' fv C' F ∧ Ch (fun k => k = r ∨ rblk cv = some k) w (w4.setCell ⟨r, 1, none⟩ cv') := by
  have hx := h.new c5
  have hne := h.ne
  have hb4 : w4.heap[r]? = some (.cells #[.slice none 0 0, cv, fv] 94 (0, 0)) := c4.keep hx.blk (fun e => hne.1 _ e rfl)
  have hf4 := hx.f.keep c4 (fun k hk e => h.ap k e hk)
  have hn4 := row_ne_cells r4 hb4 (by decide)
  have cS : Ch (fun k => k = r) w4 (w4.setCell ⟨r, 1, none⟩ cv') := (Ch.refl (fun k => k = r) w4).setCell (p := ⟨r, 1, none⟩) (fun _ => rfl) cv'
  have hnew : ∀ k, rblk cv' = some k → M ≤ k ∧ rblk fv ≠ some k := fun k hk => by
    rcases b4 with e | e
    · rw [e] at hk
      exact ⟨h.cb k hk, h.ap k hk⟩
    · rw [e] at hk
      cases hk
      refine ⟨by have := c5.size; omega, fun q => ?_⟩
      have := hx.f.lt q; omega
  refine ⟨⟨?_, r4.keep cS hn4, hf4.keep cS hne.2, fun k hk => (hnew k hk).1, h.fb, h.rb, fun k hk => (hnew k hk).2⟩, ?_⟩
  · rw [heap_setCell_same w4 r 1 _ _ _ hb4]
    rfl
  · exact (c5.of0.trans (c4.mono (fun k _ e => .inr e))).trans (cS.mono (fun k _ e => .inl e))

/-- one more is to be finalized -/
theorem ResR.addF {wx w4 : World} {fv' : Value} {F' : List Int} (h : ResR M w r cv fv C F) (hM : M ≤ w.heap.size) (c5 : Ch0 w wx) (c4 : Ch (fun k => rblk fv = some k) wx w4) (r4 : RowAt w4 3 1 fv' F'.length (F'.map (Value.int .i64))) (b4 : rblk fv' = rblk fv ∨ rblk fv' = some wx.heap.size) :
    ResR M (w4.setCell ⟨r, 2, none⟩ fv') r cv fv' C F' ∧ Ch (fun k => k = r ∨ rblk fv = some k) w (w4.setCell ⟨r, 2, none⟩ fv') := by
  have hx := h.new c5
  have hne := h.ne
  have hb4 : w4.heap[r]? = some (.cells #[.slice none 0 0, cv, fv] 94 (0, 0)) := c4.keep hx.blk (fun e => hne.2 _ e rfl)
  have hc4 := hx.c.keep c4 (fun k hk e => h.ap k hk e)
  have hn4 := row_ne_cells r4 hb4 (by decide)
  have cS : Ch (fun k => k = r) w4 (w4.setCell ⟨r, 2, none⟩ fv') := (Ch.refl (fun k => k = r) w4).setCell (p := ⟨r, 2, none⟩) (fun _ => rfl) fv'
  have hnew : ∀ k, rblk fv' = some k → M ≤ k ∧ rblk cv ≠ some k := fun k hk => by
    rcases b4 with e | e
    · rw [e] at hk
      exact ⟨h.fb k hk, fun q => h.ap k q hk⟩
    · rw [e] at hk
      cases hk
      refine ⟨by have := c5.size; omega, fun q => ?_⟩
      have := hx.c.lt q; omega
  refine ⟨⟨?_, hc4.keep cS hne.1, r4.keep cS hn4, h.cb, fun k hk => (hnew k hk).1, h.rb, fun k hk e => (hnew k e).2 hk⟩, ?_⟩
  · rw [heap_setCell_same w4 r 2 _ _ _ hb4]
    rfl
  · exact (c5.of0.trans (c4.mono (fun k _ e => .inr e))).trans (cS.mono (fun k _ e => .inl e))

end

theorem filter_snoc (P : Int → Bool) (xs : List Int) {j : Nat} (hj : j < xs.length) : (xs.take (j + 1)).filter P = (xs.take j).filter P ++ (if P (xs.getD j 0) = true then [xs.getD j 0] else []) := by
  rw [take_snocI xs hj, List.filter_append]
  congr 1
  cases h : P (xs.getD j 0) <;> simp only [List.filter, h] <;> rfl

/-- while a row is read, a Result is filled: the row lies apart from it -/
def Off (w : World) (lv cv : Value) (r : Nat) : Prop := ∀ k, rblk lv = some k → k ≠ r ∧ rblk cv ≠ some k ∧ k < w.heap.size

theorem Off.new {w w' : World} {lv cv : Value} {r : Nat} (h : Off w lv cv r) (c : Ch0 w w') : Off w' lv cv r := fun k hk => ⟨(h k hk).1, (h k hk).2.1, Nat.lt_of_lt_of_le (h k hk).2.2 c.size⟩

theorem Off.add {w wx w' : World} {lv cv cv' : Value} {r : Nat} {S : Nat → Prop} (h : Off w lv cv r) (c5 : Ch0 w wx) (c : Ch S w w') (b4 : rblk cv' = rblk cv ∨ rblk cv' = some wx.heap.size) : Off w' lv cv' r := fun k hk => by
  refine ⟨(h k hk).1, fun e => ?_, Nat.lt_of_lt_of_le (h k hk).2.2 c.size⟩
  rcases b4 with q | q
  · rw [q] at e; exact (h k hk).2.1 e
  · rw [q] at e; cases e; have := (h _ hk).2.2; have := c5.size; omega

/-- one more is cleared, while a row is read -/
theorem ResR.stepC {M r : Nat} {w5 wx w4 W0 : World} {lv fv : Value} {live cj F : List Int} {ca a' : Option Addr} {cc c' : Nat} {X : Int} (h : ResR M w5 r (.slice ca cj.length cc) fv cj F) (hO : Off w5 lv (.slice ca cj.length cc) r) (hl : RowAt w5 3 1 lv live.length (live.map (Value.int .i64)))
    (c0 : Ch0 W0 w5) (hW : W0.heap.size = M) (c5 : Ch0 w5 wx) (c4 : Ch (fun k => rblk (.slice ca cj.length cc) = some k) wx w4) (b4 : rblk (.slice a' (cj.length + 1) c') = rblk (.slice ca cj.length cc) ∨ rblk (.slice a' (cj.length + 1) c') = some wx.heap.size)
    (r4 : RowAt w4 3 1 (.slice a' (cj.length + 1) c') (cj.length + 1) ((cj ++ [X]).map (Value.int .i64))) :
    ResR M (w4.setCell ⟨r, 1, none⟩ (.slice a' (cj.length + 1) c')) r (.slice a' (cj.length + 1) c') fv (cj ++ [X]) F ∧ Off (w4.setCell ⟨r, 1, none⟩ (.slice a' (cj.length + 1) c')) lv (.slice a' (cj.length + 1) c') r ∧
      RowAt (w4.setCell ⟨r, 1, none⟩ (.slice a' (cj.length + 1) c')) 3 1 lv live.length (live.map (Value.int .i64)) ∧ Ch0 W0 (w4.setCell ⟨r, 1, none⟩ (.slice a' (cj.length + 1) c')) := by
  have hM : M ≤ w5.heap.size := by have := c0.size; omega
  have hS := h.addC (C' := cj ++ [X]) hM c5 c4 (by rw [List.length_append]; exact r4) b4
  refine ⟨hS.1, hO.add c5 hS.2 b4, hl.keep hS.2 (fun k hk e => ?_), c0.trans' hS.2 (fun _ _ e => e) (fun k hk e => ?_)⟩
  · rcases e with e | e
    · exact (hO k hk).1 e
    · exact (hO k hk).2.1 e
  · rcases e with e | e
    · have := h.rb; omega
    · have := h.cb k e; omega

def p1 (cs : List Cls) (L : List GN) (live : List Int) (id : Int) : Bool := lostB cs L live id && !decide ((gaim cs L id).2 = 5)
def p2 (cs : List Cls) (L : List GN) (live old : List Int) (id : Int) : Bool := (lostB cs L live id && !decide ((gaim cs L id).2 = 5)) && !decide (id ∈ old)
def p3 (cs : List Cls) (L : List GN) (live : List Int) (id : Int) : Bool := lostB cs L live id && decide ((gaim cs L id).2 = 5)

theorem clr_p1 {cs : List Cls} {L : List GN} (hr : allRight cs = true) (hw : ∀ nd ∈ L, WfN cs nd) (hi : RefsIn L) (live : List Int) : live.filter (p1 cs L live) = clear1 cs L live := by
  unfold clear1
  rw [clear_doc hr hw hi]
  apply List.filter_congr
  intro id _
  simp [p1]

theorem clr_p2 {cs : List Cls} {L : List GN} (hr : allRight cs = true) (hw : ∀ nd ∈ L, WfN cs nd) (hi : RefsIn L) (live old : List Int) : live.filter (p2 cs L live old) = clrL cs L [3, 4] live old := by
  rw [clear_doc hr hw hi]
  rfl

theorem clr_p3 {cs : List Cls} {L : List GN} (s t : List Int) : t.filter (p3 cs L t) = clrL cs L [5] t (clear2 cs L s t) := by
  rw [clear_last]
  rfl

/-- what was told before is not told again: of a list without doubles the one at hand is none of those ahead -/
theorem take_not {xs : List Int} (hn : xs.Nodup) {j : Nat} (hj : j < xs.length) (P : Int → Bool) : xs.getD j 0 ∉ (xs.take j).filter P := fun h => by
  have h1 := (List.mem_filter.1 h).1
  have hx : xs.getD j 0 = xs[j] := by rw [List.getD_eq_getElem?_getD, List.getElem?_eq_getElem hj]; rfl
  rw [hx] at h1
  obtain ⟨m, hm, e⟩ := List.mem_iff_getElem.1 h1
  have hm' : m < j := by simp at hm; omega
  rw [List.getElem_take] at e
  exact (List.pairwise_iff_getElem.1 hn) m j (by omega) hj hm' e

/-- one more is to be finalized, stored -/
theorem ResR.stepF {M r : Nat} {w5 wx w4 W0 : World} {cv : Value} {C fj : List Int} {fa a' : Option Addr} {fc c' : Nat} {X : Int} (h : ResR M w5 r cv (.slice fa fj.length fc) C fj)
    (c0 : Ch0 W0 w5) (hW : W0.heap.size = M) (c5 : Ch0 w5 wx) (c4 : Ch (fun k => rblk (.slice fa fj.length fc) = some k) wx w4) (b4 : rblk (.slice a' (fj.length + 1) c') = rblk (.slice fa fj.length fc) ∨ rblk (.slice a' (fj.length + 1) c') = some wx.heap.size)
    (r4 : RowAt w4 3 1 (.slice a' (fj.length + 1) c') (fj.length + 1) ((fj ++ [X]).map (Value.int .i64))) :
    ResR M (w4.setCell ⟨r, 2, none⟩ (.slice a' (fj.length + 1) c')) r cv (.slice a' (fj.length + 1) c') C (fj ++ [X]) ∧ Ch (fun k => k = r ∨ rblk (.slice fa fj.length fc) = some k) w5 (w4.setCell ⟨r, 2, none⟩ (.slice a' (fj.length + 1) c')) ∧ Ch0 W0 (w4.setCell ⟨r, 2, none⟩ (.slice a' (fj.length + 1) c')) ∧
      (∀ k, k < w5.heap.size → rblk (.slice fa fj.length fc) ≠ some k → rblk (.slice a' (fj.length + 1) c') ≠ some k) := by
  have hM : M ≤ w5.heap.size := by have := c0.size; omega
  have hS := h.addF (F' := fj ++ [X]) hM c5 c4 (by rw [List.length_append]; exact r4) b4
  refine ⟨hS.1, hS.2, c0.trans' hS.2 (fun _ _ e => e) (fun k hk e => ?_), fun k hk hn e => ?_⟩
  · rcases e with e | e
    · have := h.rb; omega
    · have := h.fb k e; omega
  · rcases b4 with q | q
    · rw [q] at e; exact hn e
    · rw [q] at e; cases e; have := c5.size; omega

end Go.Proofs.Ytlmeponoadhheaa
