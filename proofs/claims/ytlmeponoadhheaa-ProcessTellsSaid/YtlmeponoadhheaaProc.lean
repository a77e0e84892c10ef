/-
  What becomes of references when nodes go: plain.
-/
import Derived.Test.YtlmeponoadhheaaStrLaw2
namespace Go.Proofs.Ytlmeponoadhheaa
set_option linter.unusedVariables false

section
variable (cs : List Cls) (L : List GN)

/-- the aim of a Soft node that is kept -/
def softTo (keep : Int → Bool) (id : Int) : List Int := if (gaim cs L id).1 ≠ 0 ∧ (gaim cs L id).2 = 3 ∧ keep id = true then [(gaim cs L id).1] else []

def nextK (keep : Int → Bool) (id : Int) : List Int := gholds cs L id ++ softTo cs L keep id

/-- what is live ahead of what is to be finalized -/
noncomputable def liveL (keep : Int → Bool) (roots : List Int) : List Int := rchL (ids L) (nextK cs L keep) (fun x => x ∈ roots)

def lostB (live : List Int) (id : Int) : Bool := decide ((gaim cs L id).1 ≠ 0) && !decide ((gaim cs L id).1 ∈ live)

def clrB (kinds live old : List Int) (id : Int) : Bool := lostB cs L live id && (decide ((gaim cs L id).2 ∈ kinds) && !decide (id ∈ old))

def clrL (kinds live old : List Int) : List Int := live.filter (clrB cs L kinds live old)

def isFin (id : Int) : Bool := match gat L id with
  | some nd => nd.fin
  | none => false

def finL (live : List Int) : List Int := (ids L).filter (fun id => isFin L id && !decide (id ∈ live))

/-- what is live at last -/
noncomputable def endL (s : List Int) : List Int := closeL cs L 1 (s ++ finL L s)

def clear1 (s : List Int) : List Int := clrL cs L [3, 4] s []
def clear2 (s t : List Int) : List Int := clear1 cs L s ++ clrL cs L [3, 4] t (clear1 cs L s)
def clear3 (s t : List Int) : List Int := clear2 cs L s t ++ clrL cs L [5] t (clear2 cs L s t)

end

section
variable {cs : List Cls} {L : List GN}

theorem close1_next (id : Int) : nextL cs L 1 id = gholds cs L id := by
  unfold nextL aimTo
  rw [if_neg, List.append_nil]
  rintro ⟨_, h⟩
  unfold goesB at h
  simp at h

theorem close1_start (r : List Int) : startL L 1 r = r := by simp [startL]

theorem mem_close1 {r : List Int} {x : Int} : x ∈ closeL cs L 1 r ↔ Rch (ids L) (gholds cs L) (fun x => x ∈ r) x := by
  rw [mem_closeL, close1_start]
  rw [show nextL cs L 1 = gholds cs L from funext close1_next]

theorem mem_liveL {keep : Int → Bool} {r : List Int} {x : Int} : x ∈ liveL cs L keep r ↔ Rch (ids L) (nextK cs L keep) (fun x => x ∈ r) x := mem_rchL

theorem live_ids {keep : Int → Bool} {r : List Int} {x : Int} (h : x ∈ liveL cs L keep r) : x ∈ ids L := (mem_liveL.1 h).inV

theorem live_strong {keep : Int → Bool} {r : List Int} {x : Int} (h : x ∈ closeL cs L 1 r) : x ∈ liveL cs L keep r :=
  mem_liveL.2 ((mem_close1.1 h).mono' (fun _ _ hy => List.mem_append.2 (.inl hy)) (fun _ hs => hs))

theorem live_mono {k k' : Int → Bool} (hk : ∀ id, k id = true → k' id = true) {r : List Int} {x : Int} (h : x ∈ liveL cs L k r) : x ∈ liveL cs L k' r := by
  refine mem_liveL.2 ((mem_liveL.1 h).mono' (fun x y hy => ?_) (fun _ hs => hs))
  unfold nextK softTo at *
  rcases List.mem_append.1 hy with q | q
  · exact List.mem_append.2 (.inl q)
  · refine List.mem_append.2 (.inr ?_)
    split at q
    · rename_i e
      rw [if_pos ⟨e.1, e.2.1, hk _ e.2.2⟩]; exact q
    · cases q

theorem live_held {keep : Int → Bool} {r : List Int} {x y : Int} (h : x ∈ liveL cs L keep r) (hy : y ∈ gholds cs L x) (hV : y ∈ ids L) : y ∈ liveL cs L keep r :=
  mem_liveL.2 (.step (mem_liveL.1 h) (List.mem_append.2 (.inl hy)) hV)

theorem live_soft {keep : Int → Bool} {r : List Int} {x : Int} (h : x ∈ liveL cs L keep r) (h0 : (gaim cs L x).1 ≠ 0) (h3 : (gaim cs L x).2 = 3) (hk : keep x = true) (hV : (gaim cs L x).1 ∈ ids L) : (gaim cs L x).1 ∈ liveL cs L keep r :=
  mem_liveL.2 (.step (mem_liveL.1 h) (List.mem_append.2 (.inr (by unfold softTo; rw [if_pos ⟨h0, h3, hk⟩]; simp))) hV)

theorem live_rising (hr : Rising L) {keep : Int → Bool} {r : List Int} : (liveL cs L keep r).Pairwise (· < ·) := rchL_rising (rising_ids hr)

/-- where nothing soft is kept just what is strong is live -/
theorem live_none {r : List Int} : liveL cs L (fun _ => false) r = closeL cs L 1 r := by
  unfold liveL closeL
  apply rchL_congr
  intro x
  rw [close1_start, show nextL cs L 1 = gholds cs L from funext close1_next, show nextK cs L (fun _ => false) = gholds cs L from funext (fun y => by simp [nextK, softTo])]

/-- where all that is soft is kept, all that is soft is live -/
theorem live_all {r : List Int} : liveL cs L (fun _ => true) r = closeL cs L 2 r := by
  unfold liveL closeL
  apply rchL_congr
  intro x
  rw [show startL L 2 r = r by simp [startL], show nextL cs L 2 = nextK cs L (fun _ => true) from funext (fun y => by
    unfold nextL nextK aimTo softTo
    congr 1
    have : goesB (gaim cs L y).2 2 = true ↔ (gaim cs L y).2 = 3 := by unfold goesB; simp
    by_cases h3 : (gaim cs L y).2 = 3
    · have h4 := this.2 h3
      simp only [h3] at h4
      simp [h3, h4]
    · rw [if_neg (fun q => h3 (this.1 q.2)), if_neg (fun q => h3 q.2.1)])]

theorem lostB_iff {live : List Int} {id : Int} : lostB cs L live id = true ↔ (gaim cs L id).1 ≠ 0 ∧ (gaim cs L id).1 ∉ live := by
  unfold lostB; simp

theorem lostB_sub {s t : List Int} (h : ∀ x ∈ s, x ∈ t) {id : Int} (hl : lostB cs L t id = true) : lostB cs L s id = true := by
  rw [lostB_iff] at *
  exact ⟨hl.1, fun q => hl.2 (h _ q)⟩

theorem mem_clrL {kinds live old : List Int} {id : Int} : id ∈ clrL cs L kinds live old ↔ id ∈ live ∧ lostB cs L live id = true ∧ (gaim cs L id).2 ∈ kinds ∧ id ∉ old := by
  unfold clrL clrB
  rw [List.mem_filter]
  simp

theorem mem_clear1 {s : List Int} {id : Int} : id ∈ clear1 cs L s ↔ id ∈ s ∧ lostB cs L s id = true ∧ ((gaim cs L id).2 = 3 ∨ (gaim cs L id).2 = 4) := by
  unfold clear1
  rw [mem_clrL]
  simp

theorem mem_clear2 {s t : List Int} {id : Int} : id ∈ clear2 cs L s t ↔ id ∈ clear1 cs L s ∨ (id ∈ t ∧ lostB cs L t id = true ∧ ((gaim cs L id).2 = 3 ∨ (gaim cs L id).2 = 4)) := by
  unfold clear2
  rw [List.mem_append, mem_clrL]
  by_cases h : id ∈ clear1 cs L s <;> simp [h]

theorem clear2_kind {s t : List Int} {id : Int} (h : id ∈ clear2 cs L s t) : (gaim cs L id).2 = 3 ∨ (gaim cs L id).2 = 4 := by
  rcases mem_clear2.1 h with q | q
  · exact (mem_clear1.1 q).2.2
  · exact q.2.2

theorem mem_clear3 {s t : List Int} {id : Int} : id ∈ clear3 cs L s t ↔ id ∈ clear2 cs L s t ∨ (id ∈ t ∧ lostB cs L t id = true ∧ (gaim cs L id).2 = 5) := by
  unfold clear3
  rw [List.mem_append, mem_clrL]
  by_cases h : id ∈ clear2 cs L s t <;> simp [h]

/-- the document's last pass asks not what was cleared before -/
theorem clear_last {s t : List Int} : clrL cs L [5] t (clear2 cs L s t) = t.filter (fun id => lostB cs L t id && decide ((gaim cs L id).2 = 5)) := by
  unfold clrL clrB
  apply List.filter_congr
  intro id _
  by_cases h5 : (gaim cs L id).2 = 5
  · have : id ∉ clear2 cs L s t := fun q => by have := clear2_kind q; omega
    simp [h5, this]
  · simp [h5]

theorem lost_kind (hr : allRight cs = true) (hw : ∀ nd ∈ L, WfN cs nd) (hi : RefsIn L) {live : List Int} {id : Int} (h : lostB cs L live id = true) : (gaim cs L id).1 ∈ ids L ∧ ((gaim cs L id).2 = 3 ∨ (gaim cs L id).2 = 4 ∨ (gaim cs L id).2 = 5) := by
  have h0 := (lostB_iff.1 h).1
  rcases gaim_in hr hw hi id with q | q
  · exact absurd q.1 h0
  · exact ⟨q.1.resolve_left h0, q.2⟩

/-- the document's clearing: of any kind but Phantom -/
theorem clear_doc (hr : allRight cs = true) (hw : ∀ nd ∈ L, WfN cs nd) (hi : RefsIn L) (live old : List Int) : clrL cs L [3, 4] live old = live.filter (fun id => (lostB cs L live id && !decide ((gaim cs L id).2 = 5)) && !decide (id ∈ old)) := by
  unfold clrL clrB
  apply List.filter_congr
  intro id _
  cases h : lostB cs L live id with
  | false => rfl
  | true =>
    have := (lost_kind hr hw hi h).2
    have e : decide ((gaim cs L id).2 ∈ [3, 4]) = !decide ((gaim cs L id).2 = 5) := by
      rcases this with q | q | q <;> rw [q] <;> decide
    rw [e]
    simp

theorem mem_finL {s : List Int} {id : Int} : id ∈ finL L s ↔ id ∈ ids L ∧ isFin L id = true ∧ id ∉ s := by
  unfold finL
  rw [List.mem_filter]
  simp

theorem end_sub {s : List Int} (hs : ∀ x ∈ s, x ∈ ids L) : ∀ x ∈ s, x ∈ endL cs L s := fun x hx => close_root (List.mem_append.2 (.inl hx)) (hs x hx)

theorem end_fin {s : List Int} : ∀ x ∈ finL L s, x ∈ endL cs L s := fun x hx => close_root (List.mem_append.2 (.inr hx)) (mem_finL.1 hx).1

theorem end_ids {s : List Int} {x : Int} (h : x ∈ endL cs L s) : x ∈ ids L := closeL_ids h

theorem end_held {s : List Int} {x y : Int} (h : x ∈ endL cs L s) (hy : y ∈ gholds cs L x) (hV : y ∈ ids L) : y ∈ endL cs L s := close_next h (by rw [close1_next]; exact hy) hV

theorem end_rising (hr : Rising L) {s : List Int} : (endL cs L s).Pairwise (· < ·) := rchL_rising (rising_ids hr)

theorem close_of_closed {s : List Int} (hr : Rising L) (hp : s.Pairwise (· < ·)) (hs : ∀ x ∈ s, x ∈ ids L) (hc : ∀ x ∈ s, ∀ y ∈ gholds cs L x, y ∈ ids L → y ∈ s) : closeL cs L 1 s = s := by
  refine rising_ext (rchL_rising (rising_ids hr)) hp (fun x => ⟨fun h => ?_, fun h => close_root h (hs x h)⟩)
  have h1 := mem_close1.1 h
  clear h
  induction h1 with
  | root a _ => exact a
  | step _ b c ih => exact hc _ ih _ b c

/-- where nothing is to be finalized -/
theorem end_nofin (hr : Rising L) {keep : Int → Bool} {r : List Int} (h : finL L (liveL cs L keep r) = []) : endL cs L (liveL cs L keep r) = liveL cs L keep r := by
  unfold endL
  rw [h, List.append_nil]
  exact close_of_closed hr (live_rising hr) (fun x => live_ids) (fun x hx y hy hV => live_held hx hy hV)

/-- a search that enters the aims of what is kept -/
structure SoftI (cs : List Cls) (L : List GN) (keep : Int → Bool) (roots live asked : List Int) : Prop where
  a : ∀ x ∈ live, x ∈ liveL cs L keep roots
  b : ∀ x ∈ roots, x ∈ ids L → x ∈ live
  c : ∀ x ∈ live, ∀ y ∈ gholds cs L x, y ∈ ids L → y ∈ live
  p : live.Pairwise (· < ·)
  q : ∀ x ∈ asked, keep x = true → (gaim cs L x).1 ∈ live

variable {keep : Int → Bool} {roots live asked : List Int}

theorem SoftI.start (hr : Rising L) : SoftI cs L keep roots (closeL cs L 1 roots) [] where
  a := fun x hx => live_strong hx
  b := fun x hx hV => close_root hx hV
  c := fun x hx y hy hV => close_next hx (by rw [close1_next]; exact hy) hV
  p := rchL_rising (rising_ids hr)
  q := fun x hx => by cases hx

theorem SoftI.enter (h : SoftI cs L keep roots live asked) (hr : Rising L) {x : Int} (hx : x ∈ live) (h3 : (gaim cs L x).2 = 3) (h0 : (gaim cs L x).1 ≠ 0) (hV : (gaim cs L x).1 ∈ ids L) (hk : keep x = true) : SoftI cs L keep roots (closeL cs L 1 (live ++ [(gaim cs L x).1])) (x :: asked) where
  a := fun y hy => by
    have h1 := mem_close1.1 hy
    clear hy
    induction h1 with
    | root a _ =>
      rcases List.mem_append.1 a with q | q
      · exact h.a _ q
      · rw [List.mem_singleton.1 q]
        exact live_soft (h.a _ hx) h0 h3 hk hV
    | step _ b c ih => exact live_held ih b c
  b := fun y hy hyV => close_root (List.mem_append.2 (.inl (h.b y hy hyV))) hyV
  c := fun y hy z hz hzV => close_next hy (by rw [close1_next]; exact hz) hzV
  p := rchL_rising (rising_ids hr)
  q := fun y hy hky => by
    rcases List.mem_cons.1 hy with q | q
    · rw [q]; exact close_root (List.mem_append.2 (.inr (by simp))) hV
    · have := h.q y q hky
      exact close_root (List.mem_append.2 (.inl this)) (live_ids (h.a _ this))

theorem SoftI.ask (h : SoftI cs L keep roots live asked) {x : Int} (hk : keep x = false) : SoftI cs L keep roots live (x :: asked) where
  a := h.a
  b := h.b
  c := h.c
  p := h.p
  q := fun y hy hky => by
    rcases List.mem_cons.1 hy with q | q
    · rw [q, hk] at hky; cases hky
    · exact h.q y q hky

theorem SoftI.more (h : SoftI cs L keep roots live asked) {t : Int} (ht : t ∉ live) (hV : t ∈ ids L) : live.length < (closeL cs L 1 (live ++ [t])).length := by
  have hn : live.Nodup := h.p.imp (fun q => by omega)
  have := nodup_len (s := t :: live) (V := closeL cs L 1 (live ++ [t])) (List.nodup_cons.2 ⟨ht, hn⟩) (by
    intro y hy
    rcases List.mem_cons.1 hy with q | q
    · rw [q]; exact close_root (List.mem_append.2 (.inr (by simp))) hV
    · exact close_root (List.mem_append.2 (.inl q)) (live_ids (h.a _ q)))
  rw [List.length_cons] at this
  omega

theorem SoftI.len (h : SoftI cs L keep roots live asked) : live.length ≤ L.length := by
  have := nodup_len (s := live) (V := ids L) (h.p.imp (fun q => by omega)) (fun x hx => live_ids (h.a _ hx))
  simpa [ids] using this

theorem SoftI.done (h : SoftI cs L keep roots live asked) (hr : Rising L) (hend : ∀ x ∈ live, lostB cs L live x = true → (gaim cs L x).2 = 3 → keep x = false) : live = liveL cs L keep roots := by
  refine rising_ext h.p (live_rising hr) (fun x => ⟨h.a x, fun hx => ?_⟩)
  have h1 := mem_liveL.1 hx
  clear hx
  induction h1 with
  | root a b => exact h.b _ a b
  | step _ b c ih =>
    unfold nextK softTo at b
    rcases List.mem_append.1 b with q | q
    · exact h.c _ ih _ q c
    · split at q
      · rename_i e
        rw [List.mem_singleton.1 q]
        refine Classical.byContradiction (fun hn => ?_)
        have := hend _ ih (lostB_iff.2 ⟨e.1, hn⟩) e.2.1
        rw [this] at e
        exact absurd e.2.2 (by simp)
      · cases q

theorem SoftI.old (h : SoftI cs L keep roots live asked) {x : Int} (hx : x ∈ asked) (hl : lostB cs L live x = true) : keep x = false := by
  cases hk : keep x with
  | false => rfl
  | true => exact absurd (h.q x hx hk) (lostB_iff.1 hl).2

end

end Go.Proofs.Ytlmeponoadhheaa
