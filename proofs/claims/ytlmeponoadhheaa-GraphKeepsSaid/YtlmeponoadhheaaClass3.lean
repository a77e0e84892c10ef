/-
  A table of classes in memory; contracts of class.New, Len, Of.
-/
import Derived.Test.YtlmeponoadhheaaClass2
namespace Go.Proofs.Ytlmeponoadhheaa
set_option linter.unusedVariables false
open Go.RowKit

/-- A table of classes: its one cell at block p, its classes; all lies in the blocks from lo up to hi. -/
structure Tab (lo hi : Nat) (w : World) (p : Nat) (cs : List Cls) : Prop where
  plo : lo ≤ p
  phi : p < hi
  le : cs.length < 64
  v : ∃ v, w.heap[p]? = some (.cells #[v] 127 (0, 0)) ∧ SeesC (fun k => lo ≤ k ∧ k < hi) w v cs
  fit : Fit cs
  right : allRight cs = true

theorem Tab.keep {lo hi : Nat} {S : Nat → Prop} {w w' : World} {p : Nat} {cs : List Cls} (h : Tab lo hi w p cs) (hc : Ch S w w') (hs : ∀ k, lo ≤ k → k < hi → ¬ S k) : Tab lo hi w' p cs := by
  obtain ⟨v, h1, h2⟩ := h.v
  exact ⟨h.plo, h.phi, h.le, ⟨v, hc.keep h1 (hs p h.plo h.phi), h2.keep hc (fun k hk => hs k hk.1 hk.2)⟩, h.fit, h.right⟩

theorem Tab.mono {lo hi lo' hi' : Nat} {w : World} {p : Nat} {cs : List Cls} (h : Tab lo hi w p cs) (h1 : lo' ≤ lo) (h2 : hi ≤ hi') : Tab lo' hi' w p cs := by
  obtain ⟨v, e1, e2⟩ := h.v
  exact ⟨Nat.le_trans h1 h.plo, Nat.lt_of_lt_of_le h.phi h2, h.le, ⟨v, e1, e2.mono (fun k hk => ⟨by omega, by omega⟩)⟩, h.fit, h.right⟩

set_option maxHeartbeats 400000 in
theorem new_wrong (D : Nat → Prop) (v : Value) (cs : List Cls) (w : World) (hv : SeesC D w v cs) (hf : Fit cs) (hr : allRight cs = false) :
    Calls Try.prog 30 #[v] w fun e w' => e = .returned (.tuple #[.pointer none, .int .i64 1]) ∧ Ch0 w w' := by
  have h := cont_any D v cs w hv hf
  rw [hr] at h
  have H := Lib.hid h
  clear h hv hf hr
  go_enter Try.func30, Try.ntmps30
  go_wp2_with fail
  refine H.out.mono ?_
  rintro e w1 ⟨rfl, c1⟩
  have C1 := Lib.hid c1
  clear c1
  go_wp2_with fail
  go_ret2
  exact ⟨rfl, C1.out⟩

set_option maxHeartbeats 400000 in
theorem new_full (D : Nat → Prop) (v : Value) (cs : List Cls) (w : World) (hv : SeesC D w v cs) (hf : Fit cs) (hr : allRight cs = true) (hl : 64 ≤ cs.length) :
    Calls Try.prog 30 #[v] w fun e w' => e = .returned (.tuple #[.pointer none, .int .i64 3]) ∧ Ch0 w w' := by
  have h := cont_any D v cs w hv hf
  rw [hr] at h
  have H := Lib.hid h
  obtain ⟨a, c, rfl, -⟩ := hv.len
  clear h hv hf hr
  go_enter Try.func30, Try.ntmps30
  go_wp2_with fail
  refine H.out.mono ?_
  rintro e w1 ⟨rfl, c1⟩
  have C1 := Lib.hid c1
  clear c1
  go_wp2_with fail
  go_ret2
  exact ⟨rfl, C1.out⟩

set_option maxHeartbeats 400000 in
theorem new_yes (D : Nat → Prop) (v : Value) (cs : List Cls) (w : World) (hv : SeesC D w v cs) (hf : Fit cs) (hr : allRight cs = true) (hl : cs.length < 64) :
    Calls Try.prog 30 #[v] w fun e w' => (∃ p, e = .returned (.tuple #[.pointer (some ⟨p, 0, none⟩), .int .i64 0]) ∧ Tab w.heap.size w'.heap.size w' p cs) ∧ Ch0 w w' := by
  have h := cont_any D v cs w hv hf
  rw [hr] at h
  have H := Lib.hid h
  have HC := Lib.hid (fun w' (hc : Ch0 w w') => clone_cls D v cs w' (hv.keep hc (fun _ _ q => q)) (by omega))
  obtain ⟨a, c, rfl, -⟩ := hv.len
  have HF := Lib.hid hf
  have HR := Lib.hid hr
  clear h hv hf hr
  go_enter Try.func30, Try.ntmps30
  go_wp2_with fail
  refine H.out.mono ?_
  rintro e w1 ⟨rfl, c1⟩
  have C1 := Lib.hid c1
  clear c1
  go_wp2_with fail
  refine (HC.out _ C1.out).mono ?_
  rintro e w2 ⟨u, rfl, ho, hb, c2⟩
  have C2 := Lib.hid (C1.out.trans c2)
  have s1 := C1.out.size
  obtain ⟨ua, uc, rfl, -⟩ := (sees_of_owns ho).len
  have HO := Lib.hid ho
  have HB := Lib.hid hb
  clear c2 ho hb
  go_wp2_with fail
  go_ret2
  refine ⟨⟨w2.heap.size, rfl, ?_⟩, C2.out.alloc _⟩
  have s2 := C2.out.size
  refine ⟨s2, by simp, hl, ⟨_, heap_alloc_new w2 _, ?_⟩, HF.out, HR.out⟩
  have hs := (sees_of_owns HO.out).keep ((Ch.refl (fun _ => False) w2).alloc (.cells #[.slice ua cs.length uc] 127)) (fun _ _ q => q)
  refine hs.mono (fun k hk => ?_)
  have h1 := HB.out k hk
  have h2 := owns_lt HO.out hk
  simp
  omega

set_option maxHeartbeats 400000 in
theorem tlen_any (lo hi p : Nat) (cs : List Cls) (w : World) (h : Tab lo hi w p cs) :
    Calls Try.prog 124 #[.pointer (some ⟨p, 0, none⟩)] w fun e w' => e = .returned (.int .i64 cs.length) ∧ w = w' := by
  obtain ⟨v, h1, h2⟩ := h.v
  obtain ⟨a, c, rfl, -⟩ := h2.len
  have hc := cell_of_one h1
  clear h h1 h2
  go_enter Try.func124, Try.ntmps124
  go_wp2
  go_ret
  exact ⟨rfl, rfl⟩

set_option maxHeartbeats 400000 in
theorem tlen_nil (w : World) : Calls Try.prog 124 #[.pointer none] w fun e w' => e = .returned (.int .i64 ((0 : Nat) : Int)) ∧ w = w' := by
  go_enter Try.func124, Try.ntmps124
  go_wp2
  go_ret
  exact ⟨rfl, rfl⟩

def Cls.none : Cls := ⟨0, 0, 0, false⟩

set_option maxHeartbeats 400000 in
theorem of_no (v : Value) (L : Nat) (n : Int) (w : World) (hL : L < 64) (hlen : ∀ w', Ch0 w w' → Calls Try.prog 124 #[v] w' fun e w'' => e = .returned (.int .i64 L) ∧ w' = w'') (hn : ¬ (1 ≤ n ∧ n ≤ L)) :
    Calls Try.prog 100 #[v, .int .i64 n] w fun e w' => e = .returned (.tuple #[Cls.none.val, .int .i64 4]) ∧ Ch0 w w' := by
  have HL := Lib.hid hlen
  clear hlen
  by_cases h1 : n < 1
  · clear hn
    go_enter Try.func100, Try.ntmps100
    go_wp2_with fail
    exact bodyPost_ret (v := .tuple #[Cls.none.val, .int .i64 4]) (by simp [results, Try.results100, go_sem]; rfl) rfl ⟨rfl, (Ch.refl _ _).alloc _⟩
  · have h2 : (L : Int) < n := by omega
    clear hn
    go_enter Try.func100, Try.ntmps100
    go_wp2_with fail
    refine (HL.out _ ((Ch.refl _ _).alloc _)).mono ?_
    rintro e w' ⟨rfl, rfl⟩
    go_wp2_with fail
    exact bodyPost_ret (v := .tuple #[Cls.none.val, .int .i64 4]) (by simp [results, Try.results100, go_sem]; rfl) rfl ⟨rfl, (Ch.refl _ _).alloc _⟩

set_option maxHeartbeats 400000 in
theorem of_yes (lo hi p : Nat) (cs : List Cls) (i : Nat) (hi' : i < cs.length) (w : World) (h : Tab lo hi w p cs) :
    Calls Try.prog 100 #[.pointer (some ⟨p, 0, none⟩), .int .i64 (i + 1)] w fun e w' => e = .returned (.tuple #[cs[i].val, .int .i64 0]) ∧ Ch0 w w' := by
  have HL := Lib.hid (fun w' (hc : Ch0 w w') => tlen_any lo hi p cs w' (h.keep hc (fun _ _ _ q => q)))
  obtain ⟨v, h1, h2⟩ := h.v
  have hp := lt_of_block h1
  obtain ⟨g, o, c, hg, rfl, hcells⟩ := SeesC.cells h2 (by omega)
  obtain ⟨m0, m1, m2, m3⟩ := hcells i hi'
  have hgl := block_lt_of_cell m0
  have hc := cell_of_one h1
  have hle := h.le
  clear h h1 h2 hcells
  unfold Cls.val
  generalize cs[i].kind = k at *
  generalize cs[i].refs = r at *
  generalize cs[i].data = d at *
  generalize cs[i].final = f at *
  go_enter Try.func100, Try.ntmps100
  go_wp2_with fail
  refine (HL.out _ ((Ch.refl _ _).alloc _)).mono ?_
  rintro e w' ⟨rfl, rfl⟩
  go_wp2_with fail
  exact bodyPost_ret (v := .tuple #[.agg #[.int .i64 k, .int .i64 r, .int .i64 d, .bool f], .int .i64 0]) (by simp [results, Try.results100, go_sem]) rfl ⟨rfl, (Ch.refl _ _).alloc _⟩

end Go.Proofs.Ytlmeponoadhheaa
