/-
  Contracts of (*graph.Graph).Ids, Words.
-/
import Derived.Test.YtlmeponoadhheaaG4
import Derived.Test.YtlmeponoadhheaaKeys
namespace Go.Proofs.Ytlmeponoadhheaa
set_option linter.unusedVariables false
open Go.RowKit

/-- the words of some nodes -/
def wordsOfN (nd : GN) : Int := 2 + nd.refs.length + nd.data.length
def gwords (L : List GN) : Int := (L.map wordsOfN).sum

theorem gwords_snoc (L : List GN) (nd : GN) : gwords (L ++ [nd]) = gwords L + wordsOfN nd := by simp [gwords]

theorem take_snocG (L : List GN) (k : Nat) (h : k < L.length) : L.take (k + 1) = L.take k ++ [L[k]] := by rw [List.take_succ_eq_append_getElem h]

theorem gwords_le (cs : List Cls) (L : List GN) (h : ∀ nd ∈ L, WfN cs nd) : 0 ≤ gwords L ∧ gwords L ≤ 122 * L.length := by
  induction L with
  | nil => simp [gwords]
  | cons a l ih =>
    have h1 := ih (fun nd hnd => h nd (by simp [hnd]))
    have h2 := h a (by simp)
    have h3 := h2.refs
    have h4 := h2.data
    have e : gwords (a :: l) = wordsOfN a + gwords l := by simp [gwords]
    rw [e]
    unfold wordsOfN
    simp only [List.length_cons]
    omega

section
variable {w : World} {b : Nat} {O : Nat → Prop} {cs : List Cls} {L : List GN} {p lo hi : Nat}

theorem Gt.len (h : Gt w b O cs L p lo hi) : True := trivial

set_option maxHeartbeats 400000 in
theorem ids_of (h : Gt w b O cs L p lo hi) (hL : L.length ≤ 1000000) :
    Calls Try.prog 35 #[.pointer (some ⟨b, 0, none⟩)] w fun e w' => ∃ v, e = .returned v ∧ RowAt w' 3 1 v (ids L).length ((ids L).map (Value.int .i64)) ∧ (∀ k, rblk v = some k → w.heap.size ≤ k) ∧ Ch0 w w' := by
  obtain ⟨hg, ht, hoff, hiw, hwf⟩ := h
  obtain ⟨r, n, pn, vr, vd, ow, h⟩ := hg
  have g1 := h.cells.2
  have hsome : ∀ k, (gmap L pn k).isSome = decide (k ∈ ids L) := fun k => by unfold gmap; split <;> simp_all
  have hr : (ids L).Pairwise (· < ·) := by unfold ids; rw [List.pairwise_map]; exact h.rise
  have hn : n = L.length := by
    have := h.map.count (hr.imp (fun h => by omega)) (fun k => by rw [hsome]; simp)
    rw [← this]; simp [ids]
  have cA : Ch0 w (w.alloc (.cells #[.map (some r)] 128)) := (Ch.refl _ _).alloc _
  have hs := sortedN_c (h.map.keep cA (fun e => e)) (fun k hk => by
    rw [hsome] at hk
    obtain ⟨nd, hnd, rfl⟩ := List.mem_map.1 (of_decide_eq_true hk)
    have h1 := (hwf nd hnd).id
    have h2 := (hwf nd hnd).idm
    simp [Lit.wf, IntKind.min, IntKind.max, IntKind.signed, IntKind.bits]
    omega) (by omega) hr (fun k => by rw [hsome]; simp) (bB := w.heap.size) (cell_of_one (heap_alloc_new w _))
  have hk := keysN_c r w
  have HC := Lib.hid cA
  clear h ht hoff hiw hwf cA hsome hr hn
  go_enter Try.func35, Try.ntmps35
  go_wp2_with fail
  refine hk.mono ?_
  rintro e w1 ⟨rfl, rfl⟩
  clear hk
  go_wp2_with fail
  refine hs.mono ?_
  rintro e w2 ⟨v, rfl, r2, f2, c2⟩
  have HE := Lib.hid (And.intro r2 (And.intro (show ∀ k, rblk v = some k → w.heap.size ≤ k from fun k hk => by have := f2 k hk; rw [World.size_alloc] at this; omega) (HC.out.trans c2)))
  clear hs r2 f2 c2
  go_wp2_with fail
  go_ret
  exact ⟨v, rfl, HE.out⟩

set_option maxRecDepth 100000 in
set_option maxHeartbeats 1000000 in
theorem words_of (h : Gt w b O cs L p lo hi) (hL : L.length ≤ 1000000) :
    Calls Try.prog 36 #[.pointer (some ⟨b, 0, none⟩)] w fun e w' => e = .returned (.int .i64 (gwords L)) ∧ Ch0 w w' := by
  have hi := ids_of h hL
  have HW := Lib.hid (fun k => gwords_le cs (L.take k) (fun nd hnd => h.wf nd (List.mem_of_mem_take hnd)))
  have HF := Lib.hid h.wf
  obtain ⟨hg, ht, hoff, hiw, hwf⟩ := h
  obtain ⟨r, n, pn, vr, vd, ow, h⟩ := hg
  have HG := Lib.hid h
  clear h ht hoff hiw hwf
  go_enter Try.func36, Try.ntmps36
  go_wp2_with fail
  refine hi.mono ?_
  rintro e w1 ⟨v, rfl, r1, f1, c1⟩
  obtain ⟨a, c, ev, -, -⟩ := r1.isSlice
  rw [show (ids L).length = L.length by simp [ids]] at ev r1
  subst ev
  replace r1 := Lib.hid r1
  replace c1 := Lib.hid c1
  clear hi f1
  go_wp2_with fail
  go_loopw [3, 10] (fun s i wr => ∃ j : Nat, j ≤ L.length ∧ i = .int .i64 j ∧ s = .int .i64 (gwords (L.take j)) ∧ Ch0 w1 wr) (fun _ i _ => L.length - (intOf i).toNat)
  case atStart => exact ⟨0, Nat.zero_le _, rfl, rfl, Ch.refl _ _⟩
  case round =>
    obtain ⟨j, hj, rfl, rfl, d⟩ := hrel
    by_cases hlt : j < L.length
    · have hs : SeesI (fun k => rblk (.slice a L.length c) = some k) wr (.slice a L.length c) (ids L) := by
        have := (r1.out.keep d (fun _ _ e => e)).sees
        rw [show L.length = (ids L).length by simp [ids]] at this ⊢
        exact this
      obtain ⟨g, o, c2, -, e1, hcell⟩ := hs.cell (by simp [ids]; omega)
      rw [show (ids L).length = L.length by simp [ids]] at e1
      obtain ⟨rfl, rfl⟩ : a = some ⟨g, o, none⟩ ∧ c = c2 := by simpa using e1
      have hx := hcell j (by simp [ids]; omega)
      rw [show (ids L).getD j 0 = L[j].id by simp [ids, List.getD_eq_getElem?_getD, hlt]] at hx
      have hnd : L[j] ∈ L := List.getElem_mem hlt
      have hG := HG.out.keep (c1.out.trans d) (fun _ _ e => e)
      have hl := look_yes hG (id := L[j].id) (List.mem_map.2 ⟨_, hnd, rfl⟩)
      have hN := hG.node _ hnd
      obtain ⟨-, -, k2, k3, -⟩ := hN.cells
      obtain ⟨a3, c3, e3, -, -⟩ := hN.refs.isSlice
      obtain ⟨a4, c4, e4, -, -⟩ := hN.data.isSlice
      rw [e3] at k2
      rw [e4] at k3
      have hw := HF.out _ hnd
      have q1 := hw.refs
      have q2 := hw.data
      have hw1 := HW.out j
      have hw2 : (L.take j).length ≤ 1000000 := by simp; omega
      have hsn : Hid (gwords (L.take (j + 1)) = gwords (L.take j) + wordsOfN L[j]) := Lib.hid (by rw [take_snocG L j hlt, gwords_snoc])
      unfold wordsOfN at hsn
      obtain ⟨S, hS⟩ : ∃ S, S = gwords (L.take j) := ⟨_, rfl⟩
      rw [← hS] at hw1 hsn ⊢
      clear hs e1 hcell hG hN e3 e4 hw hnd hS
      generalize L[j].id = X at *
      generalize L[j].refs.length = nR at *
      generalize L[j].data.length = nD at *
      generalize pn X = P at *
      replace d := Lib.hid d
      have i1 : (0 : Int) ≤ j := by omega
      have i2 : (j : Int) < L.length := by omega
      have y1 : IntKind.i64.wrap (2 + (nR : Int)) = 2 + (nR : Int) := IntWalk.i64_in _ (by omega)
      have y2 : IntKind.i64.wrap (2 + (nR : Int) + (nD : Int)) = 2 + (nR : Int) + (nD : Int) := IntWalk.i64_in _ (by omega)
      have y3 : IntKind.i64.wrap (S + (2 + (nR : Int) + (nD : Int))) = S + (2 + (nR : Int) + (nD : Int)) := IntWalk.i64_in _ (by omega)
      go_wp2_with fail
      refine hl.mono ?_
      rintro e w2 ⟨rfl, hs⟩
      obtain rfl : wr = w2 := hs
      clear hl
      go_wp2_with fail
      go_quiet (fail)
      clear y1 y2 y3 k2 k3 hx
      go_wp2_with fail
      go_roundw
      case rel => exact ⟨j + 1, by omega, by go_num, by rw [hsn.out], d.out.drewN _⟩
      case measure => simp [intOf]; omega
    · obtain rfl : j = L.length := by omega
      rw [List.take_length]
      have HC := Lib.hid (c1.out.trans d)
      clear d
      go_wp2_with fail
      go_ret
      exact ⟨rfl, HC.out⟩

end

end Go.Proofs.Ytlmeponoadhheaa
