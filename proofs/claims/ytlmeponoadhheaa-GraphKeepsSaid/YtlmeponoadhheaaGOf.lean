/-
  The graph's contracts, with its table beside it.
-/
import Derived.Test.YtlmeponoadhheaaG7
import Derived.Test.YtlmeponoadhheaaK2
import Derived.Test.YtlmeponoadhheaaG9
import Derived.Test.YtlmeponoadhheaaClassNew
namespace Go.Proofs.Ytlmeponoadhheaa
set_option linter.unusedVariables false
open Go.RowKit

theorem mem_upd {L : List GN} {id : Int} {g : GN → GN} {x : GN} (h : x ∈ upd L id g) : x ∈ L ∨ ∃ y ∈ L, y.id = id ∧ x = g y := by
  obtain ⟨y, hy, rfl⟩ := List.mem_map.1 h
  by_cases e : y.id = id
  · rw [if_pos e]; exact .inr ⟨y, hy, e, rfl⟩
  · rw [if_neg e]; exact .inl hy

theorem upd_wf {cs : List Cls} {L : List GN} {id : Int} {g : GN → GN} (hw : ∀ nd ∈ L, WfN cs nd) (hg : ∀ nd, (g nd).id = nd.id ∧ (g nd).cls = nd.cls ∧ (g nd).refs.length = nd.refs.length ∧ (g nd).data.length = nd.data.length) : ∀ nd ∈ upd L id g, WfN cs nd := by
  intro x hx
  rcases mem_upd hx with h | ⟨y, hy, _, rfl⟩
  · exact hw x h
  · obtain ⟨e1, e2, e3, e4⟩ := hg y
    have h := hw y hy
    exact ⟨by rw [e2]; exact h.c1, by rw [e2]; exact h.c2, by rw [e3]; exact h.refs, by rw [e4]; exact h.data, by rw [e2, e3]; exact h.aim, by rw [e1]; exact h.id, by rw [e1]; exact h.idm⟩

theorem setRefL_wf {cs : List Cls} {L : List GN} (hw : ∀ nd ∈ L, WfN cs nd) (id field to : Int) : ∀ nd ∈ setRefL L id field to, WfN cs nd := by
  unfold setRefL
  split
  · exact upd_wf hw (fun nd => ⟨rfl, rfl, by simp, rfl⟩)
  · exact hw

theorem setNumL_wf {cs : List Cls} {L : List GN} (hw : ∀ nd ∈ L, WfN cs nd) (id field x : Int) : ∀ nd ∈ setNumL L id field x, WfN cs nd := by
  unfold setNumL
  split
  · exact upd_wf hw (fun nd => ⟨rfl, rfl, rfl, by simp⟩)
  · exact hw

theorem doneL_wf {cs : List Cls} {L : List GN} (hw : ∀ nd ∈ L, WfN cs nd) (id : Int) : ∀ nd ∈ doneL L id, WfN cs nd := upd_wf hw (fun nd => ⟨rfl, rfl, rfl, rfl⟩)

theorem keepL_wf {cs : List Cls} {L : List GN} (hw : ∀ nd ∈ L, WfN cs nd) (ks : List Int) : ∀ nd ∈ keepL L ks, WfN cs nd := by
  intro x hx
  obtain ⟨y, hy, rfl⟩ := List.mem_map.1 hx
  have h := hw y (mem_keepN.1 hy).1
  exact ⟨h.c1, h.c2, by simpa [cutN, cutR] using h.refs, h.data, by simpa [cutN, cutR] using h.aim, h.id, h.idm⟩

section
variable {w : World} {b : Nat} {O : Nat → Prop} {cs : List Cls} {L : List GN} {p lo hi : Nat}

theorem setref_of (h : Gt w b O cs L p lo hi) (id field to : Int) :
    Calls Try.prog 42 #[.pointer (some ⟨b, 0, none⟩), .int .i64 id, .int .i64 field, .int .i64 to] w fun e w' =>
      e = .returned (.int .i64 (setRefE L id field to)) ∧ Gt w' b O cs (setRefL L id field to) p lo hi ∧ Turn w w' O O :=
  (setref_any h.g id field to).mono fun _ _ ⟨he, hg, ht⟩ => ⟨he, h.turn hg ht (setRefL_wf h.wf id field to), ht⟩

theorem setnum_of (h : Gt w b O cs L p lo hi) (id field x : Int) :
    Calls Try.prog 43 #[.pointer (some ⟨b, 0, none⟩), .int .i64 id, .int .i64 field, .int .i64 x] w fun e w' =>
      e = .returned (.int .i64 (setNumE L id field)) ∧ Gt w' b O cs (setNumL L id field x) p lo hi ∧ Turn w w' O O :=
  (setnum_any h.g id field x).mono fun _ _ ⟨he, hg, ht⟩ => ⟨he, h.turn hg ht (setNumL_wf h.wf id field x), ht⟩

theorem done_of (h : Gt w b O cs L p lo hi) (id : Int) :
    Calls Try.prog 48 #[.pointer (some ⟨b, 0, none⟩), .int .i64 id] w fun e w' =>
      e = .returned (.int .i64 (doneE L id)) ∧ Gt w' b O cs (doneL L id) p lo hi ∧ Turn w w' O O :=
  (done_any h.g id).mono fun _ _ ⟨he, hg, ht⟩ => ⟨he, h.turn hg ht (doneL_wf h.wf id), ht⟩

theorem keep_of (h : Gt w b O cs L p lo hi) (hL : L.length ≤ 1000000) (D : Nat → Prop) (v : Value) (ks : List Int) (hk : SeesI D w v ks) :
    Calls Try.prog 49 #[.pointer (some ⟨b, 0, none⟩), v] w fun e w' =>
      e = .returned (.int .i64 ((L.length : Int) - (keepL L ks).length)) ∧ Gt w' b O cs (keepL L ks) p lo hi ∧ Turn w w' O O :=
  (keep_gr h.g hL (fun nd hnd => by have := (h.wf nd hnd).refs; omega) D v ks hk).mono fun _ _ ⟨he, hg, ht⟩ => ⟨he, h.turn hg ht (keepL_wf h.wf ks), ht⟩

theorem gnew_of (h : Tab lo hi w p cs) (hh : hi ≤ w.heap.size) :
    Calls Try.prog 31 #[.pointer (some ⟨p, 0, none⟩)] w fun e w' => ∃ b, e = .returned (.pointer (some ⟨b, 0, none⟩)) ∧ ∃ O, Gt w' b O cs [] p lo hi ∧ (∀ k, O k → w.heap.size ≤ k) ∧ Ch0 w w' :=
  (gnew_any _ w).mono fun _ _ ⟨b, he, hg, hc⟩ => ⟨b, he, _, ⟨hg, h.keep hc (fun _ _ _ e => e), fun k h1 h2 e => by omega, Nat.le_trans hh hc.size, fun nd hnd => by cases hnd⟩, fun k hk => hk.1, hc⟩

end

end Go.Proofs.Ytlmeponoadhheaa
