/-
  The graphs of the laws of strength and process, as lists of nodes: plain.
-/
import Derived.Test.YtlmeponoadhheaaStrLaw
import Derived.Test.YtlmeponoadhheaaRg
namespace Go.Proofs.Ytlmeponoadhheaa
set_option linter.unusedVariables false

/-- the class, and the length, of a node that a number tells -/
def kM (cs : List Cls) (x : Int) : Int := 1 + x % (cs.length : Int)
def lenM (cs : List Cls) (k : Int) : Int := if kindOf cs k = 2 then 2 else 0

def addsM (cs : List Cls) (ns : List Int) : Nat → List GN
  | 0 => []
  | j + 1 => addL cs (addsM cs ns j) ((j : Int) + 1) (kM cs (ns.getD j 0)) (lenM cs (kM cs (ns.getD j 0)))

/-- how many references the node at a place has -/
def manyM (L : List GN) (i : Nat) : Nat := match L[i]? with
  | some nd => nd.refs.length
  | none => 0

def refM (L : List GN) (n : Int) (r : Int × Int × Int) : List GN :=
  if 0 < manyM L (r.1 % n).toNat then setRefL L (1 + r.1 % n) (r.2.1 % (manyM L (r.1 % n).toNat : Int)) (r.2.2 % (n + 1)) else L

def refsM (L0 : List GN) (n : Int) (rs : List (Int × Int × Int)) : Nat → List GN
  | 0 => L0
  | j + 1 => refM (refsM L0 n rs j) n (rs.getD j (0, 0, 0))

def madeL (cs : List Cls) (ns : List Int) (rs : List (Int × Int × Int)) : List GN := refsM (addsM cs ns ns.length) ns.length rs rs.length

def idsTo (n : Nat) : List Int := (List.range n).map (fun (i : Nat) => (i : Int) + 1)

theorem mem_idsTo {n : Nat} {x : Int} : x ∈ idsTo n ↔ 1 ≤ x ∧ x ≤ n := by
  unfold idsTo
  rw [List.mem_map]
  constructor
  · rintro ⟨i, hi, rfl⟩; have := List.mem_range.1 hi; omega
  · intro h; exact ⟨(x - 1).toNat, List.mem_range.2 (by omega), by omega⟩

/-- what is true of a graph that was made -/
structure MadeOk (cs : List Cls) (L : List GN) (n : Nat) : Prop where
  ids : ids L = idsTo n
  refs : RefsIn L
  wf : ∀ nd ∈ L, WfN cs nd
  fin : ∀ nd ∈ L, nd.fin = finalOf cs nd.cls

theorem MadeOk.len {cs : List Cls} {L : List GN} {n : Nat} (h : MadeOk cs L n) : L.length = n := by
  have := congrArg List.length h.ids
  simpa [Go.Proofs.Ytlmeponoadhheaa.ids, idsTo] using this

theorem MadeOk.mem {cs : List Cls} {L : List GN} {n : Nat} (h : MadeOk cs L n) {x : Int} : x ∈ Go.Proofs.Ytlmeponoadhheaa.ids L ↔ 1 ≤ x ∧ x ≤ n := by rw [h.ids, mem_idsTo]

theorem MadeOk.rise {cs : List Cls} {L : List GN} {n : Nat} (h : MadeOk cs L n) : (Go.Proofs.Ytlmeponoadhheaa.ids L).Pairwise (· < ·) := by
  rw [h.ids]
  unfold idsTo
  rw [List.pairwise_map]
  exact List.pairwise_lt_range.imp (fun q => by omega)

theorem MadeOk.nth {cs : List Cls} {L : List GN} {n : Nat} (h : MadeOk cs L n) {i : Nat} (hi : i < L.length) : L[i].id = (i : Int) + 1 := by
  have h1 : (Go.Proofs.Ytlmeponoadhheaa.ids L)[i]? = some L[i].id := by simp [Go.Proofs.Ytlmeponoadhheaa.ids, hi]
  rw [h.ids] at h1
  have hn := h.len
  simp [idsTo, show i < n by omega] at h1
  exact h1.symm

theorem kM_in {cs : List Cls} (hp : 0 < cs.length) (x : Int) : 1 ≤ kM cs x ∧ kM cs x ≤ cs.length := by
  unfold kM
  have h1 := Int.emod_nonneg x (show (cs.length : Int) ≠ 0 by omega)
  have h2 := Int.emod_lt_of_pos x (show (0 : Int) < cs.length by omega)
  omega

theorem shapeM {cs : List Cls} {k : Int} (h1 : 1 ≤ k) (h2 : k ≤ cs.length) : (shapeC cs k (lenM cs k)).2.2 = 0 := by
  have hk : kindOf cs k = (cs[(k - 1).toNat]'(by omega)).kind := by
    unfold kindOf
    rw [List.getD_eq_getElem?_getD, List.getElem?_eq_getElem (by omega)]
    rfl
  unfold shapeC
  rw [dif_pos ⟨h1, h2⟩]
  unfold lenM
  rw [hk]
  generalize cs[(k - 1).toNat]'(by omega) = c
  unfold shape1
  by_cases e : c.kind = 2
  · simp [e]
  · simp [e]

theorem ins_end {nd : GN} {L : List GN} (h : ∀ a ∈ L, a.id < nd.id) : ins nd L = L ++ [nd] := by
  induction L with
  | nil => rfl
  | cons a l ih =>
    unfold ins
    rw [if_pos (h a (by simp)), ih (fun x hx => h x (by simp [hx]))]
    rfl

theorem addsM_ok {cs : List Cls} (hr : allRight cs = true) (hp : 0 < cs.length) (ns : List Int) (j : Nat) (hj : (j : Int) < 1000000) : MadeOk cs (addsM cs ns j) j := by
  induction j with
  | zero => exact ⟨rfl, (fun nd h => by cases h), (fun nd h => by cases h), (fun nd h => by cases h)⟩
  | succ j ih =>
    have h := ih (by omega)
    have hk := kM_in hp (ns.getD j 0)
    have hs := shapeM hk.1 hk.2
    have hadd : addsM cs ns (j + 1) = addsM cs ns j ++ [newNode cs ((j : Int) + 1) (kM cs (ns.getD j 0)) (lenM cs (kM cs (ns.getD j 0)))] := by
      show addL cs _ _ _ _ = _
      unfold addL
      rw [if_pos, ins_end]
      · intro a ha
        have := (h.mem (x := a.id)).1 (mem_ids.2 ⟨a, ha, rfl⟩)
        show a.id < (j : Int) + 1
        omega
      · unfold addE
        rw [if_neg (by simpa using hs), if_neg]
        rw [h.mem]
        omega
    refine ⟨?_, refsIn_add h.refs _ _ _, addL_wfR hr h.wf _ _ _ (by omega), ?_⟩
    · rw [hadd]
      unfold Go.Proofs.Ytlmeponoadhheaa.ids
      rw [List.map_append]
      have := h.ids
      unfold Go.Proofs.Ytlmeponoadhheaa.ids at this
      rw [this]
      unfold idsTo
      rw [List.range_succ, List.map_append]
      rfl
    · rw [hadd]
      intro nd hnd
      rcases List.mem_append.1 hnd with q | q
      · exact h.fin nd q
      · rw [List.mem_singleton.1 q]; rfl

theorem setRefL_ok {cs : List Cls} {L : List GN} {n : Nat} (h : MadeOk cs L n) (a b c : Int) : MadeOk cs (setRefL L a b c) n := by
  refine ⟨by rw [setRefL_ids]; exact h.ids, refsIn_setRef h.refs a b c, setRefL_wf h.wf a b c, ?_⟩
  intro nd hnd
  unfold setRefL at hnd
  split at hnd
  · rcases mem_upd hnd with q | ⟨y, hy, -, rfl⟩
    · exact h.fin nd q
    · exact h.fin y hy
  · exact h.fin nd hnd

theorem refM_ok {cs : List Cls} {L : List GN} {n : Nat} (h : MadeOk cs L n) (m : Int) (r : Int × Int × Int) : MadeOk cs (refM L m r) n := by
  unfold refM
  split
  · exact setRefL_ok h _ _ _
  · exact h

theorem refsM_ok {cs : List Cls} {L : List GN} {n : Nat} (h : MadeOk cs L n) (m : Int) (rs : List (Int × Int × Int)) (j : Nat) : MadeOk cs (refsM L m rs j) n := by
  induction j with
  | zero => exact h
  | succ j ih => exact refM_ok ih _ _

theorem madeL_ok {cs : List Cls} (hr : allRight cs = true) (hp : 0 < cs.length) (ns : List Int) (rs : List (Int × Int × Int)) (hn : ns.length ≤ 1000) : MadeOk cs (madeL cs ns rs) ns.length :=
  refsM_ok (addsM_ok hr hp ns _ (by omega)) _ rs _

theorem refsM_nil (rs : List (Int × Int × Int)) (j : Nat) (n : Int) : refsM [] n rs j = [] := by
  induction j with
  | zero => rfl
  | succ j ih =>
    show refM _ _ _ = _
    rw [ih]
    rfl

end Go.Proofs.Ytlmeponoadhheaa
