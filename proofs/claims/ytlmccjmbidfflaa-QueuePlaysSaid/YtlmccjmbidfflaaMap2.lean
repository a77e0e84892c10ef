/-
  A map that may be nil, and a range over it; how many entries a map has. General, of no program.
-/
import Derived.Test.YtlmccjmbidfflaaMap
import Derived.Laws.IdiomRangeMap
namespace Go.Proofs.Ytlmccjmbidfflaa
set_option linter.unusedVariables false
open Go.RowKit

/-- The map value m has n entries, and reads as f; it may be nil. -/
def IMx (w : World) (m : Value) (n : Nat) (f : Int → Option Value) : Prop := (m = .map none ∧ n = 0 ∧ ∀ k, f k = none) ∨ ∃ r, m = .map (some r) ∧ IM w r n f

/-- Block b is an iterator over the map value m. -/
def IRx (w : World) (m : Value) (b n : Nat) (f : Int → Option Value) (left : Int → Bool) : Prop :=
  (m = .map none ∧ w.heap[b]? = some (.mapIter none 0 #[] 0) ∧ ∀ k, left k = false) ∨ ∃ r, m = .map (some r) ∧ IR w r b n f left

def iterLeftX (w : World) (m : Value) (b : Nat) : Nat :=
  match m with
  | .map (some r) => iterLeft w r b
  | _ => 0

theorem IRx.keep {S : Nat → Prop} {w w' : World} {m : Value} {b n : Nat} {f : Int → Option Value} {left : Int → Bool} (h : IRx w m b n f left) (hc : Ch S w w') (hr : ∀ r, m = .map (some r) → ¬ S r) (hb : ¬ S b) : IRx w' m b n f left := by
  rcases h with ⟨h1, h2, h3⟩ | ⟨r, h1, h2⟩
  · exact .inl ⟨h1, hc.keep h2 hb, h3⟩
  · exact .inr ⟨r, h1, h2.keep hc (hr r h1) hb⟩

theorem iterLeftX_keep {S : Nat → Prop} {w w' : World} {m : Value} {b n : Nat} {f : Int → Option Value} {left : Int → Bool} (h : IRx w m b n f left) (hc : Ch S w w') (hr : ∀ r, m = .map (some r) → ¬ S r) (hb : ¬ S b) : iterLeftX w' m b = iterLeftX w m b := by
  rcases h with ⟨rfl, h2, h3⟩ | ⟨r, rfl, h2⟩
  · rfl
  · exact iterLeft_keep h2 hc (hr r rfl) hb

theorem IRx.lt {w : World} {m : Value} {b n : Nat} {f : Int → Option Value} {left : Int → Bool} (h : IRx w m b n f left) : b < w.heap.size := by
  rcases h with ⟨_, h2, _⟩ | ⟨r, _, h2⟩
  · exact lt_of_block h2
  · exact h2.lt

section
variable {P : Program} {w : World}

theorem IMx.range {m : Value} {n : Nat} {f : Int → Option Value} {t kt et : TypeId} (h : IMx w m n f) (ht : P.underlying t = some (.map kt et)) :
    ∃ w', (Instr.range t m).run P w = .ok (.pointer (some ⟨w.heap.size, 0, none⟩)) w' ∧ IRx w' m w.heap.size n f (fun k => (f k).isSome) ∧ Ch0 w w' ∧ w'.heap.size = w.heap.size + 1 := by
  rcases h with ⟨rfl, rfl, hf⟩ | ⟨r, rfl, h⟩
  · exact ⟨_, run_range_nilMap w t kt et ht, .inl ⟨rfl, heap_alloc_new w _, fun k => by simp [hf]⟩, (Ch.refl _ _).alloc _, by simp⟩
  · obtain ⟨w', h1, h2, h3, h4⟩ := h.range (P := P) ht
    exact ⟨w', h1, .inr ⟨r, rfl, h2⟩, h3, h4⟩

theorem next_nil {b : Nat} (ty : TypeId) (h : w.heap[b]? = some (.mapIter none 0 #[] 0)) :
    (Instr.next (.pointer (some ⟨b, 0, none⟩)) false ty).run P w = .ok (.tuple #[.bool false]) w := by
  simp only [Instr.next, getObj, Sem.run_bind, Sem.run, h, Result.andThen]
  rfl

/-- the step of a range over a map that may be nil -/
theorem wpList_next_IRx {ops : Array Oper} {rest : List Oper} {o : Oper} {a : Act} {Q : Exit → Act → World → Prop} (hg : o.guard = none) (it : Operand) (hop : o.op = Op.next it false) {m : Value} {b n : Nat} {f : Int → Option Value} {left : Int → Bool}
    (hit : a.eval it = .pointer (some ⟨b, 0, none⟩)) (h : IRx w m b n f left)
    (hDone : (∀ k, left k = false) → wpList P ops Q rest (a.put o.dst (.tuple #[.bool false])) w)
    (hMore : ∀ k v w', left k = true → f k = some v → IRx w' m b n f (fun i => left i && !(i == k)) → Ch (fun i => i = b) w w' → w'.heap.size = w.heap.size → iterLeftX w' m b < iterLeftX w m b →
      (Instr.entry (.pointer (some ⟨b, 0, none⟩))).run P w' = .ok (.tuple #[.int .i64 k, v]) w' → wpList P ops Q rest (a.put o.dst (.tuple #[.bool true, .int .i64 k, v])) w') : wpList P ops Q (o :: rest) a w := by
  rcases h with ⟨rfl, h2, h3⟩ | ⟨r, rfl, h⟩
  · exact wpList_next_run hg it hop hit (next_nil _ h2) (hDone h3)
  · exact wpList_next_IR hg it hop hit h hDone (fun k v w' a b c d e g i => hMore k v w' a b (.inr ⟨r, rfl, c⟩) d e g i)

end

/-- distinct keys that are all keys: as many as there are entries -/
theorem IM.count {w : World} {r n : Nat} {f : Int → Option Value} (h : IM w r n f) {ks : List Int} (hn : ks.Nodup) (hk : ∀ k, k ∈ ks ↔ (f k).isSome = true) : ks.length = n := by
  obtain ⟨es, clock, hb, hs, hsz, h1, h2⟩ := h
  have hap := ((Go.MapKept.stamped_iff es clock).1 hs).2.2
  have hN : (es.toList.map fun x => x.key).Nodup := by
    unfold List.Nodup
    rw [List.pairwise_map]
    exact hap.imp (fun {a b} q => q)
  have hN2 : (ks.map (Value.int .i64)).Nodup := by
    unfold List.Nodup at hn ⊢
    rw [List.pairwise_map]
    exact hn.imp (fun {a b} q e => by cases e; exact q rfl)
  have hp : (ks.map (Value.int .i64)).Perm (es.toList.map fun x => x.key) := by
    rw [List.perm_ext_iff_of_nodup hN2 hN]
    intro v
    constructor
    · intro hv
      obtain ⟨k, hkm, rfl⟩ := List.mem_map.1 hv
      obtain ⟨u, hu⟩ := Option.isSome_iff_exists.1 ((hk k).1 hkm)
      obtain ⟨x, hx, hxk⟩ := h2 k u hu
      exact List.mem_map.2 ⟨x, hx, hxk⟩
    · intro hv
      obtain ⟨x, hx, rfl⟩ := List.mem_map.1 hv
      obtain ⟨k, hxk, hfk⟩ := h1 x hx
      exact List.mem_map.2 ⟨k, (hk k).2 (by rw [hfk]; rfl), hxk.symm⟩
  have := hp.length_eq
  simpa [hsz] using this

end Go.Proofs.Ytlmccjmbidfflaa
