/-
  No cell of these rows narrows 'for every input' (looked for: loops, veiled, ifaces, maps, wideKeys, modest, calm, conditions, laid).
  DERIVED. THE GIVEN ROWS OF THIS SEAT. 7 by the template 'for every input the law returns true; each argument reads behind the call as it read before'; 0 by the template 'total and deterministic' (their statements: YtlmccjmbidfflaaTotals.lean).
  GIVEN WITH THE SEED: the statements are not yours to turn. If you find one false, say at which input.
  Laid BY PROGRAM, IN A SANDBOX (cutbox-rows.mjs): the forced cells as the released guide's own fill.sh prints them over the translation d254045d489d0088… (all of the seat's roots in one cut). By AI agents, Wed Nov 11 2026. No macro, syntax, notation, axiom, sorry.
-/
import Derived.Test.YtlmccjmbidfflaaChecked
import GoSem.Claim
import GoSem.ClaimJoined
import GoSem.ClaimMapViews
import Derived.JoinedTies
import Derived.KernelRfl
namespace Go.Proofs.Ytlmccjmbidfflaa
/- THE CELL 'sum', in the pinned program and in every row, IS THE sha256 OF THE DUMP (.gsa) THAT YtlmccjmbidfflaaProg.lean LOADS. Nothing in Lean hashes anything: it is a label: what it is worth is what the hold of that sum in a sandbox is worth. -/
noncomputable def Try.pinned : Pinned := { name := "ytlmccjmbidfflaa", sum := "d254045d489d0088f8fa92de5d1c41913ba2d913727f8939259488f6bb38e0a9", checked := Try.checked }
namespace Rows
def none {H : Type} : Left H := { results := [], args := [] }

/-- 'gleaninglaw12.QueueFifo': WHATEVER THE INPUT: true; the input reads as it did. -/
def queueFifoSpec : ChangeSpec := { name := "queueFifo", fn := fun _ => fun
  | [d] => { results := [.lit (.bool true)], args := [d] }
  | _ => none }
def queueFifoRow : OpenClaim := { program := "ytlmccjmbidfflaa", sum := "d254045d489d0088f8fa92de5d1c41913ba2d913727f8939259488f6bb38e0a9", func := "gleaning/gleaninglaw12.QueueFifo", spec := "queueFifo", apart := false }
def QueueFifoSaid : Prop := queueFifoRow.holds Try.pinned (OpenSpec.ofChange queueFifoSpec)

/-- ITS FALSE NEIGHBOUR: 'it returns false'. Refute it at one input. -/
def queueFifoWrong : ChangeSpec := { name := "queueFifo", fn := fun _ => fun
  | [d] => { results := [.lit (.bool false)], args := [d] }
  | _ => none }
def QueueFifoWrongFalsely : Prop := queueFifoRow.holds Try.pinned (OpenSpec.ofChange queueFifoWrong)

/-- 'gleaninglaw12.QueueApart': WHATEVER THE INPUT: true; the input reads as it did. -/
def queueApartSpec : ChangeSpec := { name := "queueApart", fn := fun _ => fun
  | [d] => { results := [.lit (.bool true)], args := [d] }
  | _ => none }
def queueApartRow : OpenClaim := { program := "ytlmccjmbidfflaa", sum := "d254045d489d0088f8fa92de5d1c41913ba2d913727f8939259488f6bb38e0a9", func := "gleaning/gleaninglaw12.QueueApart", spec := "queueApart", apart := false }
def QueueApartSaid : Prop := queueApartRow.holds Try.pinned (OpenSpec.ofChange queueApartSpec)

/-- ITS FALSE NEIGHBOUR: 'it returns false'. Refute it at one input. -/
def queueApartWrong : ChangeSpec := { name := "queueApart", fn := fun _ => fun
  | [d] => { results := [.lit (.bool false)], args := [d] }
  | _ => none }
def QueueApartWrongFalsely : Prop := queueApartRow.holds Try.pinned (OpenSpec.ofChange queueApartWrong)

/-- 'gleaninglaw12.QueueMany': WHATEVER THE INPUT: true; the input reads as it did. -/
def queueManySpec : ChangeSpec := { name := "queueMany", fn := fun _ => fun
  | [d1, d2] => { results := [.lit (.bool true)], args := [d1, d2] }
  | _ => none }
def queueManyRow : OpenClaim := { program := "ytlmccjmbidfflaa", sum := "d254045d489d0088f8fa92de5d1c41913ba2d913727f8939259488f6bb38e0a9", func := "gleaning/gleaninglaw12.QueueMany", spec := "queueMany", apart := false }
def QueueManySaid : Prop := queueManyRow.holds Try.pinned (OpenSpec.ofChange queueManySpec)

/-- ITS FALSE NEIGHBOUR: 'it returns false'. Refute it at one input. -/
def queueManyWrong : ChangeSpec := { name := "queueMany", fn := fun _ => fun
  | [d1, d2] => { results := [.lit (.bool false)], args := [d1, d2] }
  | _ => none }
def QueueManyWrongFalsely : Prop := queueManyRow.holds Try.pinned (OpenSpec.ofChange queueManyWrong)

/-- 'gleaninglaw12.QueuePlays': WHATEVER THE INPUT: true; the input reads as it did. -/
def queuePlaysSpec : ChangeSpec := { name := "queuePlays", fn := fun _ => fun
  | [d] => { results := [.lit (.bool true)], args := [d] }
  | _ => none }
def queuePlaysRow : OpenClaim := { program := "ytlmccjmbidfflaa", sum := "d254045d489d0088f8fa92de5d1c41913ba2d913727f8939259488f6bb38e0a9", func := "gleaning/gleaninglaw12.QueuePlays", spec := "queuePlays", unfollowed := true, recurses := true, apart := false }
def QueuePlaysSaid : Prop := queuePlaysRow.holds Try.pinned (OpenSpec.ofChange queuePlaysSpec)

/-- ITS FALSE NEIGHBOUR: 'it returns false'. Refute it at one input. -/
def queuePlaysWrong : ChangeSpec := { name := "queuePlays", fn := fun _ => fun
  | [d] => { results := [.lit (.bool false)], args := [d] }
  | _ => none }
def QueuePlaysWrongFalsely : Prop := queuePlaysRow.holds Try.pinned (OpenSpec.ofChange queuePlaysWrong)

/-- 'gleaninglaw12.QueueNames': WHATEVER THE INPUT: true; the input reads as it did. -/
def queueNamesSpec : ChangeSpec := { name := "queueNames", fn := fun _ => fun
  | [d1, d2, d3] => { results := [.lit (.bool true)], args := [d1, d2, d3] }
  | _ => none }
def queueNamesRow : OpenClaim := { program := "ytlmccjmbidfflaa", sum := "d254045d489d0088f8fa92de5d1c41913ba2d913727f8939259488f6bb38e0a9", func := "gleaning/gleaninglaw12.QueueNames", spec := "queueNames", unfollowed := true, recurses := true, apart := false }
def QueueNamesSaid : Prop := queueNamesRow.holds Try.pinned (OpenSpec.ofChange queueNamesSpec)

/-- ITS FALSE NEIGHBOUR: 'it returns false'. Refute it at one input. -/
def queueNamesWrong : ChangeSpec := { name := "queueNames", fn := fun _ => fun
  | [d1, d2, d3] => { results := [.lit (.bool false)], args := [d1, d2, d3] }
  | _ => none }
def QueueNamesWrongFalsely : Prop := queueNamesRow.holds Try.pinned (OpenSpec.ofChange queueNamesWrong)

/-- 'gleaninglaw12.QueueNil': WHATEVER THE INPUT: true; the input reads as it did. -/
def queueNilSpec : ChangeSpec := { name := "queueNil", fn := fun _ => fun
  | [d1, d2] => { results := [.lit (.bool true)], args := [d1, d2] }
  | _ => none }
def queueNilRow : OpenClaim := { program := "ytlmccjmbidfflaa", sum := "d254045d489d0088f8fa92de5d1c41913ba2d913727f8939259488f6bb38e0a9", func := "gleaning/gleaninglaw12.QueueNil", spec := "queueNil", unfollowed := true, recurses := true, apart := false }
def QueueNilSaid : Prop := queueNilRow.holds Try.pinned (OpenSpec.ofChange queueNilSpec)

/-- ITS FALSE NEIGHBOUR: 'it returns false'. Refute it at one input. -/
def queueNilWrong : ChangeSpec := { name := "queueNil", fn := fun _ => fun
  | [d1, d2] => { results := [.lit (.bool false)], args := [d1, d2] }
  | _ => none }
def QueueNilWrongFalsely : Prop := queueNilRow.holds Try.pinned (OpenSpec.ofChange queueNilWrong)

/-- 'gleaninglaw12.QueueForgets': WHATEVER THE INPUT: true; the input reads as it did. -/
def queueForgetsSpec : ChangeSpec := { name := "queueForgets", fn := fun _ => fun
  | [d1, d2] => { results := [.lit (.bool true)], args := [d1, d2] }
  | _ => none }
def queueForgetsRow : OpenClaim := { program := "ytlmccjmbidfflaa", sum := "d254045d489d0088f8fa92de5d1c41913ba2d913727f8939259488f6bb38e0a9", func := "gleaning/gleaninglaw12.QueueForgets", spec := "queueForgets", unfollowed := true, recurses := true, apart := false }
def QueueForgetsSaid : Prop := queueForgetsRow.holds Try.pinned (OpenSpec.ofChange queueForgetsSpec)

/-- ITS FALSE NEIGHBOUR: 'it returns false'. Refute it at one input. -/
def queueForgetsWrong : ChangeSpec := { name := "queueForgets", fn := fun _ => fun
  | [d1, d2] => { results := [.lit (.bool false)], args := [d1, d2] }
  | _ => none }
def QueueForgetsWrongFalsely : Prop := queueForgetsRow.holds Try.pinned (OpenSpec.ofChange queueForgetsWrong)

/- THE SECOND FORM. 'bulk': how many values and letters a reading holds, each counted each time it is reached (what is shared counts as often as it is met; a slice's spare places count too). A statement '..UptoSaid' is the law's where the arguments, and the package variables that the reading takes, are together of bulk at most 1048576: NARROWER than '..Said'. Prove '..Said' where nothing that the law and all that it calls make is longer than what came in: it says more and counts as full. Else prove '..UptoSaid'. A law counts once. -/
mutual
def uptoBulk {H : Type} : DataW H → Nat
  | .lit (.string bytes) => bytes.length + 1
  | .lit _ => 1
  | .nil => 1
  | .ptr d => uptoBulk d + 1
  | .slice elems spare => uptoBulkAll elems + uptoBulkAll spare + 1
  | .agg parts => uptoBulkAll parts + 1
  | .iface _ d => uptoBulk d + 1
  | .map entries => uptoBulkEntries entries + 1
  | .held _ => 1
def uptoBulkAll {H : Type} : List (DataW H) → Nat
  | [] => 0
  | d :: r => uptoBulk d + uptoBulkAll r
def uptoBulkEntries {H : Type} : List (Lit × DataW H) → Nat
  | [] => 0
  | x :: r => uptoBulkEntry x + uptoBulkEntries r
def uptoBulkEntry {H : Type} : Lit × DataW H → Nat
  | (.string bytes, d) => bytes.length + uptoBulk d + 1
  | (_, d) => uptoBulk d + 1
 end
def uptoSmall : (H : Type) → List (DataW H) → Bool := fun _ ds => decide (uptoBulkAll ds ≤ 1048576)
def OpenSpec.upto (s : _root_.Go.ChangeSpec) : _root_.Go.OpenSpec := { _root_.Go.OpenSpec.ofChange s with cond := some uptoSmall }

/-- 'gleaninglaw12.QueueFifo', WHERE WHAT IT READS IS OF BULK AT MOST 1048576: true; the input reads as it did. -/
def queueFifoUptoRow : OpenClaim := { program := "ytlmccjmbidfflaa", sum := "d254045d489d0088f8fa92de5d1c41913ba2d913727f8939259488f6bb38e0a9", func := "gleaning/gleaninglaw12.QueueFifo", spec := "queueFifo", apart := false, narrowed := true }
def QueueFifoUptoSaid : Prop := queueFifoUptoRow.holds Try.pinned (OpenSpec.upto queueFifoSpec)

/-- 'gleaninglaw12.QueueApart', WHERE WHAT IT READS IS OF BULK AT MOST 1048576: true; the input reads as it did. -/
def queueApartUptoRow : OpenClaim := { program := "ytlmccjmbidfflaa", sum := "d254045d489d0088f8fa92de5d1c41913ba2d913727f8939259488f6bb38e0a9", func := "gleaning/gleaninglaw12.QueueApart", spec := "queueApart", apart := false, narrowed := true }
def QueueApartUptoSaid : Prop := queueApartUptoRow.holds Try.pinned (OpenSpec.upto queueApartSpec)

/-- 'gleaninglaw12.QueueMany', WHERE WHAT IT READS IS OF BULK AT MOST 1048576: true; the input reads as it did. -/
def queueManyUptoRow : OpenClaim := { program := "ytlmccjmbidfflaa", sum := "d254045d489d0088f8fa92de5d1c41913ba2d913727f8939259488f6bb38e0a9", func := "gleaning/gleaninglaw12.QueueMany", spec := "queueMany", apart := false, narrowed := true }
def QueueManyUptoSaid : Prop := queueManyUptoRow.holds Try.pinned (OpenSpec.upto queueManySpec)

/-- 'gleaninglaw12.QueuePlays', WHERE WHAT IT READS IS OF BULK AT MOST 1048576: true; the input reads as it did. -/
def queuePlaysUptoRow : OpenClaim := { program := "ytlmccjmbidfflaa", sum := "d254045d489d0088f8fa92de5d1c41913ba2d913727f8939259488f6bb38e0a9", func := "gleaning/gleaninglaw12.QueuePlays", spec := "queuePlays", unfollowed := true, recurses := true, apart := false, narrowed := true }
def QueuePlaysUptoSaid : Prop := queuePlaysUptoRow.holds Try.pinned (OpenSpec.upto queuePlaysSpec)

/-- 'gleaninglaw12.QueueNames', WHERE WHAT IT READS IS OF BULK AT MOST 1048576: true; the input reads as it did. -/
def queueNamesUptoRow : OpenClaim := { program := "ytlmccjmbidfflaa", sum := "d254045d489d0088f8fa92de5d1c41913ba2d913727f8939259488f6bb38e0a9", func := "gleaning/gleaninglaw12.QueueNames", spec := "queueNames", unfollowed := true, recurses := true, apart := false, narrowed := true }
def QueueNamesUptoSaid : Prop := queueNamesUptoRow.holds Try.pinned (OpenSpec.upto queueNamesSpec)

/-- 'gleaninglaw12.QueueNil', WHERE WHAT IT READS IS OF BULK AT MOST 1048576: true; the input reads as it did. -/
def queueNilUptoRow : OpenClaim := { program := "ytlmccjmbidfflaa", sum := "d254045d489d0088f8fa92de5d1c41913ba2d913727f8939259488f6bb38e0a9", func := "gleaning/gleaninglaw12.QueueNil", spec := "queueNil", unfollowed := true, recurses := true, apart := false, narrowed := true }
def QueueNilUptoSaid : Prop := queueNilUptoRow.holds Try.pinned (OpenSpec.upto queueNilSpec)

/-- 'gleaninglaw12.QueueForgets', WHERE WHAT IT READS IS OF BULK AT MOST 1048576: true; the input reads as it did. -/
def queueForgetsUptoRow : OpenClaim := { program := "ytlmccjmbidfflaa", sum := "d254045d489d0088f8fa92de5d1c41913ba2d913727f8939259488f6bb38e0a9", func := "gleaning/gleaninglaw12.QueueForgets", spec := "queueForgets", unfollowed := true, recurses := true, apart := false, narrowed := true }
def QueueForgetsUptoSaid : Prop := queueForgetsUptoRow.holds Try.pinned (OpenSpec.upto queueForgetsSpec)

end Rows
end Go.Proofs.Ytlmccjmbidfflaa
