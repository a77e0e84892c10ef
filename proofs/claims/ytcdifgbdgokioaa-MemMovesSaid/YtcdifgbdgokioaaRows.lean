/-
  No cell of these rows narrows 'for every input' (looked for: loops, veiled, ifaces, maps, wideKeys, modest, calm, conditions, laid).
  DERIVED. THE GIVEN ROWS OF THIS SEAT. 6 by the template 'for every input the law returns true; each argument reads behind the call as it read before'; 0 by the template 'total and deterministic' (their statements: YtcdifgbdgokioaaTotals.lean).
  GIVEN WITH THE SEED: the statements are not yours to turn. If you find one false, say at which input.
  Laid BY PROGRAM, IN A SANDBOX (cutbox-rows.mjs): the forced cells as the released guide's own fill.sh prints them over the translation f8d56c66e2ecc030… (all of the seat's roots in one cut). By AI agents, Wed Nov 11 2026. No macro, syntax, notation, axiom, sorry.
-/
import Derived.Test.YtcdifgbdgokioaaChecked
import GoSem.Claim
import GoSem.ClaimJoined
import GoSem.ClaimMapViews
import Derived.JoinedTies
import Derived.KernelRfl
namespace Go.Proofs.Ytcdifgbdgokioaa
/- THE CELL 'sum', in the pinned program and in every row, IS THE sha256 OF THE DUMP (.gsa) THAT YtcdifgbdgokioaaProg.lean LOADS. Nothing in Lean hashes anything: it is a label: what it is worth is what the hold of that sum in a sandbox is worth. -/
noncomputable def Try.pinned : Pinned := { name := "ytcdifgbdgokioaa", sum := "f8d56c66e2ecc030f0a769d1b6e7d67441243f60609e469e22e65d543e9139b6", checked := Try.checked }
namespace Rows
def none {H : Type} : Left H := { results := [], args := [] }

/-- 'gleaninglaw01.MemFills': WHATEVER THE INPUT: true; the input reads as it did. -/
def memFillsSpec : ChangeSpec := { name := "memFills", fn := fun _ => fun
  | [d1, d2, d3, d4, d5] => { results := [.lit (.bool true)], args := [d1, d2, d3, d4, d5] }
  | _ => none }
def memFillsRow : OpenClaim := { program := "ytcdifgbdgokioaa", sum := "f8d56c66e2ecc030f0a769d1b6e7d67441243f60609e469e22e65d543e9139b6", func := "gleaning/gleaninglaw01.MemFills", spec := "memFills", apart := false }
def MemFillsSaid : Prop := memFillsRow.holds Try.pinned (OpenSpec.ofChange memFillsSpec)

/-- ITS FALSE NEIGHBOUR: 'it returns false'. Refute it at one input. -/
def memFillsWrong : ChangeSpec := { name := "memFills", fn := fun _ => fun
  | [d1, d2, d3, d4, d5] => { results := [.lit (.bool false)], args := [d1, d2, d3, d4, d5] }
  | _ => none }
def MemFillsWrongFalsely : Prop := memFillsRow.holds Try.pinned (OpenSpec.ofChange memFillsWrong)

/-- 'gleaninglaw01.MemMoves': WHATEVER THE INPUT: true; the input reads as it did. -/
def memMovesSpec : ChangeSpec := { name := "memMoves", fn := fun _ => fun
  | [d1, d2, d3, d4] => { results := [.lit (.bool true)], args := [d1, d2, d3, d4] }
  | _ => none }
def memMovesRow : OpenClaim := { program := "ytcdifgbdgokioaa", sum := "f8d56c66e2ecc030f0a769d1b6e7d67441243f60609e469e22e65d543e9139b6", func := "gleaning/gleaninglaw01.MemMoves", spec := "memMoves", apart := false }
def MemMovesSaid : Prop := memMovesRow.holds Try.pinned (OpenSpec.ofChange memMovesSpec)

/-- ITS FALSE NEIGHBOUR: 'it returns false'. Refute it at one input. -/
def memMovesWrong : ChangeSpec := { name := "memMoves", fn := fun _ => fun
  | [d1, d2, d3, d4] => { results := [.lit (.bool false)], args := [d1, d2, d3, d4] }
  | _ => none }
def MemMovesWrongFalsely : Prop := memMovesRow.holds Try.pinned (OpenSpec.ofChange memMovesWrong)

/-- 'gleaninglaw01.MemOwn': WHATEVER THE INPUT: true; the input reads as it did. -/
def memOwnSpec : ChangeSpec := { name := "memOwn", fn := fun _ => fun
  | [d1, d2] => { results := [.lit (.bool true)], args := [d1, d2] }
  | _ => none }
def memOwnRow : OpenClaim := { program := "ytcdifgbdgokioaa", sum := "f8d56c66e2ecc030f0a769d1b6e7d67441243f60609e469e22e65d543e9139b6", func := "gleaning/gleaninglaw01.MemOwn", spec := "memOwn", apart := false }
def MemOwnSaid : Prop := memOwnRow.holds Try.pinned (OpenSpec.ofChange memOwnSpec)

/-- ITS FALSE NEIGHBOUR: 'it returns false'. Refute it at one input. -/
def memOwnWrong : ChangeSpec := { name := "memOwn", fn := fun _ => fun
  | [d1, d2] => { results := [.lit (.bool false)], args := [d1, d2] }
  | _ => none }
def MemOwnWrongFalsely : Prop := memOwnRow.holds Try.pinned (OpenSpec.ofChange memOwnWrong)

/-- 'gleaninglaw01.MemStores': WHATEVER THE INPUT: true; the input reads as it did. -/
def memStoresSpec : ChangeSpec := { name := "memStores", fn := fun _ => fun
  | [d1, d2, d3] => { results := [.lit (.bool true)], args := [d1, d2, d3] }
  | _ => none }
def memStoresRow : OpenClaim := { program := "ytcdifgbdgokioaa", sum := "f8d56c66e2ecc030f0a769d1b6e7d67441243f60609e469e22e65d543e9139b6", func := "gleaning/gleaninglaw01.MemStores", spec := "memStores", apart := false }
def MemStoresSaid : Prop := memStoresRow.holds Try.pinned (OpenSpec.ofChange memStoresSpec)

/-- ITS FALSE NEIGHBOUR: 'it returns false'. Refute it at one input. -/
def memStoresWrong : ChangeSpec := { name := "memStores", fn := fun _ => fun
  | [d1, d2, d3] => { results := [.lit (.bool false)], args := [d1, d2, d3] }
  | _ => none }
def MemStoresWrongFalsely : Prop := memStoresRow.holds Try.pinned (OpenSpec.ofChange memStoresWrong)

/-- 'gleaninglaw01.MemPlays': WHATEVER THE INPUT: true; the input reads as it did. -/
def memPlaysSpec : ChangeSpec := { name := "memPlays", fn := fun _ => fun
  | [d1, d2] => { results := [.lit (.bool true)], args := [d1, d2] }
  | _ => none }
def memPlaysRow : OpenClaim := { program := "ytcdifgbdgokioaa", sum := "f8d56c66e2ecc030f0a769d1b6e7d67441243f60609e469e22e65d543e9139b6", func := "gleaning/gleaninglaw01.MemPlays", spec := "memPlays", apart := false }
def MemPlaysSaid : Prop := memPlaysRow.holds Try.pinned (OpenSpec.ofChange memPlaysSpec)

/-- ITS FALSE NEIGHBOUR: 'it returns false'. Refute it at one input. -/
def memPlaysWrong : ChangeSpec := { name := "memPlays", fn := fun _ => fun
  | [d1, d2] => { results := [.lit (.bool false)], args := [d1, d2] }
  | _ => none }
def MemPlaysWrongFalsely : Prop := memPlaysRow.holds Try.pinned (OpenSpec.ofChange memPlaysWrong)

/-- 'gleaninglaw01.MemNil': WHATEVER THE INPUT: true; the input reads as it did. -/
def memNilSpec : ChangeSpec := { name := "memNil", fn := fun _ => fun
  | [d] => { results := [.lit (.bool true)], args := [d] }
  | _ => none }
def memNilRow : OpenClaim := { program := "ytcdifgbdgokioaa", sum := "f8d56c66e2ecc030f0a769d1b6e7d67441243f60609e469e22e65d543e9139b6", func := "gleaning/gleaninglaw01.MemNil", spec := "memNil", apart := false }
def MemNilSaid : Prop := memNilRow.holds Try.pinned (OpenSpec.ofChange memNilSpec)

/-- ITS FALSE NEIGHBOUR: 'it returns false'. Refute it at one input. -/
def memNilWrong : ChangeSpec := { name := "memNil", fn := fun _ => fun
  | [d] => { results := [.lit (.bool false)], args := [d] }
  | _ => none }
def MemNilWrongFalsely : Prop := memNilRow.holds Try.pinned (OpenSpec.ofChange memNilWrong)

/- THE SECOND FORM. 'bulk': how many values and letters a reading holds, each counted each time it is reached (what is shared counts as often as it is met; a slice's spare places count too). A statement '..UptoSaid' is the law's where the arguments, and the package variables that the reading takes, are together of bulk at most 1048576: NARROWER than '..Said'. Prove '..Said' where nothing that the law and all that it calls make is longer than what came in: it says more and counts as full. Else prove '..UptoSaid'. A law counts once. -/
mutual
def uptoBulk {H : Type} : DataW H → Nat
  | .lit (.string bytes) => bytes.length + 1
  | .lit _ => 1
  | .nil => 1
  | .ptr d => uptoBulk d + 1
  | .slice elems spare => uptoBulkAll elems + uptoBulkAll spare + 1
  | .agg parts => uptoBulkAll parts + 1
  | .iface _ d => uptoBulk d + 1
  | .map entries => uptoBulkEntries entries + 1
  | .held _ => 1
def uptoBulkAll {H : Type} : List (DataW H) → Nat
  | [] => 0
  | d :: r => uptoBulk d + uptoBulkAll r
def uptoBulkEntries {H : Type} : List (Lit × DataW H) → Nat
  | [] => 0
  | x :: r => uptoBulkEntry x + uptoBulkEntries r
def uptoBulkEntry {H : Type} : Lit × DataW H → Nat
  | (.string bytes, d) => bytes.length + uptoBulk d + 1
  | (_, d) => uptoBulk d + 1
 end
def uptoSmall : (H : Type) → List (DataW H) → Bool := fun _ ds => decide (uptoBulkAll ds ≤ 1048576)
def OpenSpec.upto (s : _root_.Go.ChangeSpec) : _root_.Go.OpenSpec := { _root_.Go.OpenSpec.ofChange s with cond := some uptoSmall }

/-- 'gleaninglaw01.MemFills', WHERE WHAT IT READS IS OF BULK AT MOST 1048576: true; the input reads as it did. -/
def memFillsUptoRow : OpenClaim := { program := "ytcdifgbdgokioaa", sum := "f8d56c66e2ecc030f0a769d1b6e7d67441243f60609e469e22e65d543e9139b6", func := "gleaning/gleaninglaw01.MemFills", spec := "memFills", apart := false, narrowed := true }
def MemFillsUptoSaid : Prop := memFillsUptoRow.holds Try.pinned (OpenSpec.upto memFillsSpec)

/-- 'gleaninglaw01.MemMoves', WHERE WHAT IT READS IS OF BULK AT MOST 1048576: true; the input reads as it did. -/
def memMovesUptoRow : OpenClaim := { program := "ytcdifgbdgokioaa", sum := "f8d56c66e2ecc030f0a769d1b6e7d67441243f60609e469e22e65d543e9139b6", func := "gleaning/gleaninglaw01.MemMoves", spec := "memMoves", apart := false, narrowed := true }
def MemMovesUptoSaid : Prop := memMovesUptoRow.holds Try.pinned (OpenSpec.upto memMovesSpec)

/-- 'gleaninglaw01.MemOwn', WHERE WHAT IT READS IS OF BULK AT MOST 1048576: true; the input reads as it did. -/
def memOwnUptoRow : OpenClaim := { program := "ytcdifgbdgokioaa", sum := "f8d56c66e2ecc030f0a769d1b6e7d67441243f60609e469e22e65d543e9139b6", func := "gleaning/gleaninglaw01.MemOwn", spec := "memOwn", apart := false, narrowed := true }
def MemOwnUptoSaid : Prop := memOwnUptoRow.holds Try.pinned (OpenSpec.upto memOwnSpec)

/-- 'gleaninglaw01.MemStores', WHERE WHAT IT READS IS OF BULK AT MOST 1048576: true; the input reads as it did. -/
def memStoresUptoRow : OpenClaim := { program := "ytcdifgbdgokioaa", sum := "f8d56c66e2ecc030f0a769d1b6e7d67441243f60609e469e22e65d543e9139b6", func := "gleaning/gleaninglaw01.MemStores", spec := "memStores", apart := false, narrowed := true }
def MemStoresUptoSaid : Prop := memStoresUptoRow.holds Try.pinned (OpenSpec.upto memStoresSpec)

/-- 'gleaninglaw01.MemPlays', WHERE WHAT IT READS IS OF BULK AT MOST 1048576: true; the input reads as it did. -/
def memPlaysUptoRow : OpenClaim := { program := "ytcdifgbdgokioaa", sum := "f8d56c66e2ecc030f0a769d1b6e7d67441243f60609e469e22e65d543e9139b6", func := "gleaning/gleaninglaw01.MemPlays", spec := "memPlays", apart := false, narrowed := true }
def MemPlaysUptoSaid : Prop := memPlaysUptoRow.holds Try.pinned (OpenSpec.upto memPlaysSpec)

/-- 'gleaninglaw01.MemNil', WHERE WHAT IT READS IS OF BULK AT MOST 1048576: true; the input reads as it did. -/
def memNilUptoRow : OpenClaim := { program := "ytcdifgbdgokioaa", sum := "f8d56c66e2ecc030f0a769d1b6e7d67441243f60609e469e22e65d543e9139b6", func := "gleaning/gleaninglaw01.MemNil", spec := "memNil", apart := false, narrowed := true }
def MemNilUptoSaid : Prop := memNilUptoRow.holds Try.pinned (OpenSpec.upto memNilSpec)

end Rows
end Go.Proofs.Ytcdifgbdgokioaa
