/-
  No cell of these rows narrows 'for every input' (looked for: loops, veiled, ifaces, maps, wideKeys, modest, calm, conditions, laid).
  DERIVED. THE GIVEN ROWS OF THIS SEAT. 6 by the template 'for every input the law returns true; each argument reads behind the call as it read before'; 0 by the template 'total and deterministic' (their statements: YtfokbdgiphphfaaTotals.lean).
  GIVEN WITH THE SEED: the statements are not yours to turn. If you find one false, say at which input.
  Laid BY PROGRAM, IN A SANDBOX (cutbox-rows.mjs): the forced cells as the released guide's own fill.sh prints them over the translation 9bbec95b4d3a03fb… (all of the seat's roots in one cut). By AI agents, Wed Nov 11 2026. No macro, syntax, notation, axiom, sorry.
-/
import Derived.Test.YtfokbdgiphphfaaChecked
import GoSem.Claim
import GoSem.ClaimJoined
import GoSem.ClaimMapViews
import Derived.JoinedTies
import Derived.KernelRfl
namespace Go.Proofs.Ytfokbdgiphphfaa
/- THE CELL 'sum', in the pinned program and in every row, IS THE sha256 OF THE DUMP (.gsa) THAT YtfokbdgiphphfaaProg.lean LOADS. Nothing in Lean hashes anything: it is a label: what it is worth is what the hold of that sum in a sandbox is worth. -/
noncomputable def Try.pinned : Pinned := { name := "ytfokbdgiphphfaa", sum := "9bbec95b4d3a03fb10d062846442da54a9da44e0c453c7e4e22bf3ff0866ca86", checked := Try.checked }
namespace Rows
def none {H : Type} : Left H := { results := [], args := [] }

/-- 'tendrillaw02.ArenaOwns': WHATEVER THE INPUT: true; the input reads as it did. -/
def arenaOwnsSpec : ChangeSpec := { name := "arenaOwns", fn := fun _ => fun
  | [d] => { results := [.lit (.bool true)], args := [d] }
  | _ => none }
def arenaOwnsRow : OpenClaim := { program := "ytfokbdgiphphfaa", sum := "9bbec95b4d3a03fb10d062846442da54a9da44e0c453c7e4e22bf3ff0866ca86", func := "tendril/tendrillaw02.ArenaOwns", spec := "arenaOwns", apart := false }
def ArenaOwnsSaid : Prop := arenaOwnsRow.holds Try.pinned (OpenSpec.ofChange arenaOwnsSpec)

/-- ITS FALSE NEIGHBOUR: 'it returns false'. Refute it at one input. -/
def arenaOwnsWrong : ChangeSpec := { name := "arenaOwns", fn := fun _ => fun
  | [d] => { results := [.lit (.bool false)], args := [d] }
  | _ => none }
def ArenaOwnsWrongFalsely : Prop := arenaOwnsRow.holds Try.pinned (OpenSpec.ofChange arenaOwnsWrong)

/-- 'tendrillaw02.ArenaCopies': WHATEVER THE INPUT: true; the input reads as it did. -/
def arenaCopiesSpec : ChangeSpec := { name := "arenaCopies", fn := fun _ => fun
  | [d1, d2, d3] => { results := [.lit (.bool true)], args := [d1, d2, d3] }
  | _ => none }
def arenaCopiesRow : OpenClaim := { program := "ytfokbdgiphphfaa", sum := "9bbec95b4d3a03fb10d062846442da54a9da44e0c453c7e4e22bf3ff0866ca86", func := "tendril/tendrillaw02.ArenaCopies", spec := "arenaCopies", apart := false }
def ArenaCopiesSaid : Prop := arenaCopiesRow.holds Try.pinned (OpenSpec.ofChange arenaCopiesSpec)

/-- ITS FALSE NEIGHBOUR: 'it returns false'. Refute it at one input. -/
def arenaCopiesWrong : ChangeSpec := { name := "arenaCopies", fn := fun _ => fun
  | [d1, d2, d3] => { results := [.lit (.bool false)], args := [d1, d2, d3] }
  | _ => none }
def ArenaCopiesWrongFalsely : Prop := arenaCopiesRow.holds Try.pinned (OpenSpec.ofChange arenaCopiesWrong)

/-- 'tendrillaw02.ArenaSound': WHATEVER THE INPUT: true; the input reads as it did. -/
def arenaSoundSpec : ChangeSpec := { name := "arenaSound", fn := fun _ => fun
  | [d] => { results := [.lit (.bool true)], args := [d] }
  | _ => none }
def arenaSoundRow : OpenClaim := { program := "ytfokbdgiphphfaa", sum := "9bbec95b4d3a03fb10d062846442da54a9da44e0c453c7e4e22bf3ff0866ca86", func := "tendril/tendrillaw02.ArenaSound", spec := "arenaSound", apart := false }
def ArenaSoundSaid : Prop := arenaSoundRow.holds Try.pinned (OpenSpec.ofChange arenaSoundSpec)

/-- ITS FALSE NEIGHBOUR: 'it returns false'. Refute it at one input. -/
def arenaSoundWrong : ChangeSpec := { name := "arenaSound", fn := fun _ => fun
  | [d] => { results := [.lit (.bool false)], args := [d] }
  | _ => none }
def ArenaSoundWrongFalsely : Prop := arenaSoundRow.holds Try.pinned (OpenSpec.ofChange arenaSoundWrong)

/-- 'tendrillaw02.ArenaStays': WHATEVER THE INPUT: true; the input reads as it did. -/
def arenaStaysSpec : ChangeSpec := { name := "arenaStays", fn := fun _ => fun
  | [d1, d2] => { results := [.lit (.bool true)], args := [d1, d2] }
  | _ => none }
def arenaStaysRow : OpenClaim := { program := "ytfokbdgiphphfaa", sum := "9bbec95b4d3a03fb10d062846442da54a9da44e0c453c7e4e22bf3ff0866ca86", func := "tendril/tendrillaw02.ArenaStays", spec := "arenaStays", apart := false }
def ArenaStaysSaid : Prop := arenaStaysRow.holds Try.pinned (OpenSpec.ofChange arenaStaysSpec)

/-- ITS FALSE NEIGHBOUR: 'it returns false'. Refute it at one input. -/
def arenaStaysWrong : ChangeSpec := { name := "arenaStays", fn := fun _ => fun
  | [d1, d2] => { results := [.lit (.bool false)], args := [d1, d2] }
  | _ => none }
def ArenaStaysWrongFalsely : Prop := arenaStaysRow.holds Try.pinned (OpenSpec.ofChange arenaStaysWrong)

/-- 'tendrillaw02.ArenaPlays': WHATEVER THE INPUT: true; the input reads as it did. -/
def arenaPlaysSpec : ChangeSpec := { name := "arenaPlays", fn := fun _ => fun
  | [d1, d2] => { results := [.lit (.bool true)], args := [d1, d2] }
  | _ => none }
def arenaPlaysRow : OpenClaim := { program := "ytfokbdgiphphfaa", sum := "9bbec95b4d3a03fb10d062846442da54a9da44e0c453c7e4e22bf3ff0866ca86", func := "tendril/tendrillaw02.ArenaPlays", spec := "arenaPlays", apart := false }
def ArenaPlaysSaid : Prop := arenaPlaysRow.holds Try.pinned (OpenSpec.ofChange arenaPlaysSpec)

/-- ITS FALSE NEIGHBOUR: 'it returns false'. Refute it at one input. -/
def arenaPlaysWrong : ChangeSpec := { name := "arenaPlays", fn := fun _ => fun
  | [d1, d2] => { results := [.lit (.bool false)], args := [d1, d2] }
  | _ => none }
def ArenaPlaysWrongFalsely : Prop := arenaPlaysRow.holds Try.pinned (OpenSpec.ofChange arenaPlaysWrong)

/-- 'tendrillaw02.ArenaNone': WHATEVER THE INPUT: true; the input reads as it did. -/
def arenaNoneSpec : ChangeSpec := { name := "arenaNone", fn := fun _ => fun
  | [d1, d2, d3] => { results := [.lit (.bool true)], args := [d1, d2, d3] }
  | _ => none }
def arenaNoneRow : OpenClaim := { program := "ytfokbdgiphphfaa", sum := "9bbec95b4d3a03fb10d062846442da54a9da44e0c453c7e4e22bf3ff0866ca86", func := "tendril/tendrillaw02.ArenaNone", spec := "arenaNone", apart := false }
def ArenaNoneSaid : Prop := arenaNoneRow.holds Try.pinned (OpenSpec.ofChange arenaNoneSpec)

/-- ITS FALSE NEIGHBOUR: 'it returns false'. Refute it at one input. -/
def arenaNoneWrong : ChangeSpec := { name := "arenaNone", fn := fun _ => fun
  | [d1, d2, d3] => { results := [.lit (.bool false)], args := [d1, d2, d3] }
  | _ => none }
def ArenaNoneWrongFalsely : Prop := arenaNoneRow.holds Try.pinned (OpenSpec.ofChange arenaNoneWrong)

/- THE SECOND FORM. 'bulk': how many values and letters a reading holds, each counted each time it is reached (what is shared counts as often as it is met; a slice's spare places count too). A statement '..UptoSaid' is the law's where the arguments, and the package variables that the reading takes, are together of bulk at most 1048576: NARROWER than '..Said'. Prove '..Said' where nothing that the law and all that it calls make is longer than what came in: it says more and counts as full. Else prove '..UptoSaid'. A law counts once. -/
mutual
def uptoBulk {H : Type} : DataW H → Nat
  | .lit (.string bytes) => bytes.length + 1
  | .lit _ => 1
  | .nil => 1
  | .ptr d => uptoBulk d + 1
  | .slice elems spare => uptoBulkAll elems + uptoBulkAll spare + 1
  | .agg parts => uptoBulkAll parts + 1
  | .iface _ d => uptoBulk d + 1
  | .map entries => uptoBulkEntries entries + 1
  | .held _ => 1
def uptoBulkAll {H : Type} : List (DataW H) → Nat
  | [] => 0
  | d :: r => uptoBulk d + uptoBulkAll r
def uptoBulkEntries {H : Type} : List (Lit × DataW H) → Nat
  | [] => 0
  | x :: r => uptoBulkEntry x + uptoBulkEntries r
def uptoBulkEntry {H : Type} : Lit × DataW H → Nat
  | (.string bytes, d) => bytes.length + uptoBulk d + 1
  | (_, d) => uptoBulk d + 1
 end
def uptoSmall : (H : Type) → List (DataW H) → Bool := fun _ ds => decide (uptoBulkAll ds ≤ 1048576)
def OpenSpec.upto (s : _root_.Go.ChangeSpec) : _root_.Go.OpenSpec := { _root_.Go.OpenSpec.ofChange s with cond := some uptoSmall }

/-- 'tendrillaw02.ArenaOwns', WHERE WHAT IT READS IS OF BULK AT MOST 1048576: true; the input reads as it did. -/
def arenaOwnsUptoRow : OpenClaim := { program := "ytfokbdgiphphfaa", sum := "9bbec95b4d3a03fb10d062846442da54a9da44e0c453c7e4e22bf3ff0866ca86", func := "tendril/tendrillaw02.ArenaOwns", spec := "arenaOwns", apart := false, narrowed := true }
def ArenaOwnsUptoSaid : Prop := arenaOwnsUptoRow.holds Try.pinned (OpenSpec.upto arenaOwnsSpec)

/-- 'tendrillaw02.ArenaCopies', WHERE WHAT IT READS IS OF BULK AT MOST 1048576: true; the input reads as it did. -/
def arenaCopiesUptoRow : OpenClaim := { program := "ytfokbdgiphphfaa", sum := "9bbec95b4d3a03fb10d062846442da54a9da44e0c453c7e4e22bf3ff0866ca86", func := "tendril/tendrillaw02.ArenaCopies", spec := "arenaCopies", apart := false, narrowed := true }
def ArenaCopiesUptoSaid : Prop := arenaCopiesUptoRow.holds Try.pinned (OpenSpec.upto arenaCopiesSpec)

/-- 'tendrillaw02.ArenaSound', WHERE WHAT IT READS IS OF BULK AT MOST 1048576: true; the input reads as it did. -/
def arenaSoundUptoRow : OpenClaim := { program := "ytfokbdgiphphfaa", sum := "9bbec95b4d3a03fb10d062846442da54a9da44e0c453c7e4e22bf3ff0866ca86", func := "tendril/tendrillaw02.ArenaSound", spec := "arenaSound", apart := false, narrowed := true }
def ArenaSoundUptoSaid : Prop := arenaSoundUptoRow.holds Try.pinned (OpenSpec.upto arenaSoundSpec)

/-- 'tendrillaw02.ArenaStays', WHERE WHAT IT READS IS OF BULK AT MOST 1048576: true; the input reads as it did. -/
def arenaStaysUptoRow : OpenClaim := { program := "ytfokbdgiphphfaa", sum := "9bbec95b4d3a03fb10d062846442da54a9da44e0c453c7e4e22bf3ff0866ca86", func := "tendril/tendrillaw02.ArenaStays", spec := "arenaStays", apart := false, narrowed := true }
def ArenaStaysUptoSaid : Prop := arenaStaysUptoRow.holds Try.pinned (OpenSpec.upto arenaStaysSpec)

/-- 'tendrillaw02.ArenaPlays', WHERE WHAT IT READS IS OF BULK AT MOST 1048576: true; the input reads as it did. -/
def arenaPlaysUptoRow : OpenClaim := { program := "ytfokbdgiphphfaa", sum := "9bbec95b4d3a03fb10d062846442da54a9da44e0c453c7e4e22bf3ff0866ca86", func := "tendril/tendrillaw02.ArenaPlays", spec := "arenaPlays", apart := false, narrowed := true }
def ArenaPlaysUptoSaid : Prop := arenaPlaysUptoRow.holds Try.pinned (OpenSpec.upto arenaPlaysSpec)

/-- 'tendrillaw02.ArenaNone', WHERE WHAT IT READS IS OF BULK AT MOST 1048576: true; the input reads as it did. -/
def arenaNoneUptoRow : OpenClaim := { program := "ytfokbdgiphphfaa", sum := "9bbec95b4d3a03fb10d062846442da54a9da44e0c453c7e4e22bf3ff0866ca86", func := "tendril/tendrillaw02.ArenaNone", spec := "arenaNone", apart := false, narrowed := true }
def ArenaNoneUptoSaid : Prop := arenaNoneUptoRow.holds Try.pinned (OpenSpec.upto arenaNoneSpec)

end Rows
end Go.Proofs.Ytfokbdgiphphfaa
