/-
  No cell of these rows narrows 'for every input' (looked for: loops, veiled, ifaces, maps, wideKeys, modest, calm, conditions, laid).
  DERIVED. THE GIVEN ROWS OF THIS SEAT. 4 by the template 'for every input the law returns true; each argument reads behind the call as it read before'; 0 by the template 'total and deterministic' (their statements: YtoibllpfjnicfaaTotals.lean).
  GIVEN WITH THE SEED: the statements are not yours to turn. If you find one false, say at which input.
  Laid BY PROGRAM, IN A SANDBOX (cutbox-rows.mjs): the forced cells as the released guide's own fill.sh prints them over the translation 65b2347963cce88a… (all of the seat's roots in one cut). By AI agents, Wed Nov 11 2026. No macro, syntax, notation, axiom, sorry.
-/
import Derived.Test.YtoibllpfjnicfaaChecked
import GoSem.Claim
import GoSem.ClaimJoined
import GoSem.ClaimMapViews
import Derived.JoinedTies
import Derived.KernelRfl
namespace Go.Proofs.Ytoibllpfjnicfaa
/- THE CELL 'sum', in the pinned program and in every row, IS THE sha256 OF THE DUMP (.gsa) THAT YtoibllpfjnicfaaProg.lean LOADS. Nothing in Lean hashes anything: it is a label: what it is worth is what the hold of that sum in a sandbox is worth. -/
noncomputable def Try.pinned : Pinned := { name := "ytoibllpfjnicfaa", sum := "65b2347963cce88ae6fc96863f315de61246d4648c6b6a7603e4b7cf424abb0b", checked := Try.checked }
namespace Rows
def none {H : Type} : Left H := { results := [], args := [] }

/-- 'twinkeeplaw15.RecvPlays': WHATEVER THE INPUT: true; the input reads as it did. -/
def recvPlaysSpec : ChangeSpec := { name := "recvPlays", fn := fun _ => fun
  | [d] => { results := [.lit (.bool true)], args := [d] }
  | _ => none }
def recvPlaysRow : OpenClaim := { program := "ytoibllpfjnicfaa", sum := "65b2347963cce88ae6fc96863f315de61246d4648c6b6a7603e4b7cf424abb0b", func := "twinkeep/twinkeeplaw15.RecvPlays", spec := "recvPlays", unfollowed := true, recurses := true, apart := false }
def RecvPlaysSaid : Prop := recvPlaysRow.holds Try.pinned (OpenSpec.ofChange recvPlaysSpec)

/-- ITS FALSE NEIGHBOUR: 'it returns false'. Refute it at one input. -/
def recvPlaysWrong : ChangeSpec := { name := "recvPlays", fn := fun _ => fun
  | [d] => { results := [.lit (.bool false)], args := [d] }
  | _ => none }
def RecvPlaysWrongFalsely : Prop := recvPlaysRow.holds Try.pinned (OpenSpec.ofChange recvPlaysWrong)

/-- 'twinkeeplaw15.RecvOnce': WHATEVER THE INPUT: true; the input reads as it did. -/
def recvOnceSpec : ChangeSpec := { name := "recvOnce", fn := fun _ => fun
  | [d] => { results := [.lit (.bool true)], args := [d] }
  | _ => none }
def recvOnceRow : OpenClaim := { program := "ytoibllpfjnicfaa", sum := "65b2347963cce88ae6fc96863f315de61246d4648c6b6a7603e4b7cf424abb0b", func := "twinkeep/twinkeeplaw15.RecvOnce", spec := "recvOnce", unfollowed := true, recurses := true, apart := false }
def RecvOnceSaid : Prop := recvOnceRow.holds Try.pinned (OpenSpec.ofChange recvOnceSpec)

/-- ITS FALSE NEIGHBOUR: 'it returns false'. Refute it at one input. -/
def recvOnceWrong : ChangeSpec := { name := "recvOnce", fn := fun _ => fun
  | [d] => { results := [.lit (.bool false)], args := [d] }
  | _ => none }
def RecvOnceWrongFalsely : Prop := recvOnceRow.holds Try.pinned (OpenSpec.ofChange recvOnceWrong)

/-- 'twinkeeplaw15.RecvKept': WHATEVER THE INPUT: true; the input reads as it did. -/
def recvKeptSpec : ChangeSpec := { name := "recvKept", fn := fun _ => fun
  | [d] => { results := [.lit (.bool true)], args := [d] }
  | _ => none }
def recvKeptRow : OpenClaim := { program := "ytoibllpfjnicfaa", sum := "65b2347963cce88ae6fc96863f315de61246d4648c6b6a7603e4b7cf424abb0b", func := "twinkeep/twinkeeplaw15.RecvKept", spec := "recvKept", unfollowed := true, recurses := true, apart := false }
def RecvKeptSaid : Prop := recvKeptRow.holds Try.pinned (OpenSpec.ofChange recvKeptSpec)

/-- ITS FALSE NEIGHBOUR: 'it returns false'. Refute it at one input. -/
def recvKeptWrong : ChangeSpec := { name := "recvKept", fn := fun _ => fun
  | [d] => { results := [.lit (.bool false)], args := [d] }
  | _ => none }
def RecvKeptWrongFalsely : Prop := recvKeptRow.holds Try.pinned (OpenSpec.ofChange recvKeptWrong)

/-- 'twinkeeplaw15.RecvStream': WHATEVER THE INPUT: true; the input reads as it did. -/
def recvStreamSpec : ChangeSpec := { name := "recvStream", fn := fun _ => fun
  | [d1, d2] => { results := [.lit (.bool true)], args := [d1, d2] }
  | _ => none }
def recvStreamRow : OpenClaim := { program := "ytoibllpfjnicfaa", sum := "65b2347963cce88ae6fc96863f315de61246d4648c6b6a7603e4b7cf424abb0b", func := "twinkeep/twinkeeplaw15.RecvStream", spec := "recvStream", unfollowed := true, recurses := true, apart := false }
def RecvStreamSaid : Prop := recvStreamRow.holds Try.pinned (OpenSpec.ofChange recvStreamSpec)

/-- ITS FALSE NEIGHBOUR: 'it returns false'. Refute it at one input. -/
def recvStreamWrong : ChangeSpec := { name := "recvStream", fn := fun _ => fun
  | [d1, d2] => { results := [.lit (.bool false)], args := [d1, d2] }
  | _ => none }
def RecvStreamWrongFalsely : Prop := recvStreamRow.holds Try.pinned (OpenSpec.ofChange recvStreamWrong)

/- THE SECOND FORM. 'bulk': how many values and letters a reading holds, each counted each time it is reached (what is shared counts as often as it is met; a slice's spare places count too). A statement '..UptoSaid' is the law's where the arguments, and the package variables that the reading takes, are together of bulk at most 1048576: NARROWER than '..Said'. Prove '..Said' where nothing that the law and all that it calls make is longer than what came in: it says more and counts as full. Else prove '..UptoSaid'. A law counts once. -/
mutual
def uptoBulk {H : Type} : DataW H → Nat
  | .lit (.string bytes) => bytes.length + 1
  | .lit _ => 1
  | .nil => 1
  | .ptr d => uptoBulk d + 1
  | .slice elems spare => uptoBulkAll elems + uptoBulkAll spare + 1
  | .agg parts => uptoBulkAll parts + 1
  | .iface _ d => uptoBulk d + 1
  | .map entries => uptoBulkEntries entries + 1
  | .held _ => 1
def uptoBulkAll {H : Type} : List (DataW H) → Nat
  | [] => 0
  | d :: r => uptoBulk d + uptoBulkAll r
def uptoBulkEntries {H : Type} : List (Lit × DataW H) → Nat
  | [] => 0
  | x :: r => uptoBulkEntry x + uptoBulkEntries r
def uptoBulkEntry {H : Type} : Lit × DataW H → Nat
  | (.string bytes, d) => bytes.length + uptoBulk d + 1
  | (_, d) => uptoBulk d + 1
 end
def uptoSmall : (H : Type) → List (DataW H) → Bool := fun _ ds => decide (uptoBulkAll ds ≤ 1048576)
def OpenSpec.upto (s : _root_.Go.ChangeSpec) : _root_.Go.OpenSpec := { _root_.Go.OpenSpec.ofChange s with cond := some uptoSmall }

/-- 'twinkeeplaw15.RecvPlays', WHERE WHAT IT READS IS OF BULK AT MOST 1048576: true; the input reads as it did. -/
def recvPlaysUptoRow : OpenClaim := { program := "ytoibllpfjnicfaa", sum := "65b2347963cce88ae6fc96863f315de61246d4648c6b6a7603e4b7cf424abb0b", func := "twinkeep/twinkeeplaw15.RecvPlays", spec := "recvPlays", unfollowed := true, recurses := true, apart := false, narrowed := true }
def RecvPlaysUptoSaid : Prop := recvPlaysUptoRow.holds Try.pinned (OpenSpec.upto recvPlaysSpec)

/-- 'twinkeeplaw15.RecvOnce', WHERE WHAT IT READS IS OF BULK AT MOST 1048576: true; the input reads as it did. -/
def recvOnceUptoRow : OpenClaim := { program := "ytoibllpfjnicfaa", sum := "65b2347963cce88ae6fc96863f315de61246d4648c6b6a7603e4b7cf424abb0b", func := "twinkeep/twinkeeplaw15.RecvOnce", spec := "recvOnce", unfollowed := true, recurses := true, apart := false, narrowed := true }
def RecvOnceUptoSaid : Prop := recvOnceUptoRow.holds Try.pinned (OpenSpec.upto recvOnceSpec)

/-- 'twinkeeplaw15.RecvKept', WHERE WHAT IT READS IS OF BULK AT MOST 1048576: true; the input reads as it did. -/
def recvKeptUptoRow : OpenClaim := { program := "ytoibllpfjnicfaa", sum := "65b2347963cce88ae6fc96863f315de61246d4648c6b6a7603e4b7cf424abb0b", func := "twinkeep/twinkeeplaw15.RecvKept", spec := "recvKept", unfollowed := true, recurses := true, apart := false, narrowed := true }
def RecvKeptUptoSaid : Prop := recvKeptUptoRow.holds Try.pinned (OpenSpec.upto recvKeptSpec)

/-- 'twinkeeplaw15.RecvStream', WHERE WHAT IT READS IS OF BULK AT MOST 1048576: true; the input reads as it did. -/
def recvStreamUptoRow : OpenClaim := { program := "ytoibllpfjnicfaa", sum := "65b2347963cce88ae6fc96863f315de61246d4648c6b6a7603e4b7cf424abb0b", func := "twinkeep/twinkeeplaw15.RecvStream", spec := "recvStream", unfollowed := true, recurses := true, apart := false, narrowed := true }
def RecvStreamUptoSaid : Prop := recvStreamUptoRow.holds Try.pinned (OpenSpec.upto recvStreamSpec)

end Rows
end Go.Proofs.Ytoibllpfjnicfaa
