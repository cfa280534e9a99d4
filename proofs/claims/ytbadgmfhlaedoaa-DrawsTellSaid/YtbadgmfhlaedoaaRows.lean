/-
  No cell of these rows narrows 'for every input' (looked for: loops, veiled, ifaces, maps, wideKeys, modest, calm, conditions, laid).
  DERIVED. THE GIVEN ROWS OF THIS SEAT. 2 by the template 'for every input the law returns true; each argument reads behind the call as it read before'; 0 by the template 'total and deterministic' (their statements: YtbadgmfhlaedoaaTotals.lean).
  GIVEN WITH THE SEED: the statements are not yours to turn. If you find one false, say at which input.
  Laid BY PROGRAM, IN A SANDBOX (cutbox-rows.mjs): the forced cells as the released guide's own fill.sh prints them over the translation f49829562ae64d84… (all of the seat's roots in one cut). By AI agents, Wed Nov 11 2026. No macro, syntax, notation, axiom, sorry.
-/
import Derived.Test.YtbadgmfhlaedoaaChecked
import GoSem.Claim
import GoSem.ClaimJoined
import GoSem.ClaimMapViews
import Derived.JoinedTies
import Derived.KernelRfl
namespace Go.Proofs.Ytbadgmfhlaedoaa
/- THE CELL 'sum', in the pinned program and in every row, IS THE sha256 OF THE DUMP (.gsa) THAT YtbadgmfhlaedoaaProg.lean LOADS. Nothing in Lean hashes anything: it is a label: what it is worth is what the hold of that sum in a sandbox is worth. -/
noncomputable def Try.pinned : Pinned := { name := "ytbadgmfhlaedoaa", sum := "f49829562ae64d8415d125c668a2f6367a6798d79158dafa66fca20861ba40ef", checked := Try.checked }
namespace Rows
def none {H : Type} : Left H := { results := [], args := [] }

/-- 'almshouselaw05.DrawsTell': WHATEVER THE INPUT: true; the input reads as it did. -/
def drawsTellSpec : ChangeSpec := { name := "drawsTell", fn := fun _ => fun
  | [d1, d2] => { results := [.lit (.bool true)], args := [d1, d2] }
  | _ => none }
def drawsTellRow : OpenClaim := { program := "ytbadgmfhlaedoaa", sum := "f49829562ae64d8415d125c668a2f6367a6798d79158dafa66fca20861ba40ef", func := "almshouse/almshouselaw05.DrawsTell", spec := "drawsTell", inPlace := ["sync/atomic.AddInt64", "sync/atomic.LoadInt64"], apart := false }
def DrawsTellSaid : Prop := drawsTellRow.holds Try.pinned (OpenSpec.ofChange drawsTellSpec)

/-- ITS FALSE NEIGHBOUR: 'it returns false'. Refute it at one input. -/
def drawsTellWrong : ChangeSpec := { name := "drawsTell", fn := fun _ => fun
  | [d1, d2] => { results := [.lit (.bool false)], args := [d1, d2] }
  | _ => none }
def DrawsTellWrongFalsely : Prop := drawsTellRow.holds Try.pinned (OpenSpec.ofChange drawsTellWrong)

/-- 'almshouselaw05.DrawsApart': WHATEVER THE INPUT: true; the input reads as it did. -/
def drawsApartSpec : ChangeSpec := { name := "drawsApart", fn := fun _ => fun
  | [d1, d2, d3] => { results := [.lit (.bool true)], args := [d1, d2, d3] }
  | _ => none }
def drawsApartRow : OpenClaim := { program := "ytbadgmfhlaedoaa", sum := "f49829562ae64d8415d125c668a2f6367a6798d79158dafa66fca20861ba40ef", func := "almshouse/almshouselaw05.DrawsApart", spec := "drawsApart", inPlace := ["sync/atomic.AddInt64", "sync/atomic.LoadInt64"], apart := false }
def DrawsApartSaid : Prop := drawsApartRow.holds Try.pinned (OpenSpec.ofChange drawsApartSpec)

/-- ITS FALSE NEIGHBOUR: 'it returns false'. Refute it at one input. -/
def drawsApartWrong : ChangeSpec := { name := "drawsApart", fn := fun _ => fun
  | [d1, d2, d3] => { results := [.lit (.bool false)], args := [d1, d2, d3] }
  | _ => none }
def DrawsApartWrongFalsely : Prop := drawsApartRow.holds Try.pinned (OpenSpec.ofChange drawsApartWrong)

/- THE SECOND FORM. 'bulk': how many values and letters a reading holds, each counted each time it is reached (what is shared counts as often as it is met; a slice's spare places count too). A statement '..UptoSaid' is the law's where the arguments, and the package variables that the reading takes, are together of bulk at most 1048576: NARROWER than '..Said'. Prove '..Said' where nothing that the law and all that it calls make is longer than what came in: it says more and counts as full. Else prove '..UptoSaid'. A law counts once. -/
mutual
def uptoBulk {H : Type} : DataW H → Nat
  | .lit (.string bytes) => bytes.length + 1
  | .lit _ => 1
  | .nil => 1
  | .ptr d => uptoBulk d + 1
  | .slice elems spare => uptoBulkAll elems + uptoBulkAll spare + 1
  | .agg parts => uptoBulkAll parts + 1
  | .iface _ d => uptoBulk d + 1
  | .map entries => uptoBulkEntries entries + 1
  | .held _ => 1
def uptoBulkAll {H : Type} : List (DataW H) → Nat
  | [] => 0
  | d :: r => uptoBulk d + uptoBulkAll r
def uptoBulkEntries {H : Type} : List (Lit × DataW H) → Nat
  | [] => 0
  | x :: r => uptoBulkEntry x + uptoBulkEntries r
def uptoBulkEntry {H : Type} : Lit × DataW H → Nat
  | (.string bytes, d) => bytes.length + uptoBulk d + 1
  | (_, d) => uptoBulk d + 1
 end
def uptoSmall : (H : Type) → List (DataW H) → Bool := fun _ ds => decide (uptoBulkAll ds ≤ 1048576)
def OpenSpec.upto (s : _root_.Go.ChangeSpec) : _root_.Go.OpenSpec := { _root_.Go.OpenSpec.ofChange s with cond := some uptoSmall }

/-- 'almshouselaw05.DrawsTell', WHERE WHAT IT READS IS OF BULK AT MOST 1048576: true; the input reads as it did. -/
def drawsTellUptoRow : OpenClaim := { program := "ytbadgmfhlaedoaa", sum := "f49829562ae64d8415d125c668a2f6367a6798d79158dafa66fca20861ba40ef", func := "almshouse/almshouselaw05.DrawsTell", spec := "drawsTell", inPlace := ["sync/atomic.AddInt64", "sync/atomic.LoadInt64"], apart := false, narrowed := true }
def DrawsTellUptoSaid : Prop := drawsTellUptoRow.holds Try.pinned (OpenSpec.upto drawsTellSpec)

/-- 'almshouselaw05.DrawsApart', WHERE WHAT IT READS IS OF BULK AT MOST 1048576: true; the input reads as it did. -/
def drawsApartUptoRow : OpenClaim := { program := "ytbadgmfhlaedoaa", sum := "f49829562ae64d8415d125c668a2f6367a6798d79158dafa66fca20861ba40ef", func := "almshouse/almshouselaw05.DrawsApart", spec := "drawsApart", inPlace := ["sync/atomic.AddInt64", "sync/atomic.LoadInt64"], apart := false, narrowed := true }
def DrawsApartUptoSaid : Prop := drawsApartUptoRow.holds Try.pinned (OpenSpec.upto drawsApartSpec)

end Rows
end Go.Proofs.Ytbadgmfhlaedoaa
