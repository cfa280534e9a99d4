/-
  No cell of these rows narrows 'for every input' (looked for: loops, veiled, ifaces, maps, wideKeys, modest, calm, conditions, laid).
  DERIVED. THE GIVEN ROWS OF THIS SEAT. 12 by the template 'for every input the law returns true; each argument reads behind the call as it read before'; 0 by the template 'total and deterministic' (their statements: YtobhpfbldmobfaaTotals.lean).
  GIVEN WITH THE SEED: the statements are not yours to turn. If you find one false, say at which input.
  Laid BY PROGRAM, IN A SANDBOX (cutbox-rows.mjs): the forced cells as the released guide's own fill.sh prints them over the translation c061b05e6471956a… (all of the seat's roots in one cut). By AI agents, Wed Nov 11 2026. No macro, syntax, notation, axiom, sorry.
-/
import Derived.Test.YtobhpfbldmobfaaChecked
import GoSem.Claim
import GoSem.ClaimJoined
import GoSem.ClaimMapViews
import Derived.JoinedTies
import Derived.KernelRfl
namespace Go.Proofs.Ytobhpfbldmobfaa
/- THE CELL 'sum', in the pinned program and in every row, IS THE sha256 OF THE DUMP (.gsa) THAT YtobhpfbldmobfaaProg.lean LOADS. Nothing in Lean hashes anything: it is a label: what it is worth is what the hold of that sum in a sandbox is worth. -/
noncomputable def Try.pinned : Pinned := { name := "ytobhpfbldmobfaa", sum := "c061b05e6471956a0590dd82e096812337f0fe0ac9931a9d73b37185afcd8f65", checked := Try.checked }
namespace Rows
def none {H : Type} : Left H := { results := [], args := [] }

/-- 'almshouselaw09.RuleRoom': WHATEVER THE INPUT: true; the input reads as it did. -/
def ruleRoomSpec : ChangeSpec := { name := "ruleRoom", fn := fun _ => fun
  | [d1, d2] => { results := [.lit (.bool true)], args := [d1, d2] }
  | _ => none }
def ruleRoomRow : OpenClaim := { program := "ytobhpfbldmobfaa", sum := "c061b05e6471956a0590dd82e096812337f0fe0ac9931a9d73b37185afcd8f65", func := "almshouse/almshouselaw09.RuleRoom", spec := "ruleRoom", apart := false }
def RuleRoomSaid : Prop := ruleRoomRow.holds Try.pinned (OpenSpec.ofChange ruleRoomSpec)

/-- ITS FALSE NEIGHBOUR: 'it returns false'. Refute it at one input. -/
def ruleRoomWrong : ChangeSpec := { name := "ruleRoom", fn := fun _ => fun
  | [d1, d2] => { results := [.lit (.bool false)], args := [d1, d2] }
  | _ => none }
def RuleRoomWrongFalsely : Prop := ruleRoomRow.holds Try.pinned (OpenSpec.ofChange ruleRoomWrong)

/-- 'almshouselaw06.PowerLasts': WHATEVER THE INPUT: true; the input reads as it did. -/
def powerLastsSpec : ChangeSpec := { name := "powerLasts", fn := fun _ => fun
  | [d] => { results := [.lit (.bool true)], args := [d] }
  | _ => none }
def powerLastsRow : OpenClaim := { program := "ytobhpfbldmobfaa", sum := "c061b05e6471956a0590dd82e096812337f0fe0ac9931a9d73b37185afcd8f65", func := "almshouse/almshouselaw06.PowerLasts", spec := "powerLasts", inPlace := ["sync/atomic.StoreInt64", "sync/atomic.LoadUint32", "sync/atomic.AddInt64", "sync/atomic.LoadInt64", "sync/atomic.StoreUint32"], apart := false }
def PowerLastsSaid : Prop := powerLastsRow.holds Try.pinned (OpenSpec.ofChange powerLastsSpec)

/-- ITS FALSE NEIGHBOUR: 'it returns false'. Refute it at one input. -/
def powerLastsWrong : ChangeSpec := { name := "powerLasts", fn := fun _ => fun
  | [d] => { results := [.lit (.bool false)], args := [d] }
  | _ => none }
def PowerLastsWrongFalsely : Prop := powerLastsRow.holds Try.pinned (OpenSpec.ofChange powerLastsWrong)

/-- 'almshouselaw15.VictimGreedy': WHATEVER THE INPUT: true; the input reads as it did. -/
def victimGreedySpec : ChangeSpec := { name := "victimGreedy", fn := fun _ => fun
  | [d] => { results := [.lit (.bool true)], args := [d] }
  | _ => none }
def victimGreedyRow : OpenClaim := { program := "ytobhpfbldmobfaa", sum := "c061b05e6471956a0590dd82e096812337f0fe0ac9931a9d73b37185afcd8f65", func := "almshouse/almshouselaw15.VictimGreedy", spec := "victimGreedy", apart := false }
def VictimGreedySaid : Prop := victimGreedyRow.holds Try.pinned (OpenSpec.ofChange victimGreedySpec)

/-- ITS FALSE NEIGHBOUR: 'it returns false'. Refute it at one input. -/
def victimGreedyWrong : ChangeSpec := { name := "victimGreedy", fn := fun _ => fun
  | [d] => { results := [.lit (.bool false)], args := [d] }
  | _ => none }
def VictimGreedyWrongFalsely : Prop := victimGreedyRow.holds Try.pinned (OpenSpec.ofChange victimGreedyWrong)

/-- 'almshouselaw15.VictimBenefit': WHATEVER THE INPUT: true; the input reads as it did. -/
def victimBenefitSpec : ChangeSpec := { name := "victimBenefit", fn := fun _ => fun
  | [d1, d2, d3, d4] => { results := [.lit (.bool true)], args := [d1, d2, d3, d4] }
  | _ => none }
def victimBenefitRow : OpenClaim := { program := "ytobhpfbldmobfaa", sum := "c061b05e6471956a0590dd82e096812337f0fe0ac9931a9d73b37185afcd8f65", func := "almshouse/almshouselaw15.VictimBenefit", spec := "victimBenefit", apart := false }
def VictimBenefitSaid : Prop := victimBenefitRow.holds Try.pinned (OpenSpec.ofChange victimBenefitSpec)

/-- ITS FALSE NEIGHBOUR: 'it returns false'. Refute it at one input. -/
def victimBenefitWrong : ChangeSpec := { name := "victimBenefit", fn := fun _ => fun
  | [d1, d2, d3, d4] => { results := [.lit (.bool false)], args := [d1, d2, d3, d4] }
  | _ => none }
def VictimBenefitWrongFalsely : Prop := victimBenefitRow.holds Try.pinned (OpenSpec.ofChange victimBenefitWrong)

/-- 'almshouselaw15.VictimLeast': WHATEVER THE INPUT: true; the input reads as it did. -/
def victimLeastSpec : ChangeSpec := { name := "victimLeast", fn := fun _ => fun
  | [d] => { results := [.lit (.bool true)], args := [d] }
  | _ => none }
def victimLeastRow : OpenClaim := { program := "ytobhpfbldmobfaa", sum := "c061b05e6471956a0590dd82e096812337f0fe0ac9931a9d73b37185afcd8f65", func := "almshouse/almshouselaw15.VictimLeast", spec := "victimLeast", apart := false }
def VictimLeastSaid : Prop := victimLeastRow.holds Try.pinned (OpenSpec.ofChange victimLeastSpec)

/-- ITS FALSE NEIGHBOUR: 'it returns false'. Refute it at one input. -/
def victimLeastWrong : ChangeSpec := { name := "victimLeast", fn := fun _ => fun
  | [d] => { results := [.lit (.bool false)], args := [d] }
  | _ => none }
def VictimLeastWrongFalsely : Prop := victimLeastRow.holds Try.pinned (OpenSpec.ofChange victimLeastWrong)

/-- 'almshouselaw06.PowerTells': WHATEVER THE INPUT: true; the input reads as it did. -/
def powerTellsSpec : ChangeSpec := { name := "powerTells", fn := fun _ => fun
  | [d1, d2] => { results := [.lit (.bool true)], args := [d1, d2] }
  | _ => none }
def powerTellsRow : OpenClaim := { program := "ytobhpfbldmobfaa", sum := "c061b05e6471956a0590dd82e096812337f0fe0ac9931a9d73b37185afcd8f65", func := "almshouse/almshouselaw06.PowerTells", spec := "powerTells", inPlace := ["sync/atomic.StoreInt64", "sync/atomic.LoadUint32", "sync/atomic.AddInt64", "sync/atomic.LoadInt64", "sync/atomic.StoreUint32"], apart := false }
def PowerTellsSaid : Prop := powerTellsRow.holds Try.pinned (OpenSpec.ofChange powerTellsSpec)

/-- ITS FALSE NEIGHBOUR: 'it returns false'. Refute it at one input. -/
def powerTellsWrong : ChangeSpec := { name := "powerTells", fn := fun _ => fun
  | [d1, d2] => { results := [.lit (.bool false)], args := [d1, d2] }
  | _ => none }
def PowerTellsWrongFalsely : Prop := powerTellsRow.holds Try.pinned (OpenSpec.ofChange powerTellsWrong)

/-- 'almshouselaw04.GeomPlaces': WHATEVER THE INPUT: true; the input reads as it did. -/
def geomPlacesSpec : ChangeSpec := { name := "geomPlaces", fn := fun _ => fun
  | [d1, d2, d3] => { results := [.lit (.bool true)], args := [d1, d2, d3] }
  | _ => none }
def geomPlacesRow : OpenClaim := { program := "ytobhpfbldmobfaa", sum := "c061b05e6471956a0590dd82e096812337f0fe0ac9931a9d73b37185afcd8f65", func := "almshouse/almshouselaw04.GeomPlaces", spec := "geomPlaces", apart := false }
def GeomPlacesSaid : Prop := geomPlacesRow.holds Try.pinned (OpenSpec.ofChange geomPlacesSpec)

/-- ITS FALSE NEIGHBOUR: 'it returns false'. Refute it at one input. -/
def geomPlacesWrong : ChangeSpec := { name := "geomPlaces", fn := fun _ => fun
  | [d1, d2, d3] => { results := [.lit (.bool false)], args := [d1, d2, d3] }
  | _ => none }
def GeomPlacesWrongFalsely : Prop := geomPlacesRow.holds Try.pinned (OpenSpec.ofChange geomPlacesWrong)

/-- 'almshouselaw24.PrefixFinds': WHATEVER THE INPUT: true; the input reads as it did. -/
def prefixFindsSpec : ChangeSpec := { name := "prefixFinds", fn := fun _ => fun
  | [d1, d2, d3] => { results := [.lit (.bool true)], args := [d1, d2, d3] }
  | _ => none }
def prefixFindsRow : OpenClaim := { program := "ytobhpfbldmobfaa", sum := "c061b05e6471956a0590dd82e096812337f0fe0ac9931a9d73b37185afcd8f65", func := "almshouse/almshouselaw24.PrefixFinds", spec := "prefixFinds", unfollowed := true, recurses := true, apart := false }
def PrefixFindsSaid : Prop := prefixFindsRow.holds Try.pinned (OpenSpec.ofChange prefixFindsSpec)

/-- ITS FALSE NEIGHBOUR: 'it returns false'. Refute it at one input. -/
def prefixFindsWrong : ChangeSpec := { name := "prefixFinds", fn := fun _ => fun
  | [d1, d2, d3] => { results := [.lit (.bool false)], args := [d1, d2, d3] }
  | _ => none }
def PrefixFindsWrongFalsely : Prop := prefixFindsRow.holds Try.pinned (OpenSpec.ofChange prefixFindsWrong)

/-- 'almshouselaw24.PrefixBack': WHATEVER THE INPUT: true; the input reads as it did. -/
def prefixBackSpec : ChangeSpec := { name := "prefixBack", fn := fun _ => fun
  | [d1, d2, d3] => { results := [.lit (.bool true)], args := [d1, d2, d3] }
  | _ => none }
def prefixBackRow : OpenClaim := { program := "ytobhpfbldmobfaa", sum := "c061b05e6471956a0590dd82e096812337f0fe0ac9931a9d73b37185afcd8f65", func := "almshouse/almshouselaw24.PrefixBack", spec := "prefixBack", unfollowed := true, recurses := true, apart := false }
def PrefixBackSaid : Prop := prefixBackRow.holds Try.pinned (OpenSpec.ofChange prefixBackSpec)

/-- ITS FALSE NEIGHBOUR: 'it returns false'. Refute it at one input. -/
def prefixBackWrong : ChangeSpec := { name := "prefixBack", fn := fun _ => fun
  | [d1, d2, d3] => { results := [.lit (.bool false)], args := [d1, d2, d3] }
  | _ => none }
def PrefixBackWrongFalsely : Prop := prefixBackRow.holds Try.pinned (OpenSpec.ofChange prefixBackWrong)

/-- 'almshouselaw20.QueuePlays': WHATEVER THE INPUT: true; the input reads as it did. -/
def queuePlaysSpec : ChangeSpec := { name := "queuePlays", fn := fun _ => fun
  | [d] => { results := [.lit (.bool true)], args := [d] }
  | _ => none }
def queuePlaysRow : OpenClaim := { program := "ytobhpfbldmobfaa", sum := "c061b05e6471956a0590dd82e096812337f0fe0ac9931a9d73b37185afcd8f65", func := "almshouse/almshouselaw20.QueuePlays", spec := "queuePlays", apart := false }
def QueuePlaysSaid : Prop := queuePlaysRow.holds Try.pinned (OpenSpec.ofChange queuePlaysSpec)

/-- ITS FALSE NEIGHBOUR: 'it returns false'. Refute it at one input. -/
def queuePlaysWrong : ChangeSpec := { name := "queuePlays", fn := fun _ => fun
  | [d] => { results := [.lit (.bool false)], args := [d] }
  | _ => none }
def QueuePlaysWrongFalsely : Prop := queuePlaysRow.holds Try.pinned (OpenSpec.ofChange queuePlaysWrong)

/-- 'almshouselaw20.QueueNone': WHATEVER THE INPUT: true; the input reads as it did. -/
def queueNoneSpec : ChangeSpec := { name := "queueNone", fn := fun _ => fun
  | [d1, d2] => { results := [.lit (.bool true)], args := [d1, d2] }
  | _ => none }
def queueNoneRow : OpenClaim := { program := "ytobhpfbldmobfaa", sum := "c061b05e6471956a0590dd82e096812337f0fe0ac9931a9d73b37185afcd8f65", func := "almshouse/almshouselaw20.QueueNone", spec := "queueNone", apart := false }
def QueueNoneSaid : Prop := queueNoneRow.holds Try.pinned (OpenSpec.ofChange queueNoneSpec)

/-- ITS FALSE NEIGHBOUR: 'it returns false'. Refute it at one input. -/
def queueNoneWrong : ChangeSpec := { name := "queueNone", fn := fun _ => fun
  | [d1, d2] => { results := [.lit (.bool false)], args := [d1, d2] }
  | _ => none }
def QueueNoneWrongFalsely : Prop := queueNoneRow.holds Try.pinned (OpenSpec.ofChange queueNoneWrong)

/-- 'almshouselaw05.DrawsTell': WHATEVER THE INPUT: true; the input reads as it did. -/
def drawsTellSpec : ChangeSpec := { name := "drawsTell", fn := fun _ => fun
  | [d1, d2] => { results := [.lit (.bool true)], args := [d1, d2] }
  | _ => none }
def drawsTellRow : OpenClaim := { program := "ytobhpfbldmobfaa", sum := "c061b05e6471956a0590dd82e096812337f0fe0ac9931a9d73b37185afcd8f65", func := "almshouse/almshouselaw05.DrawsTell", spec := "drawsTell", inPlace := ["sync/atomic.AddInt64", "sync/atomic.LoadInt64"], apart := false }
def DrawsTellSaid : Prop := drawsTellRow.holds Try.pinned (OpenSpec.ofChange drawsTellSpec)

/-- ITS FALSE NEIGHBOUR: 'it returns false'. Refute it at one input. -/
def drawsTellWrong : ChangeSpec := { name := "drawsTell", fn := fun _ => fun
  | [d1, d2] => { results := [.lit (.bool false)], args := [d1, d2] }
  | _ => none }
def DrawsTellWrongFalsely : Prop := drawsTellRow.holds Try.pinned (OpenSpec.ofChange drawsTellWrong)

/- THE SECOND FORM. 'bulk': how many values and letters a reading holds, each counted each time it is reached (what is shared counts as often as it is met; a slice's spare places count too). A statement '..UptoSaid' is the law's where the arguments, and the package variables that the reading takes, are together of bulk at most 1048576: NARROWER than '..Said'. Prove '..Said' where nothing that the law and all that it calls make is longer than what came in: it says more and counts as full. Else prove '..UptoSaid'. A law counts once. -/
mutual
def uptoBulk {H : Type} : DataW H → Nat
  | .lit (.string bytes) => bytes.length + 1
  | .lit _ => 1
  | .nil => 1
  | .ptr d => uptoBulk d + 1
  | .slice elems spare => uptoBulkAll elems + uptoBulkAll spare + 1
  | .agg parts => uptoBulkAll parts + 1
  | .iface _ d => uptoBulk d + 1
  | .map entries => uptoBulkEntries entries + 1
  | .held _ => 1
def uptoBulkAll {H : Type} : List (DataW H) → Nat
  | [] => 0
  | d :: r => uptoBulk d + uptoBulkAll r
def uptoBulkEntries {H : Type} : List (Lit × DataW H) → Nat
  | [] => 0
  | x :: r => uptoBulkEntry x + uptoBulkEntries r
def uptoBulkEntry {H : Type} : Lit × DataW H → Nat
  | (.string bytes, d) => bytes.length + uptoBulk d + 1
  | (_, d) => uptoBulk d + 1
 end
def uptoSmall : (H : Type) → List (DataW H) → Bool := fun _ ds => decide (uptoBulkAll ds ≤ 1048576)
def OpenSpec.upto (s : _root_.Go.ChangeSpec) : _root_.Go.OpenSpec := { _root_.Go.OpenSpec.ofChange s with cond := some uptoSmall }

/-- 'almshouselaw09.RuleRoom', WHERE WHAT IT READS IS OF BULK AT MOST 1048576: true; the input reads as it did. -/
def ruleRoomUptoRow : OpenClaim := { program := "ytobhpfbldmobfaa", sum := "c061b05e6471956a0590dd82e096812337f0fe0ac9931a9d73b37185afcd8f65", func := "almshouse/almshouselaw09.RuleRoom", spec := "ruleRoom", apart := false, narrowed := true }
def RuleRoomUptoSaid : Prop := ruleRoomUptoRow.holds Try.pinned (OpenSpec.upto ruleRoomSpec)

/-- 'almshouselaw06.PowerLasts', WHERE WHAT IT READS IS OF BULK AT MOST 1048576: true; the input reads as it did. -/
def powerLastsUptoRow : OpenClaim := { program := "ytobhpfbldmobfaa", sum := "c061b05e6471956a0590dd82e096812337f0fe0ac9931a9d73b37185afcd8f65", func := "almshouse/almshouselaw06.PowerLasts", spec := "powerLasts", inPlace := ["sync/atomic.StoreInt64", "sync/atomic.LoadUint32", "sync/atomic.AddInt64", "sync/atomic.LoadInt64", "sync/atomic.StoreUint32"], apart := false, narrowed := true }
def PowerLastsUptoSaid : Prop := powerLastsUptoRow.holds Try.pinned (OpenSpec.upto powerLastsSpec)

/-- 'almshouselaw15.VictimGreedy', WHERE WHAT IT READS IS OF BULK AT MOST 1048576: true; the input reads as it did. -/
def victimGreedyUptoRow : OpenClaim := { program := "ytobhpfbldmobfaa", sum := "c061b05e6471956a0590dd82e096812337f0fe0ac9931a9d73b37185afcd8f65", func := "almshouse/almshouselaw15.VictimGreedy", spec := "victimGreedy", apart := false, narrowed := true }
def VictimGreedyUptoSaid : Prop := victimGreedyUptoRow.holds Try.pinned (OpenSpec.upto victimGreedySpec)

/-- 'almshouselaw15.VictimBenefit', WHERE WHAT IT READS IS OF BULK AT MOST 1048576: true; the input reads as it did. -/
def victimBenefitUptoRow : OpenClaim := { program := "ytobhpfbldmobfaa", sum := "c061b05e6471956a0590dd82e096812337f0fe0ac9931a9d73b37185afcd8f65", func := "almshouse/almshouselaw15.VictimBenefit", spec := "victimBenefit", apart := false, narrowed := true }
def VictimBenefitUptoSaid : Prop := victimBenefitUptoRow.holds Try.pinned (OpenSpec.upto victimBenefitSpec)

/-- 'almshouselaw15.VictimLeast', WHERE WHAT IT READS IS OF BULK AT MOST 1048576: true; the input reads as it did. -/
def victimLeastUptoRow : OpenClaim := { program := "ytobhpfbldmobfaa", sum := "c061b05e6471956a0590dd82e096812337f0fe0ac9931a9d73b37185afcd8f65", func := "almshouse/almshouselaw15.VictimLeast", spec := "victimLeast", apart := false, narrowed := true }
def VictimLeastUptoSaid : Prop := victimLeastUptoRow.holds Try.pinned (OpenSpec.upto victimLeastSpec)

/-- 'almshouselaw06.PowerTells', WHERE WHAT IT READS IS OF BULK AT MOST 1048576: true; the input reads as it did. -/
def powerTellsUptoRow : OpenClaim := { program := "ytobhpfbldmobfaa", sum := "c061b05e6471956a0590dd82e096812337f0fe0ac9931a9d73b37185afcd8f65", func := "almshouse/almshouselaw06.PowerTells", spec := "powerTells", inPlace := ["sync/atomic.StoreInt64", "sync/atomic.LoadUint32", "sync/atomic.AddInt64", "sync/atomic.LoadInt64", "sync/atomic.StoreUint32"], apart := false, narrowed := true }
def PowerTellsUptoSaid : Prop := powerTellsUptoRow.holds Try.pinned (OpenSpec.upto powerTellsSpec)

/-- 'almshouselaw04.GeomPlaces', WHERE WHAT IT READS IS OF BULK AT MOST 1048576: true; the input reads as it did. -/
def geomPlacesUptoRow : OpenClaim := { program := "ytobhpfbldmobfaa", sum := "c061b05e6471956a0590dd82e096812337f0fe0ac9931a9d73b37185afcd8f65", func := "almshouse/almshouselaw04.GeomPlaces", spec := "geomPlaces", apart := false, narrowed := true }
def GeomPlacesUptoSaid : Prop := geomPlacesUptoRow.holds Try.pinned (OpenSpec.upto geomPlacesSpec)

/-- 'almshouselaw24.PrefixFinds', WHERE WHAT IT READS IS OF BULK AT MOST 1048576: true; the input reads as it did. -/
def prefixFindsUptoRow : OpenClaim := { program := "ytobhpfbldmobfaa", sum := "c061b05e6471956a0590dd82e096812337f0fe0ac9931a9d73b37185afcd8f65", func := "almshouse/almshouselaw24.PrefixFinds", spec := "prefixFinds", unfollowed := true, recurses := true, apart := false, narrowed := true }
def PrefixFindsUptoSaid : Prop := prefixFindsUptoRow.holds Try.pinned (OpenSpec.upto prefixFindsSpec)

/-- 'almshouselaw24.PrefixBack', WHERE WHAT IT READS IS OF BULK AT MOST 1048576: true; the input reads as it did. -/
def prefixBackUptoRow : OpenClaim := { program := "ytobhpfbldmobfaa", sum := "c061b05e6471956a0590dd82e096812337f0fe0ac9931a9d73b37185afcd8f65", func := "almshouse/almshouselaw24.PrefixBack", spec := "prefixBack", unfollowed := true, recurses := true, apart := false, narrowed := true }
def PrefixBackUptoSaid : Prop := prefixBackUptoRow.holds Try.pinned (OpenSpec.upto prefixBackSpec)

/-- 'almshouselaw20.QueuePlays', WHERE WHAT IT READS IS OF BULK AT MOST 1048576: true; the input reads as it did. -/
def queuePlaysUptoRow : OpenClaim := { program := "ytobhpfbldmobfaa", sum := "c061b05e6471956a0590dd82e096812337f0fe0ac9931a9d73b37185afcd8f65", func := "almshouse/almshouselaw20.QueuePlays", spec := "queuePlays", apart := false, narrowed := true }
def QueuePlaysUptoSaid : Prop := queuePlaysUptoRow.holds Try.pinned (OpenSpec.upto queuePlaysSpec)

/-- 'almshouselaw20.QueueNone', WHERE WHAT IT READS IS OF BULK AT MOST 1048576: true; the input reads as it did. -/
def queueNoneUptoRow : OpenClaim := { program := "ytobhpfbldmobfaa", sum := "c061b05e6471956a0590dd82e096812337f0fe0ac9931a9d73b37185afcd8f65", func := "almshouse/almshouselaw20.QueueNone", spec := "queueNone", apart := false, narrowed := true }
def QueueNoneUptoSaid : Prop := queueNoneUptoRow.holds Try.pinned (OpenSpec.upto queueNoneSpec)

/-- 'almshouselaw05.DrawsTell', WHERE WHAT IT READS IS OF BULK AT MOST 1048576: true; the input reads as it did. -/
def drawsTellUptoRow : OpenClaim := { program := "ytobhpfbldmobfaa", sum := "c061b05e6471956a0590dd82e096812337f0fe0ac9931a9d73b37185afcd8f65", func := "almshouse/almshouselaw05.DrawsTell", spec := "drawsTell", inPlace := ["sync/atomic.AddInt64", "sync/atomic.LoadInt64"], apart := false, narrowed := true }
def DrawsTellUptoSaid : Prop := drawsTellUptoRow.holds Try.pinned (OpenSpec.upto drawsTellSpec)

end Rows
end Go.Proofs.Ytobhpfbldmobfaa
