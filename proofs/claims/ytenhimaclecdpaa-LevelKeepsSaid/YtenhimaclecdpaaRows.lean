/-
  No cell of these rows narrows 'for every input' (looked for: loops, veiled, ifaces, maps, wideKeys, modest, calm, conditions, laid).
  DERIVED. THE GIVEN ROWS OF THIS SEAT. 8 by the template 'for every input the law returns true; each argument reads behind the call as it read before'; 0 by the template 'total and deterministic' (their statements: YtenhimaclecdpaaTotals.lean).
  GIVEN WITH THE SEED: the statements are not yours to turn. If you find one false, say at which input.
  Laid BY PROGRAM, IN A SANDBOX (cutbox-rows.mjs): the forced cells as the released guide's own fill.sh prints them over the translation cd03cbdc89a21dee… (all of the seat's roots in one cut). By AI agents, Wed Nov 11 2026. No macro, syntax, notation, axiom, sorry.
-/
import Derived.Test.YtenhimaclecdpaaChecked
import GoSem.Claim
import GoSem.ClaimJoined
import GoSem.ClaimMapViews
import Derived.JoinedTies
import Derived.KernelRfl
namespace Go.Proofs.Ytenhimaclecdpaa
/- THE CELL 'sum', in the pinned program and in every row, IS THE sha256 OF THE DUMP (.gsa) THAT YtenhimaclecdpaaProg.lean LOADS. Nothing in Lean hashes anything: it is a label: what it is worth is what the hold of that sum in a sandbox is worth. -/
noncomputable def Try.pinned : Pinned := { name := "ytenhimaclecdpaa", sum := "cd03cbdc89a21deee004551776d96d140b34dec3ef0349270a93a9f234e879d4", checked := Try.checked }
namespace Rows
def none {H : Type} : Left H := { results := [], args := [] }

/-- 'almshouselaw39.LevelPlans': WHATEVER THE INPUT: true; the input reads as it did. -/
def levelPlansSpec : ChangeSpec := { name := "levelPlans", fn := fun _ => fun
  | [d1, d2, d3] => { results := [.lit (.bool true)], args := [d1, d2, d3] }
  | _ => none }
def levelPlansRow : OpenClaim := { program := "ytenhimaclecdpaa", sum := "cd03cbdc89a21deee004551776d96d140b34dec3ef0349270a93a9f234e879d4", func := "almshouse/almshouselaw39.LevelPlans", spec := "levelPlans", unfollowed := true, recurses := true, apart := false }
def LevelPlansSaid : Prop := levelPlansRow.holds Try.pinned (OpenSpec.ofChange levelPlansSpec)

/-- ITS FALSE NEIGHBOUR: 'it returns false'. Refute it at one input. -/
def levelPlansWrong : ChangeSpec := { name := "levelPlans", fn := fun _ => fun
  | [d1, d2, d3] => { results := [.lit (.bool false)], args := [d1, d2, d3] }
  | _ => none }
def LevelPlansWrongFalsely : Prop := levelPlansRow.holds Try.pinned (OpenSpec.ofChange levelPlansWrong)

/-- 'almshouselaw39.LevelKeeps': WHATEVER THE INPUT: true; the input reads as it did. -/
def levelKeepsSpec : ChangeSpec := { name := "levelKeeps", fn := fun _ => fun
  | [d1, d2, d3] => { results := [.lit (.bool true)], args := [d1, d2, d3] }
  | _ => none }
def levelKeepsRow : OpenClaim := { program := "ytenhimaclecdpaa", sum := "cd03cbdc89a21deee004551776d96d140b34dec3ef0349270a93a9f234e879d4", func := "almshouse/almshouselaw39.LevelKeeps", spec := "levelKeeps", unfollowed := true, recurses := true, apart := false }
def LevelKeepsSaid : Prop := levelKeepsRow.holds Try.pinned (OpenSpec.ofChange levelKeepsSpec)

/-- ITS FALSE NEIGHBOUR: 'it returns false'. Refute it at one input. -/
def levelKeepsWrong : ChangeSpec := { name := "levelKeeps", fn := fun _ => fun
  | [d1, d2, d3] => { results := [.lit (.bool false)], args := [d1, d2, d3] }
  | _ => none }
def LevelKeepsWrongFalsely : Prop := levelKeepsRow.holds Try.pinned (OpenSpec.ofChange levelKeepsWrong)

/-- 'almshouselaw39.LevelAfter': WHATEVER THE INPUT: true; the input reads as it did. -/
def levelAfterSpec : ChangeSpec := { name := "levelAfter", fn := fun _ => fun
  | [d1, d2, d3] => { results := [.lit (.bool true)], args := [d1, d2, d3] }
  | _ => none }
def levelAfterRow : OpenClaim := { program := "ytenhimaclecdpaa", sum := "cd03cbdc89a21deee004551776d96d140b34dec3ef0349270a93a9f234e879d4", func := "almshouse/almshouselaw39.LevelAfter", spec := "levelAfter", unfollowed := true, recurses := true, apart := false }
def LevelAfterSaid : Prop := levelAfterRow.holds Try.pinned (OpenSpec.ofChange levelAfterSpec)

/-- ITS FALSE NEIGHBOUR: 'it returns false'. Refute it at one input. -/
def levelAfterWrong : ChangeSpec := { name := "levelAfter", fn := fun _ => fun
  | [d1, d2, d3] => { results := [.lit (.bool false)], args := [d1, d2, d3] }
  | _ => none }
def LevelAfterWrongFalsely : Prop := levelAfterRow.holds Try.pinned (OpenSpec.ofChange levelAfterWrong)

/-- 'almshouselaw10.LedgerStays': WHATEVER THE INPUT: true; the input reads as it did. -/
def ledgerStaysSpec : ChangeSpec := { name := "ledgerStays", fn := fun _ => fun
  | [d1, d2, d3, d4, d5, d6, d7, d8, d9] => { results := [.lit (.bool true)], args := [d1, d2, d3, d4, d5, d6, d7, d8, d9] }
  | _ => none }
def ledgerStaysRow : OpenClaim := { program := "ytenhimaclecdpaa", sum := "cd03cbdc89a21deee004551776d96d140b34dec3ef0349270a93a9f234e879d4", func := "almshouse/almshouselaw10.LedgerStays", spec := "ledgerStays", unfollowed := true, recurses := true, apart := false }
def LedgerStaysSaid : Prop := ledgerStaysRow.holds Try.pinned (OpenSpec.ofChange ledgerStaysSpec)

/-- ITS FALSE NEIGHBOUR: 'it returns false'. Refute it at one input. -/
def ledgerStaysWrong : ChangeSpec := { name := "ledgerStays", fn := fun _ => fun
  | [d1, d2, d3, d4, d5, d6, d7, d8, d9] => { results := [.lit (.bool false)], args := [d1, d2, d3, d4, d5, d6, d7, d8, d9] }
  | _ => none }
def LedgerStaysWrongFalsely : Prop := ledgerStaysRow.holds Try.pinned (OpenSpec.ofChange ledgerStaysWrong)

/-- 'almshouselaw10.LedgerChanges': WHATEVER THE INPUT: true; the input reads as it did. -/
def ledgerChangesSpec : ChangeSpec := { name := "ledgerChanges", fn := fun _ => fun
  | [d1, d2, d3, d4, d5, d6, d7, d8] => { results := [.lit (.bool true)], args := [d1, d2, d3, d4, d5, d6, d7, d8] }
  | _ => none }
def ledgerChangesRow : OpenClaim := { program := "ytenhimaclecdpaa", sum := "cd03cbdc89a21deee004551776d96d140b34dec3ef0349270a93a9f234e879d4", func := "almshouse/almshouselaw10.LedgerChanges", spec := "ledgerChanges", unfollowed := true, recurses := true, apart := false }
def LedgerChangesSaid : Prop := ledgerChangesRow.holds Try.pinned (OpenSpec.ofChange ledgerChangesSpec)

/-- ITS FALSE NEIGHBOUR: 'it returns false'. Refute it at one input. -/
def ledgerChangesWrong : ChangeSpec := { name := "ledgerChanges", fn := fun _ => fun
  | [d1, d2, d3, d4, d5, d6, d7, d8] => { results := [.lit (.bool false)], args := [d1, d2, d3, d4, d5, d6, d7, d8] }
  | _ => none }
def LedgerChangesWrongFalsely : Prop := ledgerChangesRow.holds Try.pinned (OpenSpec.ofChange ledgerChangesWrong)

/-- 'almshouselaw03.FrameMakes': WHATEVER THE INPUT: true; the input reads as it did. -/
def frameMakesSpec : ChangeSpec := { name := "frameMakes", fn := fun _ => fun
  | [d1, d2] => { results := [.lit (.bool true)], args := [d1, d2] }
  | _ => none }
def frameMakesRow : OpenClaim := { program := "ytenhimaclecdpaa", sum := "cd03cbdc89a21deee004551776d96d140b34dec3ef0349270a93a9f234e879d4", func := "almshouse/almshouselaw03.FrameMakes", spec := "frameMakes", inPlace := ["sync/atomic.LoadUint32", "(*internal/sync.Mutex).Lock", "internal/race.Disable", "sync/atomic.CompareAndSwapInt32", "internal/race.Enable", "internal/race.Acquire", "(*internal/sync.Mutex).lockSlow", "internal/sync.runtime_canSpin", "internal/sync.runtime_doSpin", "internal/sync.throw", "internal/sync.runtime_nanotime", "internal/sync.runtime_SemacquireMutex", "sync/atomic.AddInt32", "(*internal/sync.Mutex).Unlock", "internal/race.ReleaseMerge", "(*internal/sync.Mutex).unlockSlow", "internal/sync.fatal", "internal/sync.runtime_Semrelease", "sync/atomic.StoreUint32"], unfollowed := true, recurses := true, apart := false }
def FrameMakesSaid : Prop := frameMakesRow.holds Try.pinned (OpenSpec.ofChange frameMakesSpec)

/-- ITS FALSE NEIGHBOUR: 'it returns false'. Refute it at one input. -/
def frameMakesWrong : ChangeSpec := { name := "frameMakes", fn := fun _ => fun
  | [d1, d2] => { results := [.lit (.bool false)], args := [d1, d2] }
  | _ => none }
def FrameMakesWrongFalsely : Prop := frameMakesRow.holds Try.pinned (OpenSpec.ofChange frameMakesWrong)

/-- 'almshouselaw03.FrameOpens': WHATEVER THE INPUT: true; the input reads as it did. -/
def frameOpensSpec : ChangeSpec := { name := "frameOpens", fn := fun _ => fun
  | [d1, d2] => { results := [.lit (.bool true)], args := [d1, d2] }
  | _ => none }
def frameOpensRow : OpenClaim := { program := "ytenhimaclecdpaa", sum := "cd03cbdc89a21deee004551776d96d140b34dec3ef0349270a93a9f234e879d4", func := "almshouse/almshouselaw03.FrameOpens", spec := "frameOpens", inPlace := ["sync/atomic.LoadUint32", "(*internal/sync.Mutex).Lock", "internal/race.Disable", "sync/atomic.CompareAndSwapInt32", "internal/race.Enable", "internal/race.Acquire", "(*internal/sync.Mutex).lockSlow", "internal/sync.runtime_canSpin", "internal/sync.runtime_doSpin", "internal/sync.throw", "internal/sync.runtime_nanotime", "internal/sync.runtime_SemacquireMutex", "sync/atomic.AddInt32", "(*internal/sync.Mutex).Unlock", "internal/race.ReleaseMerge", "(*internal/sync.Mutex).unlockSlow", "internal/sync.fatal", "internal/sync.runtime_Semrelease", "sync/atomic.StoreUint32"], unfollowed := true, recurses := true, apart := false }
def FrameOpensSaid : Prop := frameOpensRow.holds Try.pinned (OpenSpec.ofChange frameOpensSpec)

/-- ITS FALSE NEIGHBOUR: 'it returns false'. Refute it at one input. -/
def frameOpensWrong : ChangeSpec := { name := "frameOpens", fn := fun _ => fun
  | [d1, d2] => { results := [.lit (.bool false)], args := [d1, d2] }
  | _ => none }
def FrameOpensWrongFalsely : Prop := frameOpensRow.holds Try.pinned (OpenSpec.ofChange frameOpensWrong)

/-- 'almshouselaw03.FrameBack': WHATEVER THE INPUT: true; the input reads as it did. -/
def frameBackSpec : ChangeSpec := { name := "frameBack", fn := fun _ => fun
  | [d1, d2, d3, d4, d5] => { results := [.lit (.bool true)], args := [d1, d2, d3, d4, d5] }
  | _ => none }
def frameBackRow : OpenClaim := { program := "ytenhimaclecdpaa", sum := "cd03cbdc89a21deee004551776d96d140b34dec3ef0349270a93a9f234e879d4", func := "almshouse/almshouselaw03.FrameBack", spec := "frameBack", inPlace := ["sync/atomic.LoadUint32", "(*internal/sync.Mutex).Lock", "internal/race.Disable", "sync/atomic.CompareAndSwapInt32", "internal/race.Enable", "internal/race.Acquire", "(*internal/sync.Mutex).lockSlow", "internal/sync.runtime_canSpin", "internal/sync.runtime_doSpin", "internal/sync.throw", "internal/sync.runtime_nanotime", "internal/sync.runtime_SemacquireMutex", "sync/atomic.AddInt32", "(*internal/sync.Mutex).Unlock", "internal/race.ReleaseMerge", "(*internal/sync.Mutex).unlockSlow", "internal/sync.fatal", "internal/sync.runtime_Semrelease", "sync/atomic.StoreUint32"], unfollowed := true, recurses := true, apart := false }
def FrameBackSaid : Prop := frameBackRow.holds Try.pinned (OpenSpec.ofChange frameBackSpec)

/-- ITS FALSE NEIGHBOUR: 'it returns false'. Refute it at one input. -/
def frameBackWrong : ChangeSpec := { name := "frameBack", fn := fun _ => fun
  | [d1, d2, d3, d4, d5] => { results := [.lit (.bool false)], args := [d1, d2, d3, d4, d5] }
  | _ => none }
def FrameBackWrongFalsely : Prop := frameBackRow.holds Try.pinned (OpenSpec.ofChange frameBackWrong)

/- THE SECOND FORM. 'bulk': how many values and letters a reading holds, each counted each time it is reached (what is shared counts as often as it is met; a slice's spare places count too). A statement '..UptoSaid' is the law's where the arguments, and the package variables that the reading takes, are together of bulk at most 1048576: NARROWER than '..Said'. Prove '..Said' where nothing that the law and all that it calls make is longer than what came in: it says more and counts as full. Else prove '..UptoSaid'. A law counts once. -/
mutual
def uptoBulk {H : Type} : DataW H → Nat
  | .lit (.string bytes) => bytes.length + 1
  | .lit _ => 1
  | .nil => 1
  | .ptr d => uptoBulk d + 1
  | .slice elems spare => uptoBulkAll elems + uptoBulkAll spare + 1
  | .agg parts => uptoBulkAll parts + 1
  | .iface _ d => uptoBulk d + 1
  | .map entries => uptoBulkEntries entries + 1
  | .held _ => 1
def uptoBulkAll {H : Type} : List (DataW H) → Nat
  | [] => 0
  | d :: r => uptoBulk d + uptoBulkAll r
def uptoBulkEntries {H : Type} : List (Lit × DataW H) → Nat
  | [] => 0
  | x :: r => uptoBulkEntry x + uptoBulkEntries r
def uptoBulkEntry {H : Type} : Lit × DataW H → Nat
  | (.string bytes, d) => bytes.length + uptoBulk d + 1
  | (_, d) => uptoBulk d + 1
 end
def uptoSmall : (H : Type) → List (DataW H) → Bool := fun _ ds => decide (uptoBulkAll ds ≤ 1048576)
def OpenSpec.upto (s : _root_.Go.ChangeSpec) : _root_.Go.OpenSpec := { _root_.Go.OpenSpec.ofChange s with cond := some uptoSmall }

/-- 'almshouselaw39.LevelPlans', WHERE WHAT IT READS IS OF BULK AT MOST 1048576: true; the input reads as it did. -/
def levelPlansUptoRow : OpenClaim := { program := "ytenhimaclecdpaa", sum := "cd03cbdc89a21deee004551776d96d140b34dec3ef0349270a93a9f234e879d4", func := "almshouse/almshouselaw39.LevelPlans", spec := "levelPlans", unfollowed := true, recurses := true, apart := false, narrowed := true }
def LevelPlansUptoSaid : Prop := levelPlansUptoRow.holds Try.pinned (OpenSpec.upto levelPlansSpec)

/-- 'almshouselaw39.LevelKeeps', WHERE WHAT IT READS IS OF BULK AT MOST 1048576: true; the input reads as it did. -/
def levelKeepsUptoRow : OpenClaim := { program := "ytenhimaclecdpaa", sum := "cd03cbdc89a21deee004551776d96d140b34dec3ef0349270a93a9f234e879d4", func := "almshouse/almshouselaw39.LevelKeeps", spec := "levelKeeps", unfollowed := true, recurses := true, apart := false, narrowed := true }
def LevelKeepsUptoSaid : Prop := levelKeepsUptoRow.holds Try.pinned (OpenSpec.upto levelKeepsSpec)

/-- 'almshouselaw39.LevelAfter', WHERE WHAT IT READS IS OF BULK AT MOST 1048576: true; the input reads as it did. -/
def levelAfterUptoRow : OpenClaim := { program := "ytenhimaclecdpaa", sum := "cd03cbdc89a21deee004551776d96d140b34dec3ef0349270a93a9f234e879d4", func := "almshouse/almshouselaw39.LevelAfter", spec := "levelAfter", unfollowed := true, recurses := true, apart := false, narrowed := true }
def LevelAfterUptoSaid : Prop := levelAfterUptoRow.holds Try.pinned (OpenSpec.upto levelAfterSpec)

/-- 'almshouselaw10.LedgerStays', WHERE WHAT IT READS IS OF BULK AT MOST 1048576: true; the input reads as it did. -/
def ledgerStaysUptoRow : OpenClaim := { program := "ytenhimaclecdpaa", sum := "cd03cbdc89a21deee004551776d96d140b34dec3ef0349270a93a9f234e879d4", func := "almshouse/almshouselaw10.LedgerStays", spec := "ledgerStays", unfollowed := true, recurses := true, apart := false, narrowed := true }
def LedgerStaysUptoSaid : Prop := ledgerStaysUptoRow.holds Try.pinned (OpenSpec.upto ledgerStaysSpec)

/-- 'almshouselaw10.LedgerChanges', WHERE WHAT IT READS IS OF BULK AT MOST 1048576: true; the input reads as it did. -/
def ledgerChangesUptoRow : OpenClaim := { program := "ytenhimaclecdpaa", sum := "cd03cbdc89a21deee004551776d96d140b34dec3ef0349270a93a9f234e879d4", func := "almshouse/almshouselaw10.LedgerChanges", spec := "ledgerChanges", unfollowed := true, recurses := true, apart := false, narrowed := true }
def LedgerChangesUptoSaid : Prop := ledgerChangesUptoRow.holds Try.pinned (OpenSpec.upto ledgerChangesSpec)

/-- 'almshouselaw03.FrameMakes', WHERE WHAT IT READS IS OF BULK AT MOST 1048576: true; the input reads as it did. -/
def frameMakesUptoRow : OpenClaim := { program := "ytenhimaclecdpaa", sum := "cd03cbdc89a21deee004551776d96d140b34dec3ef0349270a93a9f234e879d4", func := "almshouse/almshouselaw03.FrameMakes", spec := "frameMakes", inPlace := ["sync/atomic.LoadUint32", "(*internal/sync.Mutex).Lock", "internal/race.Disable", "sync/atomic.CompareAndSwapInt32", "internal/race.Enable", "internal/race.Acquire", "(*internal/sync.Mutex).lockSlow", "internal/sync.runtime_canSpin", "internal/sync.runtime_doSpin", "internal/sync.throw", "internal/sync.runtime_nanotime", "internal/sync.runtime_SemacquireMutex", "sync/atomic.AddInt32", "(*internal/sync.Mutex).Unlock", "internal/race.ReleaseMerge", "(*internal/sync.Mutex).unlockSlow", "internal/sync.fatal", "internal/sync.runtime_Semrelease", "sync/atomic.StoreUint32"], unfollowed := true, recurses := true, apart := false, narrowed := true }
def FrameMakesUptoSaid : Prop := frameMakesUptoRow.holds Try.pinned (OpenSpec.upto frameMakesSpec)

/-- 'almshouselaw03.FrameOpens', WHERE WHAT IT READS IS OF BULK AT MOST 1048576: true; the input reads as it did. -/
def frameOpensUptoRow : OpenClaim := { program := "ytenhimaclecdpaa", sum := "cd03cbdc89a21deee004551776d96d140b34dec3ef0349270a93a9f234e879d4", func := "almshouse/almshouselaw03.FrameOpens", spec := "frameOpens", inPlace := ["sync/atomic.LoadUint32", "(*internal/sync.Mutex).Lock", "internal/race.Disable", "sync/atomic.CompareAndSwapInt32", "internal/race.Enable", "internal/race.Acquire", "(*internal/sync.Mutex).lockSlow", "internal/sync.runtime_canSpin", "internal/sync.runtime_doSpin", "internal/sync.throw", "internal/sync.runtime_nanotime", "internal/sync.runtime_SemacquireMutex", "sync/atomic.AddInt32", "(*internal/sync.Mutex).Unlock", "internal/race.ReleaseMerge", "(*internal/sync.Mutex).unlockSlow", "internal/sync.fatal", "internal/sync.runtime_Semrelease", "sync/atomic.StoreUint32"], unfollowed := true, recurses := true, apart := false, narrowed := true }
def FrameOpensUptoSaid : Prop := frameOpensUptoRow.holds Try.pinned (OpenSpec.upto frameOpensSpec)

/-- 'almshouselaw03.FrameBack', WHERE WHAT IT READS IS OF BULK AT MOST 1048576: true; the input reads as it did. -/
def frameBackUptoRow : OpenClaim := { program := "ytenhimaclecdpaa", sum := "cd03cbdc89a21deee004551776d96d140b34dec3ef0349270a93a9f234e879d4", func := "almshouse/almshouselaw03.FrameBack", spec := "frameBack", inPlace := ["sync/atomic.LoadUint32", "(*internal/sync.Mutex).Lock", "internal/race.Disable", "sync/atomic.CompareAndSwapInt32", "internal/race.Enable", "internal/race.Acquire", "(*internal/sync.Mutex).lockSlow", "internal/sync.runtime_canSpin", "internal/sync.runtime_doSpin", "internal/sync.throw", "internal/sync.runtime_nanotime", "internal/sync.runtime_SemacquireMutex", "sync/atomic.AddInt32", "(*internal/sync.Mutex).Unlock", "internal/race.ReleaseMerge", "(*internal/sync.Mutex).unlockSlow", "internal/sync.fatal", "internal/sync.runtime_Semrelease", "sync/atomic.StoreUint32"], unfollowed := true, recurses := true, apart := false, narrowed := true }
def FrameBackUptoSaid : Prop := frameBackUptoRow.holds Try.pinned (OpenSpec.upto frameBackSpec)

end Rows
end Go.Proofs.Ytenhimaclecdpaa
