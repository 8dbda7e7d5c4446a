/-
  NARROWER THAN 'FOR EVERY INPUT', by the rows' own cells (each row's printed sentence says how): OnceNumbers: calm, laid · OnceFuture: calm, laid · OnceCodes: calm, laid · OnceAny: calm, laid · OnceMade: calm, laid.
  DERIVED. THE GIVEN ROWS OF THIS SEAT. 5 by the template 'for every input the law returns true; each argument reads behind the call as it read before'; 0 by the template 'total and deterministic' (their statements: YtmmfohfjmmomfaaGreatDoorTotals.lean).
  GIVEN WITH THE SEED: the statements are not yours to turn. If you find one false, say at which input.
  Laid BY PROGRAM, IN A SANDBOX (cutbox-rows.mjs): the forced cells as the released guide's own fill.sh prints them over the translation 540e92c1864393a1… (all of the seat's roots in one cut). By AI agents, Wed Nov 11 2026. No macro, syntax, notation, axiom, sorry.
-/
import Derived.Test.YtmmfohfjmmomfaaGreatDoorChecked
import GoSem.Claim
import GoSem.ClaimJoined
import GoSem.ClaimMapViews
import Derived.JoinedTies
import Derived.KernelRfl
namespace Go.Proofs.YtmmfohfjmmomfaaGreatDoor
/- THE CELL 'sum', in the pinned program and in every row, IS THE sha256 OF THE DUMP (.gsa) THAT YtmmfohfjmmomfaaGreatDoorProg.lean LOADS. Nothing in Lean hashes anything: it is a label: what it is worth is what the hold of that sum in a sandbox is worth. -/
noncomputable def Tryz.pinned : Pinned := { name := "ytmmfohfjmmomfaagreatdoor", sum := "540e92c1864393a184a435baa56c5c0064375be413a68358f7b12279cd3e3ba5", checked := Tryz.checked }
namespace Rows
def none {H : Type} : Left H := { results := [], args := [] }

/- WHAT THE LISTED PACKAGE-LEVEL VARIABLES READ AS WHEN THE CALL BEGINS. Each datum BY PROGRAM (the guide's laid-datum.mjs) off the statement by which the dump's own 'gosem.cut.vars' lays the variable. In a bare row this is a premise. The card (YtmmfohfjmmomfaaGreatDoorCards.lean) ties it to the program's text. -/
def laid_dapple_words_bounds {H : Type} : DataW H := .agg [.agg [.lit (.int .i64 0), .lit (.int .i64 0)], .agg [.lit (.int .i64 0), .lit (.int .i64 0)], .agg [.lit (.int .i64 0), .lit (.int .i64 0)], .agg [.lit (.int .i64 0), .lit (.int .i64 0)], .agg [.lit (.int .i64 0), .lit (.int .i64 0)], .agg [.lit (.int .i64 (-576460752303423488)), .lit (.int .i64 576460752303423487)], .agg [.lit (.int .i64 0), .lit (.int .i64 2147483647)], .agg [.lit (.int .i64 1), .lit (.int .i64 22)], .agg [.lit (.int .i64 0), .lit (.int .i64 2147483647)]]
def laid_dapple_code_takes {H : Type} : DataW H := .agg [.lit (.int .i64 0), .lit (.int .i64 2), .lit (.int .i64 1), .lit (.int .i64 1), .lit (.int .i64 2), .lit (.int .i64 2), .lit (.int .i64 1), .lit (.int .i64 1), .lit (.int .i64 2), .lit (.int .i64 3), .lit (.int .i64 2), .lit (.int .i64 2), .lit (.int .i64 1), .lit (.int .i64 1), .lit (.int .i64 1), .lit (.int .i64 2), .lit (.int .i64 2), .lit (.int .i64 2), .lit (.int .i64 2), .lit (.int .i64 2), .lit (.int .i64 2), .lit (.int .i64 1), .lit (.int .i64 1)]

/-- 'dapplelaw25.OnceNumbers': WHATEVER THE INPUT: true; the input reads as it did. -/
def onceNumbersSpec : ChangeSpec := { name := "onceNumbers", fn := fun _ => fun
  | [] => { results := [.lit (.bool true)], args := [] }
  | _ => none }
def onceNumbersRow : OpenClaim := { program := "ytmmfohfjmmomfaagreatdoor", sum := "540e92c1864393a184a435baa56c5c0064375be413a68358f7b12279cd3e3ba5", func := "dapple/dapplelaw25.OnceNumbers", spec := "onceNumbers", inPlace := ["sync/atomic.StorePointer", "(*internal/sync.Mutex).Lock", "internal/race.Disable", "sync/atomic.CompareAndSwapInt32", "internal/race.Enable", "internal/race.Acquire", "(*internal/sync.Mutex).lockSlow", "internal/sync.runtime_canSpin", "internal/sync.runtime_doSpin", "internal/sync.throw", "internal/sync.runtime_nanotime", "internal/sync.runtime_SemacquireMutex", "sync/atomic.AddInt32", "(*internal/sync.Mutex).Unlock", "internal/race.ReleaseMerge", "(*internal/sync.Mutex).unlockSlow", "internal/sync.fatal", "internal/sync.runtime_Semrelease", "internal/bytealg.IndexByteString", "sync/atomic.LoadUint32", "sync/atomic.StoreUint32", "sync/atomic.LoadPointer", "maps.clone", "sync/atomic.CompareAndSwapPointer", "sync/atomic.AddInt64", "sync/atomic.CompareAndSwapUint32", "sync/atomic.LoadInt64"], unfollowed := true, recurses := true, named := ["dapple/words.bounds", "dapple/code.takes"], leaving := true, apart := false, calm := true, outside := [.timePasses], laid := [("dapple/words.bounds", laid_dapple_words_bounds), ("dapple/code.takes", laid_dapple_code_takes)] }
def OnceNumbersSaid : Prop := onceNumbersRow.holds Tryz.pinned (OpenSpec.ofChange onceNumbersSpec)

/-- ITS FALSE NEIGHBOUR: 'it returns false'. Refute it at one input. -/
def onceNumbersWrong : ChangeSpec := { name := "onceNumbers", fn := fun _ => fun
  | [] => { results := [.lit (.bool false)], args := [] }
  | _ => none }
def OnceNumbersWrongFalsely : Prop := onceNumbersRow.holds Tryz.pinned (OpenSpec.ofChange onceNumbersWrong)

/-- 'dapplelaw25.OnceFuture': WHATEVER THE INPUT: true; the input reads as it did. -/
def onceFutureSpec : ChangeSpec := { name := "onceFuture", fn := fun _ => fun
  | [d] => { results := [.lit (.bool true)], args := [d] }
  | _ => none }
def onceFutureRow : OpenClaim := { program := "ytmmfohfjmmomfaagreatdoor", sum := "540e92c1864393a184a435baa56c5c0064375be413a68358f7b12279cd3e3ba5", func := "dapple/dapplelaw25.OnceFuture", spec := "onceFuture", inPlace := ["sync/atomic.StorePointer", "(*internal/sync.Mutex).Lock", "internal/race.Disable", "sync/atomic.CompareAndSwapInt32", "internal/race.Enable", "internal/race.Acquire", "(*internal/sync.Mutex).lockSlow", "internal/sync.runtime_canSpin", "internal/sync.runtime_doSpin", "internal/sync.throw", "internal/sync.runtime_nanotime", "internal/sync.runtime_SemacquireMutex", "sync/atomic.AddInt32", "(*internal/sync.Mutex).Unlock", "internal/race.ReleaseMerge", "(*internal/sync.Mutex).unlockSlow", "internal/sync.fatal", "internal/sync.runtime_Semrelease", "internal/bytealg.IndexByteString", "sync/atomic.LoadUint32", "sync/atomic.StoreUint32", "sync/atomic.LoadPointer", "maps.clone", "sync/atomic.CompareAndSwapPointer", "sync/atomic.AddInt64", "sync/atomic.CompareAndSwapUint32", "sync/atomic.LoadInt64"], unfollowed := true, recurses := true, named := ["dapple/words.bounds", "dapple/code.takes"], leaving := true, apart := false, calm := true, outside := [.timePasses], laid := [("dapple/words.bounds", laid_dapple_words_bounds), ("dapple/code.takes", laid_dapple_code_takes)] }
def OnceFutureSaid : Prop := onceFutureRow.holds Tryz.pinned (OpenSpec.ofChange onceFutureSpec)

/-- ITS FALSE NEIGHBOUR: 'it returns false'. Refute it at one input. -/
def onceFutureWrong : ChangeSpec := { name := "onceFuture", fn := fun _ => fun
  | [d] => { results := [.lit (.bool false)], args := [d] }
  | _ => none }
def OnceFutureWrongFalsely : Prop := onceFutureRow.holds Tryz.pinned (OpenSpec.ofChange onceFutureWrong)

/-- 'dapplelaw25.OnceCodes': WHATEVER THE INPUT: true; the input reads as it did. -/
def onceCodesSpec : ChangeSpec := { name := "onceCodes", fn := fun _ => fun
  | [d] => { results := [.lit (.bool true)], args := [d] }
  | _ => none }
def onceCodesRow : OpenClaim := { program := "ytmmfohfjmmomfaagreatdoor", sum := "540e92c1864393a184a435baa56c5c0064375be413a68358f7b12279cd3e3ba5", func := "dapple/dapplelaw25.OnceCodes", spec := "onceCodes", inPlace := ["sync/atomic.StorePointer", "(*internal/sync.Mutex).Lock", "internal/race.Disable", "sync/atomic.CompareAndSwapInt32", "internal/race.Enable", "internal/race.Acquire", "(*internal/sync.Mutex).lockSlow", "internal/sync.runtime_canSpin", "internal/sync.runtime_doSpin", "internal/sync.throw", "internal/sync.runtime_nanotime", "internal/sync.runtime_SemacquireMutex", "sync/atomic.AddInt32", "(*internal/sync.Mutex).Unlock", "internal/race.ReleaseMerge", "(*internal/sync.Mutex).unlockSlow", "internal/sync.fatal", "internal/sync.runtime_Semrelease", "internal/bytealg.IndexByteString", "sync/atomic.LoadUint32", "sync/atomic.StoreUint32", "sync/atomic.LoadPointer", "maps.clone", "sync/atomic.CompareAndSwapPointer", "sync/atomic.AddInt64", "sync/atomic.CompareAndSwapUint32", "sync/atomic.LoadInt64", "(*sync.WaitGroup).Add", "internal/synctest.IsInBubble", "internal/synctest.Associate[sync.WaitGroup]", "sync.fatal", "sync/atomic.OrUint64", "sync/atomic.AddUint64", "internal/race.Read", "sync/atomic.LoadUint64", "sync/atomic.StoreUint64", "internal/synctest.Disassociate[sync.WaitGroup]", "sync.runtime_Semrelease", "(*sync.WaitGroup).Done", "(*sync.WaitGroup).Wait", "internal/synctest.IsAssociated[sync.WaitGroup]", "sync/atomic.CompareAndSwapUint64", "internal/race.Write", "sync.runtime_SemacquireWaitGroup"], unfollowed := true, recurses := true, named := ["dapple/words.bounds", "dapple/code.takes"], leaving := true, apart := false, calm := true, outside := [.timePasses], laid := [("dapple/words.bounds", laid_dapple_words_bounds), ("dapple/code.takes", laid_dapple_code_takes)] }
def OnceCodesSaid : Prop := onceCodesRow.holds Tryz.pinned (OpenSpec.ofChange onceCodesSpec)

/-- ITS FALSE NEIGHBOUR: 'it returns false'. Refute it at one input. -/
def onceCodesWrong : ChangeSpec := { name := "onceCodes", fn := fun _ => fun
  | [d] => { results := [.lit (.bool false)], args := [d] }
  | _ => none }
def OnceCodesWrongFalsely : Prop := onceCodesRow.holds Tryz.pinned (OpenSpec.ofChange onceCodesWrong)

/-- 'dapplelaw25.OnceAny': WHATEVER THE INPUT: true; the input reads as it did. -/
def onceAnySpec : ChangeSpec := { name := "onceAny", fn := fun _ => fun
  | [d1, d2, d3] => { results := [.lit (.bool true)], args := [d1, d2, d3] }
  | _ => none }
def onceAnyRow : OpenClaim := { program := "ytmmfohfjmmomfaagreatdoor", sum := "540e92c1864393a184a435baa56c5c0064375be413a68358f7b12279cd3e3ba5", func := "dapple/dapplelaw25.OnceAny", spec := "onceAny", inPlace := ["sync/atomic.StorePointer", "(*internal/sync.Mutex).Lock", "internal/race.Disable", "sync/atomic.CompareAndSwapInt32", "internal/race.Enable", "internal/race.Acquire", "(*internal/sync.Mutex).lockSlow", "internal/sync.runtime_canSpin", "internal/sync.runtime_doSpin", "internal/sync.throw", "internal/sync.runtime_nanotime", "internal/sync.runtime_SemacquireMutex", "sync/atomic.AddInt32", "(*internal/sync.Mutex).Unlock", "internal/race.ReleaseMerge", "(*internal/sync.Mutex).unlockSlow", "internal/sync.fatal", "internal/sync.runtime_Semrelease", "internal/bytealg.IndexByteString", "sync/atomic.LoadUint32", "sync/atomic.StoreUint32", "sync/atomic.LoadPointer", "maps.clone", "sync/atomic.CompareAndSwapPointer", "sync/atomic.AddInt64", "sync/atomic.CompareAndSwapUint32", "sync/atomic.LoadInt64", "(*sync.WaitGroup).Add", "internal/synctest.IsInBubble", "internal/synctest.Associate[sync.WaitGroup]", "sync.fatal", "sync/atomic.OrUint64", "sync/atomic.AddUint64", "internal/race.Read", "sync/atomic.LoadUint64", "sync/atomic.StoreUint64", "internal/synctest.Disassociate[sync.WaitGroup]", "sync.runtime_Semrelease", "(*sync.WaitGroup).Done", "(*sync.WaitGroup).Wait", "internal/synctest.IsAssociated[sync.WaitGroup]", "sync/atomic.CompareAndSwapUint64", "internal/race.Write", "sync.runtime_SemacquireWaitGroup"], unfollowed := true, recurses := true, named := ["dapple/words.bounds", "dapple/code.takes"], leaving := true, apart := false, calm := true, outside := [.timePasses], laid := [("dapple/words.bounds", laid_dapple_words_bounds), ("dapple/code.takes", laid_dapple_code_takes)] }
def OnceAnySaid : Prop := onceAnyRow.holds Tryz.pinned (OpenSpec.ofChange onceAnySpec)

/-- ITS FALSE NEIGHBOUR: 'it returns false'. Refute it at one input. -/
def onceAnyWrong : ChangeSpec := { name := "onceAny", fn := fun _ => fun
  | [d1, d2, d3] => { results := [.lit (.bool false)], args := [d1, d2, d3] }
  | _ => none }
def OnceAnyWrongFalsely : Prop := onceAnyRow.holds Tryz.pinned (OpenSpec.ofChange onceAnyWrong)

/-- 'dapplelaw25.OnceMade': WHATEVER THE INPUT: true; the input reads as it did. -/
def onceMadeSpec : ChangeSpec := { name := "onceMade", fn := fun _ => fun
  | [d1, d2, d3, d4] => { results := [.lit (.bool true)], args := [d1, d2, d3, d4] }
  | _ => none }
def onceMadeRow : OpenClaim := { program := "ytmmfohfjmmomfaagreatdoor", sum := "540e92c1864393a184a435baa56c5c0064375be413a68358f7b12279cd3e3ba5", func := "dapple/dapplelaw25.OnceMade", spec := "onceMade", inPlace := ["sync/atomic.StorePointer", "(*internal/sync.Mutex).Lock", "internal/race.Disable", "sync/atomic.CompareAndSwapInt32", "internal/race.Enable", "internal/race.Acquire", "(*internal/sync.Mutex).lockSlow", "internal/sync.runtime_canSpin", "internal/sync.runtime_doSpin", "internal/sync.throw", "internal/sync.runtime_nanotime", "internal/sync.runtime_SemacquireMutex", "sync/atomic.AddInt32", "(*internal/sync.Mutex).Unlock", "internal/race.ReleaseMerge", "(*internal/sync.Mutex).unlockSlow", "internal/sync.fatal", "internal/sync.runtime_Semrelease", "internal/bytealg.IndexByteString", "sync/atomic.LoadUint32", "sync/atomic.StoreUint32", "sync/atomic.LoadPointer", "maps.clone", "sync/atomic.CompareAndSwapPointer", "sync/atomic.AddInt64", "sync/atomic.CompareAndSwapUint32", "sync/atomic.LoadInt64", "sync/atomic.StoreInt64", "(*sync.WaitGroup).Add", "internal/synctest.IsInBubble", "internal/synctest.Associate[sync.WaitGroup]", "sync.fatal", "sync/atomic.OrUint64", "sync/atomic.AddUint64", "internal/race.Read", "sync/atomic.LoadUint64", "sync/atomic.StoreUint64", "internal/synctest.Disassociate[sync.WaitGroup]", "sync.runtime_Semrelease", "(*sync.WaitGroup).Done", "(*sync.WaitGroup).Wait", "internal/synctest.IsAssociated[sync.WaitGroup]", "sync/atomic.CompareAndSwapUint64", "internal/race.Write", "sync.runtime_SemacquireWaitGroup"], unfollowed := true, recurses := true, named := ["dapple/words.bounds", "dapple/code.takes"], leaving := true, apart := false, calm := true, outside := [.timePasses], laid := [("dapple/words.bounds", laid_dapple_words_bounds), ("dapple/code.takes", laid_dapple_code_takes)] }
def OnceMadeSaid : Prop := onceMadeRow.holds Tryz.pinned (OpenSpec.ofChange onceMadeSpec)

/-- ITS FALSE NEIGHBOUR: 'it returns false'. Refute it at one input. -/
def onceMadeWrong : ChangeSpec := { name := "onceMade", fn := fun _ => fun
  | [d1, d2, d3, d4] => { results := [.lit (.bool false)], args := [d1, d2, d3, d4] }
  | _ => none }
def OnceMadeWrongFalsely : Prop := onceMadeRow.holds Tryz.pinned (OpenSpec.ofChange onceMadeWrong)

end Rows
end Go.Proofs.YtmmfohfjmmomfaaGreatDoor
