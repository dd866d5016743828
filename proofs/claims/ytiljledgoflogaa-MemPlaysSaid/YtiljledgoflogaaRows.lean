/-
  No cell of these rows narrows 'for every input' (looked for: loops, veiled, ifaces, maps, wideKeys, modest, calm, conditions, laid).
  DERIVED. THE GIVEN ROWS OF THIS SEAT. 17 by the template 'for every input the law returns true; each argument reads behind the call as it read before'; 0 by the template 'total and deterministic' (their statements: YtiljledgoflogaaTotals.lean).
  GIVEN WITH THE SEED: the statements are not yours to turn. If you find one false, say at which input.
  Laid BY PROGRAM, IN A SANDBOX (cutbox-rows.mjs): the forced cells as the released guide's own fill.sh prints them over the translation 31bec57278bd5b1c… (all of the seat's roots in one cut). By AI agents, Wed Nov 11 2026. No macro, syntax, notation, axiom, sorry.
-/
import Derived.Test.YtiljledgoflogaaChecked
import GoSem.Claim
import GoSem.ClaimJoined
import GoSem.ClaimMapViews
import Derived.JoinedTies
import Derived.KernelRfl
namespace Go.Proofs.Ytiljledgoflogaa
/- THE CELL 'sum', in the pinned program and in every row, IS THE sha256 OF THE DUMP (.gsa) THAT YtiljledgoflogaaProg.lean LOADS. Nothing in Lean hashes anything: it is a label: what it is worth is what the hold of that sum in a sandbox is worth. -/
noncomputable def Try.pinned : Pinned := { name := "ytiljledgoflogaa", sum := "31bec57278bd5b1c82df17f733284a91c5e0e563c81181f6c7860242607eecaa", checked := Try.checked }
namespace Rows
def none {H : Type} : Left H := { results := [], args := [] }

/-- 'cubiclelaw02.MemOne': WHATEVER THE INPUT: true; the input reads as it did. -/
def memOneSpec : ChangeSpec := { name := "memOne", fn := fun _ => fun
  | [d1, d2] => { results := [.lit (.bool true)], args := [d1, d2] }
  | _ => none }
def memOneRow : OpenClaim := { program := "ytiljledgoflogaa", sum := "31bec57278bd5b1c82df17f733284a91c5e0e563c81181f6c7860242607eecaa", func := "cubicle/cubiclelaw02.MemOne", spec := "memOne", apart := false }
def MemOneSaid : Prop := memOneRow.holds Try.pinned (OpenSpec.ofChange memOneSpec)

/-- ITS FALSE NEIGHBOUR: 'it returns false'. Refute it at one input. -/
def memOneWrong : ChangeSpec := { name := "memOne", fn := fun _ => fun
  | [d1, d2] => { results := [.lit (.bool false)], args := [d1, d2] }
  | _ => none }
def MemOneWrongFalsely : Prop := memOneRow.holds Try.pinned (OpenSpec.ofChange memOneWrong)

/-- 'cubiclelaw02.MemAdds': WHATEVER THE INPUT: true; the input reads as it did. -/
def memAddsSpec : ChangeSpec := { name := "memAdds", fn := fun _ => fun
  | [d] => { results := [.lit (.bool true)], args := [d] }
  | _ => none }
def memAddsRow : OpenClaim := { program := "ytiljledgoflogaa", sum := "31bec57278bd5b1c82df17f733284a91c5e0e563c81181f6c7860242607eecaa", func := "cubicle/cubiclelaw02.MemAdds", spec := "memAdds", apart := false }
def MemAddsSaid : Prop := memAddsRow.holds Try.pinned (OpenSpec.ofChange memAddsSpec)

/-- ITS FALSE NEIGHBOUR: 'it returns false'. Refute it at one input. -/
def memAddsWrong : ChangeSpec := { name := "memAdds", fn := fun _ => fun
  | [d] => { results := [.lit (.bool false)], args := [d] }
  | _ => none }
def MemAddsWrongFalsely : Prop := memAddsRow.holds Try.pinned (OpenSpec.ofChange memAddsWrong)

/-- 'cubiclelaw02.MemSwaps': WHATEVER THE INPUT: true; the input reads as it did. -/
def memSwapsSpec : ChangeSpec := { name := "memSwaps", fn := fun _ => fun
  | [d1, d2] => { results := [.lit (.bool true)], args := [d1, d2] }
  | _ => none }
def memSwapsRow : OpenClaim := { program := "ytiljledgoflogaa", sum := "31bec57278bd5b1c82df17f733284a91c5e0e563c81181f6c7860242607eecaa", func := "cubicle/cubiclelaw02.MemSwaps", spec := "memSwaps", apart := false }
def MemSwapsSaid : Prop := memSwapsRow.holds Try.pinned (OpenSpec.ofChange memSwapsSpec)

/-- ITS FALSE NEIGHBOUR: 'it returns false'. Refute it at one input. -/
def memSwapsWrong : ChangeSpec := { name := "memSwaps", fn := fun _ => fun
  | [d1, d2] => { results := [.lit (.bool false)], args := [d1, d2] }
  | _ => none }
def MemSwapsWrongFalsely : Prop := memSwapsRow.holds Try.pinned (OpenSpec.ofChange memSwapsWrong)

/-- 'cubiclelaw02.MemRegions': WHATEVER THE INPUT: true; the input reads as it did. -/
def memRegionsSpec : ChangeSpec := { name := "memRegions", fn := fun _ => fun
  | [d1, d2] => { results := [.lit (.bool true)], args := [d1, d2] }
  | _ => none }
def memRegionsRow : OpenClaim := { program := "ytiljledgoflogaa", sum := "31bec57278bd5b1c82df17f733284a91c5e0e563c81181f6c7860242607eecaa", func := "cubicle/cubiclelaw02.MemRegions", spec := "memRegions", apart := false }
def MemRegionsSaid : Prop := memRegionsRow.holds Try.pinned (OpenSpec.ofChange memRegionsSpec)

/-- ITS FALSE NEIGHBOUR: 'it returns false'. Refute it at one input. -/
def memRegionsWrong : ChangeSpec := { name := "memRegions", fn := fun _ => fun
  | [d1, d2] => { results := [.lit (.bool false)], args := [d1, d2] }
  | _ => none }
def MemRegionsWrongFalsely : Prop := memRegionsRow.holds Try.pinned (OpenSpec.ofChange memRegionsWrong)

/-- 'cubiclelaw02.MemStale': WHATEVER THE INPUT: true; the input reads as it did. -/
def memStaleSpec : ChangeSpec := { name := "memStale", fn := fun _ => fun
  | [d1, d2] => { results := [.lit (.bool true)], args := [d1, d2] }
  | _ => none }
def memStaleRow : OpenClaim := { program := "ytiljledgoflogaa", sum := "31bec57278bd5b1c82df17f733284a91c5e0e563c81181f6c7860242607eecaa", func := "cubicle/cubiclelaw02.MemStale", spec := "memStale", apart := false }
def MemStaleSaid : Prop := memStaleRow.holds Try.pinned (OpenSpec.ofChange memStaleSpec)

/-- ITS FALSE NEIGHBOUR: 'it returns false'. Refute it at one input. -/
def memStaleWrong : ChangeSpec := { name := "memStale", fn := fun _ => fun
  | [d1, d2] => { results := [.lit (.bool false)], args := [d1, d2] }
  | _ => none }
def MemStaleWrongFalsely : Prop := memStaleRow.holds Try.pinned (OpenSpec.ofChange memStaleWrong)

/-- 'cubiclelaw02.MemPlays': WHATEVER THE INPUT: true; the input reads as it did. -/
def memPlaysSpec : ChangeSpec := { name := "memPlays", fn := fun _ => fun
  | [d1, d2] => { results := [.lit (.bool true)], args := [d1, d2] }
  | _ => none }
def memPlaysRow : OpenClaim := { program := "ytiljledgoflogaa", sum := "31bec57278bd5b1c82df17f733284a91c5e0e563c81181f6c7860242607eecaa", func := "cubicle/cubiclelaw02.MemPlays", spec := "memPlays", apart := false }
def MemPlaysSaid : Prop := memPlaysRow.holds Try.pinned (OpenSpec.ofChange memPlaysSpec)

/-- ITS FALSE NEIGHBOUR: 'it returns false'. Refute it at one input. -/
def memPlaysWrong : ChangeSpec := { name := "memPlays", fn := fun _ => fun
  | [d1, d2] => { results := [.lit (.bool false)], args := [d1, d2] }
  | _ => none }
def MemPlaysWrongFalsely : Prop := memPlaysRow.holds Try.pinned (OpenSpec.ofChange memPlaysWrong)

/-- 'cubiclelaw03.ProgKinds': WHATEVER THE INPUT: true; the input reads as it did. -/
def progKindsSpec : ChangeSpec := { name := "progKinds", fn := fun _ => fun
  | [d1, d2, d3] => { results := [.lit (.bool true)], args := [d1, d2, d3] }
  | _ => none }
def progKindsRow : OpenClaim := { program := "ytiljledgoflogaa", sum := "31bec57278bd5b1c82df17f733284a91c5e0e563c81181f6c7860242607eecaa", func := "cubicle/cubiclelaw03.ProgKinds", spec := "progKinds", unfollowed := true, recurses := true, apart := false }
def ProgKindsSaid : Prop := progKindsRow.holds Try.pinned (OpenSpec.ofChange progKindsSpec)

/-- ITS FALSE NEIGHBOUR: 'it returns false'. Refute it at one input. -/
def progKindsWrong : ChangeSpec := { name := "progKinds", fn := fun _ => fun
  | [d1, d2, d3] => { results := [.lit (.bool false)], args := [d1, d2, d3] }
  | _ => none }
def ProgKindsWrongFalsely : Prop := progKindsRow.holds Try.pinned (OpenSpec.ofChange progKindsWrong)

/-- 'cubiclelaw03.ProgStale': WHATEVER THE INPUT: true; the input reads as it did. -/
def progStaleSpec : ChangeSpec := { name := "progStale", fn := fun _ => fun
  | [d1, d2, d3] => { results := [.lit (.bool true)], args := [d1, d2, d3] }
  | _ => none }
def progStaleRow : OpenClaim := { program := "ytiljledgoflogaa", sum := "31bec57278bd5b1c82df17f733284a91c5e0e563c81181f6c7860242607eecaa", func := "cubicle/cubiclelaw03.ProgStale", spec := "progStale", unfollowed := true, recurses := true, apart := false }
def ProgStaleSaid : Prop := progStaleRow.holds Try.pinned (OpenSpec.ofChange progStaleSpec)

/-- ITS FALSE NEIGHBOUR: 'it returns false'. Refute it at one input. -/
def progStaleWrong : ChangeSpec := { name := "progStale", fn := fun _ => fun
  | [d1, d2, d3] => { results := [.lit (.bool false)], args := [d1, d2, d3] }
  | _ => none }
def ProgStaleWrongFalsely : Prop := progStaleRow.holds Try.pinned (OpenSpec.ofChange progStaleWrong)

/-- 'cubiclelaw03.ProgSteps': WHATEVER THE INPUT: true; the input reads as it did. -/
def progStepsSpec : ChangeSpec := { name := "progSteps", fn := fun _ => fun
  | [d1, d2] => { results := [.lit (.bool true)], args := [d1, d2] }
  | _ => none }
def progStepsRow : OpenClaim := { program := "ytiljledgoflogaa", sum := "31bec57278bd5b1c82df17f733284a91c5e0e563c81181f6c7860242607eecaa", func := "cubicle/cubiclelaw03.ProgSteps", spec := "progSteps", unfollowed := true, recurses := true, apart := false }
def ProgStepsSaid : Prop := progStepsRow.holds Try.pinned (OpenSpec.ofChange progStepsSpec)

/-- ITS FALSE NEIGHBOUR: 'it returns false'. Refute it at one input. -/
def progStepsWrong : ChangeSpec := { name := "progSteps", fn := fun _ => fun
  | [d1, d2] => { results := [.lit (.bool false)], args := [d1, d2] }
  | _ => none }
def ProgStepsWrongFalsely : Prop := progStepsRow.holds Try.pinned (OpenSpec.ofChange progStepsWrong)

/-- 'cubiclelaw03.ProgRuns': WHATEVER THE INPUT: true; the input reads as it did. -/
def progRunsSpec : ChangeSpec := { name := "progRuns", fn := fun _ => fun
  | [d1, d2] => { results := [.lit (.bool true)], args := [d1, d2] }
  | _ => none }
def progRunsRow : OpenClaim := { program := "ytiljledgoflogaa", sum := "31bec57278bd5b1c82df17f733284a91c5e0e563c81181f6c7860242607eecaa", func := "cubicle/cubiclelaw03.ProgRuns", spec := "progRuns", unfollowed := true, recurses := true, apart := false }
def ProgRunsSaid : Prop := progRunsRow.holds Try.pinned (OpenSpec.ofChange progRunsSpec)

/-- ITS FALSE NEIGHBOUR: 'it returns false'. Refute it at one input. -/
def progRunsWrong : ChangeSpec := { name := "progRuns", fn := fun _ => fun
  | [d1, d2] => { results := [.lit (.bool false)], args := [d1, d2] }
  | _ => none }
def ProgRunsWrongFalsely : Prop := progRunsRow.holds Try.pinned (OpenSpec.ofChange progRunsWrong)

/-- 'cubiclelaw03.ProgHalves': WHATEVER THE INPUT: true; the input reads as it did. -/
def progHalvesSpec : ChangeSpec := { name := "progHalves", fn := fun _ => fun
  | [d1, d2] => { results := [.lit (.bool true)], args := [d1, d2] }
  | _ => none }
def progHalvesRow : OpenClaim := { program := "ytiljledgoflogaa", sum := "31bec57278bd5b1c82df17f733284a91c5e0e563c81181f6c7860242607eecaa", func := "cubicle/cubiclelaw03.ProgHalves", spec := "progHalves", unfollowed := true, recurses := true, apart := false }
def ProgHalvesSaid : Prop := progHalvesRow.holds Try.pinned (OpenSpec.ofChange progHalvesSpec)

/-- ITS FALSE NEIGHBOUR: 'it returns false'. Refute it at one input. -/
def progHalvesWrong : ChangeSpec := { name := "progHalves", fn := fun _ => fun
  | [d1, d2] => { results := [.lit (.bool false)], args := [d1, d2] }
  | _ => none }
def ProgHalvesWrongFalsely : Prop := progHalvesRow.holds Try.pinned (OpenSpec.ofChange progHalvesWrong)

/-- 'cubiclelaw03.ProgJoin': WHATEVER THE INPUT: true; the input reads as it did. -/
def progJoinSpec : ChangeSpec := { name := "progJoin", fn := fun _ => fun
  | [d1, d2] => { results := [.lit (.bool true)], args := [d1, d2] }
  | _ => none }
def progJoinRow : OpenClaim := { program := "ytiljledgoflogaa", sum := "31bec57278bd5b1c82df17f733284a91c5e0e563c81181f6c7860242607eecaa", func := "cubicle/cubiclelaw03.ProgJoin", spec := "progJoin", unfollowed := true, recurses := true, apart := false }
def ProgJoinSaid : Prop := progJoinRow.holds Try.pinned (OpenSpec.ofChange progJoinSpec)

/-- ITS FALSE NEIGHBOUR: 'it returns false'. Refute it at one input. -/
def progJoinWrong : ChangeSpec := { name := "progJoin", fn := fun _ => fun
  | [d1, d2] => { results := [.lit (.bool false)], args := [d1, d2] }
  | _ => none }
def ProgJoinWrongFalsely : Prop := progJoinRow.holds Try.pinned (OpenSpec.ofChange progJoinWrong)

/-- 'cubiclelaw05.ThreadFull': WHATEVER THE INPUT: true; the input reads as it did. -/
def threadFullSpec : ChangeSpec := { name := "threadFull", fn := fun _ => fun
  | [d] => { results := [.lit (.bool true)], args := [d] }
  | _ => none }
def threadFullRow : OpenClaim := { program := "ytiljledgoflogaa", sum := "31bec57278bd5b1c82df17f733284a91c5e0e563c81181f6c7860242607eecaa", func := "cubicle/cubiclelaw05.ThreadFull", spec := "threadFull", unfollowed := true, recurses := true, apart := false }
def ThreadFullSaid : Prop := threadFullRow.holds Try.pinned (OpenSpec.ofChange threadFullSpec)

/-- ITS FALSE NEIGHBOUR: 'it returns false'. Refute it at one input. -/
def threadFullWrong : ChangeSpec := { name := "threadFull", fn := fun _ => fun
  | [d] => { results := [.lit (.bool false)], args := [d] }
  | _ => none }
def ThreadFullWrongFalsely : Prop := threadFullRow.holds Try.pinned (OpenSpec.ofChange threadFullWrong)

/-- 'cubiclelaw05.ThreadOne': WHATEVER THE INPUT: true; the input reads as it did. -/
def threadOneSpec : ChangeSpec := { name := "threadOne", fn := fun _ => fun
  | [d] => { results := [.lit (.bool true)], args := [d] }
  | _ => none }
def threadOneRow : OpenClaim := { program := "ytiljledgoflogaa", sum := "31bec57278bd5b1c82df17f733284a91c5e0e563c81181f6c7860242607eecaa", func := "cubicle/cubiclelaw05.ThreadOne", spec := "threadOne", unfollowed := true, recurses := true, apart := false }
def ThreadOneSaid : Prop := threadOneRow.holds Try.pinned (OpenSpec.ofChange threadOneSpec)

/-- ITS FALSE NEIGHBOUR: 'it returns false'. Refute it at one input. -/
def threadOneWrong : ChangeSpec := { name := "threadOne", fn := fun _ => fun
  | [d] => { results := [.lit (.bool false)], args := [d] }
  | _ => none }
def ThreadOneWrongFalsely : Prop := threadOneRow.holds Try.pinned (OpenSpec.ofChange threadOneWrong)

/-- 'cubiclelaw05.ThreadStale': WHATEVER THE INPUT: true; the input reads as it did. -/
def threadStaleSpec : ChangeSpec := { name := "threadStale", fn := fun _ => fun
  | [d] => { results := [.lit (.bool true)], args := [d] }
  | _ => none }
def threadStaleRow : OpenClaim := { program := "ytiljledgoflogaa", sum := "31bec57278bd5b1c82df17f733284a91c5e0e563c81181f6c7860242607eecaa", func := "cubicle/cubiclelaw05.ThreadStale", spec := "threadStale", unfollowed := true, recurses := true, apart := false }
def ThreadStaleSaid : Prop := threadStaleRow.holds Try.pinned (OpenSpec.ofChange threadStaleSpec)

/-- ITS FALSE NEIGHBOUR: 'it returns false'. Refute it at one input. -/
def threadStaleWrong : ChangeSpec := { name := "threadStale", fn := fun _ => fun
  | [d] => { results := [.lit (.bool false)], args := [d] }
  | _ => none }
def ThreadStaleWrongFalsely : Prop := threadStaleRow.holds Try.pinned (OpenSpec.ofChange threadStaleWrong)

/-- 'cubiclelaw05.ThreadTwo': WHATEVER THE INPUT: true; the input reads as it did. -/
def threadTwoSpec : ChangeSpec := { name := "threadTwo", fn := fun _ => fun
  | [d1, d2, d3] => { results := [.lit (.bool true)], args := [d1, d2, d3] }
  | _ => none }
def threadTwoRow : OpenClaim := { program := "ytiljledgoflogaa", sum := "31bec57278bd5b1c82df17f733284a91c5e0e563c81181f6c7860242607eecaa", func := "cubicle/cubiclelaw05.ThreadTwo", spec := "threadTwo", unfollowed := true, recurses := true, apart := false }
def ThreadTwoSaid : Prop := threadTwoRow.holds Try.pinned (OpenSpec.ofChange threadTwoSpec)

/-- ITS FALSE NEIGHBOUR: 'it returns false'. Refute it at one input. -/
def threadTwoWrong : ChangeSpec := { name := "threadTwo", fn := fun _ => fun
  | [d1, d2, d3] => { results := [.lit (.bool false)], args := [d1, d2, d3] }
  | _ => none }
def ThreadTwoWrongFalsely : Prop := threadTwoRow.holds Try.pinned (OpenSpec.ofChange threadTwoWrong)

/-- 'cubiclelaw05.ThreadPicks': WHATEVER THE INPUT: true; the input reads as it did. -/
def threadPicksSpec : ChangeSpec := { name := "threadPicks", fn := fun _ => fun
  | [d1, d2] => { results := [.lit (.bool true)], args := [d1, d2] }
  | _ => none }
def threadPicksRow : OpenClaim := { program := "ytiljledgoflogaa", sum := "31bec57278bd5b1c82df17f733284a91c5e0e563c81181f6c7860242607eecaa", func := "cubicle/cubiclelaw05.ThreadPicks", spec := "threadPicks", unfollowed := true, recurses := true, apart := false }
def ThreadPicksSaid : Prop := threadPicksRow.holds Try.pinned (OpenSpec.ofChange threadPicksSpec)

/-- ITS FALSE NEIGHBOUR: 'it returns false'. Refute it at one input. -/
def threadPicksWrong : ChangeSpec := { name := "threadPicks", fn := fun _ => fun
  | [d1, d2] => { results := [.lit (.bool false)], args := [d1, d2] }
  | _ => none }
def ThreadPicksWrongFalsely : Prop := threadPicksRow.holds Try.pinned (OpenSpec.ofChange threadPicksWrong)

/- THE SECOND FORM. 'bulk': how many values and letters a reading holds, each counted each time it is reached (what is shared counts as often as it is met; a slice's spare places count too). A statement '..UptoSaid' is the law's where the arguments, and the package variables that the reading takes, are together of bulk at most 1048576: NARROWER than '..Said'. Prove '..Said' where nothing that the law and all that it calls make is longer than what came in: it says more and counts as full. Else prove '..UptoSaid'. A law counts once. -/
mutual
def uptoBulk {H : Type} : DataW H → Nat
  | .lit (.string bytes) => bytes.length + 1
  | .lit _ => 1
  | .nil => 1
  | .ptr d => uptoBulk d + 1
  | .slice elems spare => uptoBulkAll elems + uptoBulkAll spare + 1
  | .agg parts => uptoBulkAll parts + 1
  | .iface _ d => uptoBulk d + 1
  | .map entries => uptoBulkEntries entries + 1
  | .held _ => 1
def uptoBulkAll {H : Type} : List (DataW H) → Nat
  | [] => 0
  | d :: r => uptoBulk d + uptoBulkAll r
def uptoBulkEntries {H : Type} : List (Lit × DataW H) → Nat
  | [] => 0
  | x :: r => uptoBulkEntry x + uptoBulkEntries r
def uptoBulkEntry {H : Type} : Lit × DataW H → Nat
  | (.string bytes, d) => bytes.length + uptoBulk d + 1
  | (_, d) => uptoBulk d + 1
 end
def uptoSmall : (H : Type) → List (DataW H) → Bool := fun _ ds => decide (uptoBulkAll ds ≤ 1048576)
def OpenSpec.upto (s : _root_.Go.ChangeSpec) : _root_.Go.OpenSpec := { _root_.Go.OpenSpec.ofChange s with cond := some uptoSmall }

/-- 'cubiclelaw02.MemOne', WHERE WHAT IT READS IS OF BULK AT MOST 1048576: true; the input reads as it did. -/
def memOneUptoRow : OpenClaim := { program := "ytiljledgoflogaa", sum := "31bec57278bd5b1c82df17f733284a91c5e0e563c81181f6c7860242607eecaa", func := "cubicle/cubiclelaw02.MemOne", spec := "memOne", apart := false, narrowed := true }
def MemOneUptoSaid : Prop := memOneUptoRow.holds Try.pinned (OpenSpec.upto memOneSpec)

/-- 'cubiclelaw02.MemAdds', WHERE WHAT IT READS IS OF BULK AT MOST 1048576: true; the input reads as it did. -/
def memAddsUptoRow : OpenClaim := { program := "ytiljledgoflogaa", sum := "31bec57278bd5b1c82df17f733284a91c5e0e563c81181f6c7860242607eecaa", func := "cubicle/cubiclelaw02.MemAdds", spec := "memAdds", apart := false, narrowed := true }
def MemAddsUptoSaid : Prop := memAddsUptoRow.holds Try.pinned (OpenSpec.upto memAddsSpec)

/-- 'cubiclelaw02.MemSwaps', WHERE WHAT IT READS IS OF BULK AT MOST 1048576: true; the input reads as it did. -/
def memSwapsUptoRow : OpenClaim := { program := "ytiljledgoflogaa", sum := "31bec57278bd5b1c82df17f733284a91c5e0e563c81181f6c7860242607eecaa", func := "cubicle/cubiclelaw02.MemSwaps", spec := "memSwaps", apart := false, narrowed := true }
def MemSwapsUptoSaid : Prop := memSwapsUptoRow.holds Try.pinned (OpenSpec.upto memSwapsSpec)

/-- 'cubiclelaw02.MemRegions', WHERE WHAT IT READS IS OF BULK AT MOST 1048576: true; the input reads as it did. -/
def memRegionsUptoRow : OpenClaim := { program := "ytiljledgoflogaa", sum := "31bec57278bd5b1c82df17f733284a91c5e0e563c81181f6c7860242607eecaa", func := "cubicle/cubiclelaw02.MemRegions", spec := "memRegions", apart := false, narrowed := true }
def MemRegionsUptoSaid : Prop := memRegionsUptoRow.holds Try.pinned (OpenSpec.upto memRegionsSpec)

/-- 'cubiclelaw02.MemStale', WHERE WHAT IT READS IS OF BULK AT MOST 1048576: true; the input reads as it did. -/
def memStaleUptoRow : OpenClaim := { program := "ytiljledgoflogaa", sum := "31bec57278bd5b1c82df17f733284a91c5e0e563c81181f6c7860242607eecaa", func := "cubicle/cubiclelaw02.MemStale", spec := "memStale", apart := false, narrowed := true }
def MemStaleUptoSaid : Prop := memStaleUptoRow.holds Try.pinned (OpenSpec.upto memStaleSpec)

/-- 'cubiclelaw02.MemPlays', WHERE WHAT IT READS IS OF BULK AT MOST 1048576: true; the input reads as it did. -/
def memPlaysUptoRow : OpenClaim := { program := "ytiljledgoflogaa", sum := "31bec57278bd5b1c82df17f733284a91c5e0e563c81181f6c7860242607eecaa", func := "cubicle/cubiclelaw02.MemPlays", spec := "memPlays", apart := false, narrowed := true }
def MemPlaysUptoSaid : Prop := memPlaysUptoRow.holds Try.pinned (OpenSpec.upto memPlaysSpec)

/-- 'cubiclelaw03.ProgKinds', WHERE WHAT IT READS IS OF BULK AT MOST 1048576: true; the input reads as it did. -/
def progKindsUptoRow : OpenClaim := { program := "ytiljledgoflogaa", sum := "31bec57278bd5b1c82df17f733284a91c5e0e563c81181f6c7860242607eecaa", func := "cubicle/cubiclelaw03.ProgKinds", spec := "progKinds", unfollowed := true, recurses := true, apart := false, narrowed := true }
def ProgKindsUptoSaid : Prop := progKindsUptoRow.holds Try.pinned (OpenSpec.upto progKindsSpec)

/-- 'cubiclelaw03.ProgStale', WHERE WHAT IT READS IS OF BULK AT MOST 1048576: true; the input reads as it did. -/
def progStaleUptoRow : OpenClaim := { program := "ytiljledgoflogaa", sum := "31bec57278bd5b1c82df17f733284a91c5e0e563c81181f6c7860242607eecaa", func := "cubicle/cubiclelaw03.ProgStale", spec := "progStale", unfollowed := true, recurses := true, apart := false, narrowed := true }
def ProgStaleUptoSaid : Prop := progStaleUptoRow.holds Try.pinned (OpenSpec.upto progStaleSpec)

/-- 'cubiclelaw03.ProgSteps', WHERE WHAT IT READS IS OF BULK AT MOST 1048576: true; the input reads as it did. -/
def progStepsUptoRow : OpenClaim := { program := "ytiljledgoflogaa", sum := "31bec57278bd5b1c82df17f733284a91c5e0e563c81181f6c7860242607eecaa", func := "cubicle/cubiclelaw03.ProgSteps", spec := "progSteps", unfollowed := true, recurses := true, apart := false, narrowed := true }
def ProgStepsUptoSaid : Prop := progStepsUptoRow.holds Try.pinned (OpenSpec.upto progStepsSpec)

/-- 'cubiclelaw03.ProgRuns', WHERE WHAT IT READS IS OF BULK AT MOST 1048576: true; the input reads as it did. -/
def progRunsUptoRow : OpenClaim := { program := "ytiljledgoflogaa", sum := "31bec57278bd5b1c82df17f733284a91c5e0e563c81181f6c7860242607eecaa", func := "cubicle/cubiclelaw03.ProgRuns", spec := "progRuns", unfollowed := true, recurses := true, apart := false, narrowed := true }
def ProgRunsUptoSaid : Prop := progRunsUptoRow.holds Try.pinned (OpenSpec.upto progRunsSpec)

/-- 'cubiclelaw03.ProgHalves', WHERE WHAT IT READS IS OF BULK AT MOST 1048576: true; the input reads as it did. -/
def progHalvesUptoRow : OpenClaim := { program := "ytiljledgoflogaa", sum := "31bec57278bd5b1c82df17f733284a91c5e0e563c81181f6c7860242607eecaa", func := "cubicle/cubiclelaw03.ProgHalves", spec := "progHalves", unfollowed := true, recurses := true, apart := false, narrowed := true }
def ProgHalvesUptoSaid : Prop := progHalvesUptoRow.holds Try.pinned (OpenSpec.upto progHalvesSpec)

/-- 'cubiclelaw03.ProgJoin', WHERE WHAT IT READS IS OF BULK AT MOST 1048576: true; the input reads as it did. -/
def progJoinUptoRow : OpenClaim := { program := "ytiljledgoflogaa", sum := "31bec57278bd5b1c82df17f733284a91c5e0e563c81181f6c7860242607eecaa", func := "cubicle/cubiclelaw03.ProgJoin", spec := "progJoin", unfollowed := true, recurses := true, apart := false, narrowed := true }
def ProgJoinUptoSaid : Prop := progJoinUptoRow.holds Try.pinned (OpenSpec.upto progJoinSpec)

/-- 'cubiclelaw05.ThreadFull', WHERE WHAT IT READS IS OF BULK AT MOST 1048576: true; the input reads as it did. -/
def threadFullUptoRow : OpenClaim := { program := "ytiljledgoflogaa", sum := "31bec57278bd5b1c82df17f733284a91c5e0e563c81181f6c7860242607eecaa", func := "cubicle/cubiclelaw05.ThreadFull", spec := "threadFull", unfollowed := true, recurses := true, apart := false, narrowed := true }
def ThreadFullUptoSaid : Prop := threadFullUptoRow.holds Try.pinned (OpenSpec.upto threadFullSpec)

/-- 'cubiclelaw05.ThreadOne', WHERE WHAT IT READS IS OF BULK AT MOST 1048576: true; the input reads as it did. -/
def threadOneUptoRow : OpenClaim := { program := "ytiljledgoflogaa", sum := "31bec57278bd5b1c82df17f733284a91c5e0e563c81181f6c7860242607eecaa", func := "cubicle/cubiclelaw05.ThreadOne", spec := "threadOne", unfollowed := true, recurses := true, apart := false, narrowed := true }
def ThreadOneUptoSaid : Prop := threadOneUptoRow.holds Try.pinned (OpenSpec.upto threadOneSpec)

/-- 'cubiclelaw05.ThreadStale', WHERE WHAT IT READS IS OF BULK AT MOST 1048576: true; the input reads as it did. -/
def threadStaleUptoRow : OpenClaim := { program := "ytiljledgoflogaa", sum := "31bec57278bd5b1c82df17f733284a91c5e0e563c81181f6c7860242607eecaa", func := "cubicle/cubiclelaw05.ThreadStale", spec := "threadStale", unfollowed := true, recurses := true, apart := false, narrowed := true }
def ThreadStaleUptoSaid : Prop := threadStaleUptoRow.holds Try.pinned (OpenSpec.upto threadStaleSpec)

/-- 'cubiclelaw05.ThreadTwo', WHERE WHAT IT READS IS OF BULK AT MOST 1048576: true; the input reads as it did. -/
def threadTwoUptoRow : OpenClaim := { program := "ytiljledgoflogaa", sum := "31bec57278bd5b1c82df17f733284a91c5e0e563c81181f6c7860242607eecaa", func := "cubicle/cubiclelaw05.ThreadTwo", spec := "threadTwo", unfollowed := true, recurses := true, apart := false, narrowed := true }
def ThreadTwoUptoSaid : Prop := threadTwoUptoRow.holds Try.pinned (OpenSpec.upto threadTwoSpec)

/-- 'cubiclelaw05.ThreadPicks', WHERE WHAT IT READS IS OF BULK AT MOST 1048576: true; the input reads as it did. -/
def threadPicksUptoRow : OpenClaim := { program := "ytiljledgoflogaa", sum := "31bec57278bd5b1c82df17f733284a91c5e0e563c81181f6c7860242607eecaa", func := "cubicle/cubiclelaw05.ThreadPicks", spec := "threadPicks", unfollowed := true, recurses := true, apart := false, narrowed := true }
def ThreadPicksUptoSaid : Prop := threadPicksUptoRow.holds Try.pinned (OpenSpec.upto threadPicksSpec)

end Rows
end Go.Proofs.Ytiljledgoflogaa
