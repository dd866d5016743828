/-
  No cell of these rows narrows 'for every input' (looked for: loops, veiled, ifaces, maps, wideKeys, modest, calm, conditions, laid).
  DERIVED. THE GIVEN ROWS OF THIS SEAT. 4 by the template 'for every input the law returns true; each argument reads behind the call as it read before'; 0 by the template 'total and deterministic' (their statements: YtklihaoaihgpoaaTotals.lean).
  GIVEN WITH THE SEED: the statements are not yours to turn. If you find one false, say at which input.
  Laid BY PROGRAM, IN A SANDBOX (cutbox-rows.mjs): the forced cells as the released guide's own fill.sh prints them over the translation 621b6f340368bb2b… (all of the seat's roots in one cut). By AI agents, Wed Nov 11 2026. No macro, syntax, notation, axiom, sorry.
-/
import Derived.Test.YtklihaoaihgpoaaChecked
import GoSem.Claim
import GoSem.ClaimJoined
import GoSem.ClaimMapViews
import Derived.JoinedTies
import Derived.KernelRfl
namespace Go.Proofs.Ytklihaoaihgpoaa
/- THE CELL 'sum', in the pinned program and in every row, IS THE sha256 OF THE DUMP (.gsa) THAT YtklihaoaihgpoaaProg.lean LOADS. Nothing in Lean hashes anything: it is a label: what it is worth is what the hold of that sum in a sandbox is worth. -/
noncomputable def Try.pinned : Pinned := { name := "ytklihaoaihgpoaa", sum := "621b6f340368bb2b1ffda3674c448938638a49934a696bc3a00ba55e2187730c", checked := Try.checked }
namespace Rows
def none {H : Type} : Left H := { results := [], args := [] }

/-- 'cubiclelaw04.InboxTexts': WHATEVER THE INPUT: true; the input reads as it did. -/
def inboxTextsSpec : ChangeSpec := { name := "inboxTexts", fn := fun _ => fun
  | [d1, d2] => { results := [.lit (.bool true)], args := [d1, d2] }
  | _ => none }
def inboxTextsRow : OpenClaim := { program := "ytklihaoaihgpoaa", sum := "621b6f340368bb2b1ffda3674c448938638a49934a696bc3a00ba55e2187730c", func := "cubicle/cubiclelaw04.InboxTexts", spec := "inboxTexts", apart := false }
def InboxTextsSaid : Prop := inboxTextsRow.holds Try.pinned (OpenSpec.ofChange inboxTextsSpec)

/-- ITS FALSE NEIGHBOUR: 'it returns false'. Refute it at one input. -/
def inboxTextsWrong : ChangeSpec := { name := "inboxTexts", fn := fun _ => fun
  | [d1, d2] => { results := [.lit (.bool false)], args := [d1, d2] }
  | _ => none }
def InboxTextsWrongFalsely : Prop := inboxTextsRow.holds Try.pinned (OpenSpec.ofChange inboxTextsWrong)

/-- 'cubiclelaw04.InboxPlays': WHATEVER THE INPUT: true; the input reads as it did. -/
def inboxPlaysSpec : ChangeSpec := { name := "inboxPlays", fn := fun _ => fun
  | [d1, d2] => { results := [.lit (.bool true)], args := [d1, d2] }
  | _ => none }
def inboxPlaysRow : OpenClaim := { program := "ytklihaoaihgpoaa", sum := "621b6f340368bb2b1ffda3674c448938638a49934a696bc3a00ba55e2187730c", func := "cubicle/cubiclelaw04.InboxPlays", spec := "inboxPlays", apart := false }
def InboxPlaysSaid : Prop := inboxPlaysRow.holds Try.pinned (OpenSpec.ofChange inboxPlaysSpec)

/-- ITS FALSE NEIGHBOUR: 'it returns false'. Refute it at one input. -/
def inboxPlaysWrong : ChangeSpec := { name := "inboxPlays", fn := fun _ => fun
  | [d1, d2] => { results := [.lit (.bool false)], args := [d1, d2] }
  | _ => none }
def InboxPlaysWrongFalsely : Prop := inboxPlaysRow.holds Try.pinned (OpenSpec.ofChange inboxPlaysWrong)

/-- 'cubiclelaw04.InboxFull': WHATEVER THE INPUT: true; the input reads as it did. -/
def inboxFullSpec : ChangeSpec := { name := "inboxFull", fn := fun _ => fun
  | [d1, d2] => { results := [.lit (.bool true)], args := [d1, d2] }
  | _ => none }
def inboxFullRow : OpenClaim := { program := "ytklihaoaihgpoaa", sum := "621b6f340368bb2b1ffda3674c448938638a49934a696bc3a00ba55e2187730c", func := "cubicle/cubiclelaw04.InboxFull", spec := "inboxFull", apart := false }
def InboxFullSaid : Prop := inboxFullRow.holds Try.pinned (OpenSpec.ofChange inboxFullSpec)

/-- ITS FALSE NEIGHBOUR: 'it returns false'. Refute it at one input. -/
def inboxFullWrong : ChangeSpec := { name := "inboxFull", fn := fun _ => fun
  | [d1, d2] => { results := [.lit (.bool false)], args := [d1, d2] }
  | _ => none }
def InboxFullWrongFalsely : Prop := inboxFullRow.holds Try.pinned (OpenSpec.ofChange inboxFullWrong)

/-- 'cubiclelaw04.InboxEither': WHATEVER THE INPUT: true; the input reads as it did. -/
def inboxEitherSpec : ChangeSpec := { name := "inboxEither", fn := fun _ => fun
  | [d1, d2] => { results := [.lit (.bool true)], args := [d1, d2] }
  | _ => none }
def inboxEitherRow : OpenClaim := { program := "ytklihaoaihgpoaa", sum := "621b6f340368bb2b1ffda3674c448938638a49934a696bc3a00ba55e2187730c", func := "cubicle/cubiclelaw04.InboxEither", spec := "inboxEither", apart := false }
def InboxEitherSaid : Prop := inboxEitherRow.holds Try.pinned (OpenSpec.ofChange inboxEitherSpec)

/-- ITS FALSE NEIGHBOUR: 'it returns false'. Refute it at one input. -/
def inboxEitherWrong : ChangeSpec := { name := "inboxEither", fn := fun _ => fun
  | [d1, d2] => { results := [.lit (.bool false)], args := [d1, d2] }
  | _ => none }
def InboxEitherWrongFalsely : Prop := inboxEitherRow.holds Try.pinned (OpenSpec.ofChange inboxEitherWrong)

/- THE SECOND FORM. 'bulk': how many values and letters a reading holds, each counted each time it is reached (what is shared counts as often as it is met; a slice's spare places count too). A statement '..UptoSaid' is the law's where the arguments, and the package variables that the reading takes, are together of bulk at most 1048576: NARROWER than '..Said'. Prove '..Said' where nothing that the law and all that it calls make is longer than what came in: it says more and counts as full. Else prove '..UptoSaid'. A law counts once. -/
mutual
def uptoBulk {H : Type} : DataW H → Nat
  | .lit (.string bytes) => bytes.length + 1
  | .lit _ => 1
  | .nil => 1
  | .ptr d => uptoBulk d + 1
  | .slice elems spare => uptoBulkAll elems + uptoBulkAll spare + 1
  | .agg parts => uptoBulkAll parts + 1
  | .iface _ d => uptoBulk d + 1
  | .map entries => uptoBulkEntries entries + 1
  | .held _ => 1
def uptoBulkAll {H : Type} : List (DataW H) → Nat
  | [] => 0
  | d :: r => uptoBulk d + uptoBulkAll r
def uptoBulkEntries {H : Type} : List (Lit × DataW H) → Nat
  | [] => 0
  | x :: r => uptoBulkEntry x + uptoBulkEntries r
def uptoBulkEntry {H : Type} : Lit × DataW H → Nat
  | (.string bytes, d) => bytes.length + uptoBulk d + 1
  | (_, d) => uptoBulk d + 1
 end
def uptoSmall : (H : Type) → List (DataW H) → Bool := fun _ ds => decide (uptoBulkAll ds ≤ 1048576)
def OpenSpec.upto (s : _root_.Go.ChangeSpec) : _root_.Go.OpenSpec := { _root_.Go.OpenSpec.ofChange s with cond := some uptoSmall }

/-- 'cubiclelaw04.InboxTexts', WHERE WHAT IT READS IS OF BULK AT MOST 1048576: true; the input reads as it did. -/
def inboxTextsUptoRow : OpenClaim := { program := "ytklihaoaihgpoaa", sum := "621b6f340368bb2b1ffda3674c448938638a49934a696bc3a00ba55e2187730c", func := "cubicle/cubiclelaw04.InboxTexts", spec := "inboxTexts", apart := false, narrowed := true }
def InboxTextsUptoSaid : Prop := inboxTextsUptoRow.holds Try.pinned (OpenSpec.upto inboxTextsSpec)

/-- 'cubiclelaw04.InboxPlays', WHERE WHAT IT READS IS OF BULK AT MOST 1048576: true; the input reads as it did. -/
def inboxPlaysUptoRow : OpenClaim := { program := "ytklihaoaihgpoaa", sum := "621b6f340368bb2b1ffda3674c448938638a49934a696bc3a00ba55e2187730c", func := "cubicle/cubiclelaw04.InboxPlays", spec := "inboxPlays", apart := false, narrowed := true }
def InboxPlaysUptoSaid : Prop := inboxPlaysUptoRow.holds Try.pinned (OpenSpec.upto inboxPlaysSpec)

/-- 'cubiclelaw04.InboxFull', WHERE WHAT IT READS IS OF BULK AT MOST 1048576: true; the input reads as it did. -/
def inboxFullUptoRow : OpenClaim := { program := "ytklihaoaihgpoaa", sum := "621b6f340368bb2b1ffda3674c448938638a49934a696bc3a00ba55e2187730c", func := "cubicle/cubiclelaw04.InboxFull", spec := "inboxFull", apart := false, narrowed := true }
def InboxFullUptoSaid : Prop := inboxFullUptoRow.holds Try.pinned (OpenSpec.upto inboxFullSpec)

/-- 'cubiclelaw04.InboxEither', WHERE WHAT IT READS IS OF BULK AT MOST 1048576: true; the input reads as it did. -/
def inboxEitherUptoRow : OpenClaim := { program := "ytklihaoaihgpoaa", sum := "621b6f340368bb2b1ffda3674c448938638a49934a696bc3a00ba55e2187730c", func := "cubicle/cubiclelaw04.InboxEither", spec := "inboxEither", apart := false, narrowed := true }
def InboxEitherUptoSaid : Prop := inboxEitherUptoRow.holds Try.pinned (OpenSpec.upto inboxEitherSpec)

end Rows
end Go.Proofs.Ytklihaoaihgpoaa
