/-
  No cell of these rows narrows 'for every input' (looked for: loops, veiled, ifaces, maps, wideKeys, modest, calm, conditions, laid).
  DERIVED. THE GIVEN ROWS OF THIS SEAT. 10 by the template 'for every input the law returns true; each argument reads behind the call as it read before'; 0 by the template 'total and deterministic' (their statements: YtdjmjdfkblhgdaaTotals.lean).
  GIVEN WITH THE SEED: the statements are not yours to turn. If you find one false, say at which input.
  Laid BY PROGRAM, IN A SANDBOX (cutbox-rows.mjs): the forced cells as the released guide's own fill.sh prints them over the translation b6f7559038a10c99… (all of the seat's roots in one cut). By AI agents, Wed Nov 11 2026. No macro, syntax, notation, axiom, sorry.
-/
import Derived.Test.YtdjmjdfkblhgdaaChecked
import GoSem.Claim
import GoSem.ClaimJoined
import GoSem.ClaimMapViews
import Derived.JoinedTies
import Derived.KernelRfl
namespace Go.Proofs.Ytdjmjdfkblhgdaa
/- THE CELL 'sum', in the pinned program and in every row, IS THE sha256 OF THE DUMP (.gsa) THAT YtdjmjdfkblhgdaaProg.lean LOADS. Nothing in Lean hashes anything: it is a label: what it is worth is what the hold of that sum in a sandbox is worth. -/
noncomputable def Try.pinned : Pinned := { name := "ytdjmjdfkblhgdaa", sum := "b6f7559038a10c99317b5b3789f86460b497527da4771bdaae542e7c25fb6f44", checked := Try.checked }
namespace Rows
def none {H : Type} : Left H := { results := [], args := [] }

/-- 'sievelaw02.ArenaTwice': WHATEVER THE INPUT: true; the input reads as it did. -/
def arenaTwiceSpec : ChangeSpec := { name := "arenaTwice", fn := fun _ => fun
  | [d1, d2, d3] => { results := [.lit (.bool true)], args := [d1, d2, d3] }
  | _ => none }
def arenaTwiceRow : OpenClaim := { program := "ytdjmjdfkblhgdaa", sum := "b6f7559038a10c99317b5b3789f86460b497527da4771bdaae542e7c25fb6f44", func := "sieve/sievelaw02.ArenaTwice", spec := "arenaTwice", unfollowed := true, recurses := true, apart := false }
def ArenaTwiceSaid : Prop := arenaTwiceRow.holds Try.pinned (OpenSpec.ofChange arenaTwiceSpec)

/-- ITS FALSE NEIGHBOUR: 'it returns false'. Refute it at one input. -/
def arenaTwiceWrong : ChangeSpec := { name := "arenaTwice", fn := fun _ => fun
  | [d1, d2, d3] => { results := [.lit (.bool false)], args := [d1, d2, d3] }
  | _ => none }
def ArenaTwiceWrongFalsely : Prop := arenaTwiceRow.holds Try.pinned (OpenSpec.ofChange arenaTwiceWrong)

/-- 'sievelaw02.ArenaFresh': WHATEVER THE INPUT: true; the input reads as it did. -/
def arenaFreshSpec : ChangeSpec := { name := "arenaFresh", fn := fun _ => fun
  | [d1, d2] => { results := [.lit (.bool true)], args := [d1, d2] }
  | _ => none }
def arenaFreshRow : OpenClaim := { program := "ytdjmjdfkblhgdaa", sum := "b6f7559038a10c99317b5b3789f86460b497527da4771bdaae542e7c25fb6f44", func := "sieve/sievelaw02.ArenaFresh", spec := "arenaFresh", inPlace := ["maps.clone"], unfollowed := true, recurses := true, apart := false }
def ArenaFreshSaid : Prop := arenaFreshRow.holds Try.pinned (OpenSpec.ofChange arenaFreshSpec)

/-- ITS FALSE NEIGHBOUR: 'it returns false'. Refute it at one input. -/
def arenaFreshWrong : ChangeSpec := { name := "arenaFresh", fn := fun _ => fun
  | [d1, d2] => { results := [.lit (.bool false)], args := [d1, d2] }
  | _ => none }
def ArenaFreshWrongFalsely : Prop := arenaFreshRow.holds Try.pinned (OpenSpec.ofChange arenaFreshWrong)

/-- 'sievelaw02.ArenaNil': WHATEVER THE INPUT: true; the input reads as it did. -/
def arenaNilSpec : ChangeSpec := { name := "arenaNil", fn := fun _ => fun
  | [d1, d2] => { results := [.lit (.bool true)], args := [d1, d2] }
  | _ => none }
def arenaNilRow : OpenClaim := { program := "ytdjmjdfkblhgdaa", sum := "b6f7559038a10c99317b5b3789f86460b497527da4771bdaae542e7c25fb6f44", func := "sieve/sievelaw02.ArenaNil", spec := "arenaNil", inPlace := ["maps.clone"], unfollowed := true, recurses := true, apart := false }
def ArenaNilSaid : Prop := arenaNilRow.holds Try.pinned (OpenSpec.ofChange arenaNilSpec)

/-- ITS FALSE NEIGHBOUR: 'it returns false'. Refute it at one input. -/
def arenaNilWrong : ChangeSpec := { name := "arenaNil", fn := fun _ => fun
  | [d1, d2] => { results := [.lit (.bool false)], args := [d1, d2] }
  | _ => none }
def ArenaNilWrongFalsely : Prop := arenaNilRow.holds Try.pinned (OpenSpec.ofChange arenaNilWrong)

/-- 'sievelaw02.ArenaApart': WHATEVER THE INPUT: true; the input reads as it did. -/
def arenaApartSpec : ChangeSpec := { name := "arenaApart", fn := fun _ => fun
  | [d1, d2] => { results := [.lit (.bool true)], args := [d1, d2] }
  | _ => none }
def arenaApartRow : OpenClaim := { program := "ytdjmjdfkblhgdaa", sum := "b6f7559038a10c99317b5b3789f86460b497527da4771bdaae542e7c25fb6f44", func := "sieve/sievelaw02.ArenaApart", spec := "arenaApart", inPlace := ["maps.clone"], unfollowed := true, recurses := true, apart := false }
def ArenaApartSaid : Prop := arenaApartRow.holds Try.pinned (OpenSpec.ofChange arenaApartSpec)

/-- ITS FALSE NEIGHBOUR: 'it returns false'. Refute it at one input. -/
def arenaApartWrong : ChangeSpec := { name := "arenaApart", fn := fun _ => fun
  | [d1, d2] => { results := [.lit (.bool false)], args := [d1, d2] }
  | _ => none }
def ArenaApartWrongFalsely : Prop := arenaApartRow.holds Try.pinned (OpenSpec.ofChange arenaApartWrong)

/-- 'sievelaw02.ArenaPlays': WHATEVER THE INPUT: true; the input reads as it did. -/
def arenaPlaysSpec : ChangeSpec := { name := "arenaPlays", fn := fun _ => fun
  | [d1, d2, d3] => { results := [.lit (.bool true)], args := [d1, d2, d3] }
  | _ => none }
def arenaPlaysRow : OpenClaim := { program := "ytdjmjdfkblhgdaa", sum := "b6f7559038a10c99317b5b3789f86460b497527da4771bdaae542e7c25fb6f44", func := "sieve/sievelaw02.ArenaPlays", spec := "arenaPlays", inPlace := ["maps.clone"], unfollowed := true, recurses := true, apart := false }
def ArenaPlaysSaid : Prop := arenaPlaysRow.holds Try.pinned (OpenSpec.ofChange arenaPlaysSpec)

/-- ITS FALSE NEIGHBOUR: 'it returns false'. Refute it at one input. -/
def arenaPlaysWrong : ChangeSpec := { name := "arenaPlays", fn := fun _ => fun
  | [d1, d2, d3] => { results := [.lit (.bool false)], args := [d1, d2, d3] }
  | _ => none }
def ArenaPlaysWrongFalsely : Prop := arenaPlaysRow.holds Try.pinned (OpenSpec.ofChange arenaPlaysWrong)

/-- 'sievelaw20.PackTells': WHATEVER THE INPUT: true; the input reads as it did. -/
def packTellsSpec : ChangeSpec := { name := "packTells", fn := fun _ => fun
  | [d1, d2] => { results := [.lit (.bool true)], args := [d1, d2] }
  | _ => none }
def packTellsRow : OpenClaim := { program := "ytdjmjdfkblhgdaa", sum := "b6f7559038a10c99317b5b3789f86460b497527da4771bdaae542e7c25fb6f44", func := "sieve/sievelaw20.PackTells", spec := "packTells", unfollowed := true, recurses := true, apart := false }
def PackTellsSaid : Prop := packTellsRow.holds Try.pinned (OpenSpec.ofChange packTellsSpec)

/-- ITS FALSE NEIGHBOUR: 'it returns false'. Refute it at one input. -/
def packTellsWrong : ChangeSpec := { name := "packTells", fn := fun _ => fun
  | [d1, d2] => { results := [.lit (.bool false)], args := [d1, d2] }
  | _ => none }
def PackTellsWrongFalsely : Prop := packTellsRow.holds Try.pinned (OpenSpec.ofChange packTellsWrong)

/-- 'sievelaw20.PackMatches': WHATEVER THE INPUT: true; the input reads as it did. -/
def packMatchesSpec : ChangeSpec := { name := "packMatches", fn := fun _ => fun
  | [d1, d2, d3] => { results := [.lit (.bool true)], args := [d1, d2, d3] }
  | _ => none }
def packMatchesRow : OpenClaim := { program := "ytdjmjdfkblhgdaa", sum := "b6f7559038a10c99317b5b3789f86460b497527da4771bdaae542e7c25fb6f44", func := "sieve/sievelaw20.PackMatches", spec := "packMatches", unfollowed := true, recurses := true, apart := false }
def PackMatchesSaid : Prop := packMatchesRow.holds Try.pinned (OpenSpec.ofChange packMatchesSpec)

/-- ITS FALSE NEIGHBOUR: 'it returns false'. Refute it at one input. -/
def packMatchesWrong : ChangeSpec := { name := "packMatches", fn := fun _ => fun
  | [d1, d2, d3] => { results := [.lit (.bool false)], args := [d1, d2, d3] }
  | _ => none }
def PackMatchesWrongFalsely : Prop := packMatchesRow.holds Try.pinned (OpenSpec.ofChange packMatchesWrong)

/-- 'sievelaw20.PackNil': WHATEVER THE INPUT: true; the input reads as it did. -/
def packNilSpec : ChangeSpec := { name := "packNil", fn := fun _ => fun
  | [d1, d2, d3] => { results := [.lit (.bool true)], args := [d1, d2, d3] }
  | _ => none }
def packNilRow : OpenClaim := { program := "ytdjmjdfkblhgdaa", sum := "b6f7559038a10c99317b5b3789f86460b497527da4771bdaae542e7c25fb6f44", func := "sieve/sievelaw20.PackNil", spec := "packNil", unfollowed := true, recurses := true, apart := false }
def PackNilSaid : Prop := packNilRow.holds Try.pinned (OpenSpec.ofChange packNilSpec)

/-- ITS FALSE NEIGHBOUR: 'it returns false'. Refute it at one input. -/
def packNilWrong : ChangeSpec := { name := "packNil", fn := fun _ => fun
  | [d1, d2, d3] => { results := [.lit (.bool false)], args := [d1, d2, d3] }
  | _ => none }
def PackNilWrongFalsely : Prop := packNilRow.holds Try.pinned (OpenSpec.ofChange packNilWrong)

/-- 'sievelaw20.PackRuns': WHATEVER THE INPUT: true; the input reads as it did. -/
def packRunsSpec : ChangeSpec := { name := "packRuns", fn := fun _ => fun
  | [d1, d2] => { results := [.lit (.bool true)], args := [d1, d2] }
  | _ => none }
def packRunsRow : OpenClaim := { program := "ytdjmjdfkblhgdaa", sum := "b6f7559038a10c99317b5b3789f86460b497527da4771bdaae542e7c25fb6f44", func := "sieve/sievelaw20.PackRuns", spec := "packRuns", unfollowed := true, recurses := true, apart := false }
def PackRunsSaid : Prop := packRunsRow.holds Try.pinned (OpenSpec.ofChange packRunsSpec)

/-- ITS FALSE NEIGHBOUR: 'it returns false'. Refute it at one input. -/
def packRunsWrong : ChangeSpec := { name := "packRuns", fn := fun _ => fun
  | [d1, d2] => { results := [.lit (.bool false)], args := [d1, d2] }
  | _ => none }
def PackRunsWrongFalsely : Prop := packRunsRow.holds Try.pinned (OpenSpec.ofChange packRunsWrong)

/-- 'sievelaw20.PackAgain': WHATEVER THE INPUT: true; the input reads as it did. -/
def packAgainSpec : ChangeSpec := { name := "packAgain", fn := fun _ => fun
  | [d1, d2] => { results := [.lit (.bool true)], args := [d1, d2] }
  | _ => none }
def packAgainRow : OpenClaim := { program := "ytdjmjdfkblhgdaa", sum := "b6f7559038a10c99317b5b3789f86460b497527da4771bdaae542e7c25fb6f44", func := "sieve/sievelaw20.PackAgain", spec := "packAgain", unfollowed := true, recurses := true, apart := false }
def PackAgainSaid : Prop := packAgainRow.holds Try.pinned (OpenSpec.ofChange packAgainSpec)

/-- ITS FALSE NEIGHBOUR: 'it returns false'. Refute it at one input. -/
def packAgainWrong : ChangeSpec := { name := "packAgain", fn := fun _ => fun
  | [d1, d2] => { results := [.lit (.bool false)], args := [d1, d2] }
  | _ => none }
def PackAgainWrongFalsely : Prop := packAgainRow.holds Try.pinned (OpenSpec.ofChange packAgainWrong)

/- THE SECOND FORM. 'bulk': how many values and letters a reading holds, each counted each time it is reached (what is shared counts as often as it is met; a slice's spare places count too). A statement '..UptoSaid' is the law's where the arguments, and the package variables that the reading takes, are together of bulk at most 1048576: NARROWER than '..Said'. Prove '..Said' where nothing that the law and all that it calls make is longer than what came in: it says more and counts as full. Else prove '..UptoSaid'. A law counts once. -/
mutual
def uptoBulk {H : Type} : DataW H → Nat
  | .lit (.string bytes) => bytes.length + 1
  | .lit _ => 1
  | .nil => 1
  | .ptr d => uptoBulk d + 1
  | .slice elems spare => uptoBulkAll elems + uptoBulkAll spare + 1
  | .agg parts => uptoBulkAll parts + 1
  | .iface _ d => uptoBulk d + 1
  | .map entries => uptoBulkEntries entries + 1
  | .held _ => 1
def uptoBulkAll {H : Type} : List (DataW H) → Nat
  | [] => 0
  | d :: r => uptoBulk d + uptoBulkAll r
def uptoBulkEntries {H : Type} : List (Lit × DataW H) → Nat
  | [] => 0
  | x :: r => uptoBulkEntry x + uptoBulkEntries r
def uptoBulkEntry {H : Type} : Lit × DataW H → Nat
  | (.string bytes, d) => bytes.length + uptoBulk d + 1
  | (_, d) => uptoBulk d + 1
 end
def uptoSmall : (H : Type) → List (DataW H) → Bool := fun _ ds => decide (uptoBulkAll ds ≤ 1048576)
def OpenSpec.upto (s : _root_.Go.ChangeSpec) : _root_.Go.OpenSpec := { _root_.Go.OpenSpec.ofChange s with cond := some uptoSmall }

/-- 'sievelaw02.ArenaTwice', WHERE WHAT IT READS IS OF BULK AT MOST 1048576: true; the input reads as it did. -/
def arenaTwiceUptoRow : OpenClaim := { program := "ytdjmjdfkblhgdaa", sum := "b6f7559038a10c99317b5b3789f86460b497527da4771bdaae542e7c25fb6f44", func := "sieve/sievelaw02.ArenaTwice", spec := "arenaTwice", unfollowed := true, recurses := true, apart := false, narrowed := true }
def ArenaTwiceUptoSaid : Prop := arenaTwiceUptoRow.holds Try.pinned (OpenSpec.upto arenaTwiceSpec)

/-- 'sievelaw02.ArenaFresh', WHERE WHAT IT READS IS OF BULK AT MOST 1048576: true; the input reads as it did. -/
def arenaFreshUptoRow : OpenClaim := { program := "ytdjmjdfkblhgdaa", sum := "b6f7559038a10c99317b5b3789f86460b497527da4771bdaae542e7c25fb6f44", func := "sieve/sievelaw02.ArenaFresh", spec := "arenaFresh", inPlace := ["maps.clone"], unfollowed := true, recurses := true, apart := false, narrowed := true }
def ArenaFreshUptoSaid : Prop := arenaFreshUptoRow.holds Try.pinned (OpenSpec.upto arenaFreshSpec)

/-- 'sievelaw02.ArenaNil', WHERE WHAT IT READS IS OF BULK AT MOST 1048576: true; the input reads as it did. -/
def arenaNilUptoRow : OpenClaim := { program := "ytdjmjdfkblhgdaa", sum := "b6f7559038a10c99317b5b3789f86460b497527da4771bdaae542e7c25fb6f44", func := "sieve/sievelaw02.ArenaNil", spec := "arenaNil", inPlace := ["maps.clone"], unfollowed := true, recurses := true, apart := false, narrowed := true }
def ArenaNilUptoSaid : Prop := arenaNilUptoRow.holds Try.pinned (OpenSpec.upto arenaNilSpec)

/-- 'sievelaw02.ArenaApart', WHERE WHAT IT READS IS OF BULK AT MOST 1048576: true; the input reads as it did. -/
def arenaApartUptoRow : OpenClaim := { program := "ytdjmjdfkblhgdaa", sum := "b6f7559038a10c99317b5b3789f86460b497527da4771bdaae542e7c25fb6f44", func := "sieve/sievelaw02.ArenaApart", spec := "arenaApart", inPlace := ["maps.clone"], unfollowed := true, recurses := true, apart := false, narrowed := true }
def ArenaApartUptoSaid : Prop := arenaApartUptoRow.holds Try.pinned (OpenSpec.upto arenaApartSpec)

/-- 'sievelaw02.ArenaPlays', WHERE WHAT IT READS IS OF BULK AT MOST 1048576: true; the input reads as it did. -/
def arenaPlaysUptoRow : OpenClaim := { program := "ytdjmjdfkblhgdaa", sum := "b6f7559038a10c99317b5b3789f86460b497527da4771bdaae542e7c25fb6f44", func := "sieve/sievelaw02.ArenaPlays", spec := "arenaPlays", inPlace := ["maps.clone"], unfollowed := true, recurses := true, apart := false, narrowed := true }
def ArenaPlaysUptoSaid : Prop := arenaPlaysUptoRow.holds Try.pinned (OpenSpec.upto arenaPlaysSpec)

/-- 'sievelaw20.PackTells', WHERE WHAT IT READS IS OF BULK AT MOST 1048576: true; the input reads as it did. -/
def packTellsUptoRow : OpenClaim := { program := "ytdjmjdfkblhgdaa", sum := "b6f7559038a10c99317b5b3789f86460b497527da4771bdaae542e7c25fb6f44", func := "sieve/sievelaw20.PackTells", spec := "packTells", unfollowed := true, recurses := true, apart := false, narrowed := true }
def PackTellsUptoSaid : Prop := packTellsUptoRow.holds Try.pinned (OpenSpec.upto packTellsSpec)

/-- 'sievelaw20.PackMatches', WHERE WHAT IT READS IS OF BULK AT MOST 1048576: true; the input reads as it did. -/
def packMatchesUptoRow : OpenClaim := { program := "ytdjmjdfkblhgdaa", sum := "b6f7559038a10c99317b5b3789f86460b497527da4771bdaae542e7c25fb6f44", func := "sieve/sievelaw20.PackMatches", spec := "packMatches", unfollowed := true, recurses := true, apart := false, narrowed := true }
def PackMatchesUptoSaid : Prop := packMatchesUptoRow.holds Try.pinned (OpenSpec.upto packMatchesSpec)

/-- 'sievelaw20.PackNil', WHERE WHAT IT READS IS OF BULK AT MOST 1048576: true; the input reads as it did. -/
def packNilUptoRow : OpenClaim := { program := "ytdjmjdfkblhgdaa", sum := "b6f7559038a10c99317b5b3789f86460b497527da4771bdaae542e7c25fb6f44", func := "sieve/sievelaw20.PackNil", spec := "packNil", unfollowed := true, recurses := true, apart := false, narrowed := true }
def PackNilUptoSaid : Prop := packNilUptoRow.holds Try.pinned (OpenSpec.upto packNilSpec)

/-- 'sievelaw20.PackRuns', WHERE WHAT IT READS IS OF BULK AT MOST 1048576: true; the input reads as it did. -/
def packRunsUptoRow : OpenClaim := { program := "ytdjmjdfkblhgdaa", sum := "b6f7559038a10c99317b5b3789f86460b497527da4771bdaae542e7c25fb6f44", func := "sieve/sievelaw20.PackRuns", spec := "packRuns", unfollowed := true, recurses := true, apart := false, narrowed := true }
def PackRunsUptoSaid : Prop := packRunsUptoRow.holds Try.pinned (OpenSpec.upto packRunsSpec)

/-- 'sievelaw20.PackAgain', WHERE WHAT IT READS IS OF BULK AT MOST 1048576: true; the input reads as it did. -/
def packAgainUptoRow : OpenClaim := { program := "ytdjmjdfkblhgdaa", sum := "b6f7559038a10c99317b5b3789f86460b497527da4771bdaae542e7c25fb6f44", func := "sieve/sievelaw20.PackAgain", spec := "packAgain", unfollowed := true, recurses := true, apart := false, narrowed := true }
def PackAgainUptoSaid : Prop := packAgainUptoRow.holds Try.pinned (OpenSpec.upto packAgainSpec)

end Rows
end Go.Proofs.Ytdjmjdfkblhgdaa
