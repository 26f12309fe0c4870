/-
  No cell of these rows narrows 'for every input' (looked for: loops, veiled, ifaces, maps, wideKeys, modest, calm, conditions, laid).
  DERIVED. THE GIVEN ROWS OF THIS SEAT. 4 by the template 'for every input the law returns true; each argument reads behind the call as it read before'; 0 by the template 'total and deterministic' (their statements: YtnpinkcadkkeoaaTotals.lean).
  GIVEN WITH THE SEED: the statements are not yours to turn. If you find one false, say at which input.
  Laid BY PROGRAM, IN A SANDBOX (cutbox-rows.mjs): the forced cells as the released guide's own fill.sh prints them over the translation cb036a0f878c9097… (all of the seat's roots in one cut). By AI agents, Wed Nov 11 2026. No macro, syntax, notation, axiom, sorry.
-/
import Derived.Test.YtnpinkcadkkeoaaChecked
import GoSem.Claim
import GoSem.ClaimJoined
import GoSem.ClaimMapViews
import Derived.JoinedTies
import Derived.KernelRfl
namespace Go.Proofs.Ytnpinkcadkkeoaa
/- THE CELL 'sum', in the pinned program and in every row, IS THE sha256 OF THE DUMP (.gsa) THAT YtnpinkcadkkeoaaProg.lean LOADS. Nothing in Lean hashes anything: it is a label: what it is worth is what the hold of that sum in a sandbox is worth. -/
noncomputable def Try.pinned : Pinned := { name := "ytnpinkcadkkeoaa", sum := "cb036a0f878c9097b151702ba5431e3512824cb8744014ecf4ed794b4ed89646", checked := Try.checked }
namespace Rows
def none {H : Type} : Left H := { results := [], args := [] }

/-- 'consortlaw18.VoteVotes': WHATEVER THE INPUT: true; the input reads as it did. -/
def voteVotesSpec : ChangeSpec := { name := "voteVotes", fn := fun _ => fun
  | [d1, d2, d3] => { results := [.lit (.bool true)], args := [d1, d2, d3] }
  | _ => none }
def voteVotesRow : OpenClaim := { program := "ytnpinkcadkkeoaa", sum := "cb036a0f878c9097b151702ba5431e3512824cb8744014ecf4ed794b4ed89646", func := "consort/consortlaw18.VoteVotes", spec := "voteVotes", unfollowed := true, recurses := true, apart := false }
def VoteVotesSaid : Prop := voteVotesRow.holds Try.pinned (OpenSpec.ofChange voteVotesSpec)

/-- ITS FALSE NEIGHBOUR: 'it returns false'. Refute it at one input. -/
def voteVotesWrong : ChangeSpec := { name := "voteVotes", fn := fun _ => fun
  | [d1, d2, d3] => { results := [.lit (.bool false)], args := [d1, d2, d3] }
  | _ => none }
def VoteVotesWrongFalsely : Prop := voteVotesRow.holds Try.pinned (OpenSpec.ofChange voteVotesWrong)

/-- 'consortlaw18.VoteMore': WHATEVER THE INPUT: true; the input reads as it did. -/
def voteMoreSpec : ChangeSpec := { name := "voteMore", fn := fun _ => fun
  | [d1, d2, d3] => { results := [.lit (.bool true)], args := [d1, d2, d3] }
  | _ => none }
def voteMoreRow : OpenClaim := { program := "ytnpinkcadkkeoaa", sum := "cb036a0f878c9097b151702ba5431e3512824cb8744014ecf4ed794b4ed89646", func := "consort/consortlaw18.VoteMore", spec := "voteMore", unfollowed := true, recurses := true, apart := false }
def VoteMoreSaid : Prop := voteMoreRow.holds Try.pinned (OpenSpec.ofChange voteMoreSpec)

/-- ITS FALSE NEIGHBOUR: 'it returns false'. Refute it at one input. -/
def voteMoreWrong : ChangeSpec := { name := "voteMore", fn := fun _ => fun
  | [d1, d2, d3] => { results := [.lit (.bool false)], args := [d1, d2, d3] }
  | _ => none }
def VoteMoreWrongFalsely : Prop := voteMoreRow.holds Try.pinned (OpenSpec.ofChange voteMoreWrong)

/-- 'consortlaw18.VoteMeets': WHATEVER THE INPUT: true; the input reads as it did. -/
def voteMeetsSpec : ChangeSpec := { name := "voteMeets", fn := fun _ => fun
  | [d1, d2, d3] => { results := [.lit (.bool true)], args := [d1, d2, d3] }
  | _ => none }
def voteMeetsRow : OpenClaim := { program := "ytnpinkcadkkeoaa", sum := "cb036a0f878c9097b151702ba5431e3512824cb8744014ecf4ed794b4ed89646", func := "consort/consortlaw18.VoteMeets", spec := "voteMeets", unfollowed := true, recurses := true, apart := false }
def VoteMeetsSaid : Prop := voteMeetsRow.holds Try.pinned (OpenSpec.ofChange voteMeetsSpec)

/-- ITS FALSE NEIGHBOUR: 'it returns false'. Refute it at one input. -/
def voteMeetsWrong : ChangeSpec := { name := "voteMeets", fn := fun _ => fun
  | [d1, d2, d3] => { results := [.lit (.bool false)], args := [d1, d2, d3] }
  | _ => none }
def VoteMeetsWrongFalsely : Prop := voteMeetsRow.holds Try.pinned (OpenSpec.ofChange voteMeetsWrong)

/-- 'consortlaw18.VoteChain': WHATEVER THE INPUT: true; the input reads as it did. -/
def voteChainSpec : ChangeSpec := { name := "voteChain", fn := fun _ => fun
  | [d] => { results := [.lit (.bool true)], args := [d] }
  | _ => none }
def voteChainRow : OpenClaim := { program := "ytnpinkcadkkeoaa", sum := "cb036a0f878c9097b151702ba5431e3512824cb8744014ecf4ed794b4ed89646", func := "consort/consortlaw18.VoteChain", spec := "voteChain", unfollowed := true, recurses := true, apart := false }
def VoteChainSaid : Prop := voteChainRow.holds Try.pinned (OpenSpec.ofChange voteChainSpec)

/-- ITS FALSE NEIGHBOUR: 'it returns false'. Refute it at one input. -/
def voteChainWrong : ChangeSpec := { name := "voteChain", fn := fun _ => fun
  | [d] => { results := [.lit (.bool false)], args := [d] }
  | _ => none }
def VoteChainWrongFalsely : Prop := voteChainRow.holds Try.pinned (OpenSpec.ofChange voteChainWrong)

/- THE SECOND FORM. 'bulk': how many values and letters a reading holds, each counted each time it is reached (what is shared counts as often as it is met; a slice's spare places count too). A statement '..UptoSaid' is the law's where the arguments, and the package variables that the reading takes, are together of bulk at most 1048576: NARROWER than '..Said'. Prove '..Said' where nothing that the law and all that it calls make is longer than what came in: it says more and counts as full. Else prove '..UptoSaid'. A law counts once. -/
mutual
def uptoBulk {H : Type} : DataW H → Nat
  | .lit (.string bytes) => bytes.length + 1
  | .lit _ => 1
  | .nil => 1
  | .ptr d => uptoBulk d + 1
  | .slice elems spare => uptoBulkAll elems + uptoBulkAll spare + 1
  | .agg parts => uptoBulkAll parts + 1
  | .iface _ d => uptoBulk d + 1
  | .map entries => uptoBulkEntries entries + 1
  | .held _ => 1
def uptoBulkAll {H : Type} : List (DataW H) → Nat
  | [] => 0
  | d :: r => uptoBulk d + uptoBulkAll r
def uptoBulkEntries {H : Type} : List (Lit × DataW H) → Nat
  | [] => 0
  | x :: r => uptoBulkEntry x + uptoBulkEntries r
def uptoBulkEntry {H : Type} : Lit × DataW H → Nat
  | (.string bytes, d) => bytes.length + uptoBulk d + 1
  | (_, d) => uptoBulk d + 1
 end
def uptoSmall : (H : Type) → List (DataW H) → Bool := fun _ ds => decide (uptoBulkAll ds ≤ 1048576)
def OpenSpec.upto (s : _root_.Go.ChangeSpec) : _root_.Go.OpenSpec := { _root_.Go.OpenSpec.ofChange s with cond := some uptoSmall }

/-- 'consortlaw18.VoteVotes', WHERE WHAT IT READS IS OF BULK AT MOST 1048576: true; the input reads as it did. -/
def voteVotesUptoRow : OpenClaim := { program := "ytnpinkcadkkeoaa", sum := "cb036a0f878c9097b151702ba5431e3512824cb8744014ecf4ed794b4ed89646", func := "consort/consortlaw18.VoteVotes", spec := "voteVotes", unfollowed := true, recurses := true, apart := false, narrowed := true }
def VoteVotesUptoSaid : Prop := voteVotesUptoRow.holds Try.pinned (OpenSpec.upto voteVotesSpec)

/-- 'consortlaw18.VoteMore', WHERE WHAT IT READS IS OF BULK AT MOST 1048576: true; the input reads as it did. -/
def voteMoreUptoRow : OpenClaim := { program := "ytnpinkcadkkeoaa", sum := "cb036a0f878c9097b151702ba5431e3512824cb8744014ecf4ed794b4ed89646", func := "consort/consortlaw18.VoteMore", spec := "voteMore", unfollowed := true, recurses := true, apart := false, narrowed := true }
def VoteMoreUptoSaid : Prop := voteMoreUptoRow.holds Try.pinned (OpenSpec.upto voteMoreSpec)

/-- 'consortlaw18.VoteMeets', WHERE WHAT IT READS IS OF BULK AT MOST 1048576: true; the input reads as it did. -/
def voteMeetsUptoRow : OpenClaim := { program := "ytnpinkcadkkeoaa", sum := "cb036a0f878c9097b151702ba5431e3512824cb8744014ecf4ed794b4ed89646", func := "consort/consortlaw18.VoteMeets", spec := "voteMeets", unfollowed := true, recurses := true, apart := false, narrowed := true }
def VoteMeetsUptoSaid : Prop := voteMeetsUptoRow.holds Try.pinned (OpenSpec.upto voteMeetsSpec)

/-- 'consortlaw18.VoteChain', WHERE WHAT IT READS IS OF BULK AT MOST 1048576: true; the input reads as it did. -/
def voteChainUptoRow : OpenClaim := { program := "ytnpinkcadkkeoaa", sum := "cb036a0f878c9097b151702ba5431e3512824cb8744014ecf4ed794b4ed89646", func := "consort/consortlaw18.VoteChain", spec := "voteChain", unfollowed := true, recurses := true, apart := false, narrowed := true }
def VoteChainUptoSaid : Prop := voteChainUptoRow.holds Try.pinned (OpenSpec.upto voteChainSpec)

end Rows
end Go.Proofs.Ytnpinkcadkkeoaa
