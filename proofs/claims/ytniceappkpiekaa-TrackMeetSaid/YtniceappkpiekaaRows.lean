/-
  No cell of these rows narrows 'for every input' (looked for: loops, veiled, ifaces, maps, wideKeys, modest, calm, conditions, laid).
  DERIVED. THE GIVEN ROWS OF THIS SEAT. 8 by the template 'for every input the law returns true; each argument reads behind the call as it read before'; 0 by the template 'total and deterministic' (their statements: YtniceappkpiekaaTotals.lean).
  GIVEN WITH THE SEED: the statements are not yours to turn. If you find one false, say at which input.
  Laid BY PROGRAM, IN A SANDBOX (cutbox-rows.mjs): the forced cells as the released guide's own fill.sh prints them over the translation 8d7bd61dfbf6eb06… (all of the seat's roots in one cut). By AI agents, Wed Nov 11 2026. No macro, syntax, notation, axiom, sorry.
-/
import Derived.Test.YtniceappkpiekaaChecked
import GoSem.Claim
import GoSem.ClaimJoined
import GoSem.ClaimMapViews
import Derived.JoinedTies
import Derived.KernelRfl
namespace Go.Proofs.Ytniceappkpiekaa
/- THE CELL 'sum', in the pinned program and in every row, IS THE sha256 OF THE DUMP (.gsa) THAT YtniceappkpiekaaProg.lean LOADS. Nothing in Lean hashes anything: it is a label: what it is worth is what the hold of that sum in a sandbox is worth. -/
noncomputable def Try.pinned : Pinned := { name := "ytniceappkpiekaa", sum := "8d7bd61dfbf6eb06596f9cda5156eb807d7818cf7d37b2c1b9aff38e58f0b4a3", checked := Try.checked }
namespace Rows
def none {H : Type} : Left H := { results := [], args := [] }

/-- 'synodlaw9.TrackQuorums': WHATEVER THE INPUT: true; the input reads as it did. -/
def trackQuorumsSpec : ChangeSpec := { name := "trackQuorums", fn := fun _ => fun
  | [d1, d2] => { results := [.lit (.bool true)], args := [d1, d2] }
  | _ => none }
def trackQuorumsRow : OpenClaim := { program := "ytniceappkpiekaa", sum := "8d7bd61dfbf6eb06596f9cda5156eb807d7818cf7d37b2c1b9aff38e58f0b4a3", func := "synod/synodlaw9.TrackQuorums", spec := "trackQuorums", unfollowed := true, recurses := true, apart := false }
def TrackQuorumsSaid : Prop := trackQuorumsRow.holds Try.pinned (OpenSpec.ofChange trackQuorumsSpec)

/-- ITS FALSE NEIGHBOUR: 'it returns false'. Refute it at one input. -/
def trackQuorumsWrong : ChangeSpec := { name := "trackQuorums", fn := fun _ => fun
  | [d1, d2] => { results := [.lit (.bool false)], args := [d1, d2] }
  | _ => none }
def TrackQuorumsWrongFalsely : Prop := trackQuorumsRow.holds Try.pinned (OpenSpec.ofChange trackQuorumsWrong)

/-- 'synodlaw9.TrackHas': WHATEVER THE INPUT: true; the input reads as it did. -/
def trackHasSpec : ChangeSpec := { name := "trackHas", fn := fun _ => fun
  | [d1, d2, d3] => { results := [.lit (.bool true)], args := [d1, d2, d3] }
  | _ => none }
def trackHasRow : OpenClaim := { program := "ytniceappkpiekaa", sum := "8d7bd61dfbf6eb06596f9cda5156eb807d7818cf7d37b2c1b9aff38e58f0b4a3", func := "synod/synodlaw9.TrackHas", spec := "trackHas", unfollowed := true, recurses := true, apart := false }
def TrackHasSaid : Prop := trackHasRow.holds Try.pinned (OpenSpec.ofChange trackHasSpec)

/-- ITS FALSE NEIGHBOUR: 'it returns false'. Refute it at one input. -/
def trackHasWrong : ChangeSpec := { name := "trackHas", fn := fun _ => fun
  | [d1, d2, d3] => { results := [.lit (.bool false)], args := [d1, d2, d3] }
  | _ => none }
def TrackHasWrongFalsely : Prop := trackHasRow.holds Try.pinned (OpenSpec.ofChange trackHasWrong)

/-- 'synodlaw9.TrackPlays': WHATEVER THE INPUT: true; the input reads as it did. -/
def trackPlaysSpec : ChangeSpec := { name := "trackPlays", fn := fun _ => fun
  | [d1, d2, d3] => { results := [.lit (.bool true)], args := [d1, d2, d3] }
  | _ => none }
def trackPlaysRow : OpenClaim := { program := "ytniceappkpiekaa", sum := "8d7bd61dfbf6eb06596f9cda5156eb807d7818cf7d37b2c1b9aff38e58f0b4a3", func := "synod/synodlaw9.TrackPlays", spec := "trackPlays", unfollowed := true, recurses := true, apart := false }
def TrackPlaysSaid : Prop := trackPlaysRow.holds Try.pinned (OpenSpec.ofChange trackPlaysSpec)

/-- ITS FALSE NEIGHBOUR: 'it returns false'. Refute it at one input. -/
def trackPlaysWrong : ChangeSpec := { name := "trackPlays", fn := fun _ => fun
  | [d1, d2, d3] => { results := [.lit (.bool false)], args := [d1, d2, d3] }
  | _ => none }
def TrackPlaysWrongFalsely : Prop := trackPlaysRow.holds Try.pinned (OpenSpec.ofChange trackPlaysWrong)

/-- 'synodlaw9.TrackNext': WHATEVER THE INPUT: true; the input reads as it did. -/
def trackNextSpec : ChangeSpec := { name := "trackNext", fn := fun _ => fun
  | [d1, d2, d3] => { results := [.lit (.bool true)], args := [d1, d2, d3] }
  | _ => none }
def trackNextRow : OpenClaim := { program := "ytniceappkpiekaa", sum := "8d7bd61dfbf6eb06596f9cda5156eb807d7818cf7d37b2c1b9aff38e58f0b4a3", func := "synod/synodlaw9.TrackNext", spec := "trackNext", unfollowed := true, recurses := true, apart := false }
def TrackNextSaid : Prop := trackNextRow.holds Try.pinned (OpenSpec.ofChange trackNextSpec)

/-- ITS FALSE NEIGHBOUR: 'it returns false'. Refute it at one input. -/
def trackNextWrong : ChangeSpec := { name := "trackNext", fn := fun _ => fun
  | [d1, d2, d3] => { results := [.lit (.bool false)], args := [d1, d2, d3] }
  | _ => none }
def TrackNextWrongFalsely : Prop := trackNextRow.holds Try.pinned (OpenSpec.ofChange trackNextWrong)

/-- 'synodlaw9.TrackMatch': WHATEVER THE INPUT: true; the input reads as it did. -/
def trackMatchSpec : ChangeSpec := { name := "trackMatch", fn := fun _ => fun
  | [d1, d2, d3] => { results := [.lit (.bool true)], args := [d1, d2, d3] }
  | _ => none }
def trackMatchRow : OpenClaim := { program := "ytniceappkpiekaa", sum := "8d7bd61dfbf6eb06596f9cda5156eb807d7818cf7d37b2c1b9aff38e58f0b4a3", func := "synod/synodlaw9.TrackMatch", spec := "trackMatch", unfollowed := true, recurses := true, apart := false }
def TrackMatchSaid : Prop := trackMatchRow.holds Try.pinned (OpenSpec.ofChange trackMatchSpec)

/-- ITS FALSE NEIGHBOUR: 'it returns false'. Refute it at one input. -/
def trackMatchWrong : ChangeSpec := { name := "trackMatch", fn := fun _ => fun
  | [d1, d2, d3] => { results := [.lit (.bool false)], args := [d1, d2, d3] }
  | _ => none }
def TrackMatchWrongFalsely : Prop := trackMatchRow.holds Try.pinned (OpenSpec.ofChange trackMatchWrong)

/-- 'synodlaw9.TrackVotes': WHATEVER THE INPUT: true; the input reads as it did. -/
def trackVotesSpec : ChangeSpec := { name := "trackVotes", fn := fun _ => fun
  | [d1, d2] => { results := [.lit (.bool true)], args := [d1, d2] }
  | _ => none }
def trackVotesRow : OpenClaim := { program := "ytniceappkpiekaa", sum := "8d7bd61dfbf6eb06596f9cda5156eb807d7818cf7d37b2c1b9aff38e58f0b4a3", func := "synod/synodlaw9.TrackVotes", spec := "trackVotes", unfollowed := true, recurses := true, apart := false }
def TrackVotesSaid : Prop := trackVotesRow.holds Try.pinned (OpenSpec.ofChange trackVotesSpec)

/-- ITS FALSE NEIGHBOUR: 'it returns false'. Refute it at one input. -/
def trackVotesWrong : ChangeSpec := { name := "trackVotes", fn := fun _ => fun
  | [d1, d2] => { results := [.lit (.bool false)], args := [d1, d2] }
  | _ => none }
def TrackVotesWrongFalsely : Prop := trackVotesRow.holds Try.pinned (OpenSpec.ofChange trackVotesWrong)

/-- 'synodlaw9.TrackMeet': WHATEVER THE INPUT: true; the input reads as it did. -/
def trackMeetSpec : ChangeSpec := { name := "trackMeet", fn := fun _ => fun
  | [d1, d2, d3, d4] => { results := [.lit (.bool true)], args := [d1, d2, d3, d4] }
  | _ => none }
def trackMeetRow : OpenClaim := { program := "ytniceappkpiekaa", sum := "8d7bd61dfbf6eb06596f9cda5156eb807d7818cf7d37b2c1b9aff38e58f0b4a3", func := "synod/synodlaw9.TrackMeet", spec := "trackMeet", unfollowed := true, recurses := true, apart := false }
def TrackMeetSaid : Prop := trackMeetRow.holds Try.pinned (OpenSpec.ofChange trackMeetSpec)

/-- ITS FALSE NEIGHBOUR: 'it returns false'. Refute it at one input. -/
def trackMeetWrong : ChangeSpec := { name := "trackMeet", fn := fun _ => fun
  | [d1, d2, d3, d4] => { results := [.lit (.bool false)], args := [d1, d2, d3, d4] }
  | _ => none }
def TrackMeetWrongFalsely : Prop := trackMeetRow.holds Try.pinned (OpenSpec.ofChange trackMeetWrong)

/-- 'synodlaw9.TrackOnce': WHATEVER THE INPUT: true; the input reads as it did. -/
def trackOnceSpec : ChangeSpec := { name := "trackOnce", fn := fun _ => fun
  | [d1, d2] => { results := [.lit (.bool true)], args := [d1, d2] }
  | _ => none }
def trackOnceRow : OpenClaim := { program := "ytniceappkpiekaa", sum := "8d7bd61dfbf6eb06596f9cda5156eb807d7818cf7d37b2c1b9aff38e58f0b4a3", func := "synod/synodlaw9.TrackOnce", spec := "trackOnce", unfollowed := true, recurses := true, apart := false }
def TrackOnceSaid : Prop := trackOnceRow.holds Try.pinned (OpenSpec.ofChange trackOnceSpec)

/-- ITS FALSE NEIGHBOUR: 'it returns false'. Refute it at one input. -/
def trackOnceWrong : ChangeSpec := { name := "trackOnce", fn := fun _ => fun
  | [d1, d2] => { results := [.lit (.bool false)], args := [d1, d2] }
  | _ => none }
def TrackOnceWrongFalsely : Prop := trackOnceRow.holds Try.pinned (OpenSpec.ofChange trackOnceWrong)

/- THE SECOND FORM. 'bulk': how many values and letters a reading holds, each counted each time it is reached (what is shared counts as often as it is met; a slice's spare places count too). A statement '..UptoSaid' is the law's where the arguments, and the package variables that the reading takes, are together of bulk at most 1048576: NARROWER than '..Said'. Prove '..Said' where nothing that the law and all that it calls make is longer than what came in: it says more and counts as full. Else prove '..UptoSaid'. A law counts once. -/
mutual
def uptoBulk {H : Type} : DataW H → Nat
  | .lit (.string bytes) => bytes.length + 1
  | .lit _ => 1
  | .nil => 1
  | .ptr d => uptoBulk d + 1
  | .slice elems spare => uptoBulkAll elems + uptoBulkAll spare + 1
  | .agg parts => uptoBulkAll parts + 1
  | .iface _ d => uptoBulk d + 1
  | .map entries => uptoBulkEntries entries + 1
  | .held _ => 1
def uptoBulkAll {H : Type} : List (DataW H) → Nat
  | [] => 0
  | d :: r => uptoBulk d + uptoBulkAll r
def uptoBulkEntries {H : Type} : List (Lit × DataW H) → Nat
  | [] => 0
  | x :: r => uptoBulkEntry x + uptoBulkEntries r
def uptoBulkEntry {H : Type} : Lit × DataW H → Nat
  | (.string bytes, d) => bytes.length + uptoBulk d + 1
  | (_, d) => uptoBulk d + 1
 end
def uptoSmall : (H : Type) → List (DataW H) → Bool := fun _ ds => decide (uptoBulkAll ds ≤ 1048576)
def OpenSpec.upto (s : _root_.Go.ChangeSpec) : _root_.Go.OpenSpec := { _root_.Go.OpenSpec.ofChange s with cond := some uptoSmall }

/-- 'synodlaw9.TrackQuorums', WHERE WHAT IT READS IS OF BULK AT MOST 1048576: true; the input reads as it did. -/
def trackQuorumsUptoRow : OpenClaim := { program := "ytniceappkpiekaa", sum := "8d7bd61dfbf6eb06596f9cda5156eb807d7818cf7d37b2c1b9aff38e58f0b4a3", func := "synod/synodlaw9.TrackQuorums", spec := "trackQuorums", unfollowed := true, recurses := true, apart := false, narrowed := true }
def TrackQuorumsUptoSaid : Prop := trackQuorumsUptoRow.holds Try.pinned (OpenSpec.upto trackQuorumsSpec)

/-- 'synodlaw9.TrackHas', WHERE WHAT IT READS IS OF BULK AT MOST 1048576: true; the input reads as it did. -/
def trackHasUptoRow : OpenClaim := { program := "ytniceappkpiekaa", sum := "8d7bd61dfbf6eb06596f9cda5156eb807d7818cf7d37b2c1b9aff38e58f0b4a3", func := "synod/synodlaw9.TrackHas", spec := "trackHas", unfollowed := true, recurses := true, apart := false, narrowed := true }
def TrackHasUptoSaid : Prop := trackHasUptoRow.holds Try.pinned (OpenSpec.upto trackHasSpec)

/-- 'synodlaw9.TrackPlays', WHERE WHAT IT READS IS OF BULK AT MOST 1048576: true; the input reads as it did. -/
def trackPlaysUptoRow : OpenClaim := { program := "ytniceappkpiekaa", sum := "8d7bd61dfbf6eb06596f9cda5156eb807d7818cf7d37b2c1b9aff38e58f0b4a3", func := "synod/synodlaw9.TrackPlays", spec := "trackPlays", unfollowed := true, recurses := true, apart := false, narrowed := true }
def TrackPlaysUptoSaid : Prop := trackPlaysUptoRow.holds Try.pinned (OpenSpec.upto trackPlaysSpec)

/-- 'synodlaw9.TrackNext', WHERE WHAT IT READS IS OF BULK AT MOST 1048576: true; the input reads as it did. -/
def trackNextUptoRow : OpenClaim := { program := "ytniceappkpiekaa", sum := "8d7bd61dfbf6eb06596f9cda5156eb807d7818cf7d37b2c1b9aff38e58f0b4a3", func := "synod/synodlaw9.TrackNext", spec := "trackNext", unfollowed := true, recurses := true, apart := false, narrowed := true }
def TrackNextUptoSaid : Prop := trackNextUptoRow.holds Try.pinned (OpenSpec.upto trackNextSpec)

/-- 'synodlaw9.TrackMatch', WHERE WHAT IT READS IS OF BULK AT MOST 1048576: true; the input reads as it did. -/
def trackMatchUptoRow : OpenClaim := { program := "ytniceappkpiekaa", sum := "8d7bd61dfbf6eb06596f9cda5156eb807d7818cf7d37b2c1b9aff38e58f0b4a3", func := "synod/synodlaw9.TrackMatch", spec := "trackMatch", unfollowed := true, recurses := true, apart := false, narrowed := true }
def TrackMatchUptoSaid : Prop := trackMatchUptoRow.holds Try.pinned (OpenSpec.upto trackMatchSpec)

/-- 'synodlaw9.TrackVotes', WHERE WHAT IT READS IS OF BULK AT MOST 1048576: true; the input reads as it did. -/
def trackVotesUptoRow : OpenClaim := { program := "ytniceappkpiekaa", sum := "8d7bd61dfbf6eb06596f9cda5156eb807d7818cf7d37b2c1b9aff38e58f0b4a3", func := "synod/synodlaw9.TrackVotes", spec := "trackVotes", unfollowed := true, recurses := true, apart := false, narrowed := true }
def TrackVotesUptoSaid : Prop := trackVotesUptoRow.holds Try.pinned (OpenSpec.upto trackVotesSpec)

/-- 'synodlaw9.TrackMeet', WHERE WHAT IT READS IS OF BULK AT MOST 1048576: true; the input reads as it did. -/
def trackMeetUptoRow : OpenClaim := { program := "ytniceappkpiekaa", sum := "8d7bd61dfbf6eb06596f9cda5156eb807d7818cf7d37b2c1b9aff38e58f0b4a3", func := "synod/synodlaw9.TrackMeet", spec := "trackMeet", unfollowed := true, recurses := true, apart := false, narrowed := true }
def TrackMeetUptoSaid : Prop := trackMeetUptoRow.holds Try.pinned (OpenSpec.upto trackMeetSpec)

/-- 'synodlaw9.TrackOnce', WHERE WHAT IT READS IS OF BULK AT MOST 1048576: true; the input reads as it did. -/
def trackOnceUptoRow : OpenClaim := { program := "ytniceappkpiekaa", sum := "8d7bd61dfbf6eb06596f9cda5156eb807d7818cf7d37b2c1b9aff38e58f0b4a3", func := "synod/synodlaw9.TrackOnce", spec := "trackOnce", unfollowed := true, recurses := true, apart := false, narrowed := true }
def TrackOnceUptoSaid : Prop := trackOnceUptoRow.holds Try.pinned (OpenSpec.upto trackOnceSpec)

end Rows
end Go.Proofs.Ytniceappkpiekaa
