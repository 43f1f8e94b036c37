/-
  No cell of these rows narrows 'for every input' (looked for: loops, veiled, ifaces, maps, wideKeys, modest, calm, conditions, laid).
  DERIVED. THE GIVEN ROWS OF THIS SEAT. 10 by the template 'for every input the law returns true; each argument reads behind the call as it read before'; 0 by the template 'total and deterministic' (their statements: YtpbomaelkpjbbaaTotals.lean).
  GIVEN WITH THE SEED: the statements are not yours to turn. If you find one false, say at which input.
  Laid BY PROGRAM, IN A SANDBOX (cutbox-rows.mjs): the forced cells as the released guide's own fill.sh prints them over the translation f38856c1d5f85288… (all of the seat's roots in one cut). By AI agents, Wed Nov 11 2026. No macro, syntax, notation, axiom, sorry.
-/
import Derived.Test.YtpbomaelkpjbbaaChecked
import GoSem.Claim
import GoSem.ClaimJoined
import GoSem.ClaimMapViews
import Derived.JoinedTies
import Derived.KernelRfl
namespace Go.Proofs.Ytpbomaelkpjbbaa
/- THE CELL 'sum', in the pinned program and in every row, IS THE sha256 OF THE DUMP (.gsa) THAT YtpbomaelkpjbbaaProg.lean LOADS. Nothing in Lean hashes anything: it is a label: what it is worth is what the hold of that sum in a sandbox is worth. -/
noncomputable def Try.pinned : Pinned := { name := "ytpbomaelkpjbbaa", sum := "f38856c1d5f85288963a5df862175315f9bafdc535e5c5c05bae07960fcbee0e", checked := Try.checked }
namespace Rows
def none {H : Type} : Left H := { results := [], args := [] }

/-- 'frankpledgelaw21.CacheNumbers': WHATEVER THE INPUT: true; the input reads as it did. -/
def cacheNumbersSpec : ChangeSpec := { name := "cacheNumbers", fn := fun _ => fun
  | [] => { results := [.lit (.bool true)], args := [] }
  | _ => none }
def cacheNumbersRow : OpenClaim := { program := "ytpbomaelkpjbbaa", sum := "f38856c1d5f85288963a5df862175315f9bafdc535e5c5c05bae07960fcbee0e", func := "frankpledge/frankpledgelaw21.CacheNumbers", spec := "cacheNumbers", unfollowed := true, recurses := true, plainKeys := false, apart := false }
def CacheNumbersSaid : Prop := cacheNumbersRow.holds Try.pinned (OpenSpec.ofChange cacheNumbersSpec)

/-- ITS FALSE NEIGHBOUR: 'it returns false'. Refute it at one input. -/
def cacheNumbersWrong : ChangeSpec := { name := "cacheNumbers", fn := fun _ => fun
  | [] => { results := [.lit (.bool false)], args := [] }
  | _ => none }
def CacheNumbersWrongFalsely : Prop := cacheNumbersRow.holds Try.pinned (OpenSpec.ofChange cacheNumbersWrong)

/-- 'frankpledgelaw21.CacheFulls': WHATEVER THE INPUT: true; the input reads as it did. -/
def cacheFullsSpec : ChangeSpec := { name := "cacheFulls", fn := fun _ => fun
  | [d1, d2] => { results := [.lit (.bool true)], args := [d1, d2] }
  | _ => none }
def cacheFullsRow : OpenClaim := { program := "ytpbomaelkpjbbaa", sum := "f38856c1d5f85288963a5df862175315f9bafdc535e5c5c05bae07960fcbee0e", func := "frankpledge/frankpledgelaw21.CacheFulls", spec := "cacheFulls", unfollowed := true, recurses := true, plainKeys := false, apart := false }
def CacheFullsSaid : Prop := cacheFullsRow.holds Try.pinned (OpenSpec.ofChange cacheFullsSpec)

/-- ITS FALSE NEIGHBOUR: 'it returns false'. Refute it at one input. -/
def cacheFullsWrong : ChangeSpec := { name := "cacheFulls", fn := fun _ => fun
  | [d1, d2] => { results := [.lit (.bool false)], args := [d1, d2] }
  | _ => none }
def CacheFullsWrongFalsely : Prop := cacheFullsRow.holds Try.pinned (OpenSpec.ofChange cacheFullsWrong)

/-- 'frankpledgelaw19.MergeNumbers': WHATEVER THE INPUT: true; the input reads as it did. -/
def mergeNumbersSpec : ChangeSpec := { name := "mergeNumbers", fn := fun _ => fun
  | [] => { results := [.lit (.bool true)], args := [] }
  | _ => none }
def mergeNumbersRow : OpenClaim := { program := "ytpbomaelkpjbbaa", sum := "f38856c1d5f85288963a5df862175315f9bafdc535e5c5c05bae07960fcbee0e", func := "frankpledge/frankpledgelaw19.MergeNumbers", spec := "mergeNumbers", inPlace := ["slices.overlaps[frankpledge/lease.Entry]"], unfollowed := true, recurses := true, plainKeys := false, apart := false }
def MergeNumbersSaid : Prop := mergeNumbersRow.holds Try.pinned (OpenSpec.ofChange mergeNumbersSpec)

/-- ITS FALSE NEIGHBOUR: 'it returns false'. Refute it at one input. -/
def mergeNumbersWrong : ChangeSpec := { name := "mergeNumbers", fn := fun _ => fun
  | [] => { results := [.lit (.bool false)], args := [] }
  | _ => none }
def MergeNumbersWrongFalsely : Prop := mergeNumbersRow.holds Try.pinned (OpenSpec.ofChange mergeNumbersWrong)

/-- 'frankpledgelaw19.MergeOrder': WHATEVER THE INPUT: true; the input reads as it did. -/
def mergeOrderSpec : ChangeSpec := { name := "mergeOrder", fn := fun _ => fun
  | [d] => { results := [.lit (.bool true)], args := [d] }
  | _ => none }
def mergeOrderRow : OpenClaim := { program := "ytpbomaelkpjbbaa", sum := "f38856c1d5f85288963a5df862175315f9bafdc535e5c5c05bae07960fcbee0e", func := "frankpledge/frankpledgelaw19.MergeOrder", spec := "mergeOrder", inPlace := ["slices.overlaps[frankpledge/lease.Entry]"], unfollowed := true, recurses := true, plainKeys := false, apart := false }
def MergeOrderSaid : Prop := mergeOrderRow.holds Try.pinned (OpenSpec.ofChange mergeOrderSpec)

/-- ITS FALSE NEIGHBOUR: 'it returns false'. Refute it at one input. -/
def mergeOrderWrong : ChangeSpec := { name := "mergeOrder", fn := fun _ => fun
  | [d] => { results := [.lit (.bool false)], args := [d] }
  | _ => none }
def MergeOrderWrongFalsely : Prop := mergeOrderRow.holds Try.pinned (OpenSpec.ofChange mergeOrderWrong)

/-- 'frankpledgelaw19.MergeTwice': WHATEVER THE INPUT: true; the input reads as it did. -/
def mergeTwiceSpec : ChangeSpec := { name := "mergeTwice", fn := fun _ => fun
  | [d] => { results := [.lit (.bool true)], args := [d] }
  | _ => none }
def mergeTwiceRow : OpenClaim := { program := "ytpbomaelkpjbbaa", sum := "f38856c1d5f85288963a5df862175315f9bafdc535e5c5c05bae07960fcbee0e", func := "frankpledge/frankpledgelaw19.MergeTwice", spec := "mergeTwice", inPlace := ["slices.overlaps[frankpledge/lease.Entry]"], unfollowed := true, recurses := true, plainKeys := false, apart := false }
def MergeTwiceSaid : Prop := mergeTwiceRow.holds Try.pinned (OpenSpec.ofChange mergeTwiceSpec)

/-- ITS FALSE NEIGHBOUR: 'it returns false'. Refute it at one input. -/
def mergeTwiceWrong : ChangeSpec := { name := "mergeTwice", fn := fun _ => fun
  | [d] => { results := [.lit (.bool false)], args := [d] }
  | _ => none }
def MergeTwiceWrongFalsely : Prop := mergeTwiceRow.holds Try.pinned (OpenSpec.ofChange mergeTwiceWrong)

/-- 'frankpledgelaw15.FeedJoins': WHATEVER THE INPUT: true; the input reads as it did. -/
def feedJoinsSpec : ChangeSpec := { name := "feedJoins", fn := fun _ => fun
  | [d1, d2] => { results := [.lit (.bool true)], args := [d1, d2] }
  | _ => none }
def feedJoinsRow : OpenClaim := { program := "ytpbomaelkpjbbaa", sum := "f38856c1d5f85288963a5df862175315f9bafdc535e5c5c05bae07960fcbee0e", func := "frankpledge/frankpledgelaw15.FeedJoins", spec := "feedJoins", inPlace := ["slices.overlaps[frankpledge/lease.Entry]"], unfollowed := true, recurses := true, plainKeys := false, apart := false }
def FeedJoinsSaid : Prop := feedJoinsRow.holds Try.pinned (OpenSpec.ofChange feedJoinsSpec)

/-- ITS FALSE NEIGHBOUR: 'it returns false'. Refute it at one input. -/
def feedJoinsWrong : ChangeSpec := { name := "feedJoins", fn := fun _ => fun
  | [d1, d2] => { results := [.lit (.bool false)], args := [d1, d2] }
  | _ => none }
def FeedJoinsWrongFalsely : Prop := feedJoinsRow.holds Try.pinned (OpenSpec.ofChange feedJoinsWrong)

/-- 'frankpledgelaw22.AgentOne': WHATEVER THE INPUT: true; the input reads as it did. -/
def agentOneSpec : ChangeSpec := { name := "agentOne", fn := fun _ => fun
  | [d] => { results := [.lit (.bool true)], args := [d] }
  | _ => none }
def agentOneRow : OpenClaim := { program := "ytpbomaelkpjbbaa", sum := "f38856c1d5f85288963a5df862175315f9bafdc535e5c5c05bae07960fcbee0e", func := "frankpledge/frankpledgelaw22.AgentOne", spec := "agentOne", unfollowed := true, recurses := true, plainKeys := false, apart := false }
def AgentOneSaid : Prop := agentOneRow.holds Try.pinned (OpenSpec.ofChange agentOneSpec)

/-- ITS FALSE NEIGHBOUR: 'it returns false'. Refute it at one input. -/
def agentOneWrong : ChangeSpec := { name := "agentOne", fn := fun _ => fun
  | [d] => { results := [.lit (.bool false)], args := [d] }
  | _ => none }
def AgentOneWrongFalsely : Prop := agentOneRow.holds Try.pinned (OpenSpec.ofChange agentOneWrong)

/-- 'frankpledgelaw22.AgentWants': WHATEVER THE INPUT: true; the input reads as it did. -/
def agentWantsSpec : ChangeSpec := { name := "agentWants", fn := fun _ => fun
  | [d] => { results := [.lit (.bool true)], args := [d] }
  | _ => none }
def agentWantsRow : OpenClaim := { program := "ytpbomaelkpjbbaa", sum := "f38856c1d5f85288963a5df862175315f9bafdc535e5c5c05bae07960fcbee0e", func := "frankpledge/frankpledgelaw22.AgentWants", spec := "agentWants", unfollowed := true, recurses := true, plainKeys := false, apart := false }
def AgentWantsSaid : Prop := agentWantsRow.holds Try.pinned (OpenSpec.ofChange agentWantsSpec)

/-- ITS FALSE NEIGHBOUR: 'it returns false'. Refute it at one input. -/
def agentWantsWrong : ChangeSpec := { name := "agentWants", fn := fun _ => fun
  | [d] => { results := [.lit (.bool false)], args := [d] }
  | _ => none }
def AgentWantsWrongFalsely : Prop := agentWantsRow.holds Try.pinned (OpenSpec.ofChange agentWantsWrong)

/-- 'frankpledgelaw22.AgentBeats': WHATEVER THE INPUT: true; the input reads as it did. -/
def agentBeatsSpec : ChangeSpec := { name := "agentBeats", fn := fun _ => fun
  | [d1, d2] => { results := [.lit (.bool true)], args := [d1, d2] }
  | _ => none }
def agentBeatsRow : OpenClaim := { program := "ytpbomaelkpjbbaa", sum := "f38856c1d5f85288963a5df862175315f9bafdc535e5c5c05bae07960fcbee0e", func := "frankpledge/frankpledgelaw22.AgentBeats", spec := "agentBeats", unfollowed := true, recurses := true, plainKeys := false, apart := false }
def AgentBeatsSaid : Prop := agentBeatsRow.holds Try.pinned (OpenSpec.ofChange agentBeatsSpec)

/-- ITS FALSE NEIGHBOUR: 'it returns false'. Refute it at one input. -/
def agentBeatsWrong : ChangeSpec := { name := "agentBeats", fn := fun _ => fun
  | [d1, d2] => { results := [.lit (.bool false)], args := [d1, d2] }
  | _ => none }
def AgentBeatsWrongFalsely : Prop := agentBeatsRow.holds Try.pinned (OpenSpec.ofChange agentBeatsWrong)

/-- 'frankpledgelaw21.CacheHolds': WHATEVER THE INPUT: true; the input reads as it did. -/
def cacheHoldsSpec : ChangeSpec := { name := "cacheHolds", fn := fun _ => fun
  | [d1, d2] => { results := [.lit (.bool true)], args := [d1, d2] }
  | _ => none }
def cacheHoldsRow : OpenClaim := { program := "ytpbomaelkpjbbaa", sum := "f38856c1d5f85288963a5df862175315f9bafdc535e5c5c05bae07960fcbee0e", func := "frankpledge/frankpledgelaw21.CacheHolds", spec := "cacheHolds", inPlace := ["slices.overlaps[frankpledge/lease.Entry]"], unfollowed := true, recurses := true, plainKeys := false, apart := false }
def CacheHoldsSaid : Prop := cacheHoldsRow.holds Try.pinned (OpenSpec.ofChange cacheHoldsSpec)

/-- ITS FALSE NEIGHBOUR: 'it returns false'. Refute it at one input. -/
def cacheHoldsWrong : ChangeSpec := { name := "cacheHolds", fn := fun _ => fun
  | [d1, d2] => { results := [.lit (.bool false)], args := [d1, d2] }
  | _ => none }
def CacheHoldsWrongFalsely : Prop := cacheHoldsRow.holds Try.pinned (OpenSpec.ofChange cacheHoldsWrong)

/- THE SECOND FORM. 'bulk': how many values and letters a reading holds, each counted each time it is reached (what is shared counts as often as it is met; a slice's spare places count too). A statement '..UptoSaid' is the law's where the arguments, and the package variables that the reading takes, are together of bulk at most 1048576: NARROWER than '..Said'. Prove '..Said' where nothing that the law and all that it calls make is longer than what came in: it says more and counts as full. Else prove '..UptoSaid'. A law counts once. -/
mutual
def uptoBulk {H : Type} : DataW H → Nat
  | .lit (.string bytes) => bytes.length + 1
  | .lit _ => 1
  | .nil => 1
  | .ptr d => uptoBulk d + 1
  | .slice elems spare => uptoBulkAll elems + uptoBulkAll spare + 1
  | .agg parts => uptoBulkAll parts + 1
  | .iface _ d => uptoBulk d + 1
  | .map entries => uptoBulkEntries entries + 1
  | .held _ => 1
def uptoBulkAll {H : Type} : List (DataW H) → Nat
  | [] => 0
  | d :: r => uptoBulk d + uptoBulkAll r
def uptoBulkEntries {H : Type} : List (Lit × DataW H) → Nat
  | [] => 0
  | x :: r => uptoBulkEntry x + uptoBulkEntries r
def uptoBulkEntry {H : Type} : Lit × DataW H → Nat
  | (.string bytes, d) => bytes.length + uptoBulk d + 1
  | (_, d) => uptoBulk d + 1
 end
def uptoSmall : (H : Type) → List (DataW H) → Bool := fun _ ds => decide (uptoBulkAll ds ≤ 1048576)
def OpenSpec.upto (s : _root_.Go.ChangeSpec) : _root_.Go.OpenSpec := { _root_.Go.OpenSpec.ofChange s with cond := some uptoSmall }

/-- 'frankpledgelaw21.CacheNumbers', WHERE WHAT IT READS IS OF BULK AT MOST 1048576: true; the input reads as it did. -/
def cacheNumbersUptoRow : OpenClaim := { program := "ytpbomaelkpjbbaa", sum := "f38856c1d5f85288963a5df862175315f9bafdc535e5c5c05bae07960fcbee0e", func := "frankpledge/frankpledgelaw21.CacheNumbers", spec := "cacheNumbers", unfollowed := true, recurses := true, plainKeys := false, apart := false, narrowed := true }
def CacheNumbersUptoSaid : Prop := cacheNumbersUptoRow.holds Try.pinned (OpenSpec.upto cacheNumbersSpec)

/-- 'frankpledgelaw21.CacheFulls', WHERE WHAT IT READS IS OF BULK AT MOST 1048576: true; the input reads as it did. -/
def cacheFullsUptoRow : OpenClaim := { program := "ytpbomaelkpjbbaa", sum := "f38856c1d5f85288963a5df862175315f9bafdc535e5c5c05bae07960fcbee0e", func := "frankpledge/frankpledgelaw21.CacheFulls", spec := "cacheFulls", unfollowed := true, recurses := true, plainKeys := false, apart := false, narrowed := true }
def CacheFullsUptoSaid : Prop := cacheFullsUptoRow.holds Try.pinned (OpenSpec.upto cacheFullsSpec)

/-- 'frankpledgelaw19.MergeNumbers', WHERE WHAT IT READS IS OF BULK AT MOST 1048576: true; the input reads as it did. -/
def mergeNumbersUptoRow : OpenClaim := { program := "ytpbomaelkpjbbaa", sum := "f38856c1d5f85288963a5df862175315f9bafdc535e5c5c05bae07960fcbee0e", func := "frankpledge/frankpledgelaw19.MergeNumbers", spec := "mergeNumbers", inPlace := ["slices.overlaps[frankpledge/lease.Entry]"], unfollowed := true, recurses := true, plainKeys := false, apart := false, narrowed := true }
def MergeNumbersUptoSaid : Prop := mergeNumbersUptoRow.holds Try.pinned (OpenSpec.upto mergeNumbersSpec)

/-- 'frankpledgelaw19.MergeOrder', WHERE WHAT IT READS IS OF BULK AT MOST 1048576: true; the input reads as it did. -/
def mergeOrderUptoRow : OpenClaim := { program := "ytpbomaelkpjbbaa", sum := "f38856c1d5f85288963a5df862175315f9bafdc535e5c5c05bae07960fcbee0e", func := "frankpledge/frankpledgelaw19.MergeOrder", spec := "mergeOrder", inPlace := ["slices.overlaps[frankpledge/lease.Entry]"], unfollowed := true, recurses := true, plainKeys := false, apart := false, narrowed := true }
def MergeOrderUptoSaid : Prop := mergeOrderUptoRow.holds Try.pinned (OpenSpec.upto mergeOrderSpec)

/-- 'frankpledgelaw19.MergeTwice', WHERE WHAT IT READS IS OF BULK AT MOST 1048576: true; the input reads as it did. -/
def mergeTwiceUptoRow : OpenClaim := { program := "ytpbomaelkpjbbaa", sum := "f38856c1d5f85288963a5df862175315f9bafdc535e5c5c05bae07960fcbee0e", func := "frankpledge/frankpledgelaw19.MergeTwice", spec := "mergeTwice", inPlace := ["slices.overlaps[frankpledge/lease.Entry]"], unfollowed := true, recurses := true, plainKeys := false, apart := false, narrowed := true }
def MergeTwiceUptoSaid : Prop := mergeTwiceUptoRow.holds Try.pinned (OpenSpec.upto mergeTwiceSpec)

/-- 'frankpledgelaw15.FeedJoins', WHERE WHAT IT READS IS OF BULK AT MOST 1048576: true; the input reads as it did. -/
def feedJoinsUptoRow : OpenClaim := { program := "ytpbomaelkpjbbaa", sum := "f38856c1d5f85288963a5df862175315f9bafdc535e5c5c05bae07960fcbee0e", func := "frankpledge/frankpledgelaw15.FeedJoins", spec := "feedJoins", inPlace := ["slices.overlaps[frankpledge/lease.Entry]"], unfollowed := true, recurses := true, plainKeys := false, apart := false, narrowed := true }
def FeedJoinsUptoSaid : Prop := feedJoinsUptoRow.holds Try.pinned (OpenSpec.upto feedJoinsSpec)

/-- 'frankpledgelaw22.AgentOne', WHERE WHAT IT READS IS OF BULK AT MOST 1048576: true; the input reads as it did. -/
def agentOneUptoRow : OpenClaim := { program := "ytpbomaelkpjbbaa", sum := "f38856c1d5f85288963a5df862175315f9bafdc535e5c5c05bae07960fcbee0e", func := "frankpledge/frankpledgelaw22.AgentOne", spec := "agentOne", unfollowed := true, recurses := true, plainKeys := false, apart := false, narrowed := true }
def AgentOneUptoSaid : Prop := agentOneUptoRow.holds Try.pinned (OpenSpec.upto agentOneSpec)

/-- 'frankpledgelaw22.AgentWants', WHERE WHAT IT READS IS OF BULK AT MOST 1048576: true; the input reads as it did. -/
def agentWantsUptoRow : OpenClaim := { program := "ytpbomaelkpjbbaa", sum := "f38856c1d5f85288963a5df862175315f9bafdc535e5c5c05bae07960fcbee0e", func := "frankpledge/frankpledgelaw22.AgentWants", spec := "agentWants", unfollowed := true, recurses := true, plainKeys := false, apart := false, narrowed := true }
def AgentWantsUptoSaid : Prop := agentWantsUptoRow.holds Try.pinned (OpenSpec.upto agentWantsSpec)

/-- 'frankpledgelaw22.AgentBeats', WHERE WHAT IT READS IS OF BULK AT MOST 1048576: true; the input reads as it did. -/
def agentBeatsUptoRow : OpenClaim := { program := "ytpbomaelkpjbbaa", sum := "f38856c1d5f85288963a5df862175315f9bafdc535e5c5c05bae07960fcbee0e", func := "frankpledge/frankpledgelaw22.AgentBeats", spec := "agentBeats", unfollowed := true, recurses := true, plainKeys := false, apart := false, narrowed := true }
def AgentBeatsUptoSaid : Prop := agentBeatsUptoRow.holds Try.pinned (OpenSpec.upto agentBeatsSpec)

/-- 'frankpledgelaw21.CacheHolds', WHERE WHAT IT READS IS OF BULK AT MOST 1048576: true; the input reads as it did. -/
def cacheHoldsUptoRow : OpenClaim := { program := "ytpbomaelkpjbbaa", sum := "f38856c1d5f85288963a5df862175315f9bafdc535e5c5c05bae07960fcbee0e", func := "frankpledge/frankpledgelaw21.CacheHolds", spec := "cacheHolds", inPlace := ["slices.overlaps[frankpledge/lease.Entry]"], unfollowed := true, recurses := true, plainKeys := false, apart := false, narrowed := true }
def CacheHoldsUptoSaid : Prop := cacheHoldsUptoRow.holds Try.pinned (OpenSpec.upto cacheHoldsSpec)

end Rows
end Go.Proofs.Ytpbomaelkpjbbaa
