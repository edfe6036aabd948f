/-
  NARROWER THAN 'FOR EVERY INPUT', by the rows' own cells (each row's printed sentence says how): OnetimeSteps: laid · OnetimeKeys: laid · OnetimeHolds: laid · OnetimeReaches: laid · OnetimeUnlike: laid · OnetimeGives: laid · OnetimeAhead: laid · QuorumRights: laid · QuorumTells: laid · QuorumFew: laid · QuorumMore: laid · QuorumDoes: laid · QuorumHonest: laid · QuorumMeets: laid.
  DERIVED. THE GIVEN ROWS OF THIS SEAT. 14 by the template 'for every input the law returns true; each argument reads behind the call as it read before'; 0 by the template 'total and deterministic' (their statements: YtpodfmnnabepaaaDoorTotals.lean).
  GIVEN WITH THE SEED: the statements are not yours to turn. If you find one false, say at which input.
  Laid BY PROGRAM, IN A SANDBOX (cutbox-rows.mjs): the forced cells as the released guide's own fill.sh prints them over the translation 4e431bdedd4eb287… (all of the seat's roots in one cut). By AI agents, Wed Nov 11 2026. No macro, syntax, notation, axiom, sorry.
-/
import Derived.Test.YtpodfmnnabepaaaDoorChecked
import GoSem.Claim
import GoSem.ClaimJoined
import GoSem.ClaimMapViews
import Derived.JoinedTies
import Derived.KernelRfl
namespace Go.Proofs.YtpodfmnnabepaaaDoor
/- THE CELL 'sum', in the pinned program and in every row, IS THE sha256 OF THE DUMP (.gsa) THAT YtpodfmnnabepaaaDoorProg.lean LOADS. Nothing in Lean hashes anything: it is a label: what it is worth is what the hold of that sum in a sandbox is worth. -/
noncomputable def Tryd.pinned : Pinned := { name := "ytpodfmnnabepaaadoor", sum := "4e431bdedd4eb2874138fc4b91c1ae54cf54091f69e0d0fd09237dd4b0f3ffa7", checked := Tryd.checked }
namespace Rows
def none {H : Type} : Left H := { results := [], args := [] }

/- WHAT THE LISTED PACKAGE-LEVEL VARIABLES READ AS WHEN THE CALL BEGINS. Each datum BY PROGRAM (the guide's laid-datum.mjs) off the statement by which the dump's own 'gosem.cut.vars' lays the variable. In a bare row this is a premise. The card (YtpodfmnnabepaaaDoorCards.lean) ties it to the program's text. -/
def laid_seedcorn_digest_turns {H : Type} : DataW H := .agg [.lit (.int .i64 7), .lit (.int .i64 9), .lit (.int .i64 13), .lit (.int .i64 18)]

/-- 'seedcornlaw05.OnetimeSteps': WHATEVER THE INPUT: true; the input reads as it did. -/
def onetimeStepsSpec : ChangeSpec := { name := "onetimeSteps", fn := fun _ => fun
  | [d] => { results := [.lit (.bool true)], args := [d] }
  | _ => none }
def onetimeStepsRow : OpenClaim := { program := "ytpodfmnnabepaaadoor", sum := "4e431bdedd4eb2874138fc4b91c1ae54cf54091f69e0d0fd09237dd4b0f3ffa7", func := "seedcorn/seedcornlaw05.OnetimeSteps", spec := "onetimeSteps", unfollowed := true, recurses := true, named := ["seedcorn/digest.turns"], apart := false, laid := [("seedcorn/digest.turns", laid_seedcorn_digest_turns)] }
def OnetimeStepsSaid : Prop := onetimeStepsRow.holds Tryd.pinned (OpenSpec.ofChange onetimeStepsSpec)

/-- ITS FALSE NEIGHBOUR: 'it returns false'. Refute it at one input. -/
def onetimeStepsWrong : ChangeSpec := { name := "onetimeSteps", fn := fun _ => fun
  | [d] => { results := [.lit (.bool false)], args := [d] }
  | _ => none }
def OnetimeStepsWrongFalsely : Prop := onetimeStepsRow.holds Tryd.pinned (OpenSpec.ofChange onetimeStepsWrong)

/-- 'seedcornlaw05.OnetimeKeys': WHATEVER THE INPUT: true; the input reads as it did. -/
def onetimeKeysSpec : ChangeSpec := { name := "onetimeKeys", fn := fun _ => fun
  | [d1, d2] => { results := [.lit (.bool true)], args := [d1, d2] }
  | _ => none }
def onetimeKeysRow : OpenClaim := { program := "ytpodfmnnabepaaadoor", sum := "4e431bdedd4eb2874138fc4b91c1ae54cf54091f69e0d0fd09237dd4b0f3ffa7", func := "seedcorn/seedcornlaw05.OnetimeKeys", spec := "onetimeKeys", unfollowed := true, recurses := true, named := ["seedcorn/digest.turns"], apart := false, laid := [("seedcorn/digest.turns", laid_seedcorn_digest_turns)] }
def OnetimeKeysSaid : Prop := onetimeKeysRow.holds Tryd.pinned (OpenSpec.ofChange onetimeKeysSpec)

/-- ITS FALSE NEIGHBOUR: 'it returns false'. Refute it at one input. -/
def onetimeKeysWrong : ChangeSpec := { name := "onetimeKeys", fn := fun _ => fun
  | [d1, d2] => { results := [.lit (.bool false)], args := [d1, d2] }
  | _ => none }
def OnetimeKeysWrongFalsely : Prop := onetimeKeysRow.holds Tryd.pinned (OpenSpec.ofChange onetimeKeysWrong)

/-- 'seedcornlaw05.OnetimeHolds': WHATEVER THE INPUT: true; the input reads as it did. -/
def onetimeHoldsSpec : ChangeSpec := { name := "onetimeHolds", fn := fun _ => fun
  | [d1, d2] => { results := [.lit (.bool true)], args := [d1, d2] }
  | _ => none }
def onetimeHoldsRow : OpenClaim := { program := "ytpodfmnnabepaaadoor", sum := "4e431bdedd4eb2874138fc4b91c1ae54cf54091f69e0d0fd09237dd4b0f3ffa7", func := "seedcorn/seedcornlaw05.OnetimeHolds", spec := "onetimeHolds", unfollowed := true, recurses := true, named := ["seedcorn/digest.turns"], apart := false, laid := [("seedcorn/digest.turns", laid_seedcorn_digest_turns)] }
def OnetimeHoldsSaid : Prop := onetimeHoldsRow.holds Tryd.pinned (OpenSpec.ofChange onetimeHoldsSpec)

/-- ITS FALSE NEIGHBOUR: 'it returns false'. Refute it at one input. -/
def onetimeHoldsWrong : ChangeSpec := { name := "onetimeHolds", fn := fun _ => fun
  | [d1, d2] => { results := [.lit (.bool false)], args := [d1, d2] }
  | _ => none }
def OnetimeHoldsWrongFalsely : Prop := onetimeHoldsRow.holds Tryd.pinned (OpenSpec.ofChange onetimeHoldsWrong)

/-- 'seedcornlaw05.OnetimeReaches': WHATEVER THE INPUT: true; the input reads as it did. -/
def onetimeReachesSpec : ChangeSpec := { name := "onetimeReaches", fn := fun _ => fun
  | [d1, d2, d3] => { results := [.lit (.bool true)], args := [d1, d2, d3] }
  | _ => none }
def onetimeReachesRow : OpenClaim := { program := "ytpodfmnnabepaaadoor", sum := "4e431bdedd4eb2874138fc4b91c1ae54cf54091f69e0d0fd09237dd4b0f3ffa7", func := "seedcorn/seedcornlaw05.OnetimeReaches", spec := "onetimeReaches", unfollowed := true, recurses := true, named := ["seedcorn/digest.turns"], apart := false, laid := [("seedcorn/digest.turns", laid_seedcorn_digest_turns)] }
def OnetimeReachesSaid : Prop := onetimeReachesRow.holds Tryd.pinned (OpenSpec.ofChange onetimeReachesSpec)

/-- ITS FALSE NEIGHBOUR: 'it returns false'. Refute it at one input. -/
def onetimeReachesWrong : ChangeSpec := { name := "onetimeReaches", fn := fun _ => fun
  | [d1, d2, d3] => { results := [.lit (.bool false)], args := [d1, d2, d3] }
  | _ => none }
def OnetimeReachesWrongFalsely : Prop := onetimeReachesRow.holds Tryd.pinned (OpenSpec.ofChange onetimeReachesWrong)

/-- 'seedcornlaw05.OnetimeUnlike': WHATEVER THE INPUT: true; the input reads as it did. -/
def onetimeUnlikeSpec : ChangeSpec := { name := "onetimeUnlike", fn := fun _ => fun
  | [d1, d2] => { results := [.lit (.bool true)], args := [d1, d2] }
  | _ => none }
def onetimeUnlikeRow : OpenClaim := { program := "ytpodfmnnabepaaadoor", sum := "4e431bdedd4eb2874138fc4b91c1ae54cf54091f69e0d0fd09237dd4b0f3ffa7", func := "seedcorn/seedcornlaw05.OnetimeUnlike", spec := "onetimeUnlike", unfollowed := true, recurses := true, named := ["seedcorn/digest.turns"], apart := false, laid := [("seedcorn/digest.turns", laid_seedcorn_digest_turns)] }
def OnetimeUnlikeSaid : Prop := onetimeUnlikeRow.holds Tryd.pinned (OpenSpec.ofChange onetimeUnlikeSpec)

/-- ITS FALSE NEIGHBOUR: 'it returns false'. Refute it at one input. -/
def onetimeUnlikeWrong : ChangeSpec := { name := "onetimeUnlike", fn := fun _ => fun
  | [d1, d2] => { results := [.lit (.bool false)], args := [d1, d2] }
  | _ => none }
def OnetimeUnlikeWrongFalsely : Prop := onetimeUnlikeRow.holds Tryd.pinned (OpenSpec.ofChange onetimeUnlikeWrong)

/-- 'seedcornlaw05.OnetimeGives': WHATEVER THE INPUT: true; the input reads as it did. -/
def onetimeGivesSpec : ChangeSpec := { name := "onetimeGives", fn := fun _ => fun
  | [d1, d2, d3] => { results := [.lit (.bool true)], args := [d1, d2, d3] }
  | _ => none }
def onetimeGivesRow : OpenClaim := { program := "ytpodfmnnabepaaadoor", sum := "4e431bdedd4eb2874138fc4b91c1ae54cf54091f69e0d0fd09237dd4b0f3ffa7", func := "seedcorn/seedcornlaw05.OnetimeGives", spec := "onetimeGives", unfollowed := true, recurses := true, named := ["seedcorn/digest.turns"], apart := false, laid := [("seedcorn/digest.turns", laid_seedcorn_digest_turns)] }
def OnetimeGivesSaid : Prop := onetimeGivesRow.holds Tryd.pinned (OpenSpec.ofChange onetimeGivesSpec)

/-- ITS FALSE NEIGHBOUR: 'it returns false'. Refute it at one input. -/
def onetimeGivesWrong : ChangeSpec := { name := "onetimeGives", fn := fun _ => fun
  | [d1, d2, d3] => { results := [.lit (.bool false)], args := [d1, d2, d3] }
  | _ => none }
def OnetimeGivesWrongFalsely : Prop := onetimeGivesRow.holds Tryd.pinned (OpenSpec.ofChange onetimeGivesWrong)

/-- 'seedcornlaw05.OnetimeAhead': WHATEVER THE INPUT: true; the input reads as it did. -/
def onetimeAheadSpec : ChangeSpec := { name := "onetimeAhead", fn := fun _ => fun
  | [d] => { results := [.lit (.bool true)], args := [d] }
  | _ => none }
def onetimeAheadRow : OpenClaim := { program := "ytpodfmnnabepaaadoor", sum := "4e431bdedd4eb2874138fc4b91c1ae54cf54091f69e0d0fd09237dd4b0f3ffa7", func := "seedcorn/seedcornlaw05.OnetimeAhead", spec := "onetimeAhead", unfollowed := true, recurses := true, named := ["seedcorn/digest.turns"], apart := false, laid := [("seedcorn/digest.turns", laid_seedcorn_digest_turns)] }
def OnetimeAheadSaid : Prop := onetimeAheadRow.holds Tryd.pinned (OpenSpec.ofChange onetimeAheadSpec)

/-- ITS FALSE NEIGHBOUR: 'it returns false'. Refute it at one input. -/
def onetimeAheadWrong : ChangeSpec := { name := "onetimeAhead", fn := fun _ => fun
  | [d] => { results := [.lit (.bool false)], args := [d] }
  | _ => none }
def OnetimeAheadWrongFalsely : Prop := onetimeAheadRow.holds Tryd.pinned (OpenSpec.ofChange onetimeAheadWrong)

/-- 'seedcornlaw45.QuorumRights': WHATEVER THE INPUT: true; the input reads as it did. -/
def quorumRightsSpec : ChangeSpec := { name := "quorumRights", fn := fun _ => fun
  | [d] => { results := [.lit (.bool true)], args := [d] }
  | _ => none }
def quorumRightsRow : OpenClaim := { program := "ytpodfmnnabepaaadoor", sum := "4e431bdedd4eb2874138fc4b91c1ae54cf54091f69e0d0fd09237dd4b0f3ffa7", func := "seedcorn/seedcornlaw45.QuorumRights", spec := "quorumRights", unfollowed := true, recurses := true, named := ["seedcorn/digest.turns"], apart := false, laid := [("seedcorn/digest.turns", laid_seedcorn_digest_turns)] }
def QuorumRightsSaid : Prop := quorumRightsRow.holds Tryd.pinned (OpenSpec.ofChange quorumRightsSpec)

/-- ITS FALSE NEIGHBOUR: 'it returns false'. Refute it at one input. -/
def quorumRightsWrong : ChangeSpec := { name := "quorumRights", fn := fun _ => fun
  | [d] => { results := [.lit (.bool false)], args := [d] }
  | _ => none }
def QuorumRightsWrongFalsely : Prop := quorumRightsRow.holds Tryd.pinned (OpenSpec.ofChange quorumRightsWrong)

/-- 'seedcornlaw45.QuorumTells': WHATEVER THE INPUT: true; the input reads as it did. -/
def quorumTellsSpec : ChangeSpec := { name := "quorumTells", fn := fun _ => fun
  | [d] => { results := [.lit (.bool true)], args := [d] }
  | _ => none }
def quorumTellsRow : OpenClaim := { program := "ytpodfmnnabepaaadoor", sum := "4e431bdedd4eb2874138fc4b91c1ae54cf54091f69e0d0fd09237dd4b0f3ffa7", func := "seedcorn/seedcornlaw45.QuorumTells", spec := "quorumTells", unfollowed := true, recurses := true, named := ["seedcorn/digest.turns"], apart := false, laid := [("seedcorn/digest.turns", laid_seedcorn_digest_turns)] }
def QuorumTellsSaid : Prop := quorumTellsRow.holds Tryd.pinned (OpenSpec.ofChange quorumTellsSpec)

/-- ITS FALSE NEIGHBOUR: 'it returns false'. Refute it at one input. -/
def quorumTellsWrong : ChangeSpec := { name := "quorumTells", fn := fun _ => fun
  | [d] => { results := [.lit (.bool false)], args := [d] }
  | _ => none }
def QuorumTellsWrongFalsely : Prop := quorumTellsRow.holds Tryd.pinned (OpenSpec.ofChange quorumTellsWrong)

/-- 'seedcornlaw45.QuorumFew': WHATEVER THE INPUT: true; the input reads as it did. -/
def quorumFewSpec : ChangeSpec := { name := "quorumFew", fn := fun _ => fun
  | [d] => { results := [.lit (.bool true)], args := [d] }
  | _ => none }
def quorumFewRow : OpenClaim := { program := "ytpodfmnnabepaaadoor", sum := "4e431bdedd4eb2874138fc4b91c1ae54cf54091f69e0d0fd09237dd4b0f3ffa7", func := "seedcorn/seedcornlaw45.QuorumFew", spec := "quorumFew", unfollowed := true, recurses := true, named := ["seedcorn/digest.turns"], apart := false, laid := [("seedcorn/digest.turns", laid_seedcorn_digest_turns)] }
def QuorumFewSaid : Prop := quorumFewRow.holds Tryd.pinned (OpenSpec.ofChange quorumFewSpec)

/-- ITS FALSE NEIGHBOUR: 'it returns false'. Refute it at one input. -/
def quorumFewWrong : ChangeSpec := { name := "quorumFew", fn := fun _ => fun
  | [d] => { results := [.lit (.bool false)], args := [d] }
  | _ => none }
def QuorumFewWrongFalsely : Prop := quorumFewRow.holds Tryd.pinned (OpenSpec.ofChange quorumFewWrong)

/-- 'seedcornlaw45.QuorumMore': WHATEVER THE INPUT: true; the input reads as it did. -/
def quorumMoreSpec : ChangeSpec := { name := "quorumMore", fn := fun _ => fun
  | [d1, d2] => { results := [.lit (.bool true)], args := [d1, d2] }
  | _ => none }
def quorumMoreRow : OpenClaim := { program := "ytpodfmnnabepaaadoor", sum := "4e431bdedd4eb2874138fc4b91c1ae54cf54091f69e0d0fd09237dd4b0f3ffa7", func := "seedcorn/seedcornlaw45.QuorumMore", spec := "quorumMore", unfollowed := true, recurses := true, named := ["seedcorn/digest.turns"], apart := false, laid := [("seedcorn/digest.turns", laid_seedcorn_digest_turns)] }
def QuorumMoreSaid : Prop := quorumMoreRow.holds Tryd.pinned (OpenSpec.ofChange quorumMoreSpec)

/-- ITS FALSE NEIGHBOUR: 'it returns false'. Refute it at one input. -/
def quorumMoreWrong : ChangeSpec := { name := "quorumMore", fn := fun _ => fun
  | [d1, d2] => { results := [.lit (.bool false)], args := [d1, d2] }
  | _ => none }
def QuorumMoreWrongFalsely : Prop := quorumMoreRow.holds Tryd.pinned (OpenSpec.ofChange quorumMoreWrong)

/-- 'seedcornlaw45.QuorumDoes': WHATEVER THE INPUT: true; the input reads as it did. -/
def quorumDoesSpec : ChangeSpec := { name := "quorumDoes", fn := fun _ => fun
  | [d1, d2, d3] => { results := [.lit (.bool true)], args := [d1, d2, d3] }
  | _ => none }
def quorumDoesRow : OpenClaim := { program := "ytpodfmnnabepaaadoor", sum := "4e431bdedd4eb2874138fc4b91c1ae54cf54091f69e0d0fd09237dd4b0f3ffa7", func := "seedcorn/seedcornlaw45.QuorumDoes", spec := "quorumDoes", unfollowed := true, recurses := true, named := ["seedcorn/digest.turns"], apart := false, laid := [("seedcorn/digest.turns", laid_seedcorn_digest_turns)] }
def QuorumDoesSaid : Prop := quorumDoesRow.holds Tryd.pinned (OpenSpec.ofChange quorumDoesSpec)

/-- ITS FALSE NEIGHBOUR: 'it returns false'. Refute it at one input. -/
def quorumDoesWrong : ChangeSpec := { name := "quorumDoes", fn := fun _ => fun
  | [d1, d2, d3] => { results := [.lit (.bool false)], args := [d1, d2, d3] }
  | _ => none }
def QuorumDoesWrongFalsely : Prop := quorumDoesRow.holds Tryd.pinned (OpenSpec.ofChange quorumDoesWrong)

/-- 'seedcornlaw45.QuorumHonest': WHATEVER THE INPUT: true; the input reads as it did. -/
def quorumHonestSpec : ChangeSpec := { name := "quorumHonest", fn := fun _ => fun
  | [d1, d2] => { results := [.lit (.bool true)], args := [d1, d2] }
  | _ => none }
def quorumHonestRow : OpenClaim := { program := "ytpodfmnnabepaaadoor", sum := "4e431bdedd4eb2874138fc4b91c1ae54cf54091f69e0d0fd09237dd4b0f3ffa7", func := "seedcorn/seedcornlaw45.QuorumHonest", spec := "quorumHonest", unfollowed := true, recurses := true, named := ["seedcorn/digest.turns"], apart := false, laid := [("seedcorn/digest.turns", laid_seedcorn_digest_turns)] }
def QuorumHonestSaid : Prop := quorumHonestRow.holds Tryd.pinned (OpenSpec.ofChange quorumHonestSpec)

/-- ITS FALSE NEIGHBOUR: 'it returns false'. Refute it at one input. -/
def quorumHonestWrong : ChangeSpec := { name := "quorumHonest", fn := fun _ => fun
  | [d1, d2] => { results := [.lit (.bool false)], args := [d1, d2] }
  | _ => none }
def QuorumHonestWrongFalsely : Prop := quorumHonestRow.holds Tryd.pinned (OpenSpec.ofChange quorumHonestWrong)

/-- 'seedcornlaw45.QuorumMeets': WHATEVER THE INPUT: true; the input reads as it did. -/
def quorumMeetsSpec : ChangeSpec := { name := "quorumMeets", fn := fun _ => fun
  | [d1, d2, d3] => { results := [.lit (.bool true)], args := [d1, d2, d3] }
  | _ => none }
def quorumMeetsRow : OpenClaim := { program := "ytpodfmnnabepaaadoor", sum := "4e431bdedd4eb2874138fc4b91c1ae54cf54091f69e0d0fd09237dd4b0f3ffa7", func := "seedcorn/seedcornlaw45.QuorumMeets", spec := "quorumMeets", unfollowed := true, recurses := true, named := ["seedcorn/digest.turns"], apart := false, laid := [("seedcorn/digest.turns", laid_seedcorn_digest_turns)] }
def QuorumMeetsSaid : Prop := quorumMeetsRow.holds Tryd.pinned (OpenSpec.ofChange quorumMeetsSpec)

/-- ITS FALSE NEIGHBOUR: 'it returns false'. Refute it at one input. -/
def quorumMeetsWrong : ChangeSpec := { name := "quorumMeets", fn := fun _ => fun
  | [d1, d2, d3] => { results := [.lit (.bool false)], args := [d1, d2, d3] }
  | _ => none }
def QuorumMeetsWrongFalsely : Prop := quorumMeetsRow.holds Tryd.pinned (OpenSpec.ofChange quorumMeetsWrong)

/- THE SECOND FORM. 'bulk': how many values and letters a reading holds, each counted each time it is reached (what is shared counts as often as it is met; a slice's spare places count too). A statement '..UptoSaid' is the law's where the arguments, and the package variables that the reading takes, are together of bulk at most 1048576: NARROWER than '..Said'. Prove '..Said' where nothing that the law and all that it calls make is longer than what came in: it says more and counts as full. Else prove '..UptoSaid'. A law counts once. -/
mutual
def uptoBulk {H : Type} : DataW H → Nat
  | .lit (.string bytes) => bytes.length + 1
  | .lit _ => 1
  | .nil => 1
  | .ptr d => uptoBulk d + 1
  | .slice elems spare => uptoBulkAll elems + uptoBulkAll spare + 1
  | .agg parts => uptoBulkAll parts + 1
  | .iface _ d => uptoBulk d + 1
  | .map entries => uptoBulkEntries entries + 1
  | .held _ => 1
def uptoBulkAll {H : Type} : List (DataW H) → Nat
  | [] => 0
  | d :: r => uptoBulk d + uptoBulkAll r
def uptoBulkEntries {H : Type} : List (Lit × DataW H) → Nat
  | [] => 0
  | x :: r => uptoBulkEntry x + uptoBulkEntries r
def uptoBulkEntry {H : Type} : Lit × DataW H → Nat
  | (.string bytes, d) => bytes.length + uptoBulk d + 1
  | (_, d) => uptoBulk d + 1
 end
def uptoSmall : (H : Type) → List (DataW H) → Bool := fun _ ds => decide (uptoBulkAll ds ≤ 1048576)
def OpenSpec.upto (s : _root_.Go.ChangeSpec) : _root_.Go.OpenSpec := { _root_.Go.OpenSpec.ofChange s with cond := some uptoSmall }

/-- 'seedcornlaw05.OnetimeSteps', WHERE WHAT IT READS IS OF BULK AT MOST 1048576: true; the input reads as it did. -/
def onetimeStepsUptoRow : OpenClaim := { program := "ytpodfmnnabepaaadoor", sum := "4e431bdedd4eb2874138fc4b91c1ae54cf54091f69e0d0fd09237dd4b0f3ffa7", func := "seedcorn/seedcornlaw05.OnetimeSteps", spec := "onetimeSteps", unfollowed := true, recurses := true, named := ["seedcorn/digest.turns"], apart := false, laid := [("seedcorn/digest.turns", laid_seedcorn_digest_turns)], narrowed := true }
def OnetimeStepsUptoSaid : Prop := onetimeStepsUptoRow.holds Tryd.pinned (OpenSpec.upto onetimeStepsSpec)

/-- 'seedcornlaw05.OnetimeKeys', WHERE WHAT IT READS IS OF BULK AT MOST 1048576: true; the input reads as it did. -/
def onetimeKeysUptoRow : OpenClaim := { program := "ytpodfmnnabepaaadoor", sum := "4e431bdedd4eb2874138fc4b91c1ae54cf54091f69e0d0fd09237dd4b0f3ffa7", func := "seedcorn/seedcornlaw05.OnetimeKeys", spec := "onetimeKeys", unfollowed := true, recurses := true, named := ["seedcorn/digest.turns"], apart := false, laid := [("seedcorn/digest.turns", laid_seedcorn_digest_turns)], narrowed := true }
def OnetimeKeysUptoSaid : Prop := onetimeKeysUptoRow.holds Tryd.pinned (OpenSpec.upto onetimeKeysSpec)

/-- 'seedcornlaw05.OnetimeHolds', WHERE WHAT IT READS IS OF BULK AT MOST 1048576: true; the input reads as it did. -/
def onetimeHoldsUptoRow : OpenClaim := { program := "ytpodfmnnabepaaadoor", sum := "4e431bdedd4eb2874138fc4b91c1ae54cf54091f69e0d0fd09237dd4b0f3ffa7", func := "seedcorn/seedcornlaw05.OnetimeHolds", spec := "onetimeHolds", unfollowed := true, recurses := true, named := ["seedcorn/digest.turns"], apart := false, laid := [("seedcorn/digest.turns", laid_seedcorn_digest_turns)], narrowed := true }
def OnetimeHoldsUptoSaid : Prop := onetimeHoldsUptoRow.holds Tryd.pinned (OpenSpec.upto onetimeHoldsSpec)

/-- 'seedcornlaw05.OnetimeReaches', WHERE WHAT IT READS IS OF BULK AT MOST 1048576: true; the input reads as it did. -/
def onetimeReachesUptoRow : OpenClaim := { program := "ytpodfmnnabepaaadoor", sum := "4e431bdedd4eb2874138fc4b91c1ae54cf54091f69e0d0fd09237dd4b0f3ffa7", func := "seedcorn/seedcornlaw05.OnetimeReaches", spec := "onetimeReaches", unfollowed := true, recurses := true, named := ["seedcorn/digest.turns"], apart := false, laid := [("seedcorn/digest.turns", laid_seedcorn_digest_turns)], narrowed := true }
def OnetimeReachesUptoSaid : Prop := onetimeReachesUptoRow.holds Tryd.pinned (OpenSpec.upto onetimeReachesSpec)

/-- 'seedcornlaw05.OnetimeUnlike', WHERE WHAT IT READS IS OF BULK AT MOST 1048576: true; the input reads as it did. -/
def onetimeUnlikeUptoRow : OpenClaim := { program := "ytpodfmnnabepaaadoor", sum := "4e431bdedd4eb2874138fc4b91c1ae54cf54091f69e0d0fd09237dd4b0f3ffa7", func := "seedcorn/seedcornlaw05.OnetimeUnlike", spec := "onetimeUnlike", unfollowed := true, recurses := true, named := ["seedcorn/digest.turns"], apart := false, laid := [("seedcorn/digest.turns", laid_seedcorn_digest_turns)], narrowed := true }
def OnetimeUnlikeUptoSaid : Prop := onetimeUnlikeUptoRow.holds Tryd.pinned (OpenSpec.upto onetimeUnlikeSpec)

/-- 'seedcornlaw05.OnetimeGives', WHERE WHAT IT READS IS OF BULK AT MOST 1048576: true; the input reads as it did. -/
def onetimeGivesUptoRow : OpenClaim := { program := "ytpodfmnnabepaaadoor", sum := "4e431bdedd4eb2874138fc4b91c1ae54cf54091f69e0d0fd09237dd4b0f3ffa7", func := "seedcorn/seedcornlaw05.OnetimeGives", spec := "onetimeGives", unfollowed := true, recurses := true, named := ["seedcorn/digest.turns"], apart := false, laid := [("seedcorn/digest.turns", laid_seedcorn_digest_turns)], narrowed := true }
def OnetimeGivesUptoSaid : Prop := onetimeGivesUptoRow.holds Tryd.pinned (OpenSpec.upto onetimeGivesSpec)

/-- 'seedcornlaw05.OnetimeAhead', WHERE WHAT IT READS IS OF BULK AT MOST 1048576: true; the input reads as it did. -/
def onetimeAheadUptoRow : OpenClaim := { program := "ytpodfmnnabepaaadoor", sum := "4e431bdedd4eb2874138fc4b91c1ae54cf54091f69e0d0fd09237dd4b0f3ffa7", func := "seedcorn/seedcornlaw05.OnetimeAhead", spec := "onetimeAhead", unfollowed := true, recurses := true, named := ["seedcorn/digest.turns"], apart := false, laid := [("seedcorn/digest.turns", laid_seedcorn_digest_turns)], narrowed := true }
def OnetimeAheadUptoSaid : Prop := onetimeAheadUptoRow.holds Tryd.pinned (OpenSpec.upto onetimeAheadSpec)

/-- 'seedcornlaw45.QuorumRights', WHERE WHAT IT READS IS OF BULK AT MOST 1048576: true; the input reads as it did. -/
def quorumRightsUptoRow : OpenClaim := { program := "ytpodfmnnabepaaadoor", sum := "4e431bdedd4eb2874138fc4b91c1ae54cf54091f69e0d0fd09237dd4b0f3ffa7", func := "seedcorn/seedcornlaw45.QuorumRights", spec := "quorumRights", unfollowed := true, recurses := true, named := ["seedcorn/digest.turns"], apart := false, laid := [("seedcorn/digest.turns", laid_seedcorn_digest_turns)], narrowed := true }
def QuorumRightsUptoSaid : Prop := quorumRightsUptoRow.holds Tryd.pinned (OpenSpec.upto quorumRightsSpec)

/-- 'seedcornlaw45.QuorumTells', WHERE WHAT IT READS IS OF BULK AT MOST 1048576: true; the input reads as it did. -/
def quorumTellsUptoRow : OpenClaim := { program := "ytpodfmnnabepaaadoor", sum := "4e431bdedd4eb2874138fc4b91c1ae54cf54091f69e0d0fd09237dd4b0f3ffa7", func := "seedcorn/seedcornlaw45.QuorumTells", spec := "quorumTells", unfollowed := true, recurses := true, named := ["seedcorn/digest.turns"], apart := false, laid := [("seedcorn/digest.turns", laid_seedcorn_digest_turns)], narrowed := true }
def QuorumTellsUptoSaid : Prop := quorumTellsUptoRow.holds Tryd.pinned (OpenSpec.upto quorumTellsSpec)

/-- 'seedcornlaw45.QuorumFew', WHERE WHAT IT READS IS OF BULK AT MOST 1048576: true; the input reads as it did. -/
def quorumFewUptoRow : OpenClaim := { program := "ytpodfmnnabepaaadoor", sum := "4e431bdedd4eb2874138fc4b91c1ae54cf54091f69e0d0fd09237dd4b0f3ffa7", func := "seedcorn/seedcornlaw45.QuorumFew", spec := "quorumFew", unfollowed := true, recurses := true, named := ["seedcorn/digest.turns"], apart := false, laid := [("seedcorn/digest.turns", laid_seedcorn_digest_turns)], narrowed := true }
def QuorumFewUptoSaid : Prop := quorumFewUptoRow.holds Tryd.pinned (OpenSpec.upto quorumFewSpec)

/-- 'seedcornlaw45.QuorumMore', WHERE WHAT IT READS IS OF BULK AT MOST 1048576: true; the input reads as it did. -/
def quorumMoreUptoRow : OpenClaim := { program := "ytpodfmnnabepaaadoor", sum := "4e431bdedd4eb2874138fc4b91c1ae54cf54091f69e0d0fd09237dd4b0f3ffa7", func := "seedcorn/seedcornlaw45.QuorumMore", spec := "quorumMore", unfollowed := true, recurses := true, named := ["seedcorn/digest.turns"], apart := false, laid := [("seedcorn/digest.turns", laid_seedcorn_digest_turns)], narrowed := true }
def QuorumMoreUptoSaid : Prop := quorumMoreUptoRow.holds Tryd.pinned (OpenSpec.upto quorumMoreSpec)

/-- 'seedcornlaw45.QuorumDoes', WHERE WHAT IT READS IS OF BULK AT MOST 1048576: true; the input reads as it did. -/
def quorumDoesUptoRow : OpenClaim := { program := "ytpodfmnnabepaaadoor", sum := "4e431bdedd4eb2874138fc4b91c1ae54cf54091f69e0d0fd09237dd4b0f3ffa7", func := "seedcorn/seedcornlaw45.QuorumDoes", spec := "quorumDoes", unfollowed := true, recurses := true, named := ["seedcorn/digest.turns"], apart := false, laid := [("seedcorn/digest.turns", laid_seedcorn_digest_turns)], narrowed := true }
def QuorumDoesUptoSaid : Prop := quorumDoesUptoRow.holds Tryd.pinned (OpenSpec.upto quorumDoesSpec)

/-- 'seedcornlaw45.QuorumHonest', WHERE WHAT IT READS IS OF BULK AT MOST 1048576: true; the input reads as it did. -/
def quorumHonestUptoRow : OpenClaim := { program := "ytpodfmnnabepaaadoor", sum := "4e431bdedd4eb2874138fc4b91c1ae54cf54091f69e0d0fd09237dd4b0f3ffa7", func := "seedcorn/seedcornlaw45.QuorumHonest", spec := "quorumHonest", unfollowed := true, recurses := true, named := ["seedcorn/digest.turns"], apart := false, laid := [("seedcorn/digest.turns", laid_seedcorn_digest_turns)], narrowed := true }
def QuorumHonestUptoSaid : Prop := quorumHonestUptoRow.holds Tryd.pinned (OpenSpec.upto quorumHonestSpec)

/-- 'seedcornlaw45.QuorumMeets', WHERE WHAT IT READS IS OF BULK AT MOST 1048576: true; the input reads as it did. -/
def quorumMeetsUptoRow : OpenClaim := { program := "ytpodfmnnabepaaadoor", sum := "4e431bdedd4eb2874138fc4b91c1ae54cf54091f69e0d0fd09237dd4b0f3ffa7", func := "seedcorn/seedcornlaw45.QuorumMeets", spec := "quorumMeets", unfollowed := true, recurses := true, named := ["seedcorn/digest.turns"], apart := false, laid := [("seedcorn/digest.turns", laid_seedcorn_digest_turns)], narrowed := true }
def QuorumMeetsUptoSaid : Prop := quorumMeetsUptoRow.holds Tryd.pinned (OpenSpec.upto quorumMeetsSpec)

end Rows
end Go.Proofs.YtpodfmnnabepaaaDoor
