/-
  No cell of these rows narrows 'for every input' (looked for: loops, veiled, ifaces, maps, wideKeys, modest, calm, conditions, laid).
  DERIVED. THE GIVEN ROWS OF THIS SEAT. 12 by the template 'for every input the law returns true; each argument reads behind the call as it read before'; 0 by the template 'total and deterministic' (their statements: YtfglpigoljclbaaTotals.lean).
  GIVEN WITH THE SEED: the statements are not yours to turn. If you find one false, say at which input.
  Laid BY PROGRAM, IN A SANDBOX (cutbox-rows.mjs): the forced cells as the released guide's own fill.sh prints them over the translation 618740caf260d009… (all of the seat's roots in one cut). By AI agents, Wed Nov 11 2026. No macro, syntax, notation, axiom, sorry.
-/
import Derived.Test.YtfglpigoljclbaaChecked
import GoSem.Claim
import GoSem.ClaimJoined
import GoSem.ClaimMapViews
import Derived.JoinedTies
import Derived.KernelRfl
namespace Go.Proofs.Ytfglpigoljclbaa
/- THE CELL 'sum', in the pinned program and in every row, IS THE sha256 OF THE DUMP (.gsa) THAT YtfglpigoljclbaaProg.lean LOADS. Nothing in Lean hashes anything: it is a label: what it is worth is what the hold of that sum in a sandbox is worth. -/
noncomputable def Try.pinned : Pinned := { name := "ytfglpigoljclbaa", sum := "618740caf260d0092c6e99fb268b64ee4040c70e014a54422d82d923013f6347", checked := Try.checked }
namespace Rows
def none {H : Type} : Left H := { results := [], args := [] }

/-- 'hatstandlaw21.BoundGrows': WHATEVER THE INPUT: true; the input reads as it did. -/
def boundGrowsSpec : ChangeSpec := { name := "boundGrows", fn := fun _ => fun
  | [d1, d2, d3, d4] => { results := [.lit (.bool true)], args := [d1, d2, d3, d4] }
  | _ => none }
def boundGrowsRow : OpenClaim := { program := "ytfglpigoljclbaa", sum := "618740caf260d0092c6e99fb268b64ee4040c70e014a54422d82d923013f6347", func := "hatstand/hatstandlaw21.BoundGrows", spec := "boundGrows", apart := false }
def BoundGrowsSaid : Prop := boundGrowsRow.holds Try.pinned (OpenSpec.ofChange boundGrowsSpec)

/-- ITS FALSE NEIGHBOUR: 'it returns false'. Refute it at one input. -/
def boundGrowsWrong : ChangeSpec := { name := "boundGrows", fn := fun _ => fun
  | [d1, d2, d3, d4] => { results := [.lit (.bool false)], args := [d1, d2, d3, d4] }
  | _ => none }
def BoundGrowsWrongFalsely : Prop := boundGrowsRow.holds Try.pinned (OpenSpec.ofChange boundGrowsWrong)

/-- 'hatstandlaw6.LayoutLists': WHATEVER THE INPUT: true; the input reads as it did. -/
def layoutListsSpec : ChangeSpec := { name := "layoutLists", fn := fun _ => fun
  | [d1, d2, d3, d4, d5] => { results := [.lit (.bool true)], args := [d1, d2, d3, d4, d5] }
  | _ => none }
def layoutListsRow : OpenClaim := { program := "ytfglpigoljclbaa", sum := "618740caf260d0092c6e99fb268b64ee4040c70e014a54422d82d923013f6347", func := "hatstand/hatstandlaw6.LayoutLists", spec := "layoutLists", unfollowed := true, recurses := true, apart := false }
def LayoutListsSaid : Prop := layoutListsRow.holds Try.pinned (OpenSpec.ofChange layoutListsSpec)

/-- ITS FALSE NEIGHBOUR: 'it returns false'. Refute it at one input. -/
def layoutListsWrong : ChangeSpec := { name := "layoutLists", fn := fun _ => fun
  | [d1, d2, d3, d4, d5] => { results := [.lit (.bool false)], args := [d1, d2, d3, d4, d5] }
  | _ => none }
def LayoutListsWrongFalsely : Prop := layoutListsRow.holds Try.pinned (OpenSpec.ofChange layoutListsWrong)

/-- 'hatstandlaw7.TaglistSteps': WHATEVER THE INPUT: true; the input reads as it did. -/
def taglistStepsSpec : ChangeSpec := { name := "taglistSteps", fn := fun _ => fun
  | [d1, d2, d3, d4] => { results := [.lit (.bool true)], args := [d1, d2, d3, d4] }
  | _ => none }
def taglistStepsRow : OpenClaim := { program := "ytfglpigoljclbaa", sum := "618740caf260d0092c6e99fb268b64ee4040c70e014a54422d82d923013f6347", func := "hatstand/hatstandlaw7.TaglistSteps", spec := "taglistSteps", unfollowed := true, recurses := true, apart := false }
def TaglistStepsSaid : Prop := taglistStepsRow.holds Try.pinned (OpenSpec.ofChange taglistStepsSpec)

/-- ITS FALSE NEIGHBOUR: 'it returns false'. Refute it at one input. -/
def taglistStepsWrong : ChangeSpec := { name := "taglistSteps", fn := fun _ => fun
  | [d1, d2, d3, d4] => { results := [.lit (.bool false)], args := [d1, d2, d3, d4] }
  | _ => none }
def TaglistStepsWrongFalsely : Prop := taglistStepsRow.holds Try.pinned (OpenSpec.ofChange taglistStepsWrong)

/-- 'hatstandlaw7.TaglistLate': WHATEVER THE INPUT: true; the input reads as it did. -/
def taglistLateSpec : ChangeSpec := { name := "taglistLate", fn := fun _ => fun
  | [d1, d2, d3, d4, d5] => { results := [.lit (.bool true)], args := [d1, d2, d3, d4, d5] }
  | _ => none }
def taglistLateRow : OpenClaim := { program := "ytfglpigoljclbaa", sum := "618740caf260d0092c6e99fb268b64ee4040c70e014a54422d82d923013f6347", func := "hatstand/hatstandlaw7.TaglistLate", spec := "taglistLate", unfollowed := true, recurses := true, apart := false }
def TaglistLateSaid : Prop := taglistLateRow.holds Try.pinned (OpenSpec.ofChange taglistLateSpec)

/-- ITS FALSE NEIGHBOUR: 'it returns false'. Refute it at one input. -/
def taglistLateWrong : ChangeSpec := { name := "taglistLate", fn := fun _ => fun
  | [d1, d2, d3, d4, d5] => { results := [.lit (.bool false)], args := [d1, d2, d3, d4, d5] }
  | _ => none }
def TaglistLateWrongFalsely : Prop := taglistLateRow.holds Try.pinned (OpenSpec.ofChange taglistLateWrong)

/-- 'hatstandlaw7.TaglistMeets': WHATEVER THE INPUT: true; the input reads as it did. -/
def taglistMeetsSpec : ChangeSpec := { name := "taglistMeets", fn := fun _ => fun
  | [d1, d2, d3] => { results := [.lit (.bool true)], args := [d1, d2, d3] }
  | _ => none }
def taglistMeetsRow : OpenClaim := { program := "ytfglpigoljclbaa", sum := "618740caf260d0092c6e99fb268b64ee4040c70e014a54422d82d923013f6347", func := "hatstand/hatstandlaw7.TaglistMeets", spec := "taglistMeets", unfollowed := true, recurses := true, apart := false }
def TaglistMeetsSaid : Prop := taglistMeetsRow.holds Try.pinned (OpenSpec.ofChange taglistMeetsSpec)

/-- ITS FALSE NEIGHBOUR: 'it returns false'. Refute it at one input. -/
def taglistMeetsWrong : ChangeSpec := { name := "taglistMeets", fn := fun _ => fun
  | [d1, d2, d3] => { results := [.lit (.bool false)], args := [d1, d2, d3] }
  | _ => none }
def TaglistMeetsWrongFalsely : Prop := taglistMeetsRow.holds Try.pinned (OpenSpec.ofChange taglistMeetsWrong)

/-- 'hatstandlaw7.TaglistAlone': WHATEVER THE INPUT: true; the input reads as it did. -/
def taglistAloneSpec : ChangeSpec := { name := "taglistAlone", fn := fun _ => fun
  | [d1, d2, d3] => { results := [.lit (.bool true)], args := [d1, d2, d3] }
  | _ => none }
def taglistAloneRow : OpenClaim := { program := "ytfglpigoljclbaa", sum := "618740caf260d0092c6e99fb268b64ee4040c70e014a54422d82d923013f6347", func := "hatstand/hatstandlaw7.TaglistAlone", spec := "taglistAlone", unfollowed := true, recurses := true, apart := false }
def TaglistAloneSaid : Prop := taglistAloneRow.holds Try.pinned (OpenSpec.ofChange taglistAloneSpec)

/-- ITS FALSE NEIGHBOUR: 'it returns false'. Refute it at one input. -/
def taglistAloneWrong : ChangeSpec := { name := "taglistAlone", fn := fun _ => fun
  | [d1, d2, d3] => { results := [.lit (.bool false)], args := [d1, d2, d3] }
  | _ => none }
def TaglistAloneWrongFalsely : Prop := taglistAloneRow.holds Try.pinned (OpenSpec.ofChange taglistAloneWrong)

/-- 'hatstandlaw8.ArenaSteps': WHATEVER THE INPUT: true; the input reads as it did. -/
def arenaStepsSpec : ChangeSpec := { name := "arenaSteps", fn := fun _ => fun
  | [d1, d2, d3, d4] => { results := [.lit (.bool true)], args := [d1, d2, d3, d4] }
  | _ => none }
def arenaStepsRow : OpenClaim := { program := "ytfglpigoljclbaa", sum := "618740caf260d0092c6e99fb268b64ee4040c70e014a54422d82d923013f6347", func := "hatstand/hatstandlaw8.ArenaSteps", spec := "arenaSteps", unfollowed := true, recurses := true, apart := false }
def ArenaStepsSaid : Prop := arenaStepsRow.holds Try.pinned (OpenSpec.ofChange arenaStepsSpec)

/-- ITS FALSE NEIGHBOUR: 'it returns false'. Refute it at one input. -/
def arenaStepsWrong : ChangeSpec := { name := "arenaSteps", fn := fun _ => fun
  | [d1, d2, d3, d4] => { results := [.lit (.bool false)], args := [d1, d2, d3, d4] }
  | _ => none }
def ArenaStepsWrongFalsely : Prop := arenaStepsRow.holds Try.pinned (OpenSpec.ofChange arenaStepsWrong)

/-- 'hatstandlaw8.ArenaTries': WHATEVER THE INPUT: true; the input reads as it did. -/
def arenaTriesSpec : ChangeSpec := { name := "arenaTries", fn := fun _ => fun
  | [d1, d2, d3, d4] => { results := [.lit (.bool true)], args := [d1, d2, d3, d4] }
  | _ => none }
def arenaTriesRow : OpenClaim := { program := "ytfglpigoljclbaa", sum := "618740caf260d0092c6e99fb268b64ee4040c70e014a54422d82d923013f6347", func := "hatstand/hatstandlaw8.ArenaTries", spec := "arenaTries", unfollowed := true, recurses := true, apart := false }
def ArenaTriesSaid : Prop := arenaTriesRow.holds Try.pinned (OpenSpec.ofChange arenaTriesSpec)

/-- ITS FALSE NEIGHBOUR: 'it returns false'. Refute it at one input. -/
def arenaTriesWrong : ChangeSpec := { name := "arenaTries", fn := fun _ => fun
  | [d1, d2, d3, d4] => { results := [.lit (.bool false)], args := [d1, d2, d3, d4] }
  | _ => none }
def ArenaTriesWrongFalsely : Prop := arenaTriesRow.holds Try.pinned (OpenSpec.ofChange arenaTriesWrong)

/-- 'hatstandlaw8.ArenaShelf': WHATEVER THE INPUT: true; the input reads as it did. -/
def arenaShelfSpec : ChangeSpec := { name := "arenaShelf", fn := fun _ => fun
  | [d1, d2, d3] => { results := [.lit (.bool true)], args := [d1, d2, d3] }
  | _ => none }
def arenaShelfRow : OpenClaim := { program := "ytfglpigoljclbaa", sum := "618740caf260d0092c6e99fb268b64ee4040c70e014a54422d82d923013f6347", func := "hatstand/hatstandlaw8.ArenaShelf", spec := "arenaShelf", unfollowed := true, recurses := true, apart := false }
def ArenaShelfSaid : Prop := arenaShelfRow.holds Try.pinned (OpenSpec.ofChange arenaShelfSpec)

/-- ITS FALSE NEIGHBOUR: 'it returns false'. Refute it at one input. -/
def arenaShelfWrong : ChangeSpec := { name := "arenaShelf", fn := fun _ => fun
  | [d1, d2, d3] => { results := [.lit (.bool false)], args := [d1, d2, d3] }
  | _ => none }
def ArenaShelfWrongFalsely : Prop := arenaShelfRow.holds Try.pinned (OpenSpec.ofChange arenaShelfWrong)

/-- 'hatstandlaw8.ArenaGives': WHATEVER THE INPUT: true; the input reads as it did. -/
def arenaGivesSpec : ChangeSpec := { name := "arenaGives", fn := fun _ => fun
  | [d1, d2, d3] => { results := [.lit (.bool true)], args := [d1, d2, d3] }
  | _ => none }
def arenaGivesRow : OpenClaim := { program := "ytfglpigoljclbaa", sum := "618740caf260d0092c6e99fb268b64ee4040c70e014a54422d82d923013f6347", func := "hatstand/hatstandlaw8.ArenaGives", spec := "arenaGives", unfollowed := true, recurses := true, apart := false }
def ArenaGivesSaid : Prop := arenaGivesRow.holds Try.pinned (OpenSpec.ofChange arenaGivesSpec)

/-- ITS FALSE NEIGHBOUR: 'it returns false'. Refute it at one input. -/
def arenaGivesWrong : ChangeSpec := { name := "arenaGives", fn := fun _ => fun
  | [d1, d2, d3] => { results := [.lit (.bool false)], args := [d1, d2, d3] }
  | _ => none }
def ArenaGivesWrongFalsely : Prop := arenaGivesRow.holds Try.pinned (OpenSpec.ofChange arenaGivesWrong)

/-- 'hatstandlaw8.ArenaAll': WHATEVER THE INPUT: true; the input reads as it did. -/
def arenaAllSpec : ChangeSpec := { name := "arenaAll", fn := fun _ => fun
  | [d1, d2, d3, d4] => { results := [.lit (.bool true)], args := [d1, d2, d3, d4] }
  | _ => none }
def arenaAllRow : OpenClaim := { program := "ytfglpigoljclbaa", sum := "618740caf260d0092c6e99fb268b64ee4040c70e014a54422d82d923013f6347", func := "hatstand/hatstandlaw8.ArenaAll", spec := "arenaAll", unfollowed := true, recurses := true, apart := false }
def ArenaAllSaid : Prop := arenaAllRow.holds Try.pinned (OpenSpec.ofChange arenaAllSpec)

/-- ITS FALSE NEIGHBOUR: 'it returns false'. Refute it at one input. -/
def arenaAllWrong : ChangeSpec := { name := "arenaAll", fn := fun _ => fun
  | [d1, d2, d3, d4] => { results := [.lit (.bool false)], args := [d1, d2, d3, d4] }
  | _ => none }
def ArenaAllWrongFalsely : Prop := arenaAllRow.holds Try.pinned (OpenSpec.ofChange arenaAllWrong)

/-- 'hatstandlaw8.ArenaAlone': WHATEVER THE INPUT: true; the input reads as it did. -/
def arenaAloneSpec : ChangeSpec := { name := "arenaAlone", fn := fun _ => fun
  | [d1, d2, d3] => { results := [.lit (.bool true)], args := [d1, d2, d3] }
  | _ => none }
def arenaAloneRow : OpenClaim := { program := "ytfglpigoljclbaa", sum := "618740caf260d0092c6e99fb268b64ee4040c70e014a54422d82d923013f6347", func := "hatstand/hatstandlaw8.ArenaAlone", spec := "arenaAlone", unfollowed := true, recurses := true, apart := false }
def ArenaAloneSaid : Prop := arenaAloneRow.holds Try.pinned (OpenSpec.ofChange arenaAloneSpec)

/-- ITS FALSE NEIGHBOUR: 'it returns false'. Refute it at one input. -/
def arenaAloneWrong : ChangeSpec := { name := "arenaAlone", fn := fun _ => fun
  | [d1, d2, d3] => { results := [.lit (.bool false)], args := [d1, d2, d3] }
  | _ => none }
def ArenaAloneWrongFalsely : Prop := arenaAloneRow.holds Try.pinned (OpenSpec.ofChange arenaAloneWrong)

/- THE SECOND FORM. 'bulk': how many values and letters a reading holds, each counted each time it is reached (what is shared counts as often as it is met; a slice's spare places count too). A statement '..UptoSaid' is the law's where the arguments, and the package variables that the reading takes, are together of bulk at most 1048576: NARROWER than '..Said'. Prove '..Said' where nothing that the law and all that it calls make is longer than what came in: it says more and counts as full. Else prove '..UptoSaid'. A law counts once. -/
mutual
def uptoBulk {H : Type} : DataW H → Nat
  | .lit (.string bytes) => bytes.length + 1
  | .lit _ => 1
  | .nil => 1
  | .ptr d => uptoBulk d + 1
  | .slice elems spare => uptoBulkAll elems + uptoBulkAll spare + 1
  | .agg parts => uptoBulkAll parts + 1
  | .iface _ d => uptoBulk d + 1
  | .map entries => uptoBulkEntries entries + 1
  | .held _ => 1
def uptoBulkAll {H : Type} : List (DataW H) → Nat
  | [] => 0
  | d :: r => uptoBulk d + uptoBulkAll r
def uptoBulkEntries {H : Type} : List (Lit × DataW H) → Nat
  | [] => 0
  | x :: r => uptoBulkEntry x + uptoBulkEntries r
def uptoBulkEntry {H : Type} : Lit × DataW H → Nat
  | (.string bytes, d) => bytes.length + uptoBulk d + 1
  | (_, d) => uptoBulk d + 1
 end
def uptoSmall : (H : Type) → List (DataW H) → Bool := fun _ ds => decide (uptoBulkAll ds ≤ 1048576)
def OpenSpec.upto (s : _root_.Go.ChangeSpec) : _root_.Go.OpenSpec := { _root_.Go.OpenSpec.ofChange s with cond := some uptoSmall }

/-- 'hatstandlaw21.BoundGrows', WHERE WHAT IT READS IS OF BULK AT MOST 1048576: true; the input reads as it did. -/
def boundGrowsUptoRow : OpenClaim := { program := "ytfglpigoljclbaa", sum := "618740caf260d0092c6e99fb268b64ee4040c70e014a54422d82d923013f6347", func := "hatstand/hatstandlaw21.BoundGrows", spec := "boundGrows", apart := false, narrowed := true }
def BoundGrowsUptoSaid : Prop := boundGrowsUptoRow.holds Try.pinned (OpenSpec.upto boundGrowsSpec)

/-- 'hatstandlaw6.LayoutLists', WHERE WHAT IT READS IS OF BULK AT MOST 1048576: true; the input reads as it did. -/
def layoutListsUptoRow : OpenClaim := { program := "ytfglpigoljclbaa", sum := "618740caf260d0092c6e99fb268b64ee4040c70e014a54422d82d923013f6347", func := "hatstand/hatstandlaw6.LayoutLists", spec := "layoutLists", unfollowed := true, recurses := true, apart := false, narrowed := true }
def LayoutListsUptoSaid : Prop := layoutListsUptoRow.holds Try.pinned (OpenSpec.upto layoutListsSpec)

/-- 'hatstandlaw7.TaglistSteps', WHERE WHAT IT READS IS OF BULK AT MOST 1048576: true; the input reads as it did. -/
def taglistStepsUptoRow : OpenClaim := { program := "ytfglpigoljclbaa", sum := "618740caf260d0092c6e99fb268b64ee4040c70e014a54422d82d923013f6347", func := "hatstand/hatstandlaw7.TaglistSteps", spec := "taglistSteps", unfollowed := true, recurses := true, apart := false, narrowed := true }
def TaglistStepsUptoSaid : Prop := taglistStepsUptoRow.holds Try.pinned (OpenSpec.upto taglistStepsSpec)

/-- 'hatstandlaw7.TaglistLate', WHERE WHAT IT READS IS OF BULK AT MOST 1048576: true; the input reads as it did. -/
def taglistLateUptoRow : OpenClaim := { program := "ytfglpigoljclbaa", sum := "618740caf260d0092c6e99fb268b64ee4040c70e014a54422d82d923013f6347", func := "hatstand/hatstandlaw7.TaglistLate", spec := "taglistLate", unfollowed := true, recurses := true, apart := false, narrowed := true }
def TaglistLateUptoSaid : Prop := taglistLateUptoRow.holds Try.pinned (OpenSpec.upto taglistLateSpec)

/-- 'hatstandlaw7.TaglistMeets', WHERE WHAT IT READS IS OF BULK AT MOST 1048576: true; the input reads as it did. -/
def taglistMeetsUptoRow : OpenClaim := { program := "ytfglpigoljclbaa", sum := "618740caf260d0092c6e99fb268b64ee4040c70e014a54422d82d923013f6347", func := "hatstand/hatstandlaw7.TaglistMeets", spec := "taglistMeets", unfollowed := true, recurses := true, apart := false, narrowed := true }
def TaglistMeetsUptoSaid : Prop := taglistMeetsUptoRow.holds Try.pinned (OpenSpec.upto taglistMeetsSpec)

/-- 'hatstandlaw7.TaglistAlone', WHERE WHAT IT READS IS OF BULK AT MOST 1048576: true; the input reads as it did. -/
def taglistAloneUptoRow : OpenClaim := { program := "ytfglpigoljclbaa", sum := "618740caf260d0092c6e99fb268b64ee4040c70e014a54422d82d923013f6347", func := "hatstand/hatstandlaw7.TaglistAlone", spec := "taglistAlone", unfollowed := true, recurses := true, apart := false, narrowed := true }
def TaglistAloneUptoSaid : Prop := taglistAloneUptoRow.holds Try.pinned (OpenSpec.upto taglistAloneSpec)

/-- 'hatstandlaw8.ArenaSteps', WHERE WHAT IT READS IS OF BULK AT MOST 1048576: true; the input reads as it did. -/
def arenaStepsUptoRow : OpenClaim := { program := "ytfglpigoljclbaa", sum := "618740caf260d0092c6e99fb268b64ee4040c70e014a54422d82d923013f6347", func := "hatstand/hatstandlaw8.ArenaSteps", spec := "arenaSteps", unfollowed := true, recurses := true, apart := false, narrowed := true }
def ArenaStepsUptoSaid : Prop := arenaStepsUptoRow.holds Try.pinned (OpenSpec.upto arenaStepsSpec)

/-- 'hatstandlaw8.ArenaTries', WHERE WHAT IT READS IS OF BULK AT MOST 1048576: true; the input reads as it did. -/
def arenaTriesUptoRow : OpenClaim := { program := "ytfglpigoljclbaa", sum := "618740caf260d0092c6e99fb268b64ee4040c70e014a54422d82d923013f6347", func := "hatstand/hatstandlaw8.ArenaTries", spec := "arenaTries", unfollowed := true, recurses := true, apart := false, narrowed := true }
def ArenaTriesUptoSaid : Prop := arenaTriesUptoRow.holds Try.pinned (OpenSpec.upto arenaTriesSpec)

/-- 'hatstandlaw8.ArenaShelf', WHERE WHAT IT READS IS OF BULK AT MOST 1048576: true; the input reads as it did. -/
def arenaShelfUptoRow : OpenClaim := { program := "ytfglpigoljclbaa", sum := "618740caf260d0092c6e99fb268b64ee4040c70e014a54422d82d923013f6347", func := "hatstand/hatstandlaw8.ArenaShelf", spec := "arenaShelf", unfollowed := true, recurses := true, apart := false, narrowed := true }
def ArenaShelfUptoSaid : Prop := arenaShelfUptoRow.holds Try.pinned (OpenSpec.upto arenaShelfSpec)

/-- 'hatstandlaw8.ArenaGives', WHERE WHAT IT READS IS OF BULK AT MOST 1048576: true; the input reads as it did. -/
def arenaGivesUptoRow : OpenClaim := { program := "ytfglpigoljclbaa", sum := "618740caf260d0092c6e99fb268b64ee4040c70e014a54422d82d923013f6347", func := "hatstand/hatstandlaw8.ArenaGives", spec := "arenaGives", unfollowed := true, recurses := true, apart := false, narrowed := true }
def ArenaGivesUptoSaid : Prop := arenaGivesUptoRow.holds Try.pinned (OpenSpec.upto arenaGivesSpec)

/-- 'hatstandlaw8.ArenaAll', WHERE WHAT IT READS IS OF BULK AT MOST 1048576: true; the input reads as it did. -/
def arenaAllUptoRow : OpenClaim := { program := "ytfglpigoljclbaa", sum := "618740caf260d0092c6e99fb268b64ee4040c70e014a54422d82d923013f6347", func := "hatstand/hatstandlaw8.ArenaAll", spec := "arenaAll", unfollowed := true, recurses := true, apart := false, narrowed := true }
def ArenaAllUptoSaid : Prop := arenaAllUptoRow.holds Try.pinned (OpenSpec.upto arenaAllSpec)

/-- 'hatstandlaw8.ArenaAlone', WHERE WHAT IT READS IS OF BULK AT MOST 1048576: true; the input reads as it did. -/
def arenaAloneUptoRow : OpenClaim := { program := "ytfglpigoljclbaa", sum := "618740caf260d0092c6e99fb268b64ee4040c70e014a54422d82d923013f6347", func := "hatstand/hatstandlaw8.ArenaAlone", spec := "arenaAlone", unfollowed := true, recurses := true, apart := false, narrowed := true }
def ArenaAloneUptoSaid : Prop := arenaAloneUptoRow.holds Try.pinned (OpenSpec.upto arenaAloneSpec)

end Rows
end Go.Proofs.Ytfglpigoljclbaa
