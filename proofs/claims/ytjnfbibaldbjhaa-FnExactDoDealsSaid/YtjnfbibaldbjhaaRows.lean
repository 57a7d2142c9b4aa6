/-
  No cell of these rows narrows 'for every input' (looked for: loops, veiled, ifaces, maps, wideKeys, modest, calm, conditions, laid).
  DERIVED. THE GIVEN ROWS OF THIS SEAT. 8 by the template 'for every input the law returns true; each argument reads behind the call as it read before'; 0 by the template 'total and deterministic' (their statements: YtjnfbibaldbjhaaTotals.lean).
  GIVEN WITH THE SEED: the statements are not yours to turn. If you find one false, say at which input.
  Laid BY PROGRAM, IN A SANDBOX (cutbox-rows.mjs): the forced cells as the released guide's own fill.sh prints them over the translation 9725b45a5780da15… (all of the seat's roots in one cut). By AI agents, Wed Nov 11 2026. No macro, syntax, notation, axiom, sorry.
-/
import Derived.Test.YtjnfbibaldbjhaaChecked
import GoSem.Claim
import GoSem.ClaimJoined
import GoSem.ClaimMapViews
import Derived.JoinedTies
import Derived.KernelRfl
namespace Go.Proofs.Ytjnfbibaldbjhaa
/- THE CELL 'sum', in the pinned program and in every row, IS THE sha256 OF THE DUMP (.gsa) THAT YtjnfbibaldbjhaaProg.lean LOADS. Nothing in Lean hashes anything: it is a label: what it is worth is what the hold of that sum in a sandbox is worth. -/
noncomputable def Try.pinned : Pinned := { name := "ytjnfbibaldbjhaa", sum := "9725b45a5780da15bf3abaecf3dfcd0602974a1a1ecf640ae589fad8b3841e8e", checked := Try.checked }
namespace Rows
def none {H : Type} : Left H := { results := [], args := [] }

/-- 'laws.FnExactFirstWrong': WHATEVER THE INPUT: true; the input reads as it did. -/
def fnExactFirstWrongSpec : ChangeSpec := { name := "fnExactFirstWrong", fn := fun _ => fun
  | [d1, d2, d3] => { results := [.lit (.bool true)], args := [d1, d2, d3] }
  | _ => none }
def fnExactFirstWrongRow : OpenClaim := { program := "ytjnfbibaldbjhaa", sum := "9725b45a5780da15bf3abaecf3dfcd0602974a1a1ecf640ae589fad8b3841e8e", func := "loop.example/g01263/laws.FnExactFirstWrong", spec := "fnExactFirstWrong", unfollowed := true, recurses := true, apart := false }
def FnExactFirstWrongSaid : Prop := fnExactFirstWrongRow.holds Try.pinned (OpenSpec.ofChange fnExactFirstWrongSpec)

/-- ITS FALSE NEIGHBOUR: 'it returns false'. Refute it at one input. -/
def fnExactFirstWrongWrong : ChangeSpec := { name := "fnExactFirstWrong", fn := fun _ => fun
  | [d1, d2, d3] => { results := [.lit (.bool false)], args := [d1, d2, d3] }
  | _ => none }
def FnExactFirstWrongWrongFalsely : Prop := fnExactFirstWrongRow.holds Try.pinned (OpenSpec.ofChange fnExactFirstWrongWrong)

/-- 'laws.FnExactLongestHeld': WHATEVER THE INPUT: true; the input reads as it did. -/
def fnExactLongestHeldSpec : ChangeSpec := { name := "fnExactLongestHeld", fn := fun _ => fun
  | [d1, d2, d3] => { results := [.lit (.bool true)], args := [d1, d2, d3] }
  | _ => none }
def fnExactLongestHeldRow : OpenClaim := { program := "ytjnfbibaldbjhaa", sum := "9725b45a5780da15bf3abaecf3dfcd0602974a1a1ecf640ae589fad8b3841e8e", func := "loop.example/g01263/laws.FnExactLongestHeld", spec := "fnExactLongestHeld", unfollowed := true, recurses := true, apart := false }
def FnExactLongestHeldSaid : Prop := fnExactLongestHeldRow.holds Try.pinned (OpenSpec.ofChange fnExactLongestHeldSpec)

/-- ITS FALSE NEIGHBOUR: 'it returns false'. Refute it at one input. -/
def fnExactLongestHeldWrong : ChangeSpec := { name := "fnExactLongestHeld", fn := fun _ => fun
  | [d1, d2, d3] => { results := [.lit (.bool false)], args := [d1, d2, d3] }
  | _ => none }
def FnExactLongestHeldWrongFalsely : Prop := fnExactLongestHeldRow.holds Try.pinned (OpenSpec.ofChange fnExactLongestHeldWrong)

/-- 'laws.FnExactDoDeals': WHATEVER THE INPUT: true; the input reads as it did. -/
def fnExactDoDealsSpec : ChangeSpec := { name := "fnExactDoDeals", fn := fun _ => fun
  | [d1, d2] => { results := [.lit (.bool true)], args := [d1, d2] }
  | _ => none }
def fnExactDoDealsRow : OpenClaim := { program := "ytjnfbibaldbjhaa", sum := "9725b45a5780da15bf3abaecf3dfcd0602974a1a1ecf640ae589fad8b3841e8e", func := "loop.example/g01263/laws.FnExactDoDeals", spec := "fnExactDoDeals", unfollowed := true, recurses := true, apart := false }
def FnExactDoDealsSaid : Prop := fnExactDoDealsRow.holds Try.pinned (OpenSpec.ofChange fnExactDoDealsSpec)

/-- ITS FALSE NEIGHBOUR: 'it returns false'. Refute it at one input. -/
def fnExactDoDealsWrong : ChangeSpec := { name := "fnExactDoDeals", fn := fun _ => fun
  | [d1, d2] => { results := [.lit (.bool false)], args := [d1, d2] }
  | _ => none }
def FnExactDoDealsWrongFalsely : Prop := fnExactDoDealsRow.holds Try.pinned (OpenSpec.ofChange fnExactDoDealsWrong)

/-- 'laws.FnExactHistoryOf': WHATEVER THE INPUT: true; the input reads as it did. -/
def fnExactHistoryOfSpec : ChangeSpec := { name := "fnExactHistoryOf", fn := fun _ => fun
  | [d1, d2, d3] => { results := [.lit (.bool true)], args := [d1, d2, d3] }
  | _ => none }
def fnExactHistoryOfRow : OpenClaim := { program := "ytjnfbibaldbjhaa", sum := "9725b45a5780da15bf3abaecf3dfcd0602974a1a1ecf640ae589fad8b3841e8e", func := "loop.example/g01263/laws.FnExactHistoryOf", spec := "fnExactHistoryOf", unfollowed := true, recurses := true, apart := false }
def FnExactHistoryOfSaid : Prop := fnExactHistoryOfRow.holds Try.pinned (OpenSpec.ofChange fnExactHistoryOfSpec)

/-- ITS FALSE NEIGHBOUR: 'it returns false'. Refute it at one input. -/
def fnExactHistoryOfWrong : ChangeSpec := { name := "fnExactHistoryOf", fn := fun _ => fun
  | [d1, d2, d3] => { results := [.lit (.bool false)], args := [d1, d2, d3] }
  | _ => none }
def FnExactHistoryOfWrongFalsely : Prop := fnExactHistoryOfRow.holds Try.pinned (OpenSpec.ofChange fnExactHistoryOfWrong)

/-- 'laws.FnExactStateOn': WHATEVER THE INPUT: true; the input reads as it did. -/
def fnExactStateOnSpec : ChangeSpec := { name := "fnExactStateOn", fn := fun _ => fun
  | [d1, d2, d3] => { results := [.lit (.bool true)], args := [d1, d2, d3] }
  | _ => none }
def fnExactStateOnRow : OpenClaim := { program := "ytjnfbibaldbjhaa", sum := "9725b45a5780da15bf3abaecf3dfcd0602974a1a1ecf640ae589fad8b3841e8e", func := "loop.example/g01263/laws.FnExactStateOn", spec := "fnExactStateOn", unfollowed := true, recurses := true, apart := false }
def FnExactStateOnSaid : Prop := fnExactStateOnRow.holds Try.pinned (OpenSpec.ofChange fnExactStateOnSpec)

/-- ITS FALSE NEIGHBOUR: 'it returns false'. Refute it at one input. -/
def fnExactStateOnWrong : ChangeSpec := { name := "fnExactStateOn", fn := fun _ => fun
  | [d1, d2, d3] => { results := [.lit (.bool false)], args := [d1, d2, d3] }
  | _ => none }
def FnExactStateOnWrongFalsely : Prop := fnExactStateOnRow.holds Try.pinned (OpenSpec.ofChange fnExactStateOnWrong)

/-- 'laws.FnExactWorthsOn': WHATEVER THE INPUT: true; the input reads as it did. -/
def fnExactWorthsOnSpec : ChangeSpec := { name := "fnExactWorthsOn", fn := fun _ => fun
  | [d1, d2, d3, d4] => { results := [.lit (.bool true)], args := [d1, d2, d3, d4] }
  | _ => none }
def fnExactWorthsOnRow : OpenClaim := { program := "ytjnfbibaldbjhaa", sum := "9725b45a5780da15bf3abaecf3dfcd0602974a1a1ecf640ae589fad8b3841e8e", func := "loop.example/g01263/laws.FnExactWorthsOn", spec := "fnExactWorthsOn", unfollowed := true, recurses := true, apart := false }
def FnExactWorthsOnSaid : Prop := fnExactWorthsOnRow.holds Try.pinned (OpenSpec.ofChange fnExactWorthsOnSpec)

/-- ITS FALSE NEIGHBOUR: 'it returns false'. Refute it at one input. -/
def fnExactWorthsOnWrong : ChangeSpec := { name := "fnExactWorthsOn", fn := fun _ => fun
  | [d1, d2, d3, d4] => { results := [.lit (.bool false)], args := [d1, d2, d3, d4] }
  | _ => none }
def FnExactWorthsOnWrongFalsely : Prop := fnExactWorthsOnRow.holds Try.pinned (OpenSpec.ofChange fnExactWorthsOnWrong)

/-- 'laws.FnBooks': WHATEVER THE INPUT: true; the input reads as it did. -/
def fnBooksSpec : ChangeSpec := { name := "fnBooks", fn := fun _ => fun
  | [d] => { results := [.lit (.bool true)], args := [d] }
  | _ => none }
def fnBooksRow : OpenClaim := { program := "ytjnfbibaldbjhaa", sum := "9725b45a5780da15bf3abaecf3dfcd0602974a1a1ecf640ae589fad8b3841e8e", func := "loop.example/g01263/laws.FnBooks", spec := "fnBooks", unfollowed := true, recurses := true, apart := false }
def FnBooksSaid : Prop := fnBooksRow.holds Try.pinned (OpenSpec.ofChange fnBooksSpec)

/-- ITS FALSE NEIGHBOUR: 'it returns false'. Refute it at one input. -/
def fnBooksWrong : ChangeSpec := { name := "fnBooks", fn := fun _ => fun
  | [d] => { results := [.lit (.bool false)], args := [d] }
  | _ => none }
def FnBooksWrongFalsely : Prop := fnBooksRow.holds Try.pinned (OpenSpec.ofChange fnBooksWrong)

/-- 'laws.FnDays': WHATEVER THE INPUT: true; the input reads as it did. -/
def fnDaysSpec : ChangeSpec := { name := "fnDays", fn := fun _ => fun
  | [d1, d2] => { results := [.lit (.bool true)], args := [d1, d2] }
  | _ => none }
def fnDaysRow : OpenClaim := { program := "ytjnfbibaldbjhaa", sum := "9725b45a5780da15bf3abaecf3dfcd0602974a1a1ecf640ae589fad8b3841e8e", func := "loop.example/g01263/laws.FnDays", spec := "fnDays", unfollowed := true, recurses := true, apart := false }
def FnDaysSaid : Prop := fnDaysRow.holds Try.pinned (OpenSpec.ofChange fnDaysSpec)

/-- ITS FALSE NEIGHBOUR: 'it returns false'. Refute it at one input. -/
def fnDaysWrong : ChangeSpec := { name := "fnDays", fn := fun _ => fun
  | [d1, d2] => { results := [.lit (.bool false)], args := [d1, d2] }
  | _ => none }
def FnDaysWrongFalsely : Prop := fnDaysRow.holds Try.pinned (OpenSpec.ofChange fnDaysWrong)

/- THE SECOND FORM. 'bulk': how many values and letters a reading holds, each counted each time it is reached (what is shared counts as often as it is met; a slice's spare places count too). A statement '..UptoSaid' is the law's where the arguments, and the package variables that the reading takes, are together of bulk at most 1048576: NARROWER than '..Said'. Prove '..Said' where nothing that the law and all that it calls make is longer than what came in: it says more and counts as full. Else prove '..UptoSaid'. A law counts once. -/
mutual
def uptoBulk {H : Type} : DataW H → Nat
  | .lit (.string bytes) => bytes.length + 1
  | .lit _ => 1
  | .nil => 1
  | .ptr d => uptoBulk d + 1
  | .slice elems spare => uptoBulkAll elems + uptoBulkAll spare + 1
  | .agg parts => uptoBulkAll parts + 1
  | .iface _ d => uptoBulk d + 1
  | .map entries => uptoBulkEntries entries + 1
  | .held _ => 1
def uptoBulkAll {H : Type} : List (DataW H) → Nat
  | [] => 0
  | d :: r => uptoBulk d + uptoBulkAll r
def uptoBulkEntries {H : Type} : List (Lit × DataW H) → Nat
  | [] => 0
  | x :: r => uptoBulkEntry x + uptoBulkEntries r
def uptoBulkEntry {H : Type} : Lit × DataW H → Nat
  | (.string bytes, d) => bytes.length + uptoBulk d + 1
  | (_, d) => uptoBulk d + 1
 end
def uptoSmall : (H : Type) → List (DataW H) → Bool := fun _ ds => decide (uptoBulkAll ds ≤ 1048576)
def OpenSpec.upto (s : _root_.Go.ChangeSpec) : _root_.Go.OpenSpec := { _root_.Go.OpenSpec.ofChange s with cond := some uptoSmall }

/-- 'laws.FnExactFirstWrong', WHERE WHAT IT READS IS OF BULK AT MOST 1048576: true; the input reads as it did. -/
def fnExactFirstWrongUptoRow : OpenClaim := { program := "ytjnfbibaldbjhaa", sum := "9725b45a5780da15bf3abaecf3dfcd0602974a1a1ecf640ae589fad8b3841e8e", func := "loop.example/g01263/laws.FnExactFirstWrong", spec := "fnExactFirstWrong", unfollowed := true, recurses := true, apart := false, narrowed := true }
def FnExactFirstWrongUptoSaid : Prop := fnExactFirstWrongUptoRow.holds Try.pinned (OpenSpec.upto fnExactFirstWrongSpec)

/-- 'laws.FnExactLongestHeld', WHERE WHAT IT READS IS OF BULK AT MOST 1048576: true; the input reads as it did. -/
def fnExactLongestHeldUptoRow : OpenClaim := { program := "ytjnfbibaldbjhaa", sum := "9725b45a5780da15bf3abaecf3dfcd0602974a1a1ecf640ae589fad8b3841e8e", func := "loop.example/g01263/laws.FnExactLongestHeld", spec := "fnExactLongestHeld", unfollowed := true, recurses := true, apart := false, narrowed := true }
def FnExactLongestHeldUptoSaid : Prop := fnExactLongestHeldUptoRow.holds Try.pinned (OpenSpec.upto fnExactLongestHeldSpec)

/-- 'laws.FnExactDoDeals', WHERE WHAT IT READS IS OF BULK AT MOST 1048576: true; the input reads as it did. -/
def fnExactDoDealsUptoRow : OpenClaim := { program := "ytjnfbibaldbjhaa", sum := "9725b45a5780da15bf3abaecf3dfcd0602974a1a1ecf640ae589fad8b3841e8e", func := "loop.example/g01263/laws.FnExactDoDeals", spec := "fnExactDoDeals", unfollowed := true, recurses := true, apart := false, narrowed := true }
def FnExactDoDealsUptoSaid : Prop := fnExactDoDealsUptoRow.holds Try.pinned (OpenSpec.upto fnExactDoDealsSpec)

/-- 'laws.FnExactHistoryOf', WHERE WHAT IT READS IS OF BULK AT MOST 1048576: true; the input reads as it did. -/
def fnExactHistoryOfUptoRow : OpenClaim := { program := "ytjnfbibaldbjhaa", sum := "9725b45a5780da15bf3abaecf3dfcd0602974a1a1ecf640ae589fad8b3841e8e", func := "loop.example/g01263/laws.FnExactHistoryOf", spec := "fnExactHistoryOf", unfollowed := true, recurses := true, apart := false, narrowed := true }
def FnExactHistoryOfUptoSaid : Prop := fnExactHistoryOfUptoRow.holds Try.pinned (OpenSpec.upto fnExactHistoryOfSpec)

/-- 'laws.FnExactStateOn', WHERE WHAT IT READS IS OF BULK AT MOST 1048576: true; the input reads as it did. -/
def fnExactStateOnUptoRow : OpenClaim := { program := "ytjnfbibaldbjhaa", sum := "9725b45a5780da15bf3abaecf3dfcd0602974a1a1ecf640ae589fad8b3841e8e", func := "loop.example/g01263/laws.FnExactStateOn", spec := "fnExactStateOn", unfollowed := true, recurses := true, apart := false, narrowed := true }
def FnExactStateOnUptoSaid : Prop := fnExactStateOnUptoRow.holds Try.pinned (OpenSpec.upto fnExactStateOnSpec)

/-- 'laws.FnExactWorthsOn', WHERE WHAT IT READS IS OF BULK AT MOST 1048576: true; the input reads as it did. -/
def fnExactWorthsOnUptoRow : OpenClaim := { program := "ytjnfbibaldbjhaa", sum := "9725b45a5780da15bf3abaecf3dfcd0602974a1a1ecf640ae589fad8b3841e8e", func := "loop.example/g01263/laws.FnExactWorthsOn", spec := "fnExactWorthsOn", unfollowed := true, recurses := true, apart := false, narrowed := true }
def FnExactWorthsOnUptoSaid : Prop := fnExactWorthsOnUptoRow.holds Try.pinned (OpenSpec.upto fnExactWorthsOnSpec)

/-- 'laws.FnBooks', WHERE WHAT IT READS IS OF BULK AT MOST 1048576: true; the input reads as it did. -/
def fnBooksUptoRow : OpenClaim := { program := "ytjnfbibaldbjhaa", sum := "9725b45a5780da15bf3abaecf3dfcd0602974a1a1ecf640ae589fad8b3841e8e", func := "loop.example/g01263/laws.FnBooks", spec := "fnBooks", unfollowed := true, recurses := true, apart := false, narrowed := true }
def FnBooksUptoSaid : Prop := fnBooksUptoRow.holds Try.pinned (OpenSpec.upto fnBooksSpec)

/-- 'laws.FnDays', WHERE WHAT IT READS IS OF BULK AT MOST 1048576: true; the input reads as it did. -/
def fnDaysUptoRow : OpenClaim := { program := "ytjnfbibaldbjhaa", sum := "9725b45a5780da15bf3abaecf3dfcd0602974a1a1ecf640ae589fad8b3841e8e", func := "loop.example/g01263/laws.FnDays", spec := "fnDays", unfollowed := true, recurses := true, apart := false, narrowed := true }
def FnDaysUptoSaid : Prop := fnDaysUptoRow.holds Try.pinned (OpenSpec.upto fnDaysSpec)

end Rows
end Go.Proofs.Ytjnfbibaldbjhaa
