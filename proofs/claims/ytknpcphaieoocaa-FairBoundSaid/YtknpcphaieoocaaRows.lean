/-
  No cell of these rows narrows 'for every input' (looked for: loops, veiled, ifaces, maps, wideKeys, modest, calm, conditions, laid).
  DERIVED. THE GIVEN ROWS OF THIS SEAT. 5 by the template 'for every input the law returns true; each argument reads behind the call as it read before'; 0 by the template 'total and deterministic' (their statements: YtknpcphaieoocaaTotals.lean).
  GIVEN WITH THE SEED: the statements are not yours to turn. If you find one false, say at which input.
  Laid BY PROGRAM, IN A SANDBOX (cutbox-rows.mjs): the forced cells as the released guide's own fill.sh prints them over the translation 6b10ad1c77bc1c99… (all of the seat's roots in one cut). By AI agents, Wed Nov 11 2026. No macro, syntax, notation, axiom, sorry.
-/
import Derived.Test.YtknpcphaieoocaaChecked
import GoSem.Claim
import GoSem.ClaimJoined
import GoSem.ClaimMapViews
import Derived.JoinedTies
import Derived.KernelRfl
namespace Go.Proofs.Ytknpcphaieoocaa
/- THE CELL 'sum', in the pinned program and in every row, IS THE sha256 OF THE DUMP (.gsa) THAT YtknpcphaieoocaaProg.lean LOADS. Nothing in Lean hashes anything: it is a label: what it is worth is what the hold of that sum in a sandbox is worth. -/
noncomputable def Try.pinned : Pinned := { name := "ytknpcphaieoocaa", sum := "6b10ad1c77bc1c993aa6935f3a42ab935fdef6540e7687799490945e4fbcee27", checked := Try.checked }
namespace Rows
def none {H : Type} : Left H := { results := [], args := [] }

/-- 'warehouselaw38.FairShares': WHATEVER THE INPUT: true; the input reads as it did. -/
def fairSharesSpec : ChangeSpec := { name := "fairShares", fn := fun _ => fun
  | [d1, d2, d3, d4, d5] => { results := [.lit (.bool true)], args := [d1, d2, d3, d4, d5] }
  | _ => none }
def fairSharesRow : OpenClaim := { program := "ytknpcphaieoocaa", sum := "6b10ad1c77bc1c993aa6935f3a42ab935fdef6540e7687799490945e4fbcee27", func := "warehouse/warehouselaw38.FairShares", spec := "fairShares", inPlace := ["internal/bytealg.abigen_runtime_cmpstring", "slices.overlaps[warehouse/api.Usage]"], unfollowed := true, recurses := true, apart := false }
def FairSharesSaid : Prop := fairSharesRow.holds Try.pinned (OpenSpec.ofChange fairSharesSpec)

/-- ITS FALSE NEIGHBOUR: 'it returns false'. Refute it at one input. -/
def fairSharesWrong : ChangeSpec := { name := "fairShares", fn := fun _ => fun
  | [d1, d2, d3, d4, d5] => { results := [.lit (.bool false)], args := [d1, d2, d3, d4, d5] }
  | _ => none }
def FairSharesWrongFalsely : Prop := fairSharesRow.holds Try.pinned (OpenSpec.ofChange fairSharesWrong)

/-- 'warehouselaw38.FairNext': WHATEVER THE INPUT: true; the input reads as it did. -/
def fairNextSpec : ChangeSpec := { name := "fairNext", fn := fun _ => fun
  | [d1, d2, d3, d4, d5, d6] => { results := [.lit (.bool true)], args := [d1, d2, d3, d4, d5, d6] }
  | _ => none }
def fairNextRow : OpenClaim := { program := "ytknpcphaieoocaa", sum := "6b10ad1c77bc1c993aa6935f3a42ab935fdef6540e7687799490945e4fbcee27", func := "warehouse/warehouselaw38.FairNext", spec := "fairNext", inPlace := ["internal/bytealg.abigen_runtime_cmpstring", "slices.overlaps[warehouse/api.Usage]"], unfollowed := true, recurses := true, apart := false }
def FairNextSaid : Prop := fairNextRow.holds Try.pinned (OpenSpec.ofChange fairNextSpec)

/-- ITS FALSE NEIGHBOUR: 'it returns false'. Refute it at one input. -/
def fairNextWrong : ChangeSpec := { name := "fairNext", fn := fun _ => fun
  | [d1, d2, d3, d4, d5, d6] => { results := [.lit (.bool false)], args := [d1, d2, d3, d4, d5, d6] }
  | _ => none }
def FairNextWrongFalsely : Prop := fairNextRow.holds Try.pinned (OpenSpec.ofChange fairNextWrong)

/-- 'warehouselaw38.FairFirst': WHATEVER THE INPUT: true; the input reads as it did. -/
def fairFirstSpec : ChangeSpec := { name := "fairFirst", fn := fun _ => fun
  | [d] => { results := [.lit (.bool true)], args := [d] }
  | _ => none }
def fairFirstRow : OpenClaim := { program := "ytknpcphaieoocaa", sum := "6b10ad1c77bc1c993aa6935f3a42ab935fdef6540e7687799490945e4fbcee27", func := "warehouse/warehouselaw38.FairFirst", spec := "fairFirst", inPlace := ["internal/bytealg.abigen_runtime_cmpstring", "slices.overlaps[warehouse/api.Usage]"], unfollowed := true, recurses := true, apart := false }
def FairFirstSaid : Prop := fairFirstRow.holds Try.pinned (OpenSpec.ofChange fairFirstSpec)

/-- ITS FALSE NEIGHBOUR: 'it returns false'. Refute it at one input. -/
def fairFirstWrong : ChangeSpec := { name := "fairFirst", fn := fun _ => fun
  | [d] => { results := [.lit (.bool false)], args := [d] }
  | _ => none }
def FairFirstWrongFalsely : Prop := fairFirstRow.holds Try.pinned (OpenSpec.ofChange fairFirstWrong)

/-- 'warehouselaw38.FairBound': WHATEVER THE INPUT: true; the input reads as it did. -/
def fairBoundSpec : ChangeSpec := { name := "fairBound", fn := fun _ => fun
  | [d1, d2] => { results := [.lit (.bool true)], args := [d1, d2] }
  | _ => none }
def fairBoundRow : OpenClaim := { program := "ytknpcphaieoocaa", sum := "6b10ad1c77bc1c993aa6935f3a42ab935fdef6540e7687799490945e4fbcee27", func := "warehouse/warehouselaw38.FairBound", spec := "fairBound", inPlace := ["internal/bytealg.abigen_runtime_cmpstring", "slices.overlaps[warehouse/api.Usage]"], unfollowed := true, recurses := true, apart := false }
def FairBoundSaid : Prop := fairBoundRow.holds Try.pinned (OpenSpec.ofChange fairBoundSpec)

/-- ITS FALSE NEIGHBOUR: 'it returns false'. Refute it at one input. -/
def fairBoundWrong : ChangeSpec := { name := "fairBound", fn := fun _ => fun
  | [d1, d2] => { results := [.lit (.bool false)], args := [d1, d2] }
  | _ => none }
def FairBoundWrongFalsely : Prop := fairBoundRow.holds Try.pinned (OpenSpec.ofChange fairBoundWrong)

/-- 'warehouselaw38.FairWaits': WHATEVER THE INPUT: true; the input reads as it did. -/
def fairWaitsSpec : ChangeSpec := { name := "fairWaits", fn := fun _ => fun
  | [d1, d2] => { results := [.lit (.bool true)], args := [d1, d2] }
  | _ => none }
def fairWaitsRow : OpenClaim := { program := "ytknpcphaieoocaa", sum := "6b10ad1c77bc1c993aa6935f3a42ab935fdef6540e7687799490945e4fbcee27", func := "warehouse/warehouselaw38.FairWaits", spec := "fairWaits", inPlace := ["internal/bytealg.abigen_runtime_cmpstring", "slices.overlaps[warehouse/api.Usage]"], unfollowed := true, recurses := true, apart := false }
def FairWaitsSaid : Prop := fairWaitsRow.holds Try.pinned (OpenSpec.ofChange fairWaitsSpec)

/-- ITS FALSE NEIGHBOUR: 'it returns false'. Refute it at one input. -/
def fairWaitsWrong : ChangeSpec := { name := "fairWaits", fn := fun _ => fun
  | [d1, d2] => { results := [.lit (.bool false)], args := [d1, d2] }
  | _ => none }
def FairWaitsWrongFalsely : Prop := fairWaitsRow.holds Try.pinned (OpenSpec.ofChange fairWaitsWrong)

/- THE SECOND FORM. 'bulk': how many values and letters a reading holds, each counted each time it is reached (what is shared counts as often as it is met; a slice's spare places count too). A statement '..UptoSaid' is the law's where the arguments, and the package variables that the reading takes, are together of bulk at most 1048576: NARROWER than '..Said'. Prove '..Said' where nothing that the law and all that it calls make is longer than what came in: it says more and counts as full. Else prove '..UptoSaid'. A law counts once. -/
mutual
def uptoBulk {H : Type} : DataW H → Nat
  | .lit (.string bytes) => bytes.length + 1
  | .lit _ => 1
  | .nil => 1
  | .ptr d => uptoBulk d + 1
  | .slice elems spare => uptoBulkAll elems + uptoBulkAll spare + 1
  | .agg parts => uptoBulkAll parts + 1
  | .iface _ d => uptoBulk d + 1
  | .map entries => uptoBulkEntries entries + 1
  | .held _ => 1
def uptoBulkAll {H : Type} : List (DataW H) → Nat
  | [] => 0
  | d :: r => uptoBulk d + uptoBulkAll r
def uptoBulkEntries {H : Type} : List (Lit × DataW H) → Nat
  | [] => 0
  | x :: r => uptoBulkEntry x + uptoBulkEntries r
def uptoBulkEntry {H : Type} : Lit × DataW H → Nat
  | (.string bytes, d) => bytes.length + uptoBulk d + 1
  | (_, d) => uptoBulk d + 1
 end
def uptoSmall : (H : Type) → List (DataW H) → Bool := fun _ ds => decide (uptoBulkAll ds ≤ 1048576)
def OpenSpec.upto (s : _root_.Go.ChangeSpec) : _root_.Go.OpenSpec := { _root_.Go.OpenSpec.ofChange s with cond := some uptoSmall }

/-- 'warehouselaw38.FairShares', WHERE WHAT IT READS IS OF BULK AT MOST 1048576: true; the input reads as it did. -/
def fairSharesUptoRow : OpenClaim := { program := "ytknpcphaieoocaa", sum := "6b10ad1c77bc1c993aa6935f3a42ab935fdef6540e7687799490945e4fbcee27", func := "warehouse/warehouselaw38.FairShares", spec := "fairShares", inPlace := ["internal/bytealg.abigen_runtime_cmpstring", "slices.overlaps[warehouse/api.Usage]"], unfollowed := true, recurses := true, apart := false, narrowed := true }
def FairSharesUptoSaid : Prop := fairSharesUptoRow.holds Try.pinned (OpenSpec.upto fairSharesSpec)

/-- 'warehouselaw38.FairNext', WHERE WHAT IT READS IS OF BULK AT MOST 1048576: true; the input reads as it did. -/
def fairNextUptoRow : OpenClaim := { program := "ytknpcphaieoocaa", sum := "6b10ad1c77bc1c993aa6935f3a42ab935fdef6540e7687799490945e4fbcee27", func := "warehouse/warehouselaw38.FairNext", spec := "fairNext", inPlace := ["internal/bytealg.abigen_runtime_cmpstring", "slices.overlaps[warehouse/api.Usage]"], unfollowed := true, recurses := true, apart := false, narrowed := true }
def FairNextUptoSaid : Prop := fairNextUptoRow.holds Try.pinned (OpenSpec.upto fairNextSpec)

/-- 'warehouselaw38.FairFirst', WHERE WHAT IT READS IS OF BULK AT MOST 1048576: true; the input reads as it did. -/
def fairFirstUptoRow : OpenClaim := { program := "ytknpcphaieoocaa", sum := "6b10ad1c77bc1c993aa6935f3a42ab935fdef6540e7687799490945e4fbcee27", func := "warehouse/warehouselaw38.FairFirst", spec := "fairFirst", inPlace := ["internal/bytealg.abigen_runtime_cmpstring", "slices.overlaps[warehouse/api.Usage]"], unfollowed := true, recurses := true, apart := false, narrowed := true }
def FairFirstUptoSaid : Prop := fairFirstUptoRow.holds Try.pinned (OpenSpec.upto fairFirstSpec)

/-- 'warehouselaw38.FairBound', WHERE WHAT IT READS IS OF BULK AT MOST 1048576: true; the input reads as it did. -/
def fairBoundUptoRow : OpenClaim := { program := "ytknpcphaieoocaa", sum := "6b10ad1c77bc1c993aa6935f3a42ab935fdef6540e7687799490945e4fbcee27", func := "warehouse/warehouselaw38.FairBound", spec := "fairBound", inPlace := ["internal/bytealg.abigen_runtime_cmpstring", "slices.overlaps[warehouse/api.Usage]"], unfollowed := true, recurses := true, apart := false, narrowed := true }
def FairBoundUptoSaid : Prop := fairBoundUptoRow.holds Try.pinned (OpenSpec.upto fairBoundSpec)

/-- 'warehouselaw38.FairWaits', WHERE WHAT IT READS IS OF BULK AT MOST 1048576: true; the input reads as it did. -/
def fairWaitsUptoRow : OpenClaim := { program := "ytknpcphaieoocaa", sum := "6b10ad1c77bc1c993aa6935f3a42ab935fdef6540e7687799490945e4fbcee27", func := "warehouse/warehouselaw38.FairWaits", spec := "fairWaits", inPlace := ["internal/bytealg.abigen_runtime_cmpstring", "slices.overlaps[warehouse/api.Usage]"], unfollowed := true, recurses := true, apart := false, narrowed := true }
def FairWaitsUptoSaid : Prop := fairWaitsUptoRow.holds Try.pinned (OpenSpec.upto fairWaitsSpec)

end Rows
end Go.Proofs.Ytknpcphaieoocaa
