/-
  NARROWER THAN 'FOR EVERY INPUT', by the rows' own cells (each row's printed sentence says how): TopDerives: laid · TopPushes: laid · TopUnions: laid · TopJoins: laid · TopGroups: laid · TopRanks: laid.
  DERIVED. THE GIVEN ROWS OF THIS SEAT. 6 by the template 'for every input the law returns true; each argument reads behind the call as it read before'; 0 by the template 'total and deterministic' (their statements: YthcalfeoejdcgaaGreatDoorTotals.lean).
  GIVEN WITH THE SEED: the statements are not yours to turn. If you find one false, say at which input.
  Laid BY PROGRAM, IN A SANDBOX (cutbox-rows.mjs): the forced cells as the released guide's own fill.sh prints them over the translation c5e5da305885a884… (all of the seat's roots in one cut). By AI agents, Wed Nov 11 2026. No macro, syntax, notation, axiom, sorry.
-/
import Derived.Test.YthcalfeoejdcgaaGreatDoorChecked
import GoSem.Claim
import GoSem.ClaimJoined
import GoSem.ClaimMapViews
import Derived.JoinedTies
import Derived.KernelRfl
namespace Go.Proofs.YthcalfeoejdcgaaGreatDoor
/- THE CELL 'sum', in the pinned program and in every row, IS THE sha256 OF THE DUMP (.gsa) THAT YthcalfeoejdcgaaGreatDoorProg.lean LOADS. Nothing in Lean hashes anything: it is a label: what it is worth is what the hold of that sum in a sandbox is worth. -/
noncomputable def Tryz.pinned : Pinned := { name := "ythcalfeoejdcgaagreatdoor", sum := "c5e5da305885a884c14a433499dd2e9dc7a63a85412967d557a1364d9074dbc5", checked := Tryz.checked }
namespace Rows
def none {H : Type} : Left H := { results := [], args := [] }

/- WHAT THE LISTED PACKAGE-LEVEL VARIABLES READ AS WHEN THE CALL BEGINS. Each datum BY PROGRAM (the guide's laid-datum.mjs) off the statement by which the dump's own 'gosem.cut.vars' lays the variable. In a bare row this is a premise. The card (YthcalfeoejdcgaaGreatDoorCards.lean) ties it to the program's text. -/
def laid_warehouse_civil_lengths {H : Type} : DataW H := .agg [.lit (.int .i64 31), .lit (.int .i64 28), .lit (.int .i64 31), .lit (.int .i64 30), .lit (.int .i64 31), .lit (.int .i64 30), .lit (.int .i64 31), .lit (.int .i64 31), .lit (.int .i64 30), .lit (.int .i64 31), .lit (.int .i64 30), .lit (.int .i64 31)]
def laid_warehouse_token_words {H : Type} : DataW H := .slice [.lit (.string [97, 110, 100]), .lit (.string [111, 114]), .lit (.string [110, 111, 116]), .lit (.string [110, 117, 108, 108]), .lit (.string [116, 114, 117, 101]), .lit (.string [102, 97, 108, 115, 101]), .lit (.string [98, 121]), .lit (.string [115, 101, 108, 102])] []
def laid_warehouse_token_symbols {H : Type} : DataW H := .slice [.lit (.string [43, 43]), .lit (.string [60, 61]), .lit (.string [62, 61]), .lit (.string [33, 61]), .lit (.string [40]), .lit (.string [41]), .lit (.string [44]), .lit (.string [59]), .lit (.string [58]), .lit (.string [124]), .lit (.string [61]), .lit (.string [43]), .lit (.string [45]), .lit (.string [42]), .lit (.string [47]), .lit (.string [37]), .lit (.string [60]), .lit (.string [62])] []
def laid_warehouse_query_used {H : Type} : DataW H := .agg [.agg [.lit (.bool true), .lit (.bool false), .lit (.bool false), .lit (.bool false), .lit (.bool false)], .agg [.lit (.bool false), .lit (.bool false), .lit (.bool false), .lit (.bool false), .lit (.bool true)], .agg [.lit (.bool false), .lit (.bool false), .lit (.bool false), .lit (.bool true), .lit (.bool false)], .agg [.lit (.bool false), .lit (.bool true), .lit (.bool false), .lit (.bool false), .lit (.bool false)], .agg [.lit (.bool true), .lit (.bool true), .lit (.bool true), .lit (.bool true), .lit (.bool false)], .agg [.lit (.bool true), .lit (.bool true), .lit (.bool true), .lit (.bool true), .lit (.bool false)], .agg [.lit (.bool true), .lit (.bool true), .lit (.bool true), .lit (.bool false), .lit (.bool false)], .agg [.lit (.bool true), .lit (.bool true), .lit (.bool true), .lit (.bool false), .lit (.bool false)], .agg [.lit (.bool true), .lit (.bool false), .lit (.bool false), .lit (.bool false), .lit (.bool false)], .agg [.lit (.bool true), .lit (.bool false), .lit (.bool false), .lit (.bool false), .lit (.bool false)], .agg [.lit (.bool false), .lit (.bool false), .lit (.bool false), .lit (.bool false), .lit (.bool false)], .agg [.lit (.bool false), .lit (.bool true), .lit (.bool false), .lit (.bool true), .lit (.bool false)], .agg [.lit (.bool false), .lit (.bool true), .lit (.bool true), .lit (.bool true), .lit (.bool false)]]

/-- 'warehousetop.TopDerives': WHATEVER THE INPUT: true; the input reads as it did. -/
def topDerivesSpec : ChangeSpec := { name := "topDerives", fn := fun _ => fun
  | [d1, d2, d3] => { results := [.lit (.bool true)], args := [d1, d2, d3] }
  | _ => none }
def topDerivesRow : OpenClaim := { program := "ythcalfeoejdcgaagreatdoor", sum := "c5e5da305885a884c14a433499dd2e9dc7a63a85412967d557a1364d9074dbc5", func := "warehouse/warehousetop.TopDerives", spec := "topDerives", inPlace := ["internal/bytealg.IndexByteString", "internal/bytealg.IndexString"], unfollowed := true, recurses := true, named := ["warehouse/token.symbols", "warehouse/civil.lengths", "internal/bytealg.MaxLen", "warehouse/token.words", "warehouse/query.used"], apart := false, laid := [("warehouse/civil.lengths", laid_warehouse_civil_lengths), ("warehouse/token.words", laid_warehouse_token_words), ("warehouse/token.symbols", laid_warehouse_token_symbols), ("warehouse/query.used", laid_warehouse_query_used)] }
def TopDerivesSaid : Prop := topDerivesRow.holds Tryz.pinned (OpenSpec.ofChange topDerivesSpec)

/-- ITS FALSE NEIGHBOUR: 'it returns false'. Refute it at one input. -/
def topDerivesWrong : ChangeSpec := { name := "topDerives", fn := fun _ => fun
  | [d1, d2, d3] => { results := [.lit (.bool false)], args := [d1, d2, d3] }
  | _ => none }
def TopDerivesWrongFalsely : Prop := topDerivesRow.holds Tryz.pinned (OpenSpec.ofChange topDerivesWrong)

/-- 'warehousetop.TopPushes': WHATEVER THE INPUT: true; the input reads as it did. -/
def topPushesSpec : ChangeSpec := { name := "topPushes", fn := fun _ => fun
  | [d1, d2, d3] => { results := [.lit (.bool true)], args := [d1, d2, d3] }
  | _ => none }
def topPushesRow : OpenClaim := { program := "ythcalfeoejdcgaagreatdoor", sum := "c5e5da305885a884c14a433499dd2e9dc7a63a85412967d557a1364d9074dbc5", func := "warehouse/warehousetop.TopPushes", spec := "topPushes", inPlace := ["internal/bytealg.IndexByteString", "internal/bytealg.IndexString"], unfollowed := true, recurses := true, named := ["warehouse/query.used", "internal/bytealg.MaxLen", "warehouse/token.words", "warehouse/token.symbols", "warehouse/civil.lengths"], apart := false, laid := [("warehouse/civil.lengths", laid_warehouse_civil_lengths), ("warehouse/token.words", laid_warehouse_token_words), ("warehouse/token.symbols", laid_warehouse_token_symbols), ("warehouse/query.used", laid_warehouse_query_used)] }
def TopPushesSaid : Prop := topPushesRow.holds Tryz.pinned (OpenSpec.ofChange topPushesSpec)

/-- ITS FALSE NEIGHBOUR: 'it returns false'. Refute it at one input. -/
def topPushesWrong : ChangeSpec := { name := "topPushes", fn := fun _ => fun
  | [d1, d2, d3] => { results := [.lit (.bool false)], args := [d1, d2, d3] }
  | _ => none }
def TopPushesWrongFalsely : Prop := topPushesRow.holds Tryz.pinned (OpenSpec.ofChange topPushesWrong)

/-- 'warehousetop.TopUnions': WHATEVER THE INPUT: true; the input reads as it did. -/
def topUnionsSpec : ChangeSpec := { name := "topUnions", fn := fun _ => fun
  | [d1, d2, d3] => { results := [.lit (.bool true)], args := [d1, d2, d3] }
  | _ => none }
def topUnionsRow : OpenClaim := { program := "ythcalfeoejdcgaagreatdoor", sum := "c5e5da305885a884c14a433499dd2e9dc7a63a85412967d557a1364d9074dbc5", func := "warehouse/warehousetop.TopUnions", spec := "topUnions", inPlace := ["internal/bytealg.IndexByteString", "internal/bytealg.IndexString"], unfollowed := true, recurses := true, named := ["warehouse/query.used", "internal/bytealg.MaxLen", "warehouse/token.words", "warehouse/token.symbols", "warehouse/civil.lengths"], apart := false, laid := [("warehouse/civil.lengths", laid_warehouse_civil_lengths), ("warehouse/token.words", laid_warehouse_token_words), ("warehouse/token.symbols", laid_warehouse_token_symbols), ("warehouse/query.used", laid_warehouse_query_used)] }
def TopUnionsSaid : Prop := topUnionsRow.holds Tryz.pinned (OpenSpec.ofChange topUnionsSpec)

/-- ITS FALSE NEIGHBOUR: 'it returns false'. Refute it at one input. -/
def topUnionsWrong : ChangeSpec := { name := "topUnions", fn := fun _ => fun
  | [d1, d2, d3] => { results := [.lit (.bool false)], args := [d1, d2, d3] }
  | _ => none }
def TopUnionsWrongFalsely : Prop := topUnionsRow.holds Tryz.pinned (OpenSpec.ofChange topUnionsWrong)

/-- 'warehousetop.TopJoins': WHATEVER THE INPUT: true; the input reads as it did. -/
def topJoinsSpec : ChangeSpec := { name := "topJoins", fn := fun _ => fun
  | [d1, d2] => { results := [.lit (.bool true)], args := [d1, d2] }
  | _ => none }
def topJoinsRow : OpenClaim := { program := "ythcalfeoejdcgaagreatdoor", sum := "c5e5da305885a884c14a433499dd2e9dc7a63a85412967d557a1364d9074dbc5", func := "warehouse/warehousetop.TopJoins", spec := "topJoins", inPlace := ["internal/bytealg.IndexByteString", "internal/bytealg.IndexString"], unfollowed := true, recurses := true, named := ["warehouse/query.used", "internal/bytealg.MaxLen", "warehouse/token.words", "warehouse/token.symbols", "warehouse/civil.lengths"], apart := false, laid := [("warehouse/civil.lengths", laid_warehouse_civil_lengths), ("warehouse/token.words", laid_warehouse_token_words), ("warehouse/token.symbols", laid_warehouse_token_symbols), ("warehouse/query.used", laid_warehouse_query_used)] }
def TopJoinsSaid : Prop := topJoinsRow.holds Tryz.pinned (OpenSpec.ofChange topJoinsSpec)

/-- ITS FALSE NEIGHBOUR: 'it returns false'. Refute it at one input. -/
def topJoinsWrong : ChangeSpec := { name := "topJoins", fn := fun _ => fun
  | [d1, d2] => { results := [.lit (.bool false)], args := [d1, d2] }
  | _ => none }
def TopJoinsWrongFalsely : Prop := topJoinsRow.holds Tryz.pinned (OpenSpec.ofChange topJoinsWrong)

/-- 'warehousetop.TopGroups': WHATEVER THE INPUT: true; the input reads as it did. -/
def topGroupsSpec : ChangeSpec := { name := "topGroups", fn := fun _ => fun
  | [d1, d2] => { results := [.lit (.bool true)], args := [d1, d2] }
  | _ => none }
def topGroupsRow : OpenClaim := { program := "ythcalfeoejdcgaagreatdoor", sum := "c5e5da305885a884c14a433499dd2e9dc7a63a85412967d557a1364d9074dbc5", func := "warehouse/warehousetop.TopGroups", spec := "topGroups", inPlace := ["internal/bytealg.IndexByteString", "internal/bytealg.IndexString"], unfollowed := true, recurses := true, named := ["warehouse/query.used", "internal/bytealg.MaxLen", "warehouse/token.words", "warehouse/token.symbols", "warehouse/civil.lengths"], apart := false, laid := [("warehouse/civil.lengths", laid_warehouse_civil_lengths), ("warehouse/token.words", laid_warehouse_token_words), ("warehouse/token.symbols", laid_warehouse_token_symbols), ("warehouse/query.used", laid_warehouse_query_used)] }
def TopGroupsSaid : Prop := topGroupsRow.holds Tryz.pinned (OpenSpec.ofChange topGroupsSpec)

/-- ITS FALSE NEIGHBOUR: 'it returns false'. Refute it at one input. -/
def topGroupsWrong : ChangeSpec := { name := "topGroups", fn := fun _ => fun
  | [d1, d2] => { results := [.lit (.bool false)], args := [d1, d2] }
  | _ => none }
def TopGroupsWrongFalsely : Prop := topGroupsRow.holds Tryz.pinned (OpenSpec.ofChange topGroupsWrong)

/-- 'warehousetop.TopRanks': WHATEVER THE INPUT: true; the input reads as it did. -/
def topRanksSpec : ChangeSpec := { name := "topRanks", fn := fun _ => fun
  | [d1, d2] => { results := [.lit (.bool true)], args := [d1, d2] }
  | _ => none }
def topRanksRow : OpenClaim := { program := "ythcalfeoejdcgaagreatdoor", sum := "c5e5da305885a884c14a433499dd2e9dc7a63a85412967d557a1364d9074dbc5", func := "warehouse/warehousetop.TopRanks", spec := "topRanks", inPlace := ["internal/bytealg.IndexByteString", "internal/bytealg.IndexString"], unfollowed := true, recurses := true, named := ["warehouse/query.used", "internal/bytealg.MaxLen", "warehouse/token.words", "warehouse/token.symbols", "warehouse/civil.lengths"], apart := false, laid := [("warehouse/civil.lengths", laid_warehouse_civil_lengths), ("warehouse/token.words", laid_warehouse_token_words), ("warehouse/token.symbols", laid_warehouse_token_symbols), ("warehouse/query.used", laid_warehouse_query_used)] }
def TopRanksSaid : Prop := topRanksRow.holds Tryz.pinned (OpenSpec.ofChange topRanksSpec)

/-- ITS FALSE NEIGHBOUR: 'it returns false'. Refute it at one input. -/
def topRanksWrong : ChangeSpec := { name := "topRanks", fn := fun _ => fun
  | [d1, d2] => { results := [.lit (.bool false)], args := [d1, d2] }
  | _ => none }
def TopRanksWrongFalsely : Prop := topRanksRow.holds Tryz.pinned (OpenSpec.ofChange topRanksWrong)

/- THE SECOND FORM. 'bulk': how many values and letters a reading holds, each counted each time it is reached (what is shared counts as often as it is met; a slice's spare places count too). A statement '..UptoSaid' is the law's where the arguments, and the package variables that the reading takes, are together of bulk at most 1048576: NARROWER than '..Said'. Prove '..Said' where nothing that the law and all that it calls make is longer than what came in: it says more and counts as full. Else prove '..UptoSaid'. A law counts once. -/
mutual
def uptoBulk {H : Type} : DataW H → Nat
  | .lit (.string bytes) => bytes.length + 1
  | .lit _ => 1
  | .nil => 1
  | .ptr d => uptoBulk d + 1
  | .slice elems spare => uptoBulkAll elems + uptoBulkAll spare + 1
  | .agg parts => uptoBulkAll parts + 1
  | .iface _ d => uptoBulk d + 1
  | .map entries => uptoBulkEntries entries + 1
  | .held _ => 1
def uptoBulkAll {H : Type} : List (DataW H) → Nat
  | [] => 0
  | d :: r => uptoBulk d + uptoBulkAll r
def uptoBulkEntries {H : Type} : List (Lit × DataW H) → Nat
  | [] => 0
  | x :: r => uptoBulkEntry x + uptoBulkEntries r
def uptoBulkEntry {H : Type} : Lit × DataW H → Nat
  | (.string bytes, d) => bytes.length + uptoBulk d + 1
  | (_, d) => uptoBulk d + 1
 end
def uptoSmall : (H : Type) → List (DataW H) → Bool := fun _ ds => decide (uptoBulkAll ds ≤ 1048576)
def OpenSpec.upto (s : _root_.Go.ChangeSpec) : _root_.Go.OpenSpec := { _root_.Go.OpenSpec.ofChange s with cond := some uptoSmall }

/-- 'warehousetop.TopDerives', WHERE WHAT IT READS IS OF BULK AT MOST 1048576: true; the input reads as it did. -/
def topDerivesUptoRow : OpenClaim := { program := "ythcalfeoejdcgaagreatdoor", sum := "c5e5da305885a884c14a433499dd2e9dc7a63a85412967d557a1364d9074dbc5", func := "warehouse/warehousetop.TopDerives", spec := "topDerives", inPlace := ["internal/bytealg.IndexByteString", "internal/bytealg.IndexString"], unfollowed := true, recurses := true, named := ["warehouse/token.symbols", "warehouse/civil.lengths", "internal/bytealg.MaxLen", "warehouse/token.words", "warehouse/query.used"], apart := false, laid := [("warehouse/civil.lengths", laid_warehouse_civil_lengths), ("warehouse/token.words", laid_warehouse_token_words), ("warehouse/token.symbols", laid_warehouse_token_symbols), ("warehouse/query.used", laid_warehouse_query_used)], narrowed := true }
def TopDerivesUptoSaid : Prop := topDerivesUptoRow.holds Tryz.pinned (OpenSpec.upto topDerivesSpec)

/-- 'warehousetop.TopPushes', WHERE WHAT IT READS IS OF BULK AT MOST 1048576: true; the input reads as it did. -/
def topPushesUptoRow : OpenClaim := { program := "ythcalfeoejdcgaagreatdoor", sum := "c5e5da305885a884c14a433499dd2e9dc7a63a85412967d557a1364d9074dbc5", func := "warehouse/warehousetop.TopPushes", spec := "topPushes", inPlace := ["internal/bytealg.IndexByteString", "internal/bytealg.IndexString"], unfollowed := true, recurses := true, named := ["warehouse/query.used", "internal/bytealg.MaxLen", "warehouse/token.words", "warehouse/token.symbols", "warehouse/civil.lengths"], apart := false, laid := [("warehouse/civil.lengths", laid_warehouse_civil_lengths), ("warehouse/token.words", laid_warehouse_token_words), ("warehouse/token.symbols", laid_warehouse_token_symbols), ("warehouse/query.used", laid_warehouse_query_used)], narrowed := true }
def TopPushesUptoSaid : Prop := topPushesUptoRow.holds Tryz.pinned (OpenSpec.upto topPushesSpec)

/-- 'warehousetop.TopUnions', WHERE WHAT IT READS IS OF BULK AT MOST 1048576: true; the input reads as it did. -/
def topUnionsUptoRow : OpenClaim := { program := "ythcalfeoejdcgaagreatdoor", sum := "c5e5da305885a884c14a433499dd2e9dc7a63a85412967d557a1364d9074dbc5", func := "warehouse/warehousetop.TopUnions", spec := "topUnions", inPlace := ["internal/bytealg.IndexByteString", "internal/bytealg.IndexString"], unfollowed := true, recurses := true, named := ["warehouse/query.used", "internal/bytealg.MaxLen", "warehouse/token.words", "warehouse/token.symbols", "warehouse/civil.lengths"], apart := false, laid := [("warehouse/civil.lengths", laid_warehouse_civil_lengths), ("warehouse/token.words", laid_warehouse_token_words), ("warehouse/token.symbols", laid_warehouse_token_symbols), ("warehouse/query.used", laid_warehouse_query_used)], narrowed := true }
def TopUnionsUptoSaid : Prop := topUnionsUptoRow.holds Tryz.pinned (OpenSpec.upto topUnionsSpec)

/-- 'warehousetop.TopJoins', WHERE WHAT IT READS IS OF BULK AT MOST 1048576: true; the input reads as it did. -/
def topJoinsUptoRow : OpenClaim := { program := "ythcalfeoejdcgaagreatdoor", sum := "c5e5da305885a884c14a433499dd2e9dc7a63a85412967d557a1364d9074dbc5", func := "warehouse/warehousetop.TopJoins", spec := "topJoins", inPlace := ["internal/bytealg.IndexByteString", "internal/bytealg.IndexString"], unfollowed := true, recurses := true, named := ["warehouse/query.used", "internal/bytealg.MaxLen", "warehouse/token.words", "warehouse/token.symbols", "warehouse/civil.lengths"], apart := false, laid := [("warehouse/civil.lengths", laid_warehouse_civil_lengths), ("warehouse/token.words", laid_warehouse_token_words), ("warehouse/token.symbols", laid_warehouse_token_symbols), ("warehouse/query.used", laid_warehouse_query_used)], narrowed := true }
def TopJoinsUptoSaid : Prop := topJoinsUptoRow.holds Tryz.pinned (OpenSpec.upto topJoinsSpec)

/-- 'warehousetop.TopGroups', WHERE WHAT IT READS IS OF BULK AT MOST 1048576: true; the input reads as it did. -/
def topGroupsUptoRow : OpenClaim := { program := "ythcalfeoejdcgaagreatdoor", sum := "c5e5da305885a884c14a433499dd2e9dc7a63a85412967d557a1364d9074dbc5", func := "warehouse/warehousetop.TopGroups", spec := "topGroups", inPlace := ["internal/bytealg.IndexByteString", "internal/bytealg.IndexString"], unfollowed := true, recurses := true, named := ["warehouse/query.used", "internal/bytealg.MaxLen", "warehouse/token.words", "warehouse/token.symbols", "warehouse/civil.lengths"], apart := false, laid := [("warehouse/civil.lengths", laid_warehouse_civil_lengths), ("warehouse/token.words", laid_warehouse_token_words), ("warehouse/token.symbols", laid_warehouse_token_symbols), ("warehouse/query.used", laid_warehouse_query_used)], narrowed := true }
def TopGroupsUptoSaid : Prop := topGroupsUptoRow.holds Tryz.pinned (OpenSpec.upto topGroupsSpec)

/-- 'warehousetop.TopRanks', WHERE WHAT IT READS IS OF BULK AT MOST 1048576: true; the input reads as it did. -/
def topRanksUptoRow : OpenClaim := { program := "ythcalfeoejdcgaagreatdoor", sum := "c5e5da305885a884c14a433499dd2e9dc7a63a85412967d557a1364d9074dbc5", func := "warehouse/warehousetop.TopRanks", spec := "topRanks", inPlace := ["internal/bytealg.IndexByteString", "internal/bytealg.IndexString"], unfollowed := true, recurses := true, named := ["warehouse/query.used", "internal/bytealg.MaxLen", "warehouse/token.words", "warehouse/token.symbols", "warehouse/civil.lengths"], apart := false, laid := [("warehouse/civil.lengths", laid_warehouse_civil_lengths), ("warehouse/token.words", laid_warehouse_token_words), ("warehouse/token.symbols", laid_warehouse_token_symbols), ("warehouse/query.used", laid_warehouse_query_used)], narrowed := true }
def TopRanksUptoSaid : Prop := topRanksUptoRow.holds Tryz.pinned (OpenSpec.upto topRanksSpec)

end Rows
end Go.Proofs.YthcalfeoejdcgaaGreatDoor
