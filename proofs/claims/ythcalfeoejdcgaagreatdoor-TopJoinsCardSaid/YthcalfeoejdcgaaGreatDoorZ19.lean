/- The books of TopJoins: what the calls by contract know. -/
import Derived.Test.YthcalfeoejdcgaaGreatDoorZ17
import Derived.Test.YthcalfeoejdcgaaGreatDoorZ18
namespace Go.Proofs.YthcalfeoejdcgaaGreatDoor
open Go.RowKit Go.RowKit
set_option linter.unusedSimpArgs false
set_option linter.unusedVariables false

structure JoiA where
  left : Bool
  names : List ByteArray
  others : List ByteArray
  items : List Itm
  d : Nat
  cs : List Col
  du : Nat
  cs' : List Col
  d2 : Nat
def eqBo (a b : Bool) : Bool := cond a b (cond b false true)
def fJoi (s : ASt) (names others items co co' : Value) (left : Bool) (d du : Nat) : List JoiA → Option Nat
  | [] => none
  | g :: l => cond (eqBo g.left left && (Nat.beq g.d d && (Nat.beq g.du du && (Nat.ble d 31 && (Nat.ble du 31 && (Nat.ble g.d2 31 && (isFlat 1 s names (flat encStr g.names) && (isFlat 1 s others (flat encStr g.others) && (isFlat 5 s items (flat encItm g.items) && (isFlat 3 s co (flat encCol g.cs) && isFlat 3 s co' (flat encCol g.cs'))))))))))) (some g.d2) (fJoi s names others items co co' left d du l)
def sp134 (G : List JoiA) (args : List Value) (s : ASt) : Option (Value × ASt) := match args with
  | [.agg ⟨[.int .i64 _, .string _, names, others, items, .slice none 0 0]⟩, .agg ⟨[.string _, co, .slice none 0 0, .chan (some k)]⟩, .agg ⟨[.string _, co', .slice none 0 0, .chan (some k')]⟩, .bool left] => match fJoi s names others items co co' left (k % 1024) (k' % 1024) G with
    | some d2 => some (.tuple ⟨[chD s.next d2, .int .i64 0]⟩, s.opq)
    | none => none
  | _ => none
def sp135 (G : List JoiA) (args : List Value) (s : ASt) : Option (Value × ASt) := match args with
  | [.agg ⟨[.int .i64 _, .string _, names, others, .slice none 0 0, .slice none 0 0]⟩, .agg ⟨[.string _, co, .slice none 0 0, .chan (some k)]⟩, .agg ⟨[.string _, co', .slice none 0 0, .chan (some k')]⟩, .bool wanted] => match fJoi s names others (.slice none 0 0) co co' wanted (k % 1024) (k' % 1024) G with
    | some d2 => some (.tuple ⟨[chD s.next d2, .int .i64 0]⟩, s.opq)
    | none => none
  | _ => none
/-- evaluate.Validate: tables with their columns -/
def sp62g (L : List (Nat × List Col)) (args : List Value) (s : ASt) : Option (Value × ASt) := match args with
  | [.agg ⟨[.string _, co, .slice none 0 0, .chan (some k)]⟩] => cond (Nat.ble (k % 1024) 31 && L.any fun p => Nat.beq p.1 (k % 1024) && isFlat 3 s co (flat encCol p.2)) (some (.int .i64 0, s)) none
  | _ => none
structure PrjA where
  d : Nat
  is : List Int
  d2 : Nat
def fPrj (s : ASt) (is : Value) (d : Nat) : List PrjA → Option Nat
  | [] => none
  | g :: l => cond (Nat.beq g.d d && (Nat.ble d 31 && (Nat.ble g.d2 31 && isFlat 1 s is (flat encInt g.is)))) (some g.d2) (fPrj s is d l)
def sp133 (G : List PrjA) (args : List Value) (s : ASt) : Option (Value × ASt) := match args with
  | [.chan (some k), is] => match fPrj s is (k % 1024) G with
    | some d2 => some (.tuple ⟨[chD s.next d2, .int .i64 0]⟩, s.opq)
    | none => none
  | _ => none
def fTwo (a b : Nat) : List (Nat × Nat × Nat) → Option Nat
  | [] => none
  | g :: l => cond (Nat.beq g.1 a && (Nat.beq g.2.1 b && (Nat.ble a 31 && (Nat.ble b 31 && Nat.ble g.2.2 31)))) (some g.2.2) (fTwo a b l)
/-- one table to another -/
def sp1 (G : List (Nat × Nat × Nat)) (args : List Value) (s : ASt) : Option (Value × ASt) := match args with
  | [.chan (some k)] => match fTwo (k % 1024) 0 G with
    | some d2 => some (.tuple ⟨[chD s.next d2, .int .i64 0]⟩, s.opq)
    | none => none
  | _ => none
/-- two tables to another -/
def sp2 (G : List (Nat × Nat × Nat)) (args : List Value) (s : ASt) : Option (Value × ASt) := match args with
  | [.chan (some k), .chan (some k')] => match fTwo (k % 1024) (k' % 1024) G with
    | some d2 => some (.tuple ⟨[chD s.next d2, .int .i64 0]⟩, s.opq)
    | none => none
  | _ => none
def sNew : ByteArray := ba [110, 101, 119]
def sR : ByteArray := ba [114]
def nsJ (c : Nat) : List ByteArray := match c with
  | 0 => [sC]
  | 1 => [sAt]
  | _ => [sV]
def osJ (c : Nat) : List ByteArray := match c with
  | 0 => [sC]
  | 1 => [sAt]
  | _ => [sK]
def niJ (c : Nat) : Int := match c with
  | 0 => 1
  | 1 => 2
  | _ => 3
def oiJ (c : Nat) : Int := match c with
  | 0 => 0
  | 1 => 1
  | _ => 3
def keyJ (c : Nat) : List Col := match c with
  | 0 => [⟨sC, 3, false⟩]
  | 1 => [⟨sAt, 4, false⟩]
  | _ => [⟨sK, 2, false⟩]
def newJ : List Col := [⟨⟨#[105, 100]⟩, 2, false⟩, ⟨⟨#[99]⟩, 3, false⟩, ⟨⟨#[97, 116]⟩, 4, false⟩, ⟨⟨#[118]⟩, 2, true⟩, ⟨sNew, 3, true⟩]
def itsJ : List Itm := [itm sNew sR 0]
def joJ (c : Nat) : List JoiA := [⟨false, nsJ c, osJ c, [], 0, oC, 4, keyJ c, 6⟩, ⟨true, nsJ c, osJ c, itsJ, 0, oC, 1, cC, 9⟩, ⟨false, nsJ c, osJ c, itsJ, 0, oC, 1, cC, 10⟩]
def seJ (c : Nat) : List JoiA := [⟨true, nsJ c, osJ c, [], 0, oC, 1, cC, 5⟩, ⟨false, nsJ c, osJ c, [], 0, oC, 1, cC, 7⟩]
def prJ (c : Nat) : List PrjA := [⟨1, [oiJ c], 3⟩]
def diJ : List (Nat × Nat × Nat) := [(3, 0, 4)]
def exJ : List (Nat × Nat × Nat) := [(0, 5, 8)]
def clJ (c : Nat) : List (Nat × List Col) := [(0, oC), (1, cC), (2, oC), (3, keyJ c), (4, keyJ c)]
def csJ (c : Nat) : List (List Col) := [oC, cC, keyJ c, newJ]
noncomputable def T6 (c : Nat) : Tbl := { xT with hint := hintR c, sp := fun f => cond (Nat.beq f 62) (some (sp62g (clJ c))) (cond (Nat.beq f 129) (some sp129) (cond (Nat.beq f 134) (some (sp134 (joJ c))) (cond (Nat.beq f 135) (some (sp135 (seJ c))) (cond (Nat.beq f 133) (some (sp133 (prJ c))) (cond (Nat.beq f 136) (some (sp1 diJ)) (cond (Nat.beq f 21) (some (sp2 exJ)) (cond (Nat.beq f 17) (some (sp17 fun a b => (Nat.beq a 5 && Nat.beq b 6) || (Nat.beq a 7 && Nat.beq b 8))) (cond (Nat.beq f 89) (some (sp89 (csJ c))) (cond (Nat.beq f 123) (some sp123) (cond (Nat.beq f 234) (some sp234) none)))))))))) }
noncomputable def R6 (c : Nat) : Rn := rn (T6 c) (adraw (T6 c)) 1000
/-- what the run leaves ahead of the loop -/
def endJ (tm : Tm) (s : ASt) : Bool := (match tm.get 22, tm.get 24, tm.get 25 with
    | some (Value.bool true), some (Value.bool true), some (Value.slice none 0 0) => true
    | _, _, _ => false) && (relD s (tm.get 15) 7 && (relD s (tm.get 21) 9 && (relD s (tm.get 23) 10 && ([0, 2, 4, 64, 65].all fun b => eqO (s.heap.get b) (h0.get b)))))
/-- the package's variables -/
def gBlks : List (Nat × CellsX) := [(0, (42, 1, [.slice (some ⟨64,0,none⟩) 18 18])), (4, (42, 1, [.slice (some ⟨65,0,none⟩) 8 8])), (2, (4, 1, usedc)), (64, (9, 1, syms)), (65, (9, 1, wrds))]
end Go.Proofs.YthcalfeoejdcgaaGreatDoor
