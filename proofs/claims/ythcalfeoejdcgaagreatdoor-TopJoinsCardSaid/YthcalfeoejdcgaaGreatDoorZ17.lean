/- The books of TopRanks: what the calls by contract know; The books of a concrete run: the first parts of a sequence, up to a place where a hand goes on. No program here. -/
import Derived.Test.YthcalfeoejdcgaaGreatDoorZ14
namespace Go.Proofs.YthcalfeoejdcgaaGreatDoor
section
open Go.RowKit Go.RowKit
set_option linter.unusedSimpArgs false
set_option linter.unusedVariables false

/-- what a call of window.Apply answers: the table, the items, the partition, the order, the arguments, the table that comes back -/
structure WinA where
  d : Nat
  items : List Itm
  ps : List Int
  os : List Int
  args : List Int
  d2 : Nat
def fWin (s : ASt) (items ps os ar : Value) (d : Nat) : List WinA → Option Nat
  | [] => none
  | g :: l => cond (Nat.beq g.d d && (Nat.ble d 31 && Nat.ble g.d2 31) && (isFlat 5 s items (flat encItm g.items) && (isFlat 1 s ps (flat encInt g.ps) && (isFlat 1 s os (flat encInt g.os) && isFlat 1 s ar (flat encInt g.args))))) (some g.d2) (fWin s items ps os ar d l)
def sp217 (G : List WinA) (args : List Value) (s : ASt) : Option (Value × ASt) := match args with
  | [items, ps, os, ar, .chan (some k)] => match fWin s items ps os ar (k % 1024) G with
    | some d2 => some (.tuple ⟨[chD s.next d2, .int .i64 0]⟩, s.opq)
    | none => none
  | _ => none
def sP : ByteArray := ba [112]
def sA : ByteArray := ba [97]
def sB : ByteArray := ba [98]
def sD : ByteArray := ba [100]
def nsR (c : Nat) : List ByteArray := match c with
  | 0 => [sC]
  | 1 => [sV]
  | _ => [sAt, sV]
def psR (c : Nat) : List Int := match c with
  | 0 => [1]
  | 1 => [3]
  | _ => [2, 3]
def kcR (c : Nat) : List Col := match c with
  | 0 => [⟨sC, 3, false⟩]
  | 1 => [⟨sV, 2, true⟩]
  | _ => [⟨sAt, 4, false⟩, ⟨sV, 2, true⟩]
def colsW : List Col := [⟨⟨#[105, 100]⟩, 2, false⟩, ⟨⟨#[99]⟩, 3, false⟩, ⟨⟨#[97, 116]⟩, 4, false⟩, ⟨⟨#[118]⟩, 2, true⟩, ⟨sP, 2, false⟩, ⟨sK, 2, false⟩]
def itsW : List Itm := [itm sP (ba []) 8, itm sK (ba []) 1]
def itsM : List Itm := [itm sA sP 5, itm sB sK 4, itm sD sP 6]
def itsN : List Itm := [itm sA (ba []) 1]
def gsR (c : Nat) : List GrpA := [⟨3, colsW, nsR c, itsM, 4⟩, ⟨0, oC, nsR c, itsN, 5⟩]
def wsR (c : Nat) : List WinA := [⟨0, itsW, psR c, [0], [-1, -1], 3⟩]
/-- the columns that come up -/
def csR (c : Nat) : List (List Col) := [oC, cC, colsW, kcR c ++ [⟨sA, 2, true⟩, ⟨sB, 2, true⟩, ⟨sD, 2, false⟩], kcR c ++ [⟨sA, 2, false⟩]]
def colsRI (k : Nat) : List Col := match k with
  | 1 => cC
  | 3 => colsW
  | _ => oC
def hintR (c : Nat) (op : BinOp) (x y : Value) : Option Value := match op, x, y with
  | .and, .chan (some 600), .int .i64 3 => some (.chan (some 602))
  | .rem, .chan (some 602), .int .i64 3 => some (.int .i64 c)
  | _, _, _ => none
/-- names that the runs ask for -/
def knownN : List ByteArray := [sC, sV, sAt, ⟨#[105, 100]⟩, sP, sK, sA, sB, sD, sT, ba [114], nmO, nmC, nmR, ba [110, 101, 119], ba [107, 101, 121, 115], ba [122, 48], ba [122, 49], ba [122, 50]]
def sp123 (args : List Value) (s : ASt) : Option (Value × ASt) := match args with
  | [.string x] => cond (knownN.any fun y => eqF (.string y) (.string x)) (some (.bool true, s)) none
  | _ => none
def sp234 (args : List Value) (s : ASt) : Option (Value × ASt) := match args with
  | [.string x] => cond ((knownN.any fun y => eqF (.string y) (.string x)) && ([0, 2, 4, 64, 65].all fun b => eqO (s.heap.get b) (h0.get b))) (some (.bool false, s)) none
  | _ => none
noncomputable def T8 (c : Nat) : Tbl := { xT with hint := hintR c, sp := fun f => cond (Nat.beq f 62) (some (sp62 colsRI)) (cond (Nat.beq f 129) (some sp129) (cond (Nat.beq f 137) (some (sp137 (gsR c))) (cond (Nat.beq f 217) (some (sp217 (wsR c))) (cond (Nat.beq f 13) (some sp13) (cond (Nat.beq f 89) (some (sp89 (csR c))) (cond (Nat.beq f 123) (some sp123) (cond (Nat.beq f 234) (some sp234) none))))))) }
/-- the temps behind Filled -/
def tmF8 : Tm := ((((((Tr.leaf : Tm).set tBits 0 (some (.chan none))).set tBits 1 (some (.chan (some 600)))).set tBits 4 (some (.bool false))).set tBits 19 (some (.chan none))).set tBits 20 (some (.chan none))).set tBits 5 (some (.slice (some ⟨71,0,none⟩) 3 3))
/-- a table's place in a relation of the books -/
def relD (s : ASt) (v : Option Value) (d : Nat) : Bool := match v with
  | some (Value.pointer (some ⟨i, 0, none⟩)) => match s.heap.get i with
    | some ⟨_, ABody.cells _ _ l⟩ => match l[3]? with
      | some (Value.chan (some k)) => Nat.beq (k % 1024) d
      | _ => false
    | _ => false
  | _ => false
end
section
open Go.RowKit Go.RowKit
set_option linter.unusedSimpArgs false
set_option linter.unusedVariables false

/-- the code behind the first n parts of a sequence -/
def cdrop : Nat → Code → Code
  | 0, c => c
  | n + 1, .seq _ b => cdrop n b
  | _ + 1, c => c
/-- the run of the first n parts -/
def rpre (r : Rn) (sz : Nat) : Nat → Code → Tm → ASt → Option (Tm × ASt)
  | 0, _, tm, s => some (tm, s)
  | n + 1, .seq a b, tm, s => match r.code sz a tm s with
    | some (.normal, tm1, s1) => rpre r sz n b tm1 s1
    | _ => none
  | _ + 1, _, _, _ => none
section
variable {E : Ev} {P : Program} {T : Tbl} {r : Rn}
theorem rpre_ok (hK : CodeOk E P r) {sz : Nat} : ∀ (n : Nat) {c : Code} {tm tm' : Tm} {s s' : ASt} (_ : rpre r sz n c tm s = some (tm', s')) {D : Nat → Prop} {ρ : Nat → Pl} {a : Act} {w : World} (_ : St E D ρ sz s tm a w) {Q : Exit → Act → World → Prop}
    (_ : ∀ D' ρ' a' w', St E D' ρ' sz s' tm' a' w' → Ex D s ρ w D' s' ρ' w' → (cdrop n c).wp P Q a' w'), c.wp P Q a w
  | 0, c, tm, tm', s, s', h, D, ρ, a, w, hst, Q, hQ => by
    cases h
    exact hQ _ _ _ _ hst (Ex.refl hst.sim)
  | n + 1, c, tm, tm', s, s', h, D, ρ, a, w, hst, Q, hQ => by
    cases c with
    | seq x y =>
      simp only [rpre] at h
      split at h
      · rename_i tm1 s1 hx
        refine wp_seq ((hK _ x _ s .normal tm1 s1 hx D ρ a w hst _ fun D1 ρ1 a1 w1 g1 g2 => ?_).wp)
        refine rpre_ok hK n h g1 fun D2 ρ2 a2 w2 k1 k2 => ?_
        exact hQ D2 ρ2 a2 w2 k1 (Ex.trans hst.sim.low g2 k2)
      · cases h
    | _ => cases h
/-- a check of what a run leaves -/
def qchk (x : Option (Tm × ASt)) (f : Tm → ASt → Bool) : Bool := match x with
  | some (tm, s) => f tm s
  | none => false
theorem qchk_ok {x : Option (Tm × ASt)} {f : Tm → ASt → Bool} (h : qchk x f = true) : ∃ tm s, x = some (tm, s) ∧ f tm s = true := by
  unfold qchk at h
  split at h
  · rename_i tm s
    exact ⟨tm, s, rfl, h⟩
  · cases h
/-- a frame with known number of temporaries -/
theorem act_lit {E : Ev} {D : Nat → Prop} {ρ : Nat → Pl} {sz : Nat} {s : ASt} {tm : Tm} {a : Act} {w : World} (h : St E D ρ sz s tm a w) : a = ⟨⟨(List.range sz).map fun t => a.tmps.getD t undef⟩, []⟩ := by
  have h1 := h.size
  have h2 := h.defers
  obtain ⟨tm, df⟩ := a
  simp only at h1 h2
  subst h2
  congr 1
  apply Array.ext
  · simp [h1]
  · intro i h3 h4
    simp [h3]
end
end
end Go.Proofs.YthcalfeoejdcgaaGreatDoor
