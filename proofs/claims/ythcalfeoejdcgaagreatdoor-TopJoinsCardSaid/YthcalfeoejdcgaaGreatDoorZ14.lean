/- The books of a concrete run of a law: what the calls by contract answer; The books of a concrete run: books of a state at hand; a function's rest. No program here; The books of TopGroups: the state behind Filled, what the calls by contract know. -/
import Derived.Test.YthcalfeoejdcgaaGreatDoorZ06
import Derived.Test.YthcalfeoejdcgaaGreatDoorZ07
import Derived.Test.YthcalfeoejdcgaaGreatDoorZ02
namespace Go.Proofs.YthcalfeoejdcgaaGreatDoor
section
open Go.RowKit Go.RowKit
set_option linter.unusedSimpArgs false
set_option linter.unusedVariables false

/-- what a call of group's answers: the table, its columns, the names, the items, the table that comes back -/
structure GrpA where
  d : Nat
  cols : List Col
  names : List ByteArray
  items : List Itm
  d2 : Nat
/-- a descriptor of a table -/
def tDe (k : Nat) : Bool := Nat.ble (k % 1024) 31
def chD : Nat → Nat → Value := fun i d => .chan (some (i * 1024 + d))
def sp62 (cols : Nat → List Col) (args : List Value) (s : ASt) : Option (Value × ASt) := match args with
  | [.agg ⟨[.string _, co, .slice none 0 0, .chan (some k)]⟩] => cond (Nat.ble (k % 1024) 3 && isFlat 3 s co (flat encCol (cols (k % 1024)))) (some (.int .i64 0, s)) none
  | _ => none
def sp89 (C : List (List Col)) (args : List Value) (s : ASt) : Option (Value × ASt) := match args with
  | [co] => cond (C.any fun cs => isFlat 3 s co (flat encCol cs)) (some (.int .i64 0, s)) none
  | _ => none
def sp129 (args : List Value) (s : ASt) : Option (Value × ASt) := match args with
  | [.chan (some k)] => cond (tDe k) (some (chD s.next (k % 1024), s.opq)) none
  | _ => none
def fGrp (s : ASt) (names items co : Value) (d : Nat) : List GrpA → Option Nat
  | [] => none
  | g :: l => cond (Nat.beq g.d d && (Nat.ble d 31 && Nat.ble g.d2 31) && (isFlat 1 s names (flat encStr g.names) && (isFlat 5 s items (flat encItm g.items) && isFlat 3 s co (flat encCol g.cols)))) (some g.d2) (fGrp s names items co d l)
def sp137 (G : List GrpA) (args : List Value) (s : ASt) : Option (Value × ASt) := match args with
  | [.agg ⟨[.int .i64 _, .string _, names, .slice none 0 0, items, .slice none 0 0]⟩, .agg ⟨[.string _, co, .slice none 0 0, .chan (some k)]⟩] => match fGrp s names items co (k % 1024) G with
    | some d2 => some (.tuple ⟨[chD s.next d2, .int .i64 0]⟩, s.opq)
    | none => none
  | _ => none
def sp17 (S : Nat → Nat → Bool) (args : List Value) (s : ASt) : Option (Value × ASt) := match args with
  | [.chan (some a), .chan (some b)] => cond (tDe a && tDe b && S (a % 1024) (b % 1024)) (some (.bool true, s)) none
  | _ => none
def sp13 (args : List Value) (s : ASt) : Option (Value × ASt) := match args with
  | [] => cond ([0, 2, 4, 64, 65].all fun b => eqO (s.heap.get b) (h0.get b)) (some (.bool true, s)) none
  | _ => none
end
section
open Go.RowKit Go.RowKit
set_option linter.unusedSimpArgs false
set_option linter.unusedVariables false

section
variable {E : Ev} {D : Nat → Prop} {ρ : Nat → Pl} {s : ASt} {w : World}
/-- one more block, which lies there already -/
theorem sim_ro0 (h : Sim E D ρ s w) (hro : ∀ b o, s.heap.get b = some o → o.wr = false) (hn : s.next + 1 < 2 ^ xBits) {p : Pl} {b : ABody} (hb : Bd E (more D s.next) (plus ρ s.next p) w p false b) (hi : p.blk < w.heap.size) (hp : p.snap = noSnap) :
    Sim E (more D s.next) (plus ρ s.next p) ⟨s.heap.set xBits s.next (some ⟨false, b⟩), s.next + 1, s.tc⟩ w ∧ (∀ b' o, (s.heap.set xBits s.next (some ⟨false, b⟩)).get b' = some o → o.wr = false) := by
  have hget : ∀ j, (s.heap.set xBits s.next (some ⟨false, b⟩)).get j = if j = s.next then some ⟨false, b⟩ else s.heap.get j := Tr.get_set xBits s.heap s.next (some ⟨false, b⟩) hn
  have ro : ∀ b' o, (s.heap.set xBits s.next (some ⟨false, b⟩)).get b' = some o → o.wr = false := fun b' o ho => by
    rw [hget] at ho
    split at ho
    · cases ho; rfl
    · exact hro b' o ho
  refine ⟨⟨fun i o hi => ?_, fun i hi => ?_, fun i o hi => ?_, fun i o hi => ?_, fun i j o o' hi hj hne hwr => ?_, fun g hg => .inl (h.gl g hg), fun g hg => ?_, fun i k ob hk => ?_⟩, ro⟩
  · rw [get_fld, hget] at hi
    split at hi
    · rename_i e; exact .inr e
    · exact .inl (h.lt i o hi)
  · show i < s.next + 1
    rcases hi with hi | hi
    · have := h.dn i hi; omega
    · omega
  · rw [get_fld, hget] at hi
    split at hi
    · rename_i e
      cases hi
      rw [e, plus_new]
      exact hb
    · rw [plus_old (h.low i o hi)]
      exact (h.bd i o hi).kept (fun j hj => .inl hj) (fun j hj => plus_old (h.dn j hj)) (fun _ => rfl)
  · rw [get_fld, hget] at hi
    split at hi
    · rename_i e
      rw [e, plus_new]; assumption
    · rw [plus_old (h.low i o hi)]
      exact h.inh i o hi
  · have := ro i o hi
    rw [this] at hwr; cases hwr
  · rw [plus_old (h.dn g (h.gl g hg))]
    exact h.glob g hg
  · have hk2 : (ρ i).snap k = some ob := plus_snap hp i k ob hk
    exact ⟨(h.prot i k ob hk2).1, fun b' o ho hwr => by have := ro b' o ho; rw [this] at hwr; cases hwr⟩
/-- one more value that the books do not look into, which lies there already -/
theorem sim_opq0 (h : Sim E D ρ s w) (hro : ∀ b o, s.heap.get b = some o → o.wr = false) {p : Pl} (hp : ∀ k ob, p.snap k = some ob → w.heap[k]? = some ob) : Sim E (more D s.next) (plus ρ s.next p) s.opq w := by
  have old : ∀ i o, s.heap.get i = some o → plus ρ s.next p i = ρ i := fun i o hi => plus_old (h.low i o hi)
  refine ⟨fun i o hi => .inl (h.lt i o hi), fun i hi => ?_, fun i o hi => ?_, fun i o hi => ?_, fun i j o o' hi hj hne hwr => ?_, fun g hg => .inl (h.gl g hg), fun g hg => ?_, fun i k ob hk => ?_⟩
  · show i < s.next + 1
    rcases hi with hi | hi
    · have := h.dn i hi; omega
    · omega
  · rw [old i o hi]
    exact (h.bd i o hi).kept (fun j hj => .inl hj) (fun j hj => plus_old (h.dn j hj)) (fun _ => rfl)
  · rw [old i o hi]; exact h.inh i o hi
  · have := hro i o hi
    rw [this] at hwr; cases hwr
  · rw [plus_old (h.dn g (h.gl g hg))]; exact h.glob g hg
  · have no : ∀ b o, s.opq.heap.get b = some o → o.wr = true → (plus ρ s.next p b).blk ≠ k := fun b o ho hwr => by have := hro b o ho; rw [this] at hwr; cases hwr
    by_cases e : i = s.next
    · subst e
      rw [plus_new] at hk
      exact ⟨hp k ob hk, no⟩
    · have e2 : plus ρ s.next p i = ρ i := if_neg e
      rw [e2] at hk
      exact ⟨(h.prot i k ob hk).1, no⟩
theorem opq_rv {d i : Nat} (hd : d < 1024) (hD : D i) {v : Value} (h1 : v.oneCell' = true) (he : E d v (ρ i).snap) : Rv E D ρ (.chan (some (i * 1024 + d))) v := by
  have e1 : (i * 1024 + d) / 1024 = i := by omega
  have e2 : (i * 1024 + d) % 1024 = d := by omega
  exact .opq _ v (by rw [e1]; exact hD) h1 (by rw [e1, e2]; exact he)
end
section
variable {E : Ev} {P : Program} {T : Tbl} {r : Rn}
theorem below_ex {D D' : Nat → Prop} {s s' : ASt} {ρ ρ' : Nat → Pl} {w w' : World} (hro : ∀ b o, s.heap.get b = some o → o.wr = false) (htc : s.tc = []) (k : Ex D s ρ w D' s' ρ' w') : Below w.heap.size w w' :=
  ⟨k.os, k.tape, k.output, k.size, fun b hb => k.frame b hb fun c hc o ho => by
    have := k.twr c o hc (by rw [htc]; simp) ho
    rw [hro c o ho] at this; cases this⟩
end
end
section
open Go.RowKit Go.RowKit
set_option linter.unusedSimpArgs false
set_option linter.unusedVariables false

def oC : List Col := [⟨⟨#[105, 100]⟩, 2, false⟩, ⟨⟨#[99]⟩, 3, false⟩, ⟨⟨#[97, 116]⟩, 4, false⟩, ⟨⟨#[118]⟩, 2, true⟩]
def cC : List Col := [⟨⟨#[99]⟩, 3, false⟩, ⟨⟨#[97, 116]⟩, 4, false⟩, ⟨⟨#[114]⟩, 3, true⟩, ⟨⟨#[107]⟩, 2, false⟩]
def nmO : ByteArray := ⟨#[111, 114, 100, 101, 114, 115]⟩
def nmC : ByteArray := ⟨#[99, 117, 115, 116, 111, 109, 101, 114, 115]⟩
def nmR : ByteArray := ⟨#[114, 101, 116, 117, 114, 110, 115]⟩
def relC (nm : ByteArray) (ci : Nat) (k : Nat) : List Value := [.string nm, .slice (some ⟨ci,0,none⟩) 4 4, .slice none 0 0, .chan (some k)]
def relsB : ABody := .cells 31 4 (relC nmO 69 (66*1024+0) ++ relC nmC 70 (67*1024+1) ++ relC nmR 69 (68*1024+2))
/-- the package's variables, the three relations -/
def hF : Tr AObj := (((h0.set xBits 69 (some ⟨false, .cells 56 3 (flat encCol oC)⟩)).set xBits 70 (some ⟨false, .cells 56 3 (flat encCol cC)⟩)).set xBits 71 (some ⟨false, relsB⟩))
def sF : ASt := ⟨hF, 72, []⟩
def ba (l : List UInt8) : ByteArray := ⟨⟨l⟩⟩
def itm (nm co : ByteArray) (f : Int) : Itm := ⟨nm, f, co, 0, none, 0, 0⟩
def rest2 (c : Option Code) : Code := match c with
  | some (.seq _ (.seq _ r)) => r
  | _ => .skip
def sAt : ByteArray := ba [97,116]
def sV : ByteArray := ba [118]
def sC : ByteArray := ba [99]
def sK : ByteArray := ba [107]
def sT : ByteArray := ba [116]
/-- TopGroups' functions and columns, by the case -/
def fnG (c : Nat) : Int := match c with
  | 0 => 1
  | 1 => 4
  | _ => 5
def coG (d : Nat) : ByteArray := match d with
  | 0 => sV
  | 1 => ⟨#[105, 100]⟩
  | _ => sC
def coX (c d : Nat) : ByteArray := match c with
  | 0 => ba []
  | _ => coG d
def cols3 (c d : Nat) : List Col := [⟨sAt, 4, false⟩, ⟨sV, 2, true⟩, match c with
  | 0 => ⟨sK, 2, false⟩
  | _ => ⟨sK, match d with
    | 2 => 3
    | _ => 2, true⟩]
def colsIn (c d : Nat) (k : Nat) : List Col := match k with
  | 1 => cC
  | 3 => cols3 c d
  | _ => oC
def fn2 (c : Nat) : Int := match c with
  | 0 => 3
  | 1 => 4
  | _ => 5
def gsG (c d : Nat) : List GrpA := [⟨0, oC, [sAt, sV], [itm sK (coX c d) (fnG c)], 3⟩, ⟨3, cols3 c d, [sAt], [itm sT sK (fn2 c)], 4⟩, ⟨0, oC, [sAt], [itm sT (coX c d) (fnG c)], 5⟩]
/-- the columns that come up -/
def csG (c d : Nat) : List (List Col) := [oC, cC, cols3 c d, [⟨sAt, 4, false⟩, ⟨sT, 2, true⟩], [⟨sAt, 4, false⟩, ⟨sT, 3, true⟩], [⟨sAt, 4, false⟩, ⟨sT, 2, false⟩]]
def hintG (c d : Nat) (op : BinOp) (x y : Value) : Option Value := match op, x, y with
  | .and, .chan (some 600), .int .i64 3 => some (.chan (some 602))
  | .rem, .chan (some 602), .int .i64 3 => some (.int .i64 c)
  | .shr, .chan (some 600), .int .u64 2 => some (.chan (some 601))
  | .and, .chan (some 601), .int .i64 3 => some (.chan (some 603))
  | .rem, .chan (some 603), .int .i64 3 => some (.int .i64 d)
  | _, _, _ => none
noncomputable def T7 (c d : Nat) : Tbl := { xT with hint := hintG c d, sp := fun f => cond (Nat.beq f 62) (some (sp62 (colsIn c d))) (cond (Nat.beq f 129) (some sp129) (cond (Nat.beq f 137) (some (sp137 (gsG c d))) (cond (Nat.beq f 17) (some (sp17 fun a b => Nat.beq a 4 && Nat.beq b 5)) (cond (Nat.beq f 13) (some sp13) (cond (Nat.beq f 89) (some (sp89 (csG c d))) none))))) }
end
end Go.Proofs.YthcalfeoejdcgaaGreatDoor
