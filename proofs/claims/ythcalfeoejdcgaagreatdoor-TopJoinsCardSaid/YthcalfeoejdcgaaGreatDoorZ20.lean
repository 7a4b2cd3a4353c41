/- The program: window.partitions; Windows: the lists that Apply goes over. Plain; The program: window.check, window.column; The program: window.Apply; A window and a group agree. Plain. -/
import Derived.Shelf.SlSortCmp.Whole1
import Derived.Shelf.SlSortCmp.NoneTotal
import Derived.Ground.SlsfProg
import Derived.Lib.AppendStr
import Derived.Laws.IdiomStrings
import Derived.Test.YthcalfeoejdcgaaGreatDoorZ10
import Derived.Test.YthcalfeoejdcgaaGreatDoorZ11
import Derived.Test.YthcalfeoejdcgaaGreatDoorZ12
import Derived.Test.YthcalfeoejdcgaaGreatDoorZ13
import Derived.Test.YthcalfeoejdcgaaGreatDoorZ15
namespace Go.Proofs.YthcalfeoejdcgaaGreatDoor
section
open Go.RowKit Go.BigFrame
set_option linter.unusedSimpArgs false
set_option linter.unusedVariables false

end
section
open Go.RowKit
set_option linter.unusedSimpArgs false
set_option linter.unusedVariables false

end
section
open Go.RowKit Go.BigFrame
set_option linter.unusedSimpArgs false
set_option linter.unusedVariables false

end
section
open Go.RowKit Go.BigFrame
set_option linter.unusedSimpArgs false
set_option linter.unusedVariables false

end
section
open Go.RowKit
set_option linter.unusedSimpArgs false
set_option linter.unusedVariables false

theorem cmpR_app : ∀ {a b : List Val} (_ : a.length = b.length) (_ : a ≠ b) (x y : List Val), cmpR (a ++ x) (b ++ y) = cmpR a b
  | [], [], _, h, _, _ => absurd rfl h
  | [], _ :: _, h, _, _, _ => by simp at h
  | _ :: _, [], h, _, _, _ => by simp at h
  | u :: a, v :: b, hl, hne, x, y => by
    simp only [List.cons_append]
    unfold cmpR
    by_cases e : cmpV u v = 0
    · rw [if_pos e, if_pos e]
      refine cmpR_app (by simpa using hl) (fun h => hne ?_) x y
      rw [h, (cmpV_zero _ _).1 e]
    · rw [if_neg e, if_neg e]
theorem asc_pw : ∀ {l : Tab}, Asc l ↔ l.Pairwise fun x y => cmpR x.1 y.1 < 0
  | [] => by simp [Asc]
  | x :: l => by rw [Asc, List.pairwise_cons, asc_pw]
theorem Bag.pw {l : Tab} (h : Bag l) : l.Pairwise fun x y => x.1 ≠ y.1 := (asc_pw.1 h.1).imp fun {x y} hxy e => by rw [e, cmpR_self] at hxy; omega
section
variable {m : Nat} {is os : List Int} {t : Tab}
end
end
end Go.Proofs.YthcalfeoejdcgaaGreatDoor
