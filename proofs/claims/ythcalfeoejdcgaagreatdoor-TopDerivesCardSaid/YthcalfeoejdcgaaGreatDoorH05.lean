import Derived.WalkKit
import Derived.WalkSpells
import Derived.BigQuiet
import Derived.Deep.QuietTactic
import Derived.Deep.RegionLaw
import Derived.Lib.Hide
import Derived.StillTailTactics
import Derived.OwnWalk
import Derived.Maps.AppendAt
import Derived.Laws.AppendOwnNone
import Derived.Test.YthcalfeoejdcgaaGreatDoorH04
namespace Go.Proofs.YthcalfeoejdcgaaGreatDoor
set_option linter.unusedSimpArgs false
set_option linter.unusedVariables false
section
open Go.RowKit
def atT (S : List Rec) (x : Tm) (j : Nat) : Tm := match S[j]? with | some r => r.tm | none => x
def atH (S : List Rec) (x : Tr AObj) (j : Nat) : Tr AObj := match S[j]? with | some r => r.hp | none => x
def atB (S : List Rec) (x : Nat) (j : Nat) : Nat := match S[j]? with | some r => r.base | none => x
section
variable {T : Tbl} {pd : Bool} {r : Rn} {sz : Nat} {all : List Oper}
theorem zl2 : ∀ (l : List Oper) (recs : List Rec) (tm : Tm) (hp : Tr AObj) (base : Nat) (tcs : List Nat) (R : List Rec) (tm' : Tm) (s' : ASt), dgo T pd r sz all l recs tm hp base tcs = some (R, tm', s') ->
 ∃ S : List Rec, R = recs ++ S /\ S.length = l.length /\ atT S tm' 0 = tm /\ atH S s'.heap 0 = hp /\ atB S s'.next 0 = base /\
   (∀ j o, l[j]? = some o -> ∃ rec, S[j]? = some rec /\ Found T pd r sz all (recs ++ S.take j) o (atT S tm' j) (atH S s'.heap j) (atB S s'.next j) rec (atT S tm' (j + 1)) (atH S s'.heap (j + 1)) /\ atB S s'.next (j + 1) = rec.out.next) /\
   ∀ b, b ∈ s'.tc ↔ (∃ rec ∈ S, b ∈ rec.out.tc) ∨ b ∈ tcs
 | [], recs, tm, hp, base, tcs, R, tm', s', h => by
   cases h
   exact ⟨[], by simp, rfl, rfl, rfl, rfl, fun j o h => by simp at h, fun b => by simp⟩
 | o :: l, recs, tm, hp, base, tcs, R, tm', s', h => by
   unfold dgo at h
   split at h
   . rename_i rec tm1 hp1 hd
     have hf := zkk hd
     obtain ⟨S, h1, h2, h3, h4, h5, h6, h7⟩ := zl2 l (recs ++ [rec]) tm1 hp1 rec.out.next (rec.out.tc ++ tcs) R tm' s' h
     refine ⟨rec :: S, by simp [h1], by simp [h2], hf.etm, hf.ehp, hf.ebase, fun j o' ho => ?_, fun b => ?_⟩
     . cases j with
       | zero =>
         simp at ho
         subst ho
         refine ⟨rec, rfl, ?_, h5⟩
         rw [show atT (rec :: S) tm' 0 = tm from hf.etm, show atH (rec :: S) s'.heap 0 = hp from hf.ehp, show atB (rec :: S) s'.next 0 = base from hf.ebase]
         rw [show atT (rec :: S) tm' (0 + 1) = tm1 from h3, show atH (rec :: S) s'.heap (0 + 1) = hp1 from h4]
         simpa using hf
       | succ j =>
         obtain ⟨rec', k1, k2, k3⟩ := h6 j o' (by simpa using ho)
         refine ⟨rec', k1, ?_, k3⟩
         have e : recs ++ (rec :: S).take (j + 1) = recs ++ [rec] ++ S.take j := by simp
         rw [e]
         exact k2
     . rw [h7 b]
       simp only [List.mem_append, List.mem_cons]
       constructor
       . rintro (⟨x, hx, hb⟩ | hb | hb)
         . exact .inl ⟨x, .inr hx, hb⟩
         . exact .inl ⟨rec, .inl rfl, hb⟩
         . exact .inr hb
       . rintro (⟨x, rfl | hx, hb⟩ | hb)
         . exact .inr (.inl hb)
         . exact .inl ⟨x, hx, hb⟩
         . exact .inr (.inr hb)
   . cases h
theorem ze3 : ∀ (l : List Edge) (recs : List Rec) (m : Nat), ndAll recs l = some m -> (∀ e ∈ l, Region.binds .any e = true -> e.on < recs.length) /\ ∀ j, m.testBit j = true ↔ ∃ e ∈ l, Region.binds .any e = true /\ (j = e.on ∨ ∃ u, recs[e.on]? = some u /\ u.nd.testBit j = true)
 | [], recs, m, h => by
   cases h
   exact ⟨fun e h => absurd h qH, fun j => by simp⟩
 | e :: l, recs, m, h => by
   unfold ndAll at h
   cases hb : Region.binds .any e
   . rw [hb] at h
     obtain ⟨h1, h2⟩ := ze3 l recs m h
     refine ⟨fun x hx hbx => ?_, fun j => ?_⟩
     . rcases qY hx with rfl | hx
       . rw [hb] at hbx; cases hbx
       . exact h1 x hx hbx
     . rw [h2 j]
       constructor
       . rintro ⟨x, hx, hr⟩; exact ⟨x, .tail _ hx, hr⟩
       . rintro ⟨x, hx, hbx, hr⟩
         rcases qY hx with rfl | hx
         . rw [hb] at hbx; cases hbx
         . exact ⟨x, hx, hbx, hr⟩
   . rw [hb] at h
     have h : (match recs[e.on]?, ndAll recs l with
       | some r, some m => some (m ||| (r.nd ||| 2 ^ e.on))
       | _, _ => none) = some m := h
     split at h
     . rename_i u m' hu hm
       cases h
       obtain ⟨h1, h2⟩ := ze3 l recs m' hm
       refine ⟨fun x hx hbx => ?_, fun j => ?_⟩
       . rcases qY hx with rfl | hx
         . exact (qO hu).1
         . exact h1 x hx hbx
       . rw [Nat.testBit_or, Nat.testBit_or, Nat.testBit_two_pow, Bool.or_eq_true, Bool.or_eq_true, h2 j]
         constructor
         . rintro (⟨x, hx, hr⟩ | hr | hr)
           . exact ⟨x, .tail _ hx, hr⟩
           . exact ⟨e, .head _, hb, .inr ⟨u, hu, hr⟩⟩
           . exact ⟨e, .head _, hb, .inl (by simpa using (of_decide_eq_true hr).symm)⟩
         . rintro ⟨x, hx, hbx, hr⟩
           rcases qY hx with rfl | hx
           . rcases hr with rfl | ⟨u', hu', hr⟩
             . exact .inr (.inr qH)
             . rw [hu] at hu'; cases hu'; exact .inr (.inl hr)
           . exact .inl ⟨x, hx, hbx, hr⟩
     . cases h
theorem zh6 {nd : Nat} : ∀ (l : List Rec) (k j : Nat) (u : Rec), l[j]? = some u -> nd.testBit (k + j) = false -> u ∈ unsOf nd l k
 | [], _, _, _, h, _ => by simp at h
 | r :: l, k, 0, u, h, hn => by
   simp at h
   subst h
   rw [unsOf, show nd.testBit k = false from hn]
   exact .head _
 | r :: l, k, j + 1, u, h, hn => by
   have ih := zh6 (nd := nd) l (k + 1) j u (by simpa using h) (by rw [show k + 1 + j = k + (j + 1) by omega]; exact hn)
   rw [unsOf]
   cases nd.testBit k
   . exact .tail _ ih
   . exact ih
theorem zlc {nd : Nat} : ∀ (l : List Rec) (k : Nat) (u : Rec), u ∈ unsOf nd l k -> u ∈ l
 | [], _, _, h => h
 | r :: l, k, u, h => by
   rw [unsOf] at h
   cases hb : nd.testBit k
   . rw [hb] at h
     rcases qY h with rfl | h
     . exact .head _
     . exact .tail _ (zlc l (k + 1) u h)
   . rw [hb] at h
     exact .tail _ (zlc l (k + 1) u h)
end
def planOf (S : List Rec) (tm' : Tm) (s' : ASt) : Plan where
 run k := match S[k]? with | some u => u.run | none => false
 kd k := match S[k]? with | some u => u.hand.isSome | none => false
 nd k j := match S[k]? with | some u => u.nd.testBit j | none => false
 base k := atB S s'.next k
 inp k := match S[k]? with | some u => u.inp | none => .leaf
 v k := match S[k]? with | some u => u.v | none => .tuple ⟨[]⟩
 out k := match S[k]? with | some u => u.out | none => ⟨.leaf, 0, []⟩
 tmS k := atT S tm' k
 hpS k := atH S s'.heap k
section
variable {T : Tbl} {pd : Bool} {r : Rn} {sz : Nat} {ops : List Oper} {S : List Rec} {tm0 tm' : Tm} {s0 s' : ASt}
structure Recs (T : Tbl) (pd : Bool) (r : Rn) (sz : Nat) (ops : List Oper) (tm0 : Tm) (s0 : ASt) (S : List Rec) (tm' : Tm) (s' : ASt) : Prop where
 len : S.length = ops.length
 t0 : atT S tm' 0 = tm0
 h0 : atH S s'.heap 0 = s0.heap
 b0 : atB S s'.next 0 = s0.next
 low : ∀ b x, s0.heap.get b = some x -> b < s0.next
 each : ∀ j o, ops[j]? = some o -> ∃ rec, S[j]? = some rec /\ Found T pd r sz ops (S.take j) o (atT S tm' j) (atH S s'.heap j) (atB S s'.next j) rec (atT S tm' (j + 1)) (atH S s'.heap (j + 1)) /\ atB S s'.next (j + 1) = rec.out.next
theorem Recs.get (h : Recs T pd r sz ops tm0 s0 S tm' s') {k : Nat} (hk : k < ops.length) : ∃ o rec, ops[k]? = some o /\ S[k]? = some rec /\ Found T pd r sz ops (S.take k) o (atT S tm' k) (atH S s'.heap k) (atB S s'.next k) rec (atT S tm' (k + 1)) (atH S s'.heap (k + 1)) /\ atB S s'.next (k + 1) = rec.out.next := by
 have ho : ops[k]? = some (ops[k]) := List.getElem?_eq_getElem hk
 obtain ⟨rec, h1, h2, h3⟩ := h.each k _ ho
 exact ⟨_, rec, ho, h1, h2, h3⟩
theorem Recs.nd (h : Recs T pd r sz ops tm0 s0 S tm' s') {k : Nat} {o : Oper} {rec : Rec} (ho : ops[k]? = some o) (hr : S[k]? = some rec) (hf : ndAll (S.take k) o.after.toList = some rec.nd) :
 (∀ e ∈ o.after, Region.binds .any e = true -> e.on < k) /\ ∀ j, rec.nd.testBit j = true ↔ ∃ e ∈ o.after, Region.binds .any e = true /\ (j = e.on ∨ (planOf S tm' s').nd e.on j = true) := by
 obtain ⟨h1, h2⟩ := ze3 _ _ _ hf
 have hk : k < ops.length := (qO ho).1
 have hl : (S.take k).length = k := by rw [List.length_take, h.len]; omega
 rw [hl] at h1
 refine ⟨fun e he => h1 e (by simpa using he), fun j => ?_⟩
 rw [h2 j]
 constructor
 . rintro ⟨e, he, hb, hr⟩
   refine ⟨e, by simpa using he, hb, hr.imp id ?_⟩
   rintro ⟨u, hu, hr⟩
   rw [List.getElem?_take] at hu
   split at hu
   . show (match S[e.on]? with | some u => u.nd.testBit j | none => false) = true
     rw [hu]; exact hr
   . cases hu
 . rintro ⟨e, he, hb, hr⟩
   have hlt := h1 e (by simpa using he) hb
   refine ⟨e, by simpa using he, hb, hr.imp id fun hr => ?_⟩
   obtain ⟨_, u, _, hu, _⟩ := h.get (show e.on < ops.length by omega)
   refine ⟨u, by rw [List.getElem?_take, if_pos hlt]; exact hu, ?_⟩
   have hr : (match S[e.on]? with | some u => u.nd.testBit j | none => false) = true := hr
   rw [hu] at hr; exact hr
theorem zdj {k j : Nat} {rec : Rec} (hr : S[k]? = some rec) : (planOf S tm' s').nd k j = rec.nd.testBit j := by
 show (match S[k]? with | some u => u.nd.testBit j | none => false) = _
 rw [hr]
theorem zbu {k : Nat} {rec : Rec} (hr : S[k]? = some rec) : (planOf S tm' s').out k = rec.out := by
 show (match S[k]? with | some u => u.out | none => _) = _
 rw [hr]
theorem zcn {k : Nat} {rec : Rec} (hr : S[k]? = some rec) : (planOf S tm' s').inp k = rec.inp := by
 show (match S[k]? with | some u => u.inp | none => _) = _
 rw [hr]
theorem zc9 {k : Nat} {rec : Rec} (hr : S[k]? = some rec) : (planOf S tm' s').run k = rec.run := by
 show (match S[k]? with | some u => u.run | none => _) = _
 rw [hr]
theorem zgh {k : Nat} {rec : Rec} (hr : S[k]? = some rec) : (planOf S tm' s').kd k = rec.hand.isSome := by
 show (match S[k]? with | some u => u.hand.isSome | none => _) = _
 rw [hr]
theorem zjf {k : Nat} {rec : Rec} (hr : S[k]? = some rec) : (planOf S tm' s').v k = rec.v := by
 show (match S[k]? with | some u => u.v | none => _) = _
 rw [hr]
theorem zkb {k : Nat} {rec : Rec} (hr : S[k]? = some rec) : atB S s'.next k = rec.base := by
 show (match S[k]? with | some u => u.base | none => _) = _
 rw [hr]
theorem zid (h : Recs T pd r sz ops tm0 s0 S tm' s') {k b : Nat} (hk : k < ops.length) {rec : Rec} (hr : S[k]? = some rec) : (planOf S tm' s').aff k b ↔ affR rec b = true := by
 obtain ⟨o, rec', ho, hr', hf, hn⟩ := h.get hk
 rw [hr] at hr'
 cases hr'
 rw [zb6]
 show ((atB S s'.next k <= b /\ b < atB S s'.next (k + 1)) ∨ b ∈ ((planOf S tm' s').out k).tc) ↔ _
 rw [hn, zkb hr, zbu hr]
theorem Recs.mono (h : Recs T pd r sz ops tm0 s0 S tm' s') {j k : Nat} (hjk : j <= k) : k <= ops.length -> atB S s'.next j <= atB S s'.next k := by
 induction hjk with
 | refl => exact fun _ => qV _
 | @step k _ ih =>
   intro hk
   obtain ⟨o, rec, ho, hr, hf, hn⟩ := h.get (show k < ops.length by omega)
   refine qR (ih qF) ?_
   rw [hn]; exact hf.le
theorem zlb (h : Recs T pd r sz ops tm0 s0 S tm' s') {k : Nat} (hk : k <= ops.length) {nd : Nat} {u : Rec} (hu : u ∈ unsOf nd (S.take k) 0) : ∃ j, j < k /\ S[j]? = some u /\ u.fits := by
 obtain ⟨j, hj⟩ := List.getElem?_of_mem (zlc _ _ _ hu)
 rw [List.getElem?_take] at hj
 split at hj
 . rename_i hlt
   obtain ⟨o, rec, ho, hr, hf, hn⟩ := h.get (show j < ops.length by omega)
   rw [hj] at hr
   cases hr
   exact ⟨j, hlt, hj, hf.fits⟩
 . cases hj
theorem zma (h : Recs T pd r sz ops tm0 s0 S tm' s') {k b : Nat} (hk : k < ops.length) {rec : Rec} (hr : S[k]? = some rec) {x : AObj} (hx : rec.inp.get b = some x) :
 (atH S s'.heap k).get b = some x /\ (∀ u ∈ unsOf rec.nd (S.take k) 0, affR u b = false) /\ ∀ bs, rec.fp = some bs -> b ∈ bs := by
 obtain ⟨o, rec', ho, hr', hf, hn⟩ := h.get hk
 rw [hr] at hr'
 cases hr'
 cases hrun : rec.run
 . obtain ⟨_, _, h3, _⟩ := hf.no hrun
   rw [h3, Tr.get_leaf] at hx
   cases hx
 . obtain ⟨h1, _⟩ := hf.yes hrun
   cases hfp : rec.fp with
   | some bs =>
     rw [hfp] at h1
     obtain ⟨h2, h3⟩ := zax h1
     rw [<- h3] at hx
     have h4 := List.all_eq_true.1 h2
     rw [zcf _ bs .leaf b fun y hy => by
      have := h4 y hy
      simp only [Bool.and_eq_true] at this
      exact qS this.1] at hx
     by_cases hb : b ∈ bs
     . rw [if_pos hb] at hx
       have := h4 b hb
       simp only [Bool.and_eq_true] at this
       exact ⟨hx, fun u hu => by simpa using List.all_eq_true.1 this.2 u hu, fun bs' e => by cases e; exact hb⟩
     . rw [if_neg hb, Tr.get_leaf] at hx; cases hx
   | none =>
     rw [hfp] at h1
     have h3 : copyU .leaf (unsOf rec.nd (S.take k) 0) (atH S s'.heap k) = rec.inp := Option.some.inj h1
     rw [<- h3, zeb _ _ _ b fun u hu => by obtain ⟨j, _, _, hfit⟩ := zlb h qF hu; exact hfit] at hx
     split at hx
     . rw [Tr.get_leaf] at hx; cases hx
     . rename_i hno
       refine ⟨hx, fun u hu => ?_, fun bs e => by cases e⟩
       cases ha : affR u b with
       | false => rfl
       | true => exact absurd ⟨u, hu, ha⟩ hno
theorem hps_of (h : Recs T pd r sz ops tm0 s0 S tm' s') {k : Nat} (hk : k < ops.length) (hL : ∀ j, j <= k -> ∀ b x, (atH S s'.heap j).get b = some x -> b < atB S s'.next j) (hK : ∀ j, j <= k -> (planOf S tm' s').Kept j) (b : Nat) :
 ((planOf S tm' s').aff k b -> (atH S s'.heap (k + 1)).get b = ((planOf S tm' s').out k).heap.get b) /\ (¬ (planOf S tm' s').aff k b -> (atH S s'.heap (k + 1)).get b = (atH S s'.heap k).get b) := by
 obtain ⟨o, rec, ho, hr, hf, hn⟩ := h.get hk
 rw [zid h hk hr, zbu hr]
 have hbase := zkb (s' := s') hr
 have hkb := hK k (qV _)
 unfold Plan.Kept at hkb
 rw [zbu hr, zcn hr] at hkb
 have hkb : (∀ b, b < atB S s'.next k -> b ∉ rec.out.tc -> rec.out.heap.get b = rec.inp.get b) /\ (∀ b x, rec.out.heap.get b = some x -> b < atB S s'.next (k + 1)) /\ ∀ b, b ∈ rec.out.tc -> (∃ x, rec.inp.get b = some x) ∨ (atB S s'.next k <= b /\ b < atB S s'.next (k + 1)) := hkb
 cases hrun : rec.run
 . obtain ⟨_, h2, _, _, h5, _⟩ := hf.no hrun
   rw [h5]
   refine ⟨fun ha => ?_, fun _ => rfl⟩
   rw [zb6, h2] at ha
   rcases ha with ha | ha
   . have : atB S s'.next k = rec.base := hbase
     simp only at ha
     omega
   . cases ha
 . obtain ⟨_, _, _, h4⟩ := hf.yes hrun
   have hfit := hf.fits
   obtain ⟨f1, f2, f3⟩ := hfit
   rw [h4]
   cases hfp : rec.fp with
   | some bs =>
     show (_ -> (copyL rec.out.heap rec.out.tc (copyR rec.out.heap (atB S s'.next k) (rec.out.next - atB S s'.next k) (atH S s'.heap k))).get b = _) /\ (_ -> (copyL rec.out.heap rec.out.tc (copyR rec.out.heap (atB S s'.next k) (rec.out.next - atB S s'.next k) (atH S s'.heap k))).get b = _)
     rw [zcf _ _ _ b f3, zga _ _ _ _ b (by rw [hbase]; omega), zb6, hbase]
     constructor
     . rintro (ha | ha)
       . by_cases h6 : b ∈ rec.out.tc
         . rw [if_pos h6]
         . rw [if_neg h6, if_pos qF]
       . rw [if_pos ha]
     . intro ha
       rw [if_neg (fun h6 => ha (.inr h6)), if_neg (fun h6 => ha (.inl qF))]
   | none =>
     have hus : ∀ u ∈ unsOf rec.nd (S.take k) 0, u.fits := fun u hu => by
      obtain ⟨j, _, _, hfit⟩ := zlb h qF hu
      exact hfit
     show (_ -> (copyU (atH S s'.heap k) (unsOf rec.nd (S.take k) 0) rec.out.heap).get b = _) /\ (_ -> (copyU (atH S s'.heap k) (unsOf rec.nd (S.take k) 0) rec.out.heap).get b = _)
     rw [zeb _ _ _ b hus]
     -- what an unordered elder one has turned lies below
     have below : ∀ u ∈ unsOf rec.nd (S.take k) 0, affR u b = true -> b < atB S s'.next k := fun u hu ha => by
      obtain ⟨j, hj, hju, _⟩ := zlb h qF hu
      have hj1 := h.mono (show j + 1 <= k by omega) qF
      rw [<- zid h qF hju] at ha
      rcases ha with ha | ha
      . have : b < atB S s'.next (j + 1) := ha.2
        omega
      . rcases (hK j qF).2.2 b ha with ⟨x, hx⟩ | h7
        . rw [zcn hju] at hx
          have h8 := hL j qF b x (zma h qF hju hx).1
          have := h.mono (show j <= k by omega) qF
          omega
        . have : b < atB S s'.next (j + 1) := h7.2
          omega
     constructor
     . intro ha
       rw [if_neg]
       rintro ⟨u, hu, hau⟩
       rw [zb6, <- hbase] at ha
       have hb := below u hu hau
       rcases ha with ha | ha
       . omega
       . rcases hkb.2.2 b ha with ⟨x, hx⟩ | h7
         . have := (zma h hk hr hx).2.1 u hu
           rw [hau] at this; cases this
         . omega
     . intro ha
       by_cases hu : ∃ u ∈ unsOf rec.nd (S.take k) 0, affR u b = true
       . rw [if_pos hu]
       . rw [if_neg hu]
         have hntc : b ∉ rec.out.tc := fun e => ha (zb6.2 (.inr e))
         have hnr : ¬ (rec.base <= b /\ b < rec.out.next) := fun e => ha (zb6.2 (.inl e))
         rcases Nat.lt_or_ge b (atB S s'.next k) with hlt | hge
         . rw [hkb.1 b hlt hntc]
           obtain ⟨h1, _⟩ := hf.yes hrun
           rw [hfp] at h1
           have h3 : copyU .leaf (unsOf rec.nd (S.take k) 0) (atH S s'.heap k) = rec.inp := Option.some.inj h1
           rw [<- h3, zeb _ _ _ b hus, if_neg hu]
         . have hge2 : rec.out.next <= b := by rw [hbase] at hge; omega
           have e1 : rec.out.heap.get b = none := by
            cases hx : rec.out.heap.get b with
            | none => rfl
            | some x => have := hkb.2.1 b x hx; rw [hn] at this; omega
           have e2 : (atH S s'.heap k).get b = none := by
            cases hx : (atH S s'.heap k).get b with
            | none => rfl
            | some x => have := hL k (qV _) b x hx; omega
           rw [e1, e2]
theorem hp_low (h : Recs T pd r sz ops tm0 s0 S tm' s') : ∀ k, k <= ops.length -> (∀ j, j < k -> (planOf S tm' s').Kept j) -> ∀ j, j <= k -> ∀ b x, (atH S s'.heap j).get b = some x -> b < atB S s'.next j
 | 0, _, _, j, hj, b, x, hx => by
   have : j = 0 := by omega
   subst this
   rw [h.h0] at hx
   rw [h.b0]
   exact h.low b x hx
 | k + 1, hk, hK, j, hj, b, x, hx => by
   have ih := hp_low h k qF fun j hj => hK j qF
   rcases Nat.lt_or_ge j (k + 1) with h1 | h1
   . exact ih j qF b x hx
   . have : j = k + 1 := by omega
     subst this
     obtain ⟨o, rec, ho, hr, hf, hn⟩ := h.get (show k < ops.length by omega)
     have hp := hps_of h (show k < ops.length by omega) ih (fun j hj => hK j qF) b
     by_cases ha : (planOf S tm' s').aff k b
     . rw [hp.1 ha] at hx
       exact (hK k qF).2.1 b x hx
     . rw [hp.2 ha] at hx
       exact qQ (ih k (qV _) b x hx) (h.mono (Nat.le_succ k) hk)
theorem zje (h : Recs T pd r sz ops tm0 s0 S tm' s') : (planOf S tm' s').Good T r sz ops tm0 s0 := by
 have hltk : ∀ k j, k < ops.length -> (planOf S tm' s').nd k j = true -> j < k := fun k => by
  induction k using Nat.strongRecOn with
  | _ k ih =>
    intro j hk hj
    obtain ⟨o, rec, ho, hr, hf, hn⟩ := h.get hk
    rw [zdj hr] at hj
    obtain ⟨h1, h2⟩ := h.nd ho hr hf.nd
    obtain ⟨e, he, hb, hj | hj⟩ := (h2 j).1 hj
    . rw [hj]; exact h1 e he hb
    . have h3 := h1 e he hb
      have := ih e.on h3 j qF hj
      omega
 refine ⟨h.b0, h.low, fun k hk => h.mono (Nat.le_succ k) hk, fun k hk => ?_, h.t0, h.h0, hltk, fun k o ho e he hb => ?_, fun k => ?_, fun k o j ho hj => ?_, fun k o ho => ?_, fun k o ho hrun hkd => ?_, fun k hk hrun => ?_, fun k o ho => ?_, fun k j o o' ho ho' hjk hn => ?_, fun k b x hk hx => ?_, fun i k b x hik hk hn hx hb => ?_, fun k hk hK b => ?_⟩
 . obtain ⟨o, rec, ho, hr, hf, hn⟩ := h.get hk
   rw [zbu hr]; exact hn.symm
 . obtain ⟨o2, rec, ho2, hr, hf, hn⟩ := h.get (qO ho).1
   rw [ho] at ho2
   cases ho2
   obtain ⟨h1, h2⟩ := h.nd ho hr hf.nd
   exact ⟨h1 e he hb, by rw [zdj hr]; exact (h2 e.on).2 ⟨e, he, hb, .inl rfl⟩⟩
 . induction k using Nat.strongRecOn with
   | _ k ih =>
     intro j i hk hj hi
     obtain ⟨o, rec, ho, hr, hf, hn⟩ := h.get hk
     obtain ⟨h1, h2⟩ := h.nd ho hr hf.nd
     rw [zdj hr] at hj ⊢
     obtain ⟨e, he, hb, hj | hj⟩ := (h2 j).1 hj
     . exact (h2 i).2 ⟨e, he, hb, .inr (hj ▸ hi)⟩
     . exact (h2 i).2 ⟨e, he, hb, .inr (ih e.on (h1 e he hb) j i (by have := h1 e he hb; omega) hj hi)⟩
 . obtain ⟨o2, rec, ho2, hr, hf, hn⟩ := h.get (qO ho).1
   rw [ho] at ho2
   cases ho2
   obtain ⟨h1, h2⟩ := h.nd ho hr hf.nd
   rw [zdj hr] at hj
   exact (h2 j).1 hj
 . obtain ⟨o2, rec, ho2, hr, hf, hn⟩ := h.get (qO ho).1
   rw [ho] at ho2
   cases ho2
   rw [zc9 hr]; exact hf.wan
 . obtain ⟨o2, rec, ho2, hr, hf, hn⟩ := h.get (qO ho).1
   rw [ho] at ho2
   cases ho2
   rw [zc9 hr] at hrun
   rw [zcn hr, zjf hr, zbu hr]
   rw [zgh hr] at hkd
   have := zet (hf.yes hrun).2.1
   cases hh : rec.hand with
   | none => rw [hh] at this; exact this
   | some x => rw [hh] at hkd; cases hkd
 . obtain ⟨o2, rec, ho2, hr, hf, hn⟩ := h.get hk
   rw [zc9 hr] at hrun
   rw [zcn hr, zjf hr, zbu hr]
   obtain ⟨k1, k2, k3, _⟩ := hf.no hrun
   exact ⟨k1, k2, k3⟩
 . obtain ⟨o2, rec, ho2, hr, hf, hn⟩ := h.get (qO ho).1
   rw [ho] at ho2
   cases ho2
   rw [zjf hr]; exact hf.put
 . obtain ⟨o2, rec, ho2, hr, hf, _⟩ := h.get (qO ho).1
   rw [ho] at ho2
   cases ho2
   obtain ⟨o3, u, ho3, hu, hfu, _⟩ := h.get (qO ho').1
   rw [ho'] at ho3
   cases ho3
   rw [zdj hr] at hn
   have := hf.apart u (zh6 _ 0 j u (by rw [List.getElem?_take, if_pos hjk]; exact hu) (by rw [Nat.zero_add]; exact hn))
   rw [hfu.eo] at this
   exact this
 . obtain ⟨o2, rec, ho2, hr, hf, _⟩ := h.get hk
   rw [zcn hr] at hx
   obtain ⟨k1, k2, _⟩ := zma h hk hr hx
   refine ⟨k1, fun j hj hn ha => ?_⟩
   obtain ⟨o3, u, ho3, hu, hfu, _⟩ := h.get (show j < ops.length by omega)
   rw [zdj hr] at hn
   rw [zid h qF hu, k2 u (zh6 _ 0 j u (by rw [List.getElem?_take, if_pos hj]; exact hu) (by rw [Nat.zero_add]; exact hn))] at ha
   cases ha
 . obtain ⟨o2, rec, ho2, hr, hf, _⟩ := h.get hk
   obtain ⟨o3, u, ho3, hu, hfu, _⟩ := h.get (show i < ops.length by omega)
   rw [zdj hr] at hn
   rw [zcn hu] at hx
   rw [zbu hr]
   intro htc
   have hmem := zh6 (nd := rec.nd) (S.take k) 0 i u (by rw [List.getElem?_take, if_pos hik]; exact hu) (by rw [Nat.zero_add]; exact hn)
   cases hrun : rec.run
   . obtain ⟨_, h2, _⟩ := hf.no hrun
     rw [h2] at htc; cases htc
   . have h3 := (hf.yes hrun).2.2.1 u hmem
     unfold chkU at h3
     cases hfp : u.fp with
     | some bs =>
       rw [hfp] at h3
       have h4 := List.all_eq_true.1 h3 b ((zma h qF hu hx).2.2 bs hfp)
       rw [zh5.2 htc] at h4
       cases h4
     | none =>
       rw [hfp] at h3
       have h4 := qS (List.all_eq_true.1 h3 b htc)
       have h5 := h.mono (show i <= k by omega) qF
       have hb : b < atB S s'.next i := hb
       omega
 . exact hps_of h hk (hp_low h k qF fun j hj => hK j qF) hK b
end
def kvL (R : List Rec) (k : Nat) : Option (ByteArray × Value) := match R[k]? with
 | some u => match u.hand with
   | some (some (_, k, v)) => some (k, v)
   | _ => none
 | none => none
theorem zc4 {R : List Rec} {k : Nat} {e : ByteArray × Value} (h : kvL R k = some e) : ∃ u b, R[k]? = some u /\ u.hand = some (some (b, e.1, e.2)) := by
 unfold kvL at h
 split at h
 . rename_i u hu
   split at h
   . rename_i b k v hh
     cases h
     exact ⟨u, b, hu, hh⟩
   . cases h
 . cases h
theorem zd7 (kk : ByteArray) : ∀ (R : List Rec) (i0 : Nat), (afind kk (esOf R) i0 = none /\ ∀ k v, kvL R k ≠ some (kk, v)) ∨ ∃ k v i, kvL R k = some (kk, v) /\ afind kk (esOf R) i0 = some (i, v)
 | [], _ => .inl ⟨rfl, fun k v h => by obtain ⟨u, b, h1, _⟩ := zc4 h; simp at h1⟩
 | u :: l, i0 => by
   have skip : (∀ b k v, u.hand ≠ some (some (b, k, v))) -> esOf (u :: l) = esOf l := fun h => by
    rw [esOf]
    split
    . rename_i hh; exact absurd hh (h _ _ _)
    . rfl
   by_cases hh : ∃ b k v, u.hand = some (some (b, k, v))
   . obtain ⟨b, k0, v0, hh⟩ := hh
     have e1 : esOf (u :: l) = (k0, v0) :: esOf l := by rw [esOf, hh]
     rw [e1]
     simp only [afind]
     cases hk : kk == k0
     . rcases zd7 kk l (i0 + 1) with ⟨h1, h2⟩ | ⟨k, v, i, h1, h2⟩
       . refine .inl ⟨h1, fun k v h => ?_⟩
         cases k with
         | zero =>
           obtain ⟨u', b', h3, h4⟩ := zc4 h
           simp at h3
           subst h3
           rw [hh] at h4
           cases h4
           rw [ziv.2 rfl] at hk
           cases hk
         | succ k => exact h2 k v h
       . exact .inr ⟨k + 1, v, i, h1, h2⟩
     . refine .inr ⟨0, v0, i0, ?_, rfl⟩
       rw [ziv.1 hk]
       show (match u.hand with | some (some (_, k, v)) => some (k, v) | _ => none) = _
       rw [hh]
   . rw [skip fun b k v h => hh ⟨b, k, v, h⟩]
     rcases zd7 kk l i0 with ⟨h1, h2⟩ | ⟨k, v, i, h1, h2⟩
     . refine .inl ⟨h1, fun k v h => ?_⟩
       cases k with
       | zero =>
         obtain ⟨u', b', h3, h4⟩ := zc4 h
         simp at h3
         subst h3
         exact hh ⟨_, _, _, h4⟩
       | succ k => exact h2 k v h
     . exact .inr ⟨k + 1, v, i, h1, h2⟩
theorem zpa : ∀ (R : List Rec), keysD (esOf R) = true -> ∀ j k e e', kvL R j = some e -> kvL R k = some e' -> e.1 = e'.1 -> j = k
 | [], _, j, k, e, e', h, _, _ => by obtain ⟨u, b, h1, _⟩ := zc4 h; simp at h1
 | u :: l, hd, j, k, e, e', h1, h2, he => by
   have tl : keysD (esOf l) = true := by
    rw [esOf] at hd
    split at hd
    . unfold keysD at hd
      split at hd
      . exact hd
      . cases hd
    . exact hd
   have hz : ∀ k e e', kvL (u :: l) 0 = some e -> kvL l k = some e' -> e.1 = e'.1 -> False := fun k e e' h1 h2 he => by
    obtain ⟨u', b', h3, h4⟩ := zc4 h1
    simp at h3
    subst h3
    have e1 : esOf (u :: l) = (e.1, e.2) :: esOf l := by rw [esOf, h4]
    rw [e1] at hd
    unfold keysD at hd
    rcases zd7 e'.1 l 0 with ⟨h5, h6⟩ | ⟨k', v, i, h5, h6⟩
    . exact h6 k e'.2 h2
    . rw [he, h6] at hd
      cases hd
   cases j with
   | zero =>
     cases k with
     | zero => rfl
     | succ k => exact (hz k e e' h1 h2 he).elim
   | succ j =>
     cases k with
     | zero => exact (hz j e' e h2 h1 he.symm).elim
     | succ k => rw [zpa l tl j k e e' h1 h2 he]
theorem zi8 : ∀ (R : List Rec) (i mk base : Nat), mkOf R i = some (mk, base) -> ∃ j u, mk = i + j /\ R[j]? = some u /\ u.hand = some none /\ u.base = base
 | [], _, _, _, h => by cases h
 | u :: l, i, mk, base, h => by
   unfold mkOf at h
   split at h
   . rename_i hh
     cases h
     exact ⟨0, u, rfl, rfl, hh, rfl⟩
   . obtain ⟨j, v, h1, h2⟩ := zi8 l (i + 1) mk base h
     exact ⟨j + 1, v, by omega, h2⟩
theorem zgg {mk base : Nat} : ∀ (R : List Rec) (i : Nat), pchk mk base R i = true -> ∀ j u, R[j]? = some u -> (u.hand = some none -> i + j = mk) /\ ∀ b k v, u.hand = some (some (b, k, v)) -> b = base /\ u.nd.testBit mk = true
 | [], _, _, j, u, h => by simp at h
 | x :: l, i, hc, j, u, h => by
   unfold pchk at hc
   obtain ⟨h1, h2⟩ : pchk1 mk base i x = true /\ pchk mk base l (i + 1) = true := by
    cases hq : pchk1 mk base i x
    . rw [hq] at hc; cases hc
    . rw [hq] at hc; exact ⟨rfl, hc⟩
   unfold pchk1 at h1
   cases j with
   | zero =>
     simp at h
     subst h
     refine ⟨fun hh => ?_, fun b k v hh => ?_⟩
     . rw [hh] at h1
       exact qU h1
     . rw [hh] at h1
       simp only [Bool.and_eq_true] at h1
       exact ⟨qU h1.1, h1.2⟩
   | succ j =>
     have := zgg l (i + 1) h2 j u (by simpa using h)
     exact ⟨fun hh => by have := this.1 hh; omega, this.2⟩
section
variable {T : Tbl} {pd : Bool} {r : Rn} {sz : Nat} {ops : List Oper} {S : List Rec} {tm0 tm' : Tm} {s0 s' : ASt} {P : Program}
theorem pend_of {E : Ev} (hT : T.Ok E P) (h : Recs T pd r sz ops tm0 s0 S tm' s') {mk base : Nat} (h1 : mkOf S 0 = some (mk, base)) (h2 : pchk mk base S 0 = true) (h3 : keysD (esOf S) = true) : (planOf S tm' s').base mk = base /\ Pend (planOf S tm' s') P ops mk (kvL S) := by
 obtain ⟨j, um, hj, hu, hh, hb⟩ := zi8 S 0 mk base h1
 have hj : mk = j := by omega
 subst hj
 have hml : mk < ops.length := by have := (qO hu).1; rw [h.len] at this; exact this
 have hbase : (planOf S tm' s').base mk = base := by rw [<- hb]; exact zkb hu
 have runs : ∀ {k : Nat} {o : Oper} {u : Rec}, ops[k]? = some o -> S[k]? = some u -> u.hand.isSome = true -> ∃ o', ops[k]? = some o' /\ u.run = true /\ Found T pd r sz ops (S.take k) o' (atT S tm' k) (atH S s'.heap k) (atB S s'.next k) u (atT S tm' (k + 1)) (atH S s'.heap (k + 1)) := fun {k o u} ho hu hs => by
  obtain ⟨o2, rec, ho2, hr, hf, hn⟩ := h.get (qO ho).1
  rw [hu] at hr
  cases hr
  refine ⟨o2, ho2, ?_, hf⟩
  cases hrun : u.run with
  | true => rfl
  | false => rw [(hf.no hrun).2.2.2.2.2] at hs; cases hs
 obtain ⟨om, hom⟩ : ∃ o, ops[mk]? = some o := ⟨ops[mk], List.getElem?_eq_getElem _⟩
 obtain ⟨om, hom, hrm, hfm⟩ := runs hom hu (by rw [hh]; rfl)
 have hsm := zet (hfm.yes hrm).2.1
 rw [hh] at hsm
 obtain ⟨⟨tm2, hop⟩, hv, hout⟩ := hsm
 refine ⟨hbase, hml, by rw [zc9 hu]; exact hrm, by rw [zgh hu, hh]; rfl, ⟨om, tm2, hom, hop⟩, ?_, ?_, fun k o ho hrun hkd hne => ?_, fun k e he => ?_, fun k e he => ?_, zpa S h3⟩
 . rw [zjf hu, hv]
   rfl
 . rw [zbu hu, zcn hu, hout]
   rfl
 . obtain ⟨o2, u, ho2, hr, hf, hn⟩ := h.get (qO ho).1
   rw [ho] at ho2
   cases ho2
   rw [zgh hr] at hkd
   rw [zc9 hr] at hrun
   have hs := zet (hf.yes hrun).2.1
   obtain ⟨c1, c2⟩ := zgg S 0 h2 k u hr
   cases hx : u.hand with
   | none => rw [hx] at hkd; cases hkd
   | some y =>
     cases y with
     | none => exact absurd (by have := c1 hx; omega) hne
     | some y =>
       obtain ⟨b, kk, v⟩ := y
       rw [hx] at hs
       obtain ⟨t, m, key, x, i, kt, et, ki, e1, e2, e3, e4, e5, e6, e7, e8, e9, e10⟩ := hs
       have hui := (hT.ty _ _ e2).und
       rw [e3] at hui
       have huk := (hT.ty _ _ e4).und
       rw [e5] at huk
       refine ⟨t, m, key, x, kt, et, kk, e1, hui, huk, ?_, e7, ?_, ?_, ?_⟩
       . rw [hbase, <- (c2 b kk v hx).1]; exact e6
       . show (match S[k]? with | some u => (match u.hand with | some (some (_, k, v)) => some (k, v) | _ => none) | none => none) = _
         rw [hr]
         show (match u.hand with | some (some (_, k, v)) => some (k, v) | _ => none) = _
         rw [hx, e8]
         rfl
       . rw [zjf hr]; exact e9
       . rw [zbu hr, zcn hr]; exact e10
 . obtain ⟨u, b, k1, k2⟩ := zc4 he
   have hk : k < ops.length := by have := (qO k1).1; rw [h.len] at this; exact this
   obtain ⟨o2, _, hru, _⟩ := runs (List.getElem?_eq_getElem hk) k1 (by rw [k2]; rfl)
   refine ⟨hk, by rw [zc9 k1]; exact hru, by rw [zgh k1, k2]; rfl, fun e => ?_⟩
   rw [e, hu] at k1
   cases k1
   rw [hh] at k2; cases k2
 . obtain ⟨u, b, k1, k2⟩ := zc4 he
   rw [zdj k1]
   exact ((zgg S 0 h2 k u k1).2 b _ _ k2).2
end
theorem zhr {E : Ev} {P : Program} {T : Tbl} (hT : T.Ok E P) : DrOk E P (adraw T) := by
 intro r hC sz ops tm s tm' s' hx D ρ a w h Q hQ id
 have both : ∀ (pd : Bool) (R : List Rec) (tm1 : Tm) (s1 : ASt), dgo T pd r sz ops ops [] tm s.heap s.next s.tc = some (R, tm1, s1) ->
  Recs T pd r sz ops tm s R tm1 s1 /\ (planOf R tm1 s1).hpS ops.length = s1.heap /\ (planOf R tm1 s1).base ops.length = s1.next /\ (planOf R tm1 s1).tmS ops.length = tm1 /\ ∀ b, b ∈ s1.tc ↔ (∃ k, k < ops.length /\ b ∈ ((planOf R tm1 s1).out k).tc) ∨ b ∈ s.tc := fun pd R tm1 s1 hd => by
  obtain ⟨S, h1, h2, h3, h4, h5, h6, h7⟩ := zl2 ops [] tm s.heap s.next s.tc R tm1 s1 hd
  simp only [List.nil_append] at h1
  subst h1
  have hR : Recs T pd r sz ops tm s R tm1 s1 := ⟨h2, h3, h4, h5, h.sim.low, fun j o ho => by simpa using h6 j o ho⟩
  have hend : ∀ k, k = ops.length -> R[k]? = none := fun k hk => List.getElem?_eq_none qF
  refine ⟨hR, ?_, ?_, ?_, fun b => ?_⟩
  . show (match R[ops.length]? with | some u => u.hp | none => s1.heap) = _
    rw [hend _ rfl]
  . show (match R[ops.length]? with | some u => u.base | none => s1.next) = _
    rw [hend _ rfl]
  . show (match R[ops.length]? with | some u => u.tm | none => tm1) = _
    rw [hend _ rfl]
  . rw [h7 b]
    refine or_congr ⟨?_, ?_⟩ Iff.rfl
    . rintro ⟨u, hu, hb⟩
      obtain ⟨k, hk⟩ := List.getElem?_of_mem hu
      have hkl := (qO hk).1
      exact ⟨k, by omega, by rw [zbu hk]; exact hb⟩
    . rintro ⟨k, hk, hb⟩
      obtain ⟨o, rec, ho, hr, hf, hn⟩ := hR.get hk
      rw [zbu hr] at hb
      exact ⟨rec, qP hr, hb⟩
 have hst : St E D ρ sz s tm a w.drew := ⟨h.sim.drew, h.tr, h.size, h.defers⟩
 unfold adraw at hx
 split at hx
 . rename_i R tm1 s1 hd
   cases hx
   obtain ⟨hR, e1, e2, e3, h7⟩ := both false R _ _ hd
   have g := zje hR
   refine wp_region_any hT.mixed ?_
   have := plan_ok (Q := Q) (tcF := s'.tc) g hT hC hst (fun k hk hrun => ?_) h7 fun D' ρ' a' w' k1 k2 => ?_
   . simpa using this
   . obtain ⟨o, rec, ho, hr, hf, hn⟩ := hR.get hk
     rw [zc9 hr] at hrun
     rw [zgh hr, zj6 (hf.yes hrun).2.1]
     rfl
   . rw [e1, e2, e3] at k1
     rw [e1, e2] at k2
     exact hQ D' ρ' a' w' k1 (Ex.trans h.sim.low (Ex.drew h.sim) k2)
 . split at hx
   . rename_i R tm1 s1 hd
     unfold pfin at hx
     split at hx
     . rename_i mk base hmk
       obtain ⟨hc, hx⟩ := zas hx
       cases hx
       simp only [Bool.and_eq_true] at hc
       obtain ⟨hR, e1, e2, e3, h7⟩ := both true R _ _ hd
       have g := zje hR
       obtain ⟨hb, hp⟩ := pend_of hT hR hmk hc.1 hc.2.1
       refine wp_region_any hT.mixed ?_
       have := pend_ok (Q := Q) (tcF := s1.tc) (es := esOf R) g hp hT hC hst h7 (by rw [hb]; have := qS hc.2.2; omega) (fun kk => zd7 kk R 0) fun D' ρ' a' w' k1 k2 => ?_
       . simpa using this
       . rw [e1, e2, e3, hb] at k1
         rw [e1, e2, hb] at k2
         exact hQ D' ρ' a' w' k1 (Ex.trans h.sim.low (Ex.drew h.sim) k2)
     . cases hx
   . cases hx
section
variable {E : Ev} {D D1 : Nat -> Prop} {ρ ρ1 : Nat -> Pl} {s s1 : ASt} {w w1 : World}
theorem sim_ro {g m nh : Tr AObj} (h : Sim E D ρ s w) (hg : ∀ b x, g.get b = some x -> s.heap.get b = some x /\ x.wr = false) (h1 : Sim E D1 ρ1 s1 w1) (k : Ex D ⟨g, s.next, []⟩ ρ w D1 s1 ρ1 w1)
 (hn : ∀ b x, nh.get b = some x -> s1.heap.get b = some x /\ s.next <= b) (hm : ∀ b, m.get b = match nh.get b with | some x => some x | none => s.heap.get b) :
 Sim E D1 ρ1 ⟨m, s1.next, s.tc⟩ w1 /\ Ex D s ρ w D1 ⟨m, s1.next, s.tc⟩ ρ1 w1 := by
 have nx : s.next <= s1.next := k.next
 have nob : ∀ b, b ∈ s1.tc -> ∀ o, g.get b = some o -> False := fun b hb o ho => by
  have := k.twr b o hb qH ho
  rw [(hg b o ho).2] at this; cases this
 have far : ∀ b x, nh.get b = some x -> w.heap.size <= (ρ1 b).blk := fun b x hb => by
  obtain ⟨h2, h3⟩ := hn b x hb
  rcases Nat.lt_or_ge (ρ1 b).blk w.heap.size with hl | hl
  . obtain ⟨c, hc, ⟨o, ho⟩, _⟩ := k.born b x h3 h2 hl
    exact (nob c hc o ho).elim
  . exact hl
 have fr : ∀ j, j < w.heap.size -> w1.heap[j]? = w.heap[j]? := fun j hj => k.frame j hj fun b hb o ho => (nob b hb o ho).elim
 have old : ∀ b x, nh.get b = none -> s.heap.get b = some x -> ρ1 b = ρ b := fun b x _ hb => k.same b (h.low b x hb)
 have cases' : ∀ b x, m.get b = some x -> (nh.get b = some x) ∨ (nh.get b = none /\ s.heap.get b = some x) := fun b x hb => by
  rw [hm] at hb
  cases hx : nh.get b with
  | some y => rw [hx] at hb; exact .inl hb
  | none => rw [hx] at hb; exact .inr ⟨rfl, hb⟩
 refine ⟨⟨fun b x hb => ?_, h1.dn, fun b x hb => ?_, fun b x hb => ?_, fun b c x y hb hc hne hwr => ?_, h1.gl, h1.glob, fun x q ob hk => ?_⟩, ⟨nx, k.sub, k.fresh, k.same, fun b x hlt hb => ?_, fun b x hge hb hl => ?_, fun _ h => h, k.os, k.tape, k.output, k.size, fun j hj _ => fr j hj, fun b hlt _ => ?_, fun b o hb hnb => absurd hb hnb, fun b hb hnb => absurd hb hnb, k.snew, k.sbig⟩⟩
 . rcases cases' b x hb with hb | ⟨_, hb⟩
   . exact h1.lt b x (hn b x hb).1
   . exact k.sub b (h.lt b x hb)
 . rcases cases' b x hb with hb | ⟨hz, hb⟩
   . exact h1.bd b x (hn b x hb).1
   . rw [old b x hz hb]
     exact (h.bd b x hb).kept k.sub (fun j hj => k.same j (h.dn j hj)) (fr _)
 . rcases cases' b x hb with hb | ⟨hz, hb⟩
   . exact h1.inh b x (hn b x hb).1
   . rw [old b x hz hb]
     exact qQ (h.inh b x hb) k.size
 . rcases cases' b x hb with hb | ⟨hz, hb⟩ <;> rcases cases' c y hc with hc | ⟨hz2, hc⟩
   . exact h1.apart b c x y (hn b x hb).1 (hn c y hc).1 hne hwr
   . rw [old c y hz2 hc]
     have := far b x hb
     have := h.inh c y hc
     omega
   . rw [old b x hz hb]
     have := far c y hc
     have := h.inh b x hb
     omega
   . rw [old b x hz hb, old c y hz2 hc]
     exact h.apart b c x y hb hc hne hwr
 . refine ⟨(h1.prot x q ob hk).1, fun b y hb hwr => ?_⟩
   rcases cases' b y hb with hb | ⟨hz, hb⟩
   . exact (h1.prot x q ob hk).2 b y (hn b y hb).1 hwr
   . rw [old b y hz hb]
     have hbs := h.inh b y hb
     rcases Nat.lt_or_ge x s.next with hx | hx
     . rw [k.same x hx] at hk
       exact (h.prot x q ob hk).2 b y hb hwr
     . rcases Nat.lt_or_ge x s1.next with hx2 | hx2
       . have := k.snew x hx hx2 q ob hk
         omega
       . rw [k.sbig x hx2] at hk
         exact (h.prot x q ob hk).2 b y hb hwr
 . rcases cases' b x hb with hb | ⟨hz, hb⟩
   . have := (hn b x hb).2
     omega
   . exact ⟨x, hb⟩
 . rcases cases' b x hb with hb | ⟨hz, hb⟩
   . have := far b x hb
     omega
   . have := h.low b x hb
     omega
 . rw [zav, hm]
   cases hx : nh.get b with
   | some y => have := (hn b y hx).2; omega
   | none => rfl
end
def eqV : Value -> Value -> Bool
 | .bool a, .bool b => cond a b (cond b false true)
 | .string a, .string b => a == b
 | .slice (some ⟨i, o, none⟩) n c, .slice (some ⟨i', o', none⟩) n' c' => Nat.beq i i' && (Nat.beq o o' && (Nat.beq n n' && Nat.beq c c'))
 | _, _ => false
def eqVs : List Value -> List Value -> Bool
 | [], [] => true
 | a :: l, b :: m => cond (eqV a b) (eqVs l m) false
 | _, _ => false
theorem eqV_ok {a b : Value} (h : eqV a b = true) : a = b := by
 unfold eqV at h
 split at h
 . rename_i a b
   cases a <;> cases b <;> first | rfl | cases h
 . rw [ziv.1 h]
 . simp only [Bool.and_eq_true] at h
   rw [qU h.1, qU h.2.1, qU h.2.2.1, qU h.2.2.2]
 . cases h
theorem zkl : ∀ {a b : List Value} (_ : eqVs a b = true), a = b
 | [], [], _ => rfl
 | [], _ :: _, h => by cases h
 | _ :: _, [], h => by cases h
 | a :: l, b :: m, h => by
   unfold eqVs at h
   cases hx : eqV a b
   . rw [hx] at h; cases h
   . rw [hx] at h
     rw [eqV_ok hx, zkl h]
def eqO : Option AObj -> Option AObj -> Bool
 | some ⟨false, .cells e z l⟩, some ⟨false, .cells e' z' l'⟩ => Nat.beq e e' && (Nat.beq z z' && eqVs l l')
 | _, _ => false
theorem zl6 {a b : Option AObj} (h : eqO a b = true) : a = b /\ ∃ x, a = some x /\ x.wr = false := by
 unfold eqO at h
 split at h
 . simp only [Bool.and_eq_true] at h
   rw [qU h.1, qU h.2.1, zkl h.2.2]
   exact ⟨rfl, _, rfl, rfl⟩
 . cases h
structure Ans where
 args : List Value
 g : Tr AObj
 ids : List Nat
 next : Nat
 v : Value
 nh : Tr AObj
 nids : List Nat
 next2 : Nat
def Ans.sp (A : Ans) (args : List Value) (s : ASt) : Option (Value × ASt) :=
 cond (eqVs args A.args && (Nat.beq s.next A.next && A.ids.all fun b => eqO (s.heap.get b) (A.g.get b))) (some (A.v, ⟨copyL A.nh A.nids s.heap, A.next2, s.tc⟩)) none
structure Ans.Ok (A : Ans) (r : Rn) (f : FuncId) : Prop where
 gi : ∀ b x, A.g.get b = some x -> b ∈ A.ids
 ni : ∀ b ∈ A.nids, b + 1 < 2 ^ xBits /\ A.next <= b /\ ∃ x, A.nh.get b = some x
 run : ∃ s1, r.call f A.args ⟨A.g, A.next, []⟩ = some (A.v, s1) /\ s1.next = A.next2 /\ ∀ b ∈ A.nids, s1.heap.get b = A.nh.get b
section
variable {E : Ev} {P : Program} {r : Rn}
theorem Sim.sub {D : Nat -> Prop} {ρ : Nat -> Pl} {s : ASt} {w : World} (h : Sim E D ρ s w) {g : Tr AObj} (hg : ∀ b x, g.get b = some x -> s.heap.get b = some x) (tc : List Nat) : Sim E D ρ ⟨g, s.next, tc⟩ w :=
 ⟨fun b x hb => h.lt b x (hg b x hb), h.dn, fun b x hb => h.bd b x (hg b x hb), fun b x hb => h.inh b x (hg b x hb), fun b c x y hb hc => h.apart b c x y (hg b x hb) (hg c y hc), h.gl, h.glob, fun x k ob hk => ⟨(h.prot x k ob hk).1, fun b y hb => (h.prot x k ob hk).2 b y (hg b y hb)⟩⟩
theorem ans_ok {A : Ans} {f : FuncId} (hA : A.Ok r f) (hC : CallOk E P r) {args : List Value} {s s' : ASt} {v : Value} (hx : A.sp args s = some (v, s')) {D : Nat -> Prop} {ρ : Nat -> Pl} {w : World} {args' : List Value} (h : Sim E D ρ s w) (hr : Rvs E D ρ args args') :
 Calls P f ⟨args'⟩ w fun e w' => ∃ v' ρ' D', e = .returned v' /\ Rv E D' ρ' v v' /\ Sim E D' ρ' s' w' /\ Ex D s ρ w D' s' ρ' w' := by
 unfold Ans.sp at hx
 obtain ⟨h1, h2⟩ := zax hx
 simp only [Bool.and_eq_true] at h1
 obtain ⟨ha, hn, hids⟩ := h1
 have ha := zkl ha
 have hn := qU hn
 cases h2
 subst ha
 obtain ⟨s1, k1, k2, k3⟩ := hA.run
 have hsub : ∀ b x, A.g.get b = some x -> s.heap.get b = some x /\ x.wr = false := fun b x hb => by
  obtain ⟨e1, y, e2, e3⟩ := zl6 (List.all_eq_true.1 hids b (hA.gi b x hb))
  rw [e1, hb] at e2
  cases e2
  exact ⟨by rw [e1, hb], e3⟩
 rw [<- hn] at k1
 refine (hC f _ _ _ _ k1 D ρ w args' (h.sub (fun b x hb => (hsub b x hb).1) []) hr).mono ?_
 rintro e w' ⟨v', ρ', D', rfl, j1, j2, j3⟩
 have hnh : ∀ b x, (copyL A.nh A.nids .leaf).get b = some x -> s1.heap.get b = some x /\ s.next <= b := fun b x hb => by
  rw [zcf _ _ _ b fun y hy => (hA.ni y hy).1] at hb
  by_cases hm : b ∈ A.nids
  . rw [if_pos hm] at hb
    exact ⟨by rw [k3 b hm, hb], by rw [hn]; exact (hA.ni b hm).2.1⟩
  . rw [if_neg hm, Tr.get_leaf] at hb; cases hb
 obtain ⟨g1, g2⟩ := sim_ro (m := copyL A.nh A.nids s.heap) h hsub j2 j3 hnh fun b => by
  rw [zcf _ _ _ b fun y hy => (hA.ni y hy).1, zcf _ _ _ b fun y hy => (hA.ni y hy).1]
  by_cases hm : b ∈ A.nids
  . rw [if_pos hm, if_pos hm]
    obtain ⟨x, hx⟩ := (hA.ni b hm).2.2
    rw [hx]
  . rw [if_neg hm, if_neg hm, Tr.get_leaf]
 rw [k2] at g1 g2
 exact ⟨v', ρ', D', rfl, j1, g1, g2⟩
end
section
variable {α : Type} (enc : α -> List Value) (C : Nat)
def flat (l : List α) : List Value := l.flatMap enc
theorem zba (x : α) (l : List α) : flat enc (x :: l) = enc x ++ flat enc l := rfl
theorem zc2 (a b : List α) : flat enc (a ++ b) = flat enc a ++ flat enc b := by unfold flat; rw [List.flatMap_append]
theorem zl7 (x : α) : flat enc [x] = enc x := by rw [zba]; exact List.append_nil _
variable {enc C}
theorem zau (hC : ∀ x, (enc x).length = C) (l : List α) : (flat enc l).length = l.length * C := by
 induction l with
 | nil => simp [flat]
 | cons x l ih => rw [zba, List.length_append, ih, hC, List.length_cons, Nat.succ_mul]; omega
theorem zbf (hC : ∀ x, (enc x).length = C) : ∀ {l : List α} {j : Nat} {x : α} (_ : l[j]? = some x) (k : Nat) (_ : k < C), (flat enc l)[j * C + k]? = (enc x)[k]?
 | y :: l, 0, x, h, k, hk => by
   simp at h; subst h
   rw [zba, Nat.zero_mul, Nat.zero_add, List.getElem?_append_left (by rw [hC]; exact hk)]
 | y :: l, j + 1, x, h, k, hk => by
   have h' : l[j]? = some x := by simpa using h
   have := zbf hC h' k hk
   rw [zba, List.getElem?_append_right (by rw [hC, Nat.succ_mul]; omega), hC, <- this]
   congr 1
   rw [Nat.succ_mul]; omega
theorem zi1 (hC : ∀ x, (enc x).length = C) : ∀ (l : List α) (k : Nat), flat enc (l.drop k) = (flat enc l).drop (k * C)
 | l, 0 => by simp
 | [], k + 1 => by simp [flat]
 | x :: l, k + 1 => by
   have e : (k + 1) * C = (enc x).length + k * C := by rw [hC, Nat.succ_mul]; omega
   rw [List.drop_succ_cons, zi1 hC l k, zba, e, <- List.drop_drop, List.drop_left]
end
theorem zaw (b off j : Nat) : (⟨b, off, none⟩ : Addr).add j = ⟨b, off + j, none⟩ := by unfold Addr.add; split <;> simp_all
def Fl (w : World) (C : Nat) (A : Option Addr) (n : Nat) (xs : List Value) : Prop :=
 xs.length = n * C /\ (0 < n -> ∃ b off, A = some ⟨b, off, none⟩ /\ ∀ (j : Nat) (u : Value), xs[j]? = some u -> w.cell? ⟨b, off + j, none⟩ = some u)
section
variable {w w' : World} {C n : Nat} {A : Option Addr} {xs : List Value}
theorem Fl.nil (w : World) (C : Nat) (A : Option Addr) : Fl w C A 0 [] := ⟨by simp, fun h => absurd h qF⟩
theorem Fl.later (h : Fl w C A n xs) (hb : Below w.heap.size w w') : Fl w' C A n xs :=
 ⟨h.1, fun hn => by
  obtain ⟨b, off, hA, hc⟩ := h.2 hn
  exact ⟨b, off, hA, fun j u hx => qM hb (hc j u hx)⟩⟩
theorem Fl.kept {row : Option Nat} (h : Fl w C A n xs) (hg : w.grownBy w' row) (hA : 0 < n -> ∀ a, A = some a -> some a.block ≠ row) : Fl w' C A n xs :=
 ⟨h.1, fun hn => by
  obtain ⟨b, off, e, hc⟩ := h.2 hn
  exact ⟨b, off, e, fun j u hx => hg.cell (hc j u hx) (hA hn ⟨b, off, none⟩ e)⟩⟩
theorem Fl.set (h : Fl w C A n xs) (p : Addr) (v : Value) (hp : 0 < n -> ∀ a, A = some a -> a.block ≠ p.block) : Fl (w.setCell p v) C A n xs :=
 ⟨h.1, fun hn => by
  obtain ⟨b, off, e, hc⟩ := h.2 hn
  exact ⟨b, off, e, fun j u hx => by rw [World.cell?_setCell_other (h := fun e2 => hp hn ⟨b, off, none⟩ e (by rw [e2]))]; exact hc j u hx⟩⟩
theorem Fl.news {ad : Addr} (h : Fl w C (some ad) n xs) : ∀ j u, xs[j]? = some u -> w.cell? (ad.add j) = some u := by
 intro j u hj
 have hl := (qO hj).1
 obtain ⟨b, off, hA, hc⟩ := h.2 (by rcases Nat.eq_zero_or_pos n with h0 | h0; (have := h.1; rw [h0] at this; omega); exact h0)
 cases hA
 rw [zaw]; exact hc j u hj
theorem Fl.lt (h : Fl w C A n xs) (hC : 0 < C) (hn : 0 < n) : ∃ b off, A = some ⟨b, off, none⟩ /\ b < w.heap.size := by
 obtain ⟨b, off, e, hc⟩ := h.2 hn
 have hl : 0 < xs.length := by rw [h.1]; exact Nat.mul_pos hn hC
 exact ⟨b, off, e, qX _ _ (hc 0 _ (List.getElem?_eq_getElem hl))⟩
theorem Fl.drop (h : Fl w C A n xs) (k : Nat) (hk : k <= n) {b off : Nat} (hA : A = some ⟨b, off, none⟩) : Fl w C (some ⟨b, off + k * C, none⟩) (n - k) (xs.drop (k * C)) := by
 refine ⟨by rw [List.length_drop, h.1, Nat.sub_mul], fun hn => ?_⟩
 obtain ⟨b', off', e, hc⟩ := h.2 qF
 rw [hA] at e
 cases e
 refine ⟨b, off + k * C, rfl, fun j u hj => ?_⟩
 rw [List.getElem?_drop] at hj
 have := hc _ u hj
 rw [<- Nat.add_assoc] at this
 exact this
theorem Fl.take (h : Fl w C A n xs) (k : Nat) (hk : k <= n) : Fl w C A k (xs.take (k * C)) := by
 refine ⟨by rw [List.length_take, h.1]; have := Nat.mul_le_mul_right C hk; omega, fun hn => ?_⟩
 obtain ⟨b', off', e, hc⟩ := h.2 qF
 refine ⟨b', off', e, fun j u hj => hc j u ?_⟩
 rw [List.getElem?_take] at hj
 split at hj
 . exact hj
 . cases hj
theorem zd9 {base e : Nat} {v : Value} (h : w.ownsRow base e C v n xs) : ∃ A c, v = .slice A n c /\ Fl w C A n xs /\ (∀ a, A = some a -> base <= a.block) := by
 rcases h.2 with ⟨rfl, rfl⟩ | ⟨g, cap, cur, rfl, hbg, _, _, _, _, _⟩
 . exact ⟨none, 0, rfl, ⟨h.1, fun h => absurd h qF⟩, fun a h => by simp at h⟩
 . refine ⟨some ⟨g, 0, none⟩, cap, rfl, ⟨h.1, fun _ => ⟨g, 0, rfl, fun j u hx => ?_⟩⟩, fun a h => by cases h; exact hbg⟩
   have hc := h.cells (g := g) rfl j u hx
   rw [zaw] at hc; exact hc
theorem za7 {b off : Nat} (hl : xs.length = n * C) (h : ∀ j u, xs[j]? = some u -> w.cell? ⟨b, off + j, none⟩ = some u) : Fl w C (some ⟨b, off, none⟩) n xs := ⟨hl, fun _ => ⟨b, off, rfl, h⟩⟩
end
section
variable {α : Type} {enc : α -> List Value} {w : World} {C n : Nat} {A : Option Addr} {l : List α}
theorem Fl.count (h : Fl w C A n (flat enc l)) (hC : ∀ x, (enc x).length = C) (h0 : 0 < C) : l.length = n := by
 have := h.1
 rw [zau hC] at this
 exact Nat.eq_of_mul_eq_mul_right h0 this
theorem Fl.cells (h : Fl w C A n (flat enc l)) (hC : ∀ x, (enc x).length = C) (hn : 0 < n) : ∃ b off, A = some ⟨b, off, none⟩ /\ ∀ (j : Nat) (x : α) (k : Nat) (u : Value), l[j]? = some x -> k < C -> (enc x)[k]? = some u -> w.cell? ⟨b, off + j * C + k, none⟩ = some u := by
 obtain ⟨b, off, e, hc⟩ := h.2 hn
 refine ⟨b, off, e, fun j x k u hx hk hu => ?_⟩
 rw [Nat.add_assoc]
 exact hc _ u (by rw [zbf hC hx k hk]; exact hu)
end
def encInt (x : Int) : List Value := [.int .i64 x]
def encStr (x : ByteArray) : List Value := [.string x]
theorem zex (x : Int) : (encInt x).length = 1 := rfl
theorem zez (x : ByteArray) : (encStr x).length = 1 := rfl
def rInt (w : World) (A : Option Addr) (n : Nat) (l : List Int) : Prop := Fl w 1 A n (flat encInt l)
def rStr (w : World) (A : Option Addr) (n : Nat) (l : List ByteArray) : Prop := Fl w 1 A n (flat encStr l)
section
variable {w w' : World} {A : Option Addr} {n : Nat}
theorem rInt.len {l : List Int} (h : rInt w A n l) : l.length = n := h.count zex qF
theorem rStr.len {l : List ByteArray} (h : rStr w A n l) : l.length = n := h.count zez qF
theorem rInt.opn {l : List Int} (h : rInt w A n l) (hn : 0 < n) : ∃ b off, A = some ⟨b, off, none⟩ /\ ∀ (j : Nat) (x : Int), l[j]? = some x -> w.cell? ⟨b, off + j, none⟩ = some (.int .i64 x) := by
 obtain ⟨b, off, e, hc⟩ := h.cells zex hn
 exact ⟨b, off, e, fun j x hx => by have := hc j x 0 _ hx qF rfl; simpa using this⟩
theorem rStr.opn {l : List ByteArray} (h : rStr w A n l) (hn : 0 < n) : ∃ b off, A = some ⟨b, off, none⟩ /\ ∀ (j : Nat) (x : ByteArray), l[j]? = some x -> w.cell? ⟨b, off + j, none⟩ = some (.string x) := by
 obtain ⟨b, off, e, hc⟩ := h.cells zez hn
 exact ⟨b, off, e, fun j x hx => by have := hc j x 0 _ hx qF rfl; simpa using this⟩
theorem rInt.later {l : List Int} (h : rInt w A n l) (hb : Below w.heap.size w w') : rInt w' A n l := Fl.later h hb
end
theorem za6 {B : Nat} {a w : World} (h : Below B a w) (n : Nat) : Below B a (w.drewN n) := ⟨h.os, h.tape, h.output, h.size, h.block⟩
theorem bthen {B : Nat} {a b c : World} (h : Below B a b) (hB : B <= a.heap.size) (k : Below b.heap.size b c) : Below B a c := h.trans (k.mono (qR hB h.size))
theorem za9 {w w' : World} {B : Nat} {row : Option Nat} (hg : w.grownBy w' row) (hB : B <= w.heap.size) (hr : ∀ k, row = some k -> B <= k) : Below B w w' :=
 ⟨hg.os, hg.tape, hg.output, hg.size, fun k hk => hg.block k qF (fun e => by have := hr k e.symm; omega)⟩
theorem zak {a b : Int} (h : a = b) : Ending.returned (.int .i64 a) = Ending.returned (.int .i64 b) := by rw [h]
theorem zal {a b : Bool} (h : a = b) : Ending.returned (.bool a) = Ending.returned (.bool b) := by rw [h]
theorem toList_inj {a b : ByteArray} (h : a.toList = b.toList) : a = b := by
 rw [ByteArray.toList_eq, ByteArray.toList_eq] at h
 cases a; cases b; simpa using h
theorem zah {α : Type} {l : List α} {k : Nat} (h : k < l.length) : ∃ x, l[k]? = some x := ⟨l[k], List.getElem?_eq_getElem h⟩
end
end Go.Proofs.YthcalfeoejdcgaaGreatDoor
