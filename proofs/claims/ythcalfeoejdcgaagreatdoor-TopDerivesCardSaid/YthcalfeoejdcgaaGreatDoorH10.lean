import Derived.WalkKit
import Derived.ProofKit
import Derived.OpenShut
import Derived.Carry
import Derived.Deep.DeepHandedRow
import Derived.Lib.LaidTab
import Derived.Test.YthcalfeoejdcgaaGreatDoorCards
import Derived.Test.YthcalfeoejdcgaaGreatDoorH09
namespace Go.Proofs.YthcalfeoejdcgaaGreatDoor
set_option linter.unusedSimpArgs false
set_option linter.unusedVariables false
section
open Go.BigFrame Go.RowKit
def SortR (t : Tab) (w : World) (e : Ending) (w' : World) : Prop := ∃ A n c t', e = .returned (.slice A n c) /\ rTab w' A n t' /\ n <= c /\ Below w.heap.size w w' /\ Asc t' /\ (∀ r, cnt t' r = cnt t r) /\ sumC t' = sumC t /\ (∀ x ∈ t', ∃ y ∈ t, y.1 = x.1) /\ eOk t'
theorem sortedV {t a b : Tab} (k : Nat) (ha : Asc a) (hb : Asc b) (ca : ∀ r, cnt a r = cnt (t.take k) r) (cb : ∀ r, cnt b r = cnt (t.drop k) r) (sa : sumC a = sumC (t.take k)) (sb : sumC b = sumC (t.drop k))
 (ma : ∀ x ∈ a, ∃ y ∈ t.take k, y.1 = x.1) (mb : ∀ x ∈ b, ∃ y ∈ t.drop k, y.1 = x.1) (ea : eOk a) (eb : eOk b) :
 Asc (mergeV a b) /\ (∀ r, cnt (mergeV a b) r = cnt t r) /\ sumC (mergeV a b) = sumC t /\ (∀ x ∈ mergeV a b, ∃ y ∈ t, y.1 = x.1) /\ eOk (mergeV a b) := by
 obtain ⟨h1, h2, h3, h4, h5⟩ := zcy _ a b (qV _) ha hb
 refine ⟨h1, fun r => by rw [h2, ca, cb, <- zcc, List.take_append_drop], by rw [h3, sa, sb, zbm], fun x hx => ?_, h5 ea eb⟩
 rcases h4 x hx with ⟨u, hu, e⟩ | ⟨u, hu, e⟩
 . obtain ⟨y, hy, e2⟩ := ma u hu
   exact ⟨y, List.mem_of_mem_take hy, e2.trans e⟩
 . obtain ⟨y, hy, e2⟩ := mb u hu
   exact ⟨y, List.mem_of_mem_drop hy, e2.trans e⟩
theorem Asc.short {t : Tab} (h : t.length < 2) : Asc t := by
 cases t with
 | nil => trivial
 | cons x l =>
   obtain rfl : l = [] := List.eq_nil_of_length_eq_zero (by simp at h; omega)
   exact ⟨(fun y hy => by cases hy), trivial⟩
set_option maxRecDepth 100000 in
set_option maxHeartbeats 1000000 in
theorem zla : ∀ (N : Nat) (A : Option Addr) (n c : Nat) (t : Tab) (w : World), n <= N -> rTab w A n t -> n <= c -> eOk t -> sumC t <= 1000 -> Calls Tryz.prog 102 #[.slice A n c] w (SortR t w)
 | N, A, n, c, t, w, hN, ht, hc, he, hs => by
   obtain ⟨iE, PE⟩ := pEnt
   have HT := qL ht
   have HE := qL he
   have HS := qL hs
   have hlen := ht.len
   have h1000 : n <= 1000 := by have := he.len; omega
   have HL := qL hlen
   clear ht he hs hlen
   by_cases h2 : n < 2
   . go_enter Tryz.func102, Tryz.ntmps102
     go_wp2_with (at_builtin; refine zg1 _ rfl _ _ rfl PE HT.out rfl rfl qF ?_; intro v1 w1 hown hg)
     obtain ⟨A1, c1, rfl, hcc, hrd, _⟩ := hown.rd
     have HR := qL hrd
     have HB := qL (zcr hg)
     clear hown hrd hg
     go_wp2
     go_ret
     exact ⟨_, _, _, t, rfl, HR.out, hcc, HB.out, Asc.short (by have := HL.out; omega), fun _ => rfl, rfl, fun x hx => ⟨x, hx, rfl⟩, HE.out⟩
   . cases N with
     | zero => omega
     | succ N =>
       obtain ⟨k, hk⟩ : ∃ k : Nat, k = n / 2 := ⟨_, rfl⟩
       have hq : (n : Int) / 2 = (k : Int) := by omega
       have hk1 : 1 <= k := by omega
       have hk2 : k < n := by omega
       have hkN : k <= N := by omega
       have hnN : n - k <= N := by omega
       obtain ⟨b, off, rfl, _⟩ := HT.out.opn qF
       have d2 : decide (n < 2) = false := by simp; omega
       have hne : ¬ c = k := by omega
       have hne0 : ¬ c = 0 := by omega
       have hq2 : (n : Int).tdiv 2 = (k : Int) := by rw [Int.tdiv_eq_ediv_of_nonneg qF]; omega
       have hw2 : IntKind.i64.wrap (k : Int) = (k : Int) := by rw [IntKind.wrap_i64]; omega
       have hkn : k <= n := by omega
       have hkc : k <= c := by omega
       have ih1 := fun W (hb : Below w.heap.size w W) => zla N (some ⟨b, off, none⟩) k c (t.take k) W hkN (rD.later (rD.take (K := kEnt) HT.out k qF) hb) qF (HE.out.take k) (by have h1 := zbm t k; have h2 := (HE.out.drop k).sum; have h3 := HS.out; omega)
       have ih2 := fun W (hb : Below w.heap.size w W) => zla N (some ⟨b, off + k * 2, none⟩) (n - k) (c - k) (t.drop k) W hnN (rD.later (rD.drop (K := kEnt) HT.out k qF rfl) hb) qF (HE.out.drop k) (by have h1 := zbm t k; have h2 := (HE.out.take k).sum; have h3 := HS.out; omega)
       have IH1 := qL ih1
       have IH2 := qL ih2
       have i1 : (0 : Int) <= (k : Int) := by omega
       have i2 : (k : Int) <= (n : Int) := by omega
       have i3 : (k : Int) <= (c : Int) := by omega
       have i4 : (n : Int) <= (c : Int) := by omega
       have hb0 := za0 w
       clear ih1 ih2 h2 hk
       go_enter Tryz.func102, Tryz.ntmps102
       go_wp2_with fail
       go_region_held3 (fun w' => Below w.heap.size w w')
        (first | assumption | exact Below.drew qI | (refine btr ?_ qI; assumption))
        (first
          | (go_at_call 102; (with_reducible refine (IH1.out _ qI).mono ?_); rintro e w' ⟨A1, n1, c1, t1, rfl, hr1, hc1, hb1, as1, cn1, su1, me1, eo1⟩)
          | (go_at_call 102; (with_reducible refine (IH2.out _ qI).mono ?_); rintro e w' ⟨A2, n2, c2, t2, rfl, hr2, hc2, hb2, as2, cn2, su2, me2, eo2⟩)
          | (go_at_call 141; refine (mergeE _ _ _ _ _ _ t1 t2 _ (hr1.later hb2) hr2 hc1 hc2 eo1 eo2 (by rw [su1, su2, zbm]; exact HS.out)).mono ?_; rintro e w' ⟨A3, n3, c3, rfl, hr3, hc3, hb3⟩))
       have HB : Hid (Below w.heap.size w _) := qL qI
       have HF := qL (sortedV k as1 as2 cn1 cn2 su1 su2 me1 me2 eo1 eo2)
       have HR3 := qL hr3
       clear hr1 hr2 hr3 cn1 cn2 su1 su2 me1 me2 eo1 eo2 as1 as2
       go_wp2
       go_ret
       exact ⟨_, _, _, _, rfl, HR3.out, hc3, by assumption, HF.out⟩
theorem pVal : ∃ i, KinP Tryz.prog kVal 63 i (.agg #[.int .i64 0, .int .i64 0, .string ⟨#[]⟩]) 32 := by
 obtain ⟨i0, hi, hz0, hz1, hz2⟩ := info_parts zi4
 exact ⟨i0, ⟨Tryz.underlying63, hi, hz0, hz1, hz2, rfl, by omega⟩⟩
def Tab2R (t : Tab) (w : World) (e : Ending) (w' : World) : Prop := ∃ A n c, e = .returned (.tuple #[.slice A n c, .int .i64 0]) /\ rTabF w' w.heap.size A n t /\ n <= c /\ Below w.heap.size w w'
theorem zbc {α : Type} {l : List α} {k : Nat} {x : α} (h : l[k]? = some x) : l.take (k + 1) = l.take k ++ [x] := by
 rw [List.take_succ_eq_append_getElem (qO h).1, (qO h).2]
set_option maxRecDepth 100000 in
set_option maxHeartbeats 1000000 in
theorem resultE (A : Option Addr) (n c : Nat) (t : Tab) (w : World) (ht : rTab w A n t) (he : eOk t) (hs : sumC t <= 1000) : Calls Tryz.prog 101 #[.slice A n c] w (Tab2R t w) := by
 obtain ⟨iE, PE⟩ := zpw w.heap.size
 obtain ⟨iV, PV⟩ := pVal
 have HT := qL ht
 have HE := qL he
 have HS := qL hs
 have hlen := ht.len
 have h1000 : n <= 1000 := by have := he.len; omega
 have HL := qL hlen
 clear ht he hs hlen
 go_enter Tryz.func101, Tryz.ntmps101
 go_wp2
 go_loopw [4, 5] (fun v i wr => ∃ k : Nat, k <= n /\ i = .int .i64 k /\ Below w.heap.size w wr /\ Hid (ownD (kEntF w.heap.size) wr w.heap.size v k (t.take k))) (fun _ i _ => n - (intOf i).toNat)
 case atStart => exact ⟨0, by omega, rfl, za0 _, qL (ownD.nil _ _)⟩
 case round =>
  obtain ⟨k, hk, rfl, hbw, HO⟩ := hrel
  by_cases hlt : k < n
  . obtain ⟨b1, o1, rfl, hc1⟩ := HT.out.opn qF
    obtain ⟨x, hx⟩ := zah (l := t) (k := k) (by have := HL.out; omega)
    obtain ⟨rA, rN, rC, x1, x2, x3⟩ := hc1 k x hx
    have hm := HE.out x (qP hx)
    have hle := HE.out.le (qP hx)
    have hx1 : x.2 <= 1000 := by have := HS.out; omega
    have e0 : (x.2 == 0) = false := by simp; omega
    have e1 : ((k : Int) == 4096) = false := by simp; omega
    have X3 := qL x3
    have hrN : rN <= 12 := by have := x3.len; omega
    have hv0 : ∀ j, u4.ownBlock = some j -> w.heap.size <= j /\ j < wr.heap.size := HO.out.lt
    have HV0 := qL hv0
    obtain ⟨vA, vc, hv4, hvc, _, _⟩ := HO.out.rd
    have HBW := qL hbw
    have HX := qL (zbc hx)
    have z1 := qM hbw x1
    have z2 := qM hbw x2
    have i1 : (k : Int) < (n : Int) := by omega
    subst hv4
    clear hc1 hx x3 hv0
    go_wp2_with (go_at_call 100; refine (smallE _ _ qF qF).mono ?_; rintro e w' ⟨rfl, rfl⟩)
    go_region_held3 (fun w' => Below w.heap.size w w' /\ w'.cell? ⟨b1, o1 + k * 2, none⟩ = some (.slice rA rN rC) /\ w'.cell? ⟨b1, o1 + k * 2 + 1, none⟩ = some (.int .i64 x.2))
     ((refine (fun (hB : Below w.heap.size w _) => ⟨hB, qM hB x1, qM hB x2⟩) ?_; first | exact Below.drew HBW.out | (go_split_ands; refine Below.alloc ?_ (Below.size qI) _; assumption) | (go_split_ands; exact zaf qI qI (fun k e => (HV0.out k e).1)) | (go_split_ands; refine Below.trans qI ?_; exact (zcr qI).mono (Below.size qI))))
     (first
       | ((refine zjo _ qJ _ _ qJ PV (zb4.2 (X3.out.later (Below.drew HBW.out))) qJ qJ qF ?_; intro v1 w1 hown1 hg1; obtain ⟨A1, c1, rfl, hcc1, hrd1, hfr1⟩ := hown1.rd; have HB1 := qL (btr (Below.drew (za0 wr)) (zcr hg1))))
       | ((refine za3 _ qJ _ _ qJ PE (HO.out.later (HB1.out.alloc HB1.out.size _)) ⟨_, 0, none⟩ ⟨A1, rN, c1, x.2⟩ x qJ qJ (zan _ _ _ _ _ _) ⟨⟨zb4.1 (hrd1.later (zae _ _)), rfl⟩, fun _ a e => qR HBW.out.size (hfr1 a e).1⟩ (zb3 (w1 := wr.drew) (fun k e => (HV0.out k e).2) (fun a e => (hfr1 a e).1)) qF (by have := HB1.out.size; have := HBW.out.size; simp; omega) ?_; intro v' w' hown' hgrow hat)))
    go_split_ands
    have HBF : Hid (Below w.heap.size w w') := qL qI
    have HOF : Hid (ownD (kEntF w.heap.size) w' w.heap.size v' (k + 1) (t.take (k + 1))) := qL (by rw [HX.out]; exact hown')
    clear hown' hgrow hat hown1 hg1 hrd1 hfr1
    go_wp2
    go_roundw
    case rel => exact ⟨k + 1, by omega, by go_num, HBF.out, HOF⟩
    case measure => simp [intOf]; omega
  . obtain rfl : k = n := by omega
    obtain ⟨vA, vc, hv4, hvc, hrd, hfr⟩ := HO.out.rd
    have HR : Hid (rTabF wr w.heap.size vA k t) := qL ⟨by rw [List.take_of_length_le (by have := HL.out; omega)] at hrd; exact hrd, fun _ a e => (hfr a e).1⟩
    subst hv4
    clear hrd hfr
    go_wp2
    go_ret2
    exact ⟨_, _, _, rfl, HR.out, hvc, hbw⟩
def vOk (r : List Val) : Prop := ∀ v ∈ r, validV v = true
theorem rvalidT (v : Val) (w : World) (h : validV v = true) : Calls Tryz.prog 77 #[.agg #[.int .i64 v.k, .int .i64 v.m, .string v.s]] w fun e w' => e = .returned (.bool true) /\ Below w.heap.size w w' :=
 (zp5 v.k v.m v.s w).mono fun e w' ⟨h1, h2⟩ => ⟨by rw [h1]; exact zal h, h2⟩
set_option maxRecDepth 100000 in
set_option maxHeartbeats 1000000 in
theorem fitsE (rA : Option Addr) (rN rC : Nat) (r : List Val) (c : Int) (w : World) (hr : rVal w rA rN r) (h12 : r.length <= 12) (hv : vOk r) (h1 : -65536 <= c) (h2 : c <= 65536) :
 Calls Tryz.prog 74 #[.agg #[.slice rA rN rC, .int .i64 c]] w fun e w' => e = .returned (.int .i64 0) /\ Below w.heap.size w w' := by
 have HR := qL hr
 have HL := qL hr.len
 have HV := qL hv
 have hrN : rN <= 12 := by have := hr.len; omega
 have d12 : decide (12 < rN) = false := by simp; omega
 clear hr hv
 go_enter Tryz.func74, Tryz.ntmps74
 go_wp2_with (go_at_call 100; refine (smallE _ _ h1 h2).mono ?_; rintro e w' ⟨rfl, rfl⟩)
 go_loopw [3] (fun i wr => ∃ k : Nat, k <= rN /\ i = .int .i64 k /\ Below (w.alloc (.cells #[.slice rA rN rC, .int .i64 c] 65)).heap.size (w.alloc (.cells #[.slice rA rN rC, .int .i64 c] 65)) wr) (fun i _ => rN - (intOf i).toNat)
 case atStart => exact ⟨0, by omega, rfl, za0 _⟩
 case round =>
  obtain ⟨k, hk, rfl, hbw⟩ := hrel
  have HBW := qL hbw
  have z0 : wr.cell? ⟨w.heap.size, 0, none⟩ = some (.slice rA rN rC) := qM hbw qH
  have hfin : Hid (Below w.heap.size w wr) := qL (btr (zae w _) hbw)
  clear hbw
  by_cases hlt : k < rN
  . obtain ⟨b1, o1, rfl, hc1⟩ := (HR.out.later hfin.out).opn qF
    obtain ⟨x, hx⟩ := zah (l := r) (k := k) (by have := HL.out; omega)
    obtain ⟨x1, x2, x3⟩ := hc1 k x hx
    have hvx := HV.out x (qP hx)
    clear hc1 hx
    go_wp2_with (go_at_call 77; refine (rvalidT x _ hvx).mono ?_; rintro e w' ⟨rfl, hb⟩)
    go_roundw
    case rel => exact ⟨k + 1, by omega, by go_num, btr HBW.out hb⟩
    case measure => simp [intOf]; omega
  . go_wp2
    go_ret
    exact ⟨zak rfl, hfin.out⟩
def NormR (t : Tab) (w : World) (e : Ending) (w' : World) : Prop := ∃ t', Tab2R t' w e w' /\ Bag t' /\ (∀ r, cnt t' r = cnt t r) /\ sumC t' = sumC t /\ (∀ x ∈ t', ∃ y ∈ t, y.1 = x.1) /\ eOk t'
theorem bag_of {t : Tab} (h : Asc t) (e : eOk t) : Bag t := ⟨h, fun x hx => by have := (e x hx).1; omega⟩
theorem sumE (A : Option Addr) (n c : Nat) (t : Tab) (w : World) (ht : rTab w A n t) (he : eOk t) (hs : sumC t <= 1000) (hc : n <= c) : Calls Tryz.prog 75 #[.slice A n c] w (NormR t w) := by
 have H := qL (zla n A n c t w (qV _) ht hc he hs)
 have HS := qL hs
 clear ht he hs
 go_enter Tryz.func75, Tryz.ntmps75
 go_wp2_with fail
 refine H.out.mono ?_
 rintro e w1 ⟨A1, n1, c1, t1, rfl, hr1, hc1, hb1, as1, cn1, su1, me1, eo1⟩
 have H2 := qL (resultE A1 n1 c1 t1 w1 hr1 eo1 (by rw [su1]; exact HS.out))
 have HB1 := qL hb1
 have HF : Hid (Bag t1 /\ (∀ r, cnt t1 r = cnt t r) /\ sumC t1 = sumC t /\ (∀ x ∈ t1, ∃ y ∈ t, y.1 = x.1) /\ eOk t1) := qL ⟨bag_of as1 eo1, cn1, su1, me1, eo1⟩
 clear hr1 hb1 as1 cn1 su1 me1 eo1
 go_wp2_with fail
 refine H2.out.mono ?_
 rintro e w2 ⟨A2, n2, c2, rfl, hr2, hc2, hb2⟩
 have HR2 := qL hr2
 have HB2 := qL (btr HB1.out hb2)
 clear hr2 hb2
 go_wp2
 go_ret2
 exact ⟨t1, ⟨_, _, _, rfl, HR2.out.mono HB1.out.size, hc2, HB2.out⟩, HF.out⟩
set_option maxRecDepth 100000 in
set_option maxHeartbeats 1000000 in
theorem normE (A : Option Addr) (n c : Nat) (t : Tab) (w : World) (ht : rTab w A n t) (he : eOk t) (hs : sumC t <= 1000) (hv : ∀ x ∈ t, vOk x.1) (hc : n <= c) : Calls Tryz.prog 45 #[.slice A n c] w (NormR t w) := by
 have HT := qL ht
 have HE := qL he
 have HS := qL hs
 have HV := qL hv
 have HL := qL ht.len
 have h1000 : n <= 1000 := by have := ht.len; have := he.len; omega
 clear ht he hs hv
 go_enter Tryz.func45, Tryz.ntmps45
 go_wp2
 go_loopw [4] (fun i wr => ∃ k : Nat, k <= n /\ i = .int .i64 k /\ Below w.heap.size w wr) (fun i _ => n - (intOf i).toNat)
 case atStart => exact ⟨0, by omega, rfl, za0 _⟩
 case round =>
  obtain ⟨k, hk, rfl, hbw⟩ := hrel
  have HBW := qL hbw
  clear hbw
  by_cases hlt : k < n
  . obtain ⟨b1, o1, rfl, hc1⟩ := (HT.out.later HBW.out).opn qF
    obtain ⟨x, hx⟩ := zah (l := t) (k := k) (by have := HL.out; omega)
    obtain ⟨rA, rN, rC, x1, x2, x3⟩ := hc1 k x hx
    have hm := HE.out x (qP hx)
    have hle := HE.out.le (qP hx)
    have hx1 : x.2 <= 1000 := by have := HS.out; omega
    have HF := qL (fitsE rA rN rC x.1 x.2 wr x3 hm.2 (HV.out x (qP hx)) qF qF)
    clear hc1 hx x3
    go_wp2_with (go_at_call 74; refine HF.out.mono ?_; rintro e w' ⟨rfl, hb⟩)
    go_roundw
    case rel => exact ⟨k + 1, by omega, by go_num, btr HBW.out hb⟩
    case measure => simp [intOf]; omega
  . have H := qL (sumE A n c t wr (HT.out.later HBW.out) HE.out HS.out hc)
    go_wp2_with fail
    refine H.out.mono ?_
    rintro e w2 ⟨t1, ⟨A2, n2, c2, rfl, hr2, hc2, hb2⟩, hF⟩
    have HR2 := qL hr2
    have HB2 := qL (btr HBW.out hb2)
    have HF := qL hF
    clear hr2 hb2 hF
    go_wp2
    go_ret2
    exact ⟨t1, ⟨_, _, _, rfl, HR2.out.mono HBW.out.size, hc2, HB2.out⟩, HF.out⟩
def gTab (cs : List Col) (N : Int) (t : Tab) : Prop := Bag t /\ eOk t /\ sumC t <= N /\ ∀ x ∈ t, okRow cs x.1
theorem okRow.vOk {cs : List Col} {r : List Val} (h : okRow cs r) : vOk r := by
 intro v hv
 obtain ⟨j, hj⟩ := List.getElem?_of_mem hv
 obtain ⟨c, hc⟩ := zah (l := cs) (k := j) (by rw [<- h.1]; exact (qO hj).1)
 exact (h.2 j v c hj hc).1
def GTabR (cs : List Col) (N : Int) (w : World) (e : Ending) (w' : World) : Prop := ∃ A n c t, e = .returned (.slice A n c) /\ rTabF w' w.heap.size A n t /\ n <= c /\ gTab cs N t /\ Below w.heap.size w w'
set_option maxRecDepth 100000 in
set_option maxHeartbeats 1000000 in
theorem rowsE (A : Option Addr) (n c : Nat) (cs : List Col) (A' : Option Addr) (n' c' : Nat) (l : List Int) (N : Nat) (w : World) (hcs : rCol w A n cs) (hl : rInt w A' n' l) (hn : n <= 12) (hn' : n' <= 9223372036854775807) (hok : okCs cs) (hN : N <= 100) :
 Calls Tryz.prog 23 #[.slice A n c, .slice A' n' c', .int .i64 N] w (GTabR cs (3 * N) w) := by
 obtain ⟨iE, PE⟩ := pEnt
 have HC := qL hcs
 have HL := qL hl
 have HOK := qL hok
 have HLC := qL hcs.len
 clear hcs hl hok
 go_enter Tryz.func23, Tryz.ntmps23
 go_wp2
 go_loopw [7, 8] (fun v i wr => ∃ (k : Nat) (t : Tab), k <= N /\ i = .int .i64 k /\ Below w.heap.size w wr /\ Hid (ownD kEnt wr w.heap.size v k t) /\ Hid (eOk t /\ sumC t <= 3 * k /\ ∀ x ∈ t, okRow cs x.1)) (fun _ i _ => N - (intOf i).toNat)
 case atStart => exact ⟨0, [], by omega, rfl, za0 _, qL (ownD.nil _ _), qL ⟨eOk.nil, by simp [sumC], fun x h => by cases h⟩⟩
 case round =>
  obtain ⟨k, t, hk, rfl, hbw, HO, HT⟩ := hrel
  have HBW := qL hbw
  clear hbw
  by_cases hlt : k < N
  . go_wp2_with fail
    refine (atE' _ _ _ _ _ _ (HL.out.later HBW.out) hn').mono ?_
    rintro e w1 ⟨v, rfl, hv0, hv1, hb1⟩
    have HB1 := qL hb1
    have HR := qL (rowE A n c cs A' n' c' l (5 * k) w1 ((HC.out.later (btr HBW.out hb1))) (HL.out.later (btr HBW.out hb1)) qF hn' HOK.out qF qF)
    have hv0' : ∀ j, u7.ownBlock = some j -> w.heap.size <= j /\ j < wr.heap.size := HO.out.lt
    have HV0 := qL hv0'
    clear hb1 hv0'
    cases hz : (v % 5 == 0)
    all_goals
     go_wp2_with fail
     refine HR.out.mono ?_
     rintro e w2 ⟨A1, c1, r, rfl, hr, hrok, hb2, hfr⟩
     have HBB := qL (btr HB1.out hb2)
     have HR2 := qL hr
     have HROK := qL hrok
     have HFR := qL hfr
     clear hr hrok hb2 hfr
     go_wp2_with (at_builtin; refine zaq _ rfl _ _ rfl PE (HO.out.later (HBB.out.alloc HBB.out.size _)) ⟨_, 0, none⟩ ⟨A1, cs.length, c1, _⟩ (r, _) rfl rfl (zan _ _ _ _ _ _) ⟨HR2.out.later (zae _ _), rfl⟩ (zb3 (w1 := wr) (fun k e => (HV0.out k e).2) (fun a e => qR HB1.out.size (HFR.out a e).1)) qF (by have := HBB.out.size; have := HBW.out.size; simp; omega) ?_; intro v' w' hown' hgrow hat)
     have HBF := qL (zaf ((btr HBW.out HBB.out).alloc (btr HBW.out HBB.out).size _) hgrow (fun k e => (HV0.out k e).1))
     have HOF := qL hown'
     clear hown' hgrow hat
     go_wp2
     go_roundw
     case rel => exact ⟨k + 1, _, by omega, by go_num, HBF.out, HOF, qL ⟨HT.out.1.append (fun x hx => by simp at hx; subst hx; exact ⟨by show (0 : Int) < _; omega, by rw [show _ = r from rfl, HROK.out.1, HLC.out]; exact hn⟩), by rw [zbb]; simp only [sumC]; have := HT.out.2.1; omega, fun x hx => by
      rcases List.mem_append.1 hx with h | h
      . exact HT.out.2.2 x h
      . simp at h; subst h; exact HROK.out⟩⟩
     case measure => simp [intOf]; omega
  . obtain rfl : k = N := by omega
    obtain ⟨vA, vc, hv4, hvc, hrd, _⟩ := HO.out.rd
    have HN := qL (normE vA k vc t wr hrd HT.out.1 (by have := HT.out.2.1; omega) (fun x hx => (HT.out.2.2 x hx).vOk) hvc)
    subst hv4
    clear hrd
    go_wp2_with fail
    refine HN.out.mono ?_
    rintro e w2 ⟨t1, ⟨A2, n2, c2, rfl, hr2, hc2, hb2⟩, h1, h2, h3, h4, h5⟩
    have HR2 := qL hr2
    have HB2 := qL (btr HBW.out hb2)
    have HG : Hid (gTab cs (3 * k) t1) := qL ⟨h1, h5, by rw [h3]; exact HT.out.2.1, fun x hx => by
     obtain ⟨y, hy, e⟩ := h4 x hx
     rw [<- e]; exact HT.out.2.2 y hy⟩
    clear hr2 hb2 h1 h2 h3 h4 h5
    go_wp2
    go_ret
    exact ⟨_, _, _, t1, rfl, HR2.out.mono HBW.out.size, hc2, HG.out, HB2.out⟩
theorem rowsI (A : Option Addr) (n c : Nat) (cs : List Col) (A' : Option Addr) (n' c' : Nat) (l : List Int) (N : Int) (M : Nat) (w : World) (hcs : rCol w A n cs) (hl : rInt w A' n' l) (hn : n <= 12) (hn' : n' <= 9223372036854775807) (hok : okCs cs) (h0 : 0 <= N) (hM : N <= M) (hM2 : M <= 100) :
 Calls Tryz.prog 23 #[.slice A n c, .slice A' n' c', .int .i64 N] w (GTabR cs (3 * M) w) := by
 obtain ⟨k, rfl⟩ := Int.eq_ofNat_of_zero_le h0
 refine (rowsE A n c cs A' n' c' l k w hcs hl hn hn' hok qF).mono ?_
 rintro e w' ⟨A1, n1, c1, t, h1, h2, h3, h4, h5⟩
 exact ⟨A1, n1, c1, t, h1, h2, h3, ⟨h4.1, h4.2.1, by have := h4.2.2.1; omega, h4.2.2.2⟩, h5⟩
def sId : ByteArray := ⟨#[105, 100]⟩
def ordersC : List Col := [⟨⟨#[105, 100]⟩, 2, false⟩, ⟨⟨#[99]⟩, 3, false⟩, ⟨⟨#[97, 116]⟩, 4, false⟩, ⟨⟨#[118]⟩, 2, true⟩]
def customersC : List Col := [⟨⟨#[99]⟩, 3, false⟩, ⟨⟨#[97, 116]⟩, 4, false⟩, ⟨⟨#[114]⟩, 3, true⟩, ⟨⟨#[107]⟩, 2, false⟩]
def RelBlk (w : World) (g : Nat) (rs : List Rel) : Prop := w.heap[g]? = some (.cells (flat encRel rs).toArray 31 (0, 0))
def rel0 (nm : ByteArray) (b : Nat) : Rel := ⟨nm, some ⟨b, 0, none⟩, 4, 4, none, 0, 0, none, 0, 0⟩
def nmOrders : ByteArray := ⟨#[111, 114, 100, 101, 114, 115]⟩
def nmCustomers : ByteArray := ⟨#[99, 117, 115, 116, 111, 109, 101, 114, 115]⟩
def nmReturns : ByteArray := ⟨#[114, 101, 116, 117, 114, 110, 115]⟩
def RelsR (w : World) (e : Ending) (w' : World) : Prop := ∃ g bo bc, e = .returned (.slice (some ⟨g, 0, none⟩) 3 3) /\ RelBlk w' g [rel0 nmOrders bo, rel0 nmCustomers bc, rel0 nmReturns bo] /\ rCol w' (some ⟨bo, 0, none⟩) 4 ordersC /\ rCol w' (some ⟨bc, 0, none⟩) 4 customersC /\
 Below w.heap.size w w' /\ w.heap.size <= g /\ g < w'.heap.size /\ w.heap.size <= bo /\ w.heap.size <= bc /\ bo ≠ g /\ bc ≠ g
theorem zof {w : World} {b : Nat} {l : List Col} {n : Nat} (hn : n = l.length) (h : w.heap[b]? = some (.cells (flat encCol l).toArray 56 (0, 0))) : rCol w (some ⟨b, 0, none⟩) n l := by
 refine za7 (by rw [zau zdn, hn]) fun j u hu => ?_
 rw [World.cell?, h]
 simpa using hu
theorem zb7 {w : World} {o : Obj} {n : Nat} (h : n = w.heap.size) : (w.alloc o).heap[n]? = some o := by subst h; exact heap_alloc_new w o
set_option maxRecDepth 100000 in
set_option maxHeartbeats 1000000 in
theorem relsE (w : World) : Calls Tryz.prog 22 #[] w (RelsR w) := by
 go_enter Tryz.func22, Tryz.ntmps22
 go_wp2
 go_ret
 refine ⟨w.heap.size + 2, w.heap.size, w.heap.size + 1, rfl, ?_, ?_, ?_, ((zae _ _).alloc qH _).alloc (by simp; omega) _, by omega, by simp, by omega, by omega, by omega, by omega⟩
 . exact zb7 qH
 . refine zof rfl ?_
   rw [Below.heap_alloc _ _ _ (by simp; omega), Below.heap_alloc _ _ _ qH]
   exact zb7 qH
 . refine zof rfl ?_
   rw [Below.heap_alloc _ _ _ qH]
   exact zb7 qH
theorem zfx {w w' : World} (h : Below w.drew.heap.size w.drew w') : Below w.heap.size w w' := ⟨h.os, h.tape, h.output, h.size, h.block⟩
theorem zqn (v : Int) (h : 0 <= v) (m : Nat) : 0 <= v.tmod ((m : Int) + 1) /\ v.tmod ((m : Int) + 1) <= m := by
 rw [Int.tmod_eq_emod_of_nonneg h]
 have h1 := Int.emod_nonneg v (show (m : Int) + 1 ≠ 0 by omega)
 have h2 := Int.emod_lt_of_pos v (show (0 : Int) < (m : Int) + 1 by omega)
 omega
def FilK (N : Nat) (k : Nat) (bo bc : Nat) (w : World) (g : Nat) (rs : List Rel) : Prop :=
 ∃ r0 r1 r2, rs = [r0, r1, r2] /\
   (∃ A n c t, r0 = { rel0 nmOrders bo with roA := A, roN := n, roC := c } /\ rTabF w (g + 1) A n t /\ n <= c /\ gTab ordersC (3 * N) t) /\
   (∃ A n c t, r1 = { rel0 nmCustomers bc with roA := A, roN := n, roC := c } /\ rTabF w (g + 1) A n t /\ n <= c /\ gTab customersC (3 * N) t) /\
   (∃ A n c t, r2 = { rel0 nmReturns bo with roA := A, roN := n, roC := c } /\ rTabF w (g + 1) A n t /\ n <= c /\ gTab ordersC (3 * N) t)
theorem gTab.nil (cs : List Col) (N : Nat) : gTab cs (3 * N) [] := ⟨⟨trivial, fun x h => by cases h⟩, eOk.nil, by simp [sumC]; omega, fun x h => by cases h⟩
theorem rTabF.nil (w : World) (B : Nat) (A : Option Addr) : rTabF w B A 0 [] := ⟨rD.nil _ _, fun h => absurd h qF⟩
theorem FilK.later {N k bo bc g : Nat} {w w' : World} {rs : List Rel} (h : FilK N k bo bc w g rs) (hb : Below w.heap.size w w') : FilK N k bo bc w' g rs := by
 obtain ⟨r0, r1, r2, e, ⟨A0, n0, c0, t0, a1, a2, a3, a4⟩, ⟨A1, n1, c1, t1, b1, b2, b3, b4⟩, ⟨A2, n2, c2, t2, d1, d2, d3, d4⟩⟩ := h
 exact ⟨r0, r1, r2, e, ⟨A0, n0, c0, t0, a1, a2.later hb, a3, a4⟩, ⟨A1, n1, c1, t1, b1, b2.later hb, b3, b4⟩, ⟨A2, n2, c2, t2, d1, d2.later hb, d3, d4⟩⟩
def colsK (k : Nat) : List Col := if k = 1 then customersC else ordersC
def blkK (bo bc k : Nat) : Nat := if k = 1 then bc else bo
theorem okColsK (k : Nat) : okCs (colsK k) := by
 unfold colsK okCs
 split <;> (intro c hc; simp [ordersC, customersC] at hc; rcases hc with rfl | rfl | rfl | rfl <;> simp)
theorem FilK.cells {N k bo bc g : Nat} {w : World} {rs : List Rel} (h : FilK N k bo bc w g rs) (hr : RelBlk w g rs) {j : Nat} (hj : j < 3) :
 w.cell? ⟨g, j * 4 + 1, none⟩ = some (.slice (some ⟨blkK bo bc j, 0, none⟩) 4 4) /\ ∃ u, w.cell? ⟨g, j * 4 + 3, none⟩ = some u := by
 obtain ⟨r0, r1, r2, rfl, ⟨A0, n0, c0, t0, rfl, _⟩, ⟨A1, n1, c1, t1, rfl, _⟩, ⟨A2, n2, c2, t2, rfl, _⟩⟩ := h
 unfold RelBlk at hr
 match j, hj with
 | 0, _ => exact ⟨by rw [World.cell?, hr]; rfl, _, by rw [World.cell?, hr]; rfl⟩
 | 1, _ => exact ⟨by rw [World.cell?, hr]; rfl, _, by rw [World.cell?, hr]; rfl⟩
 | 2, _ => exact ⟨by rw [World.cell?, hr]; rfl, _, by rw [World.cell?, hr]; rfl⟩
theorem FilK.frozen {g : Nat} {w : World} {rs : List Rel} (hr : RelBlk w g rs) (o : Nat) : w.frozen? ⟨g, o, none⟩ = false := by
 unfold RelBlk at hr
 simp [World.frozen?, hr]
theorem FilK.set {N k bo bc g : Nat} {w : World} {rs : List Rel} (h : FilK N k bo bc w g rs) (hr : RelBlk w g rs) {j : Nat} (hj : j < 3) {A : Option Addr} {n c : Nat} {t : Tab} (ht : rTabF w (g + 1) A n t) (hc : n <= c) (hg : gTab (colsK j) (3 * N) t) :
 ∃ rs', FilK N k bo bc (w.setCell ⟨g, j * 4 + 3, none⟩ (.slice A n c)) g rs' /\ RelBlk (w.setCell ⟨g, j * 4 + 3, none⟩ (.slice A n c)) g rs' := by
 have hs : ∀ b, g + 1 <= b -> b < w.heap.size -> (w.setCell ⟨g, j * 4 + 3, none⟩ (.slice A n c)).heap[b]? = w.heap[b]? := fun b hb _ => Below.heap_setCell _ _ _ _ (by show b ≠ g; omega)
 obtain ⟨r0, r1, r2, rfl, ⟨A0, n0, c0, t0, rfl, a2, a3, a4⟩, ⟨A1, n1, c1, t1, rfl, b2, b3, b4⟩, ⟨A2, n2, c2, t2, rfl, d2, d3, d4⟩⟩ := h
 unfold RelBlk at hr
 have ht2 := ht.other hs
 match j, hj with
 | 0, _ => exact ⟨_, ⟨_, _, _, rfl, ⟨A, n, c, t, rfl, ht2, hc, hg⟩, ⟨A1, n1, c1, t1, rfl, b2.other hs, b3, b4⟩, ⟨A2, n2, c2, t2, rfl, d2.other hs, d3, d4⟩⟩, (heap_setCell_same w g 3 _ 31 _ hr).trans rfl⟩
 | 1, _ => exact ⟨_, ⟨_, _, _, rfl, ⟨A0, n0, c0, t0, rfl, a2.other hs, a3, a4⟩, ⟨A, n, c, t, rfl, ht2, hc, hg⟩, ⟨A2, n2, c2, t2, rfl, d2.other hs, d3, d4⟩⟩, (heap_setCell_same w g 7 _ 31 _ hr).trans rfl⟩
 | 2, _ => exact ⟨_, ⟨_, _, _, rfl, ⟨A0, n0, c0, t0, rfl, a2.other hs, a3, a4⟩, ⟨A1, n1, c1, t1, rfl, b2.other hs, b3, b4⟩, ⟨A, n, c, t, rfl, ht2, hc, hg⟩⟩, (heap_setCell_same w g 11 _ 31 _ hr).trans rfl⟩
def FillR (N : Nat) (w : World) (e : Ending) (w' : World) : Prop := ∃ g bo bc rs, e = .returned (.slice (some ⟨g, 0, none⟩) 3 3) /\ RelBlk w' g rs /\ FilK N 3 bo bc w' g rs /\ rCol w' (some ⟨bo, 0, none⟩) 4 ordersC /\ rCol w' (some ⟨bc, 0, none⟩) 4 customersC /\
 Below w.heap.size w w' /\ w.heap.size <= g /\ g < w'.heap.size
set_option maxRecDepth 100000 in
set_option maxHeartbeats 2000000 in
theorem filledE (A : Option Addr) (n c : Nat) (l : List Int) (N : Nat) (w : World) (h : rInt w A n l) (hc : n <= c) (hn : n <= 9223372036854775807) (hc2 : c <= 9223372036854775807) (hN : N <= 20) : Calls Tryz.prog 9 #[.slice A n c, .int .i64 N] w (FillR N w) := by
 have H := qL h
 clear h
 go_enter Tryz.func9, Tryz.ntmps9
 go_wp2_with fail
 refine (relsE w).mono ?_
 rintro e w0 ⟨g, bo, bc, rfl, hblk, hco, hcc, hb0, hg1, hg2, hbo, hbc, hne1, hne2⟩
 have HCO := qL hco
 have HCC := qL hcc
 have HB0 := qL hb0
 have HBLK := qL hblk
 have hbo2 : bo < w0.heap.size := by
  obtain ⟨b, o, e, hl⟩ := Fl.lt hco qF qF
  cases e; exact hl
 have hbc2 : bc < w0.heap.size := by
  obtain ⟨b, o, e, hl⟩ := Fl.lt hcc qF qF
  cases e; exact hl
 have HF0 : Hid (FilK N 0 bo bc w0 g [rel0 nmOrders bo, rel0 nmCustomers bc, rel0 nmReturns bo]) := qL
  ⟨_, _, _, rfl, ⟨none, 0, 0, [], rfl, rTabF.nil _ _ _, qV _, gTab.nil _ _⟩, ⟨none, 0, 0, [], rfl, rTabF.nil _ _ _, qV _, gTab.nil _ _⟩, ⟨none, 0, 0, [], rfl, rTabF.nil _ _ _, qV _, gTab.nil _ _⟩⟩
 clear hblk hco hcc hb0
 go_wp2
 go_loopw [6] (fun i wr => ∃ (k : Nat) (rs : List Rel), k <= 3 /\ i = .int .i64 k /\ Hid (Below w.heap.size w wr) /\ Hid (RelBlk wr g rs) /\ Hid (FilK N k bo bc wr g rs) /\ Hid (rCol wr (some ⟨bo, 0, none⟩) 4 ordersC) /\ Hid (rCol wr (some ⟨bc, 0, none⟩) 4 customersC) /\ w0.heap.size <= wr.heap.size) (fun i _ => 3 - (intOf i).toNat)
 case atStart => exact ⟨0, _, by omega, rfl, HB0, HBLK, HF0, HCO, HCC, qV _⟩
 case round =>
  obtain ⟨k, rs, hk, rfl, HB, HR, HF, HO, HC, hsz⟩ := hrel
  by_cases hlt : k < 3
  . obtain ⟨x1, u, hu⟩ := HF.out.cells HR.out hlt
    have x2 := zbt hu
    have xf := fun o => FilK.frozen HR.out o
    have HCOL : Hid (rCol wr (some ⟨blkK bo bc k, 0, none⟩) 4 (colsK k)) := qL (by
     unfold colsK blkK
     split
     . exact HC.out
     . exact HO.out)
    have hgw : g < wr.heap.size := by omega
    have i1 : (k : Int) < 3 := by omega
    have i2 : (0 : Int) <= (k : Int) := by omega
    have m1 : IntKind.i64.wrap (3 * (k : Int)) = 3 * (k : Int) := by rw [IntKind.wrap_i64]; omega
    have m4 : (0 : Int) <= 3 * (k : Int) := by omega
    have m5 : 3 * (k : Int) <= 100 := by omega
    have m2 : IntKind.i64.wrap ((N : Int) + 1) = (N : Int) + 1 := by rw [IntKind.wrap_i64]; omega
    have m3 : ¬ (N : Int) + 1 = 0 := by omega
    have hS0 : (fun w' => Below w.heap.size w w' /\ w'.cell? ⟨g, k * 4 + 1, none⟩ = some (.slice (some ⟨blkK bo bc k, 0, none⟩) 4 4) /\ w'.cell? ⟨g, k * 4 + 3, none⟩ = some (held w' ⟨g, k * 4 + 3, none⟩) /\ (∀ o, w'.frozen? ⟨g, o, none⟩ = false) /\ g < w'.heap.size) wr.drew := ⟨HB.out.drew, x1, x2, xf, hgw⟩
    have hng : (⟨g, k * 4 + 3, none⟩ : Addr) ≠ ⟨g, k * 4 + 1, none⟩ := fun e => by simp at e
    clear hu
    go_wp2_with fail
    go_region_held3 (fun w' => Below w.heap.size w w' /\ w'.cell? ⟨g, k * 4 + 1, none⟩ = some (.slice (some ⟨blkK bo bc k, 0, none⟩) 4 4) /\ w'.cell? ⟨g, k * 4 + 3, none⟩ = some (held w' ⟨g, k * 4 + 3, none⟩) /\ (∀ o, w'.frozen? ⟨g, o, none⟩ = false) /\ g < w'.heap.size)
     ((go_split_ands; refine ⟨?_, ?_, ?_, ?_, ?_⟩ <;> (with_reducible first | assumption | (refine btr ?_ qI; assumption) | (refine Below.setCell (p := ⟨g, k * 4 + 3, none⟩) ?_ hg1 _; assumption) | exact qM qI qI | (refine zhg ?_ qI; assumption) | exact zfl qI | (rw [World.cell?_setCell_other (h := hng)]; assumption) | (intro o; refine Eq.trans (Below.frozen qI ?_) ?_ <;> first | assumption | (revert o; assumption)) | (intro o; rw [World.frozen?_setCell]; revert o; assumption) | (refine qQ ?_ (Below.size qI); assumption) | (simp; assumption))))
     (first
       | (go_at_call 24; go_split_ands; (with_reducible refine (tailI _ _ _ _ _ _ (H.out.later qI) hc hn hc2 m4 m5).mono ?_); rintro e w' ⟨A4, n4, c4, l4, rfl, hr4, hc4, hn4, rfl⟩)
       | (go_at_call 25; go_split_ands; (with_reducible refine (atE' _ _ _ _ _ _ (H.out.later qI) hn).mono ?_); rintro e w' ⟨v25, rfl, hv0, hv1, hb25⟩)
       | (go_at_call 23; go_split_ands; (with_reducible refine (rowsI _ _ _ (colsK k) _ _ _ _ _ N _ (HCOL.out.later (zfx hb25)) (hr4.later hb25) qF hn4 (okColsK k) (zqn _ hv0 N).1 (zqn _ hv0 N).2 qF).mono ?_); rintro e w' ⟨A5, n5, c5, t5, rfl, hr5, hc5, hg5, hb5⟩))
    have HB5 := qL (btr (zfx hb25) hb5)
    have hg5s : g + 1 <= _ := qQ hgw (zfx hb25).size
    obtain ⟨rs', hF', hR'⟩ := (HF.out.later HB5.out).set ((HB5.out.block g hgw).trans HR.out) hlt (hr5.mono hg5s) hc5 hg5
    have HF' := qL hF'
    have HR' := qL hR'
    have HBF := qL (Below.setCell (p := ⟨g, k * 4 + 3, none⟩) (btr HB.out HB5.out) hg1 (.slice A5 n5 c5))
    have HO' := qL (Fl.set (HO.out.later HB5.out) ⟨g, k * 4 + 3, none⟩ (.slice A5 n5 c5) (fun _ a e => by cases e; exact hne1))
    have HC' := qL (Fl.set (HC.out.later HB5.out) ⟨g, k * 4 + 3, none⟩ (.slice A5 n5 c5) (fun _ a e => by cases e; exact hne2))
    have hsz' := qR hsz HB5.out.size
    clear hF' hR' hr5 hb5 hr4 hb25
    go_split_ands
    go_wp2
    go_roundw
    case rel => exact ⟨k + 1, rs', by omega, by go_num, HBF, HR', HF', HO', HC', by simpa using hsz'⟩
    case measure => simp [intOf]; omega
  . obtain rfl : k = 3 := by omega
    go_wp2
    go_ret
    exact ⟨g, bo, bc, rs, rfl, HR.out, HF.out, HO.out, HC.out, HB.out, hg1, by omega⟩
end
section
open Go.ChangeAt Go.ChangeShapes Go.RowKit Go.WideShapes
theorem own : ownKnob Tryz.prog.godebug = none := by kernel_rfl
theorem laidOut : laidOutB Tryz.prog = true := by kernel_rfl
theorem zit {H : Type} {enc : TypeId × Value -> H} {P : Program} (hl : laidOutB P = true) {W W' : World} (hb : Below W.heap.size W W') :
 ∀ (ts : List TypeId) (vs : List Value) (ds : List (DataW H)) (ps : List MemPlace), (∀ t ∈ ts, P.readableRec t = true /\ t < P.types.size) -> (∀ x ∈ ps, x.block < W.heap.size) ->
   DataW.TrodAll enc P W 0 (fun _ => true) true ts vs ds ps -> DataW.TrodAll enc P W' 0 (fun b => decide (b < W.heap.size)) true ts vs ds ps
 | [], vs, ds, ps, _, _, h => by
   obtain ⟨rfl, rfl, rfl⟩ := trodAll_nil h
   exact rfl
 | t :: ts, vs, ds, ps, hr, hlt, h => by
   obtain ⟨v, vs', d, ds', p, q, rfl, rfl, rfl, h1, h2⟩ := trodAll_cons h
   have ht := hr t qH
   exact ⟨p, q, Below.trod hl ht.1 ht.2 h1 hb (fun x hx => hlt x (by simp [hx])), zit hl hb ts vs' ds' q (fun u hu => hr u (by simp [hu])) (fun x hx => hlt x (by simp [hx])) h2, rfl⟩
theorem law_post {H : Type} {enc : TypeId × Value -> H} {P : Program} {f : Func} {s : ChangeSpec} {W W' : World} {args : Array Value} {ds : List (DataW H)} {before : List MemPlace}
 (hl : laidOutB P = true) (hr : ∀ t ∈ f.params.toList, P.readableRec t = true /\ t < P.types.size) (hv : s.vars = []) {tb : TypeId} (hres : f.resultTypes = #[tb]) (htb : P.underlying tb = some .bool)
 (hW : DataW.Whole enc P f.params.toList s.vars false W args.toList ds [] before)
 (e1 : (s.fn H (ds ++ [])).results = [.lit (.bool true)]) (e2 : (s.fn H (ds ++ [])).args = ds) (e3 : (s.fn H (ds ++ [])).vars = [])
 (hb : Below W.heap.size W W') : s.post enc P f false true false false W args (.bool true) W' := by
 have hlt : ∀ x ∈ before, x.block < W.heap.size := fun x hx => hW.lt x hx
 have hW0 := hW
 obtain ⟨p, q, hA, hV, hpq, _, _⟩ := hW
 rw [hv] at hV
 obtain ⟨_, rfl⟩ := trodVars_none hV
 simp only [List.append_nil] at hpq
 subst hpq
 refine ⟨ds, [], before, [], before, [], hW0, ?_, ?_, ?_, World.keptBut_mono (fun x hx => ⟨hx, .inr (.inl hx)⟩) (hb.frame (· ∈ before)), fun h => by cases h⟩
 . rw [e1, hres]
   exact trodAll_mk1 (shut_bool htb _)
 . rw [e2]
   exact zit hl hb _ _ _ _ hr hlt hA
 . rw [e3, hv]
   rfl
theorem zqf (t : TypeId) (h : t = 3 ∨ t = 22) : Tryz.prog.wantsStandIn t = false := by
 rcases h with rfl | rfl
 . exact (show Tryz.prog.wantsStandIn 3 = false by kernel_rfl)
 . exact (show Tryz.prog.wantsStandIn 22 = false by kernel_rfl)
theorem zi2 (xs : List Int) : flat encInt xs = xs.map (Value.int .i64) := by
 induction xs with
 | nil => rfl
 | cons x l ih => show encInt x ++ flat encInt l = _; rw [ih]; rfl
theorem zo4 {H : Type} {enc : TypeId × Value -> H} {W : World} {a0 : Option Addr} {len0 cap0 : Nat} {d : DataW H} {p : List MemPlace}
 (h0 : DataW.Trod enc Tryz.prog W 0 (fun _ => true) true 22 (.slice a0 len0 cap0) d p) : ∃ xs, rInt W a0 len0 xs /\ len0 <= cap0 /\ cap0 <= maxLen := by
 obtain ⟨fuel, hf⟩ := h0
 rcases open_ints Tryz.underlying22 Tryz.underlying3 qG hf with ⟨hcs, _⟩ | ⟨x, l, c, zs, hcs, _, hl, hm, hz, _, hcell, hwz⟩
 . simp [Value.cells] at hcs
   obtain ⟨rfl, rfl, rfl⟩ := hcs
   exact ⟨[], Fl.nil _ _ _, qV _, Nat.zero_le _⟩
 . simp [Value.cells] at hcs
   obtain ⟨rfl, rfl, rfl⟩ := hcs
   have hz' : zs.length = cap0 := by simpa using hz
   refine ⟨zs.take len0, ⟨by rw [zi2, List.length_map, List.length_take]; omega, fun hn => ?_⟩, hl, hm⟩
   obtain ⟨b, off, spot⟩ := x
   have hc := hcell 0 qF
   have hspot : spot = none := by simpa [Addr.add] using World.cell?_spot hc
   subst hspot
   refine ⟨b, off, rfl, fun j v hj => ?_⟩
   rw [zi2, List.getElem?_map] at hj
   cases hx : (zs.take len0)[j]? with
   | none => rw [hx] at hj; cases hj
   | some y =>
     rw [hx] at hj
     cases hj
     have hjl : j < len0 := by
      have := (qO hx).1
      rw [List.length_take] at this; omega
     have hcj := hcell j qF
     rw [zaw] at hcj
     rw [List.getElem?_take_of_lt hjl] at hx
     rw [hcj, List.getD_eq_getElem?_getD, hx]; rfl
end
section
open Go.RowKit
def zV : Val := ⟨0, 0, ⟨#[]⟩⟩
end
section
open Go.BigFrame Go.RowKit
section
variable {e : TypeId} {w w' : World} {B0 B n : Nat} {v v' : Value} {qs : List Prt} {ps : List (List Val × Tab)} {a : Prt} {p : List Val × Tab} {row : Option Nat}
end
end
section
open Go.RowKit
def u8 (n : Int) : UInt8 := UInt8.ofNat (n % 256).toNat
theorem zmv {s : ByteArray} (h : s.toList.isEmpty = true) : s = ⟨#[]⟩ := toList_inj (by rw [List.isEmpty_iff.1 h, ByteArray.toList_eq])
theorem za8 {v : Val} (h : validV v = true) : (v = ⟨0, 0, ⟨#[]⟩⟩) ∨ (∃ m, v = ⟨1, m, ⟨#[]⟩⟩ /\ (m = 0 ∨ m = 1)) ∨ (∃ m, v = ⟨2, m, ⟨#[]⟩⟩ /\ -1073741824 <= m /\ m <= 1073741824) ∨ (∃ s, v = ⟨3, 0, s⟩ /\ s.size <= 64) ∨ (∃ m, v = ⟨4, m, ⟨#[]⟩⟩ /\ 0 <= m /\ m <= 575999999) := by
 obtain ⟨k, m, s⟩ := v
 unfold validV at h
 simp only at h
 split at h
 . rename_i e; subst e
   simp only [Bool.and_eq_true, beq_iff_eq] at h
   exact .inl (by rw [h.1, zmv h.2])
 . split at h
   . rename_i e; subst e
     simp only [Bool.and_eq_true, Bool.or_eq_true, beq_iff_eq] at h
     exact .inr (.inl ⟨m, by rw [zmv h.1], h.2⟩)
   . split at h
     . rename_i e; subst e
       simp only [Bool.and_eq_true, decide_eq_true_eq] at h
       exact .inr (.inr (.inl ⟨m, by rw [zmv h.1.1], h.1.2, h.2⟩))
     . split at h
       . rename_i e; subst e
         simp only [Bool.and_eq_true, beq_iff_eq, decide_eq_true_eq] at h
         exact .inr (.inr (.inr (.inl ⟨s, by rw [h.1], h.2⟩)))
       . split at h
         . rename_i e; subst e
           simp only [Bool.and_eq_true, decide_eq_true_eq] at h
           exact .inr (.inr (.inr (.inr ⟨m, by rw [zmv h.1.1], h.1.2, h.2⟩)))
         . cases h
end
section
open Go.BigFrame Go.RowKit
def okShf (l : List Shf) : Prop := (∀ s ∈ l, 1 <= s.pos /\ s.pos <= 575999999 /\ -840 <= s.off /\ s.off <= 840) /\ ∀ (j : Nat) (a b : Shf), l[j]? = some a -> l[j + 1]? = some b -> a.pos < b.pos
theorem offE (n : Int) (w : World) (h1 : -840 <= n) (h2 : n <= 840) : Calls Tryz.prog 191 #[.int .i64 n] w fun e w' => e = .returned (.bool true) /\ w = w' := by
 go_enter Tryz.func191, Tryz.ntmps191
 go_wp2
 go_ret
 exact ⟨zal (by simp; try omega), rfl⟩
set_option maxRecDepth 100000 in
set_option maxHeartbeats 2000000 in
theorem zonE (z : Zon) (l : List Shf) (w : World) (h : rShf w z.shA z.shN l) (hok : okShf l) (hn : z.shN <= 64) (h1 : -840 <= z.off) (h2 : z.off <= 840) :
 Calls Tryz.prog 125 #[.agg #[.string z.nm, .int .i64 z.off, .slice z.shA z.shN z.shC]] w fun e w' => e = .returned (.int .i64 0) /\ Below w.heap.size w w' := by
 obtain ⟨nm, off, A, n, c⟩ := z
 simp only at h hn h1 h2 ⊢
 have HT := qL h
 have HL := qL h.len
 have HK := qL hok
 have d1 : decide (64 < n) = false := by simp; omega
 clear h hok
 go_enter Tryz.func125, Tryz.ntmps125
 go_wp2_with (go_at_call 191; refine (offE _ _ h1 h2).mono ?_; rintro e w' ⟨rfl, rfl⟩)
 go_loopw [16] (fun i wr => ∃ k : Nat, k <= n /\ i = .int .i64 k /\ Below (w.alloc (.cells #[.string nm, .int .i64 off, .slice A n c] 80)).heap.size (w.alloc (.cells #[.string nm, .int .i64 off, .slice A n c] 80)) wr) (fun i _ => n - (intOf i).toNat)
 case atStart => exact ⟨0, by omega, rfl, za0 _⟩
 case round =>
  obtain ⟨k, hk, rfl, hbw⟩ := hrel
  have HBW := qL hbw
  have hfin := btr (zae w _) hbw
  have HFI := qL hfin
  have z0 : wr.cell? ⟨w.heap.size, 2, none⟩ = some (.slice A n c) := qM hbw qH
  have hsz : w.heap.size < wr.heap.size := by have := hbw.size; simp at this; omega
  by_cases hlt : k < n
  . obtain ⟨b1, o1, rfl, hc1⟩ := HT.out.opn qF
    obtain ⟨x, hx⟩ := zah (l := l) (k := k) (by have := HL.out; omega)
    obtain ⟨x1, x2⟩ := hc1 k x hx
    obtain ⟨q1, q2, q3, q4⟩ := HK.out.1 x (qP hx)
    have y1 := qM hfin x1
    have y2 := qM hfin x2
    have e1 : decide (x.pos < 1) = false := by simp; omega
    have e2 : decide (575999999 < x.pos) = false := by simp; omega
    by_cases hk0 : k = 0
    . subst hk0
      simp only [Nat.zero_mul, Nat.add_zero] at y1 y2
      clear hc1 hx hbw hfin x1 x2
      go_wp2_with (go_at_call 191; refine (offE _ _ q3 q4).mono ?_; rintro e w' ⟨rfl, rfl⟩)
      go_quiet (fail)
      go_wp2
      go_roundw
      case rel => exact ⟨1, by omega, by go_num, za6 (HBW.out.alloc HBW.out.size _) _⟩
      case measure => simp [intOf]; omega
    . obtain ⟨p, hp⟩ := zah (l := l) (k := k - 1) (by have := HL.out; omega)
      obtain ⟨p1, p2⟩ := hc1 (k - 1) p hp
      have hlt2 := HK.out.2 (k - 1) p x hp (by rw [show k - 1 + 1 = k by omega]; exact hx)
      have e3 : decide (x.pos <= p.pos) = false := by simp; omega
      have d3 : decide (0 < k) = true := by simp; omega
      have w1 := qM hfin p1
      have i0 : (1 : Int) <= (k : Int) := by omega
      have i1 : IntKind.i64.wrap ((k : Int) - 1) = (k : Int) - 1 := by rw [IntKind.wrap_i64]; omega
      have i2 : ((k : Int) - 1).toNat = k - 1 := by omega
      have i3 : (k : Int) - 1 < n := by omega
      have i4 : (0 : Int) <= (k : Int) - 1 := by omega
      have v1 := qM (zae wr (.cells #[.int .i64 x.pos, .int .i64 x.off] 88)) w1
      have v0 := qM (zae wr (.cells #[.int .i64 x.pos, .int .i64 x.off] 88)) z0
      clear hc1 hx hbw hfin x1 x2 hp p1 p2 hlt2 hk0
      go_wp2_with (go_at_call 191; refine (offE _ _ q3 q4).mono ?_; rintro e w' ⟨rfl, rfl⟩)
      go_quiet (fail)
      go_wp2
      go_roundw
      case rel => exact ⟨k + 1, by omega, by go_num, za6 (HBW.out.alloc HBW.out.size _) _⟩
      case measure => simp [intOf]; omega
  . go_wp2
    go_ret
    exact ⟨zak rfl, hfin⟩
def dZon (w : World) (z : Zon) (l : List Shf) : Prop := rShf w z.shA z.shN l
def okZon (z : Zon) (l : List Shf) : Prop := okShf l /\ z.shN <= 64 /\ -840 <= z.off /\ z.off <= 840
set_option maxRecDepth 100000 in
theorem zonedE (A : Option Addr) (n c : Nat) (zs : List Zon) (ls : List (List Shf)) (w : World) (h : rZon w A n zs) (hd : dAll (fun z l => dZon w z l /\ okZon z l) zs ls) (hn : n <= 1000) :
 Calls Tryz.prog 90 #[.slice A n c] w fun e w' => e = .returned (.int .i64 0) /\ Below w.heap.size w w' := by
 have HT := qL h
 have HL := qL h.len
 have HD := qL hd
 clear h hd
 go_enter Tryz.func90, Tryz.ntmps90
 go_wp2
 go_loopw [8] (fun i wr => ∃ k : Nat, k <= n /\ i = .int .i64 k /\ Below w.heap.size w wr) (fun i _ => n - (intOf i).toNat)
 case atStart => exact ⟨0, by omega, rfl, za0 _⟩
 case round =>
  obtain ⟨k, hk, rfl, hbw⟩ := hrel
  have HBW := qL hbw
  by_cases hlt : k < n
  . obtain ⟨b1, o1, rfl, hc1⟩ := HT.out.opn qF
    obtain ⟨x, hx⟩ := zah (l := zs) (k := k) (by have := HL.out; omega)
    obtain ⟨l, hl, hr, q1, q2, q3, q4⟩ := HD.out.get hx
    obtain ⟨x1, x2, x3⟩ := hc1 k x hx
    have y1 := qM hbw x1
    have y2 := qM hbw x2
    have y3 := qM hbw x3
    have HZ := qL (zonE x l (wr.alloc (.cells #[.string x.nm, .int .i64 x.off, .slice x.shA x.shN x.shC] 80)) (rShf.later hr (btr hbw (zae _ _))) q1 q2 q3 q4)
    clear hc1 hx hl hr q1 q2 q3 q4 x1 x2 x3 hbw
    go_wp2_with (go_at_call 125; refine (HZ.out).mono ?_; rintro e w' ⟨rfl, hb⟩)
    go_roundw
    case rel => exact ⟨k + 1, by omega, by go_num, btr HBW.out (btr (zae _ _) hb)⟩
    case measure => simp [intOf]; omega
  . go_wp2
    go_ret
    exact ⟨zak rfl, hbw⟩
end
end Go.Proofs.YthcalfeoejdcgaaGreatDoor
