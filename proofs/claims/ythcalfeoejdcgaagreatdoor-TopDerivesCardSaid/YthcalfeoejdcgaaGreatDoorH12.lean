import Derived.Shelf.SlSortCmp.NoneTotal
import Derived.Deep.AppendLies
import Derived.Maps.OwnSet
import Derived.Test.YthcalfeoejdcgaaGreatDoorH11
import Derived.Deep.RegionLaw
import Derived.Shelf.SlicesQ.Reverse
import Derived.Ground.SlgnProg
namespace Go.Proofs.YthcalfeoejdcgaaGreatDoor
set_option linter.unusedSimpArgs false
set_option linter.unusedVariables false
section
section
open Go.RowKit Go.BigFrame
def PutR (B : Nat) (v : Value) (k : Nat) (lo : Tab) (w : World) (e : Ending) (w' : World) : Prop :=
 ∃ v', e = .returned (.tuple #[v', .bool true]) /\ ownD (kEntF B) w' B v' k lo /\ w.grownBy w' v.ownBlock
set_option maxRecDepth 100000 in
set_option maxHeartbeats 1000000 in
theorem putE (B : Nat) (v : Value) (k : Nat) (lo : Tab) (rA : Option Addr) (rN rC : Nat) (r : List Val) (m : Int) (w : World) (ho : ownD (kEntF B) w B v k lo) (hr : rVal w rA rN r) (h12 : rN <= 12) (h1 : 0 < m) (h2 : m <= 65536) (hB : B <= w.heap.size) (hk : k < 1000000) :
 Calls Tryz.prog 43 #[v, .slice rA rN rC, .int .i64 m] w (PutR B v (k + 1) (lo ++ [(r, m)]) w) := by
 obtain ⟨iE, PE⟩ := zpw B
 have d1 : decide (m < -65536) = false := by simp; omega
 have d2 : decide (65536 < m) = false := by simp; omega
 have d3 : (m != 0) = true := by simp; omega
 have hv0 : ∀ j, v.ownBlock = some j -> B <= j /\ j < w.heap.size := ho.lt
 have HV0 := qL hv0
 have HR := qL (cloVE rA rN rC r w (zb4.2 hr) qF)
 obtain ⟨vA, vc, rfl, _, _, _⟩ := ho.rd
 have HO := qL ho
 clear hr ho hv0
 go_enter Tryz.func43, Tryz.ntmps43
 go_wp2_with fail
 refine HR.out.mono ?_
 rintro e w1 ⟨A1, c1, rfl, hrd1, hcc1, hb1, hfr1, _⟩
 have HB1 := qL hb1
 have HF1 := qL (zb3 (n := rN) (w1 := w) (fun k e => (HV0.out k e).2) (fun a e => (hfr1 a e).1))
 have HF2 : Hid (∀ a, A1 = some a -> B <= a.block) := qL (fun a e => qR hB (hfr1 a e).1)
 have HF3 : Hid (ownD (kEntF B) (w1.alloc (.cells #[.slice A1 rN c1, .int .i64 m] 65)) B (.slice vA k vc) k lo) := qL (HO.out.later (HB1.out.alloc HB1.out.size _))
 have HF4 := qL (zb4.1 (hrd1.later (zae _ (.cells #[.slice A1 rN c1, .int .i64 m] 65))))
 have HSZ : Hid (B <= (w1.alloc (.cells #[.slice A1 rN c1, .int .i64 m] 65)).heap.size) := qL (qR hB (qR HB1.out.size (zae _ _).size))
 have HG1 : Hid (w.grownBy (w1.alloc (.cells #[.slice A1 rN c1, .int .i64 m] 65)) (Value.slice vA k vc).ownBlock) := qL (by
  have hb := HB1.out.alloc HB1.out.size (.cells #[.slice A1 rN c1, .int .i64 m] 65)
  exact ⟨hb.os, hb.tape, hb.output, hb.size, fun k hk _ => hb.block k hk⟩)
 clear hrd1 hfr1 hb1
 go_wp2_with (at_builtin; refine zaq _ rfl _ _ rfl PE HF3.out ⟨_, 0, none⟩ ⟨A1, rN, c1, m⟩ (r, m) rfl rfl (zan _ _ _ _ _ _) ⟨⟨HF4.out, rfl⟩, fun _ a e => HF2.out a e⟩ HF1.out hk HSZ.out ?_; intro v' w' hown' hgrow hat)
 have HOF := qL hown'
 have HGF : Hid (w.grownBy w' (Value.slice vA k vc).ownBlock) := qL ⟨hgrow.os.trans HG1.out.os, hgrow.tape.trans HG1.out.tape, hgrow.output.trans HG1.out.output, qR HG1.out.size hgrow.size, fun k hk hne => (hgrow.block k (qQ hk HG1.out.size) hne).trans (HG1.out.block k hk hne)⟩
 clear hown' hgrow hat
 go_wp2
 go_ret2
 exact ⟨v', rfl, HOF.out, HGF.out⟩
def SumTo (s : Tab) (k : Nat) (lo : Tab) : Prop := Bag lo /\ (∀ r, cnt lo r = cnt (s.take k) r) /\ (∀ x ∈ lo, ∃ y ∈ s.take k, y.1 = x.1) /\ (∀ (i j : Nat) p x, i < k -> k <= j -> s[i]? = some p -> s[j]? = some x -> cmpR p.1 x.1 < 0) /\ lo.length <= k
theorem SumTo.nil (s : Tab) : SumTo s 0 [] := ⟨⟨trivial, fun x h => (by cases h)⟩, fun r => rfl, fun x h => (by cases h), fun i j p x h => absurd h qF, by simp⟩
theorem zlt : ∀ {l : Tab} {x : List Val × Int} (_ : Asc l) (_ : ∀ y ∈ l, cmpR y.1 x.1 < 0), Asc (l ++ [x])
 | [], x, _, _ => ⟨fun y h => (by cases h), trivial⟩
 | z :: l, x, h, hx => ⟨fun y hy => by
   rcases List.mem_append.1 hy with hy | hy
   . exact h.1 y hy
   . simp at hy; subst hy; exact hx z (List.mem_cons_self ..), zlt h.2 fun y hy => hx y (qW _ hy)⟩
theorem zlx {r0 : List Val} : ∀ {l : Tab} (_ : ∀ x ∈ l, x.1 = r0) (r : List Val), cnt l r = if cmpR r0 r = 0 then sumC l else 0
 | [], _, r => by simp [cnt, sumC]
 | x :: l, h, r => by
   rw [cnt, zlx (fun y hy => h y (qW _ hy)) r, h x (List.mem_cons_self ..), sumC]
   split <;> omega
theorem zod {a b c : List Val} (h1 : cmpR a b < 0) (h2 : ¬ cmpR c b < 0) : cmpR a c < 0 := by
 have f := zbs b c
 by_cases e : cmpR b c = 0
 . rw [<- (zar _ _).1 e]; exact h1
 . exact zbi _ _ _ h1 qF
def midS (s : Tab) (i k : Nat) : Int := sumC ((s.drop i).take (k - i))
theorem zi6 (s : Tab) (i : Nat) : midS s i i = 0 := by unfold midS; rw [Nat.sub_self]; rfl
theorem zi7 {s : Tab} {i k : Nat} {x : List Val × Int} (h : i <= k) (hx : s[k]? = some x) : midS s i (k + 1) = midS s i k + x.2 := by
 unfold midS
 rw [show k + 1 - i = (k - i) + 1 by omega, zbc (x := x) (by rw [List.getElem?_drop, show i + (k - i) = k by omega]; exact hx), zbb]
 simp [sumC]
theorem zbp : ∀ {l : Tab} (_ : ∀ x ∈ l, 0 < x.2), 0 <= sumC l
 | [], _ => by simp [sumC]
 | x :: l, h => by have := h x (List.mem_cons_self ..); have := zbp fun y hy => h y (qW _ hy); rw [sumC]; omega
theorem zqj {a b : Tab} (h : a.Perm b) : sumC a = sumC b := by
 induction h with
 | nil => rfl
 | cons x _ ih => rw [sumC, sumC, ih]
 | swap x y l => simp only [sumC]; omega
 | trans _ _ h1 h2 => rw [h1, h2]
theorem zh7 {s : Tab} (h : ∀ x ∈ s, 0 < x.2) (i k : Nat) : 0 <= midS s i k /\ midS s i k <= sumC s := by
 have h1 : ∀ x ∈ (s.drop i).take (k - i), 0 < x.2 := fun x hx => h x (List.mem_of_mem_drop (List.mem_of_mem_take hx))
 refine ⟨zbp h1, ?_⟩
 unfold midS
 have a := zbm (s.drop i) (k - i)
 have b := zbm s i
 have c := zbp (l := (s.drop i).drop (k - i)) fun x hx => h x (List.mem_of_mem_drop (List.mem_of_mem_drop hx))
 have d := zbp (l := s.take i) fun x hx => h x (List.mem_of_mem_take hx)
 omega
theorem SumTo.step {s lo : Tab} {i k : Nat} {p : List Val × Int} (h : SumTo s i lo) (hsort : s.Pairwise leR) (hpos : ∀ x ∈ s, 0 < x.2) (hik : i < k) (hk : k <= s.length) (hp : s[i]? = some p) (hsame : ∀ j x, i <= j -> j < k -> s[j]? = some x -> x.1 = p.1) (hend : ∀ x, s[k]? = some x -> x.1 ≠ p.1) :
 SumTo s k (lo ++ [(p.1, midS s i k)]) /\ 0 < midS s i k := by
 obtain ⟨h1, h2, h3, h4, h5⟩ := h
 have hle : ∀ {a b : Nat} {x y : List Val × Int}, a < b -> s[a]? = some x -> s[b]? = some y -> ¬ cmpR y.1 x.1 < 0 := fun {a b x y} hab hx hy => by
  have := List.pairwise_iff_getElem.1 hsort a b (qO hx).1 (qO hy).1 hab
  rw [(qO hx).2, (qO hy).2] at this
  exact this
 have hmid : ∀ x ∈ (s.drop i).take (k - i), x.1 = p.1 := fun x hx => by
  obtain ⟨j, hj⟩ := List.getElem?_of_mem hx
  rw [List.getElem?_take] at hj
  split at hj
  . rw [List.getElem?_drop] at hj
    exact hsame (i + j) x qF qF hj
  . cases hj
 have hposm : 0 < midS s i k := by
  have a := zi7 (qV i) hp
  rw [zi6] at a
  have b := hpos p (qP hp)
  have e : midS s i k = midS s i (i + 1) + midS s (i + 1) k := by
   unfold midS
   rw [<- zbb]
   congr 1
   rw [show (s.drop (i + 1)) = ((s.drop i).drop (i + 1 - i)) by rw [List.drop_drop]; congr 1; omega]
   rw [show k - i = (i + 1 - i) + (k - (i + 1)) by omega, List.take_add]
  have c := (zh7 hpos (i + 1) k).1
  omega
 have hlo : ∀ y ∈ lo, cmpR y.1 p.1 < 0 := fun y hy => by
  obtain ⟨z, hz, e⟩ := h3 y hy
  obtain ⟨j, hj⟩ := List.getElem?_of_mem hz
  rw [List.getElem?_take] at hj
  split at hj
  . rw [<- e]; exact h4 j i z p ‹_› (qV _) hj hp
  . cases hj
 have htk : s.take k = s.take i ++ (s.drop i).take (k - i) := by rw [<- List.take_add]; congr 1; omega
 refine ⟨⟨⟨zlt h1.1 hlo, fun x hx => ?_⟩, fun r => ?_, fun x hx => ?_, fun a j q x ha hj hq hx => ?_, ?_⟩, hposm⟩
 . rcases List.mem_append.1 hx with hx | hx
   . exact h1.2 x hx
   . simp at hx; subst hx; show midS s i k ≠ 0; omega
 . rw [zcc, h2, htk, zcc, zlx hmid]
   simp only [cnt]
   unfold midS
   split <;> omega
 . rcases List.mem_append.1 hx with hx | hx
   . obtain ⟨y, hy, e⟩ := h3 x hx
     exact ⟨y, by rw [htk]; exact List.mem_append_left _ hy, e⟩
   . simp at hx
     subst hx
     exact ⟨p, qP (i := i) (by rw [List.getElem?_take, if_pos hik]; exact hp), rfl⟩
 . rcases Nat.lt_or_ge a i with hai | hai
   . exact h4 a j q x hai qF hq hx
   . rw [hsame a q hai ha hq]
     obtain ⟨y, hy⟩ : ∃ y, s[k]? = some y := ⟨s[k]'(by have := (qO hx).1; omega), List.getElem?_eq_getElem _⟩
     have e1 := hend y hy
     have e2 := hle hik hp hy
     have f := zbs p.1 y.1
     have e3 : cmpR p.1 y.1 < 0 := by
      rcases Int.lt_trichotomy (cmpR p.1 y.1) 0 with c | c | c
      . exact c
      . exact absurd ((zar _ _).1 c).symm e1
      . omega
     rcases Nat.lt_or_ge k j with hkj | hkj
     . exact zod e3 (hle hkj hy hx)
     . have : k = j := by omega
       subst this
       rw [hy] at hx
       cases hx
       exact e3
 . simp; omega
theorem SumTo.fin {s t lo : Tab} (h : SumTo s s.length lo) (hp : s.Perm t) : lo = normV t :=
 zh9 h.1 fun r => by rw [h.2.1, List.take_length, cnt_perm hp]
theorem sortAny (A : Option Addr) (n c : Nat) (t : Tab) (w w1 : World) (hb : Below w.heap.size w w1) (hown : ownD kEnt w1 w.heap.size (.slice A n c) n t) (hn : n <= 100000) (hf : ∀ x ∈ t, x.1.length <= 100000) :
 Calls Tryz.prog 252 #[.slice A n c, .func (.func 253) #[] #[]] w1 fun e w' => e = .returned (.tuple #[]) /\ ∃ s, s.Perm t /\ s.Pairwise leR /\ rTab w' A n s /\ Below w.heap.size w w' := by
 rcases Nat.eq_zero_or_pos n with rfl | hn0
 . have hl := hown.len
   obtain rfl : t = [] := List.eq_nil_of_length_eq_zero hl
   refine (AnyF.slices_SortFunc_none zp9 A c (.func (.func 253) #[] #[]) w1).mono ?_
   rintro e w' ⟨rfl, rfl⟩
   exact ⟨rfl, [], .nil, List.Pairwise.nil, rTab.nil _ _, hb⟩
 . have h2 := hown
   obtain ⟨es, ⟨_, ⟨e1, e2⟩ | ⟨g, cap, cur, e1, b1, _⟩⟩, _⟩ := h2
   . omega
   . cases e1
     refine (sortE1 g n c w.heap.size t w1 hown hn0 qF hf).mono ?_
     rintro e w' ⟨rfl, s, h1, h2, h3, h4⟩
     exact ⟨rfl, s, h1, h2, h3, hb.trans (za9 h4 hb.size fun k e => by cases e; exact b1)⟩
theorem doneE (A : Option Addr) (n c : Nat) (w : World) (hn : n <= 4096) : Calls Tryz.prog 67 #[.slice A n c] w fun e w' => e = .returned (.tuple #[.slice A n c, .int .i64 0]) /\ w' = w := by
 have d1 : decide (4096 < n) = false := by simp; omega
 go_enter Tryz.func67, Tryz.ntmps67
 go_wp2
 go_ret2
 exact ⟨rfl, rfl⟩
set_option maxRecDepth 100000 in
set_option maxHeartbeats 1000000 in
theorem bsumE (A : Option Addr) (n c : Nat) (t : Tab) (w : World) (ht : rTab w A n t) (hn : n <= 4096) (hpos : ∀ x ∈ t, 0 < x.2) (hs : sumC t <= 65536) (h12 : ∀ x ∈ t, x.1.length <= 12) : Calls Tryz.prog 208 #[.slice A n c] w (Tab2R (normV t) w) := by
 have HC := qL (cloEE A n c t w ht qF)
 have HTL := qL ht.len
 have HPOS := qL hpos
 have HSUM := qL hs
 have H12 := qL h12
 clear ht hpos hs h12
 go_enter Tryz.func208, Tryz.ntmps208
 go_wp2_with fail
 refine HC.out.mono ?_
 rintro e w1 ⟨A1, c1, rfl, hrd1, hcc1, hb1, hfr1, hown1⟩
 have HSORT := qL (sortAny A1 n c1 t w w1 hb1 hown1 qF (fun x hx => by have := H12.out x hx; omega))
 clear hrd1 hb1 hown1 hfr1
 go_wp2_with fail
 refine HSORT.out.mono ?_
 rintro e w2 ⟨rfl, s, hp, hsort, hs2, hb2⟩
 have HS := qL hs2
 have HB2 := qL hb2
 have HP := qL hp
 have HSO := qL hsort
 have HSL : Hid (s.length = n) := qL hs2.len
 have HSP : Hid (∀ x ∈ s, 0 < x.2 /\ x.1.length <= 12) := qL fun x hx => ⟨HPOS.out x (hp.mem_iff.1 hx), H12.out x (hp.mem_iff.1 hx)⟩
 have HSC : Hid (sumC s <= 65536) := qL (by rw [zqj hp]; exact HSUM.out)
 clear hs2 hb2 hp hsort
 have HPT := qL (HP.out)
 go_wp2
 go_loopw [4, 5, 6] (fun v ok i wr => ∃ (k : Nat) (lo : Tab), k <= n /\ ok = .bool true /\ i = .int .i64 k /\ Below w2.heap.size w2 wr /\ Hid (ownD (kEntF w2.heap.size) wr w2.heap.size v lo.length lo) /\ Hid (SumTo s k lo)) (fun _ _ i _ => n - (intOf i).toNat)
 case atStart => exact ⟨0, [], by omega, rfl, rfl, za0 _, qL (ownD.nil _ _), qL (SumTo.nil s)⟩
 case round =>
  obtain ⟨i, lo, hi, rfl, rfl, hbw, HO, HT⟩ := hrel
  have HBW := qL hbw
  by_cases hlt : i < n
  . obtain ⟨b1, o1, rfl, hc1⟩ := (HS.out.later hbw).opn qF
    obtain ⟨p, hp⟩ := zah (l := s) (k := i) (by have := HSL.out; omega)
    obtain ⟨rA, rN, rC, p1, p2, p3⟩ := hc1 i p hp
    have HPP := qL hp
    have HP3 := qL p3
    have HC1 := qL hc1
    have hp12 := (HSP.out p (qP hp)).2
    have hrN : rN <= 12 := by have := p3.len; omega
    have P1 := qL p1
    clear hc1 hp p3 p1 p2 hbw
    go_wp2
    go_loopw [7, 8] (fun nn kv wx => ∃ kk : Nat, i <= kk /\ kk <= n /\ kv = .int .i64 kk /\ nn = .int .i64 (midS s i kk) /\ Below wr.heap.size wr wx /\ Hid (∀ j x, i <= j -> j < kk -> s[j]? = some x -> x.1 = p.1)) (fun _ kv _ => n - (intOf kv).toNat)
    case atStart => exact ⟨i, qV _, hi, rfl, by rw [zi6], za0 _, qL fun j x h1 h2 => absurd h1 qF⟩
    case round =>
     obtain ⟨kk, hik, hkn, rfl, rfl, hbx, HSA⟩ := hrel
     have HBX := qL hbx
     by_cases hkk : kk < n
     . obtain ⟨x, hx⟩ := zah (l := s) (k := kk) (by have := HSL.out; omega)
       obtain ⟨sA, sN, sC, x1, x2, x3⟩ := HC1.out kk x hx
       have X3 := qL x3
       have HXX := qL hx
       have hx12 := (HSP.out x (qP hx)).2
       have gx := Gro.cell (qM hbx P1.out)
       have gy := Gro.cell (qM hbx x1)
       have y2 := x2
       have HCM := qL fun W (hb : Below wr.heap.size wr W) => cmrE rA rN rC sA sN sC p.1 x.1 W (HP3.out.later (btr HBX.out hb)) (X3.out.later (btr HBX.out hb)) qF qF
       have X2 := qL x2
       clear x1 x2 x3 hx hbx y2
       cases hz : (cmpR p.1 x.1 == 0)
       . have hne : cmpR p.1 x.1 ≠ 0 := by simpa using hz
         have hend : ∀ y, s[kk]? = some y -> y.1 ≠ p.1 := fun y hy e => by
          rw [HXX.out] at hy
          cases hy
          exact hne ((zar _ _).2 e.symm)
         have hik2 : i < kk := by
          rcases Nat.lt_or_ge i kk with h | h
          . exact h
          . have e : i = kk := by omega
            subst e
            exact absurd rfl (hend p HPP.out)
         go_wp2_with fail
         refine zai qG qG ?_; (repeat (go_big_quiet_step ((go_at_call 42; exact Calls.gro_of (HCM.out _ (Gro.below _)))))); refine wpQuiet_nil ?_; intro _ hw'; obtain ⟨pq, hw''⟩ := hw'; subst hw''; have hbq := pq.below; revert hbq; generalize pq.world = wq; intro hbq
         have HBE := qL (btr HBX.out hbq)
         clear gx gy hbq
         have HSTEP := qL (SumTo.step HT.out HSO.out (fun x hx => (HSP.out x hx).1) hik2 (by have := HSL.out; omega) HPP.out HSA.out hend)
         have hm1 := HSTEP.out.2
         have hm2 : midS s i kk <= 65536 := by have := (zh7 (s := s) (fun x hx => (HSP.out x hx).1) i kk).2; have := HSC.out; omega
         have q1 := qM HBE.out P1.out
         have HPUT := qL (putE w2.heap.size u4 lo.length lo rA rN rC p.1 (midS s i kk) _ (HO.out.later HBE.out) (HP3.out.later HBE.out) hrN hm1 hm2 (qR HBW.out.size HBE.out.size) (by have := HT.out.2.2.2.2; omega))
         have HV0 : Hid (∀ k, u4.ownBlock = some k -> w2.heap.size <= k) := qL fun k e => (HO.out.lt k e).1
         clear hend
         go_wp2_with fail
         refine HPUT.out.mono ?_
         rintro e w3 ⟨v', rfl, hown', hg⟩
         have HOF := qL hown'
         have HBF := qL (zaf (btr HBW.out HBE.out) hg HV0.out)
         clear hown' hg
         go_wp2
         go_roundw
         case rel => exact ⟨kk, lo ++ [(p.1, midS s i kk)], hkn, rfl, rfl, HBF.out, qL (by simpa using HOF.out), qL HSTEP.out.1⟩
         case measure => simp [intOf]; omega
       . have HEQ : Hid (x.1 = p.1) := qL ((zar _ _).1 (by simpa using hz)).symm
         have HMS := qL (zi7 hik HXX.out)
         have hm3 := zh7 (s := s) (fun x hx => (HSP.out x hx).1) i (kk + 1)
         have hm4 := HSC.out
         have hm5 : IntKind.i64.wrap (midS s i kk + x.2) = midS s i kk + x.2 := by have := HMS.out; rw [IntKind.wrap_i64]; omega
         clear hm3 hm4
         go_wp2_with fail
         refine zai qG qG ?_; (repeat (go_big_quiet_step ((go_at_call 42; exact Calls.gro_of (HCM.out _ (Gro.below _)))))); refine wpQuiet_nil ?_; intro _ hw'; obtain ⟨pq, hw''⟩ := hw'; subst hw''; have hbq := pq.below; revert hbq; generalize pq.world = wq; intro hbq
         have HBE := qL (btr HBX.out hbq)
         have q2 := qM HBE.out X2.out
         clear gx gy hbq
         go_wp2
         go_roundw
         case rel => exact ⟨kk + 1, by omega, by omega, by go_num, by rw [HMS.out], HBE.out, qL fun j y h1 h2 hy => by
          rcases Nat.lt_or_ge j kk with h | h
          . exact HSA.out j y h1 h hy
          . have ej : j = kk := by omega
            subst ej
            rw [HXX.out] at hy
            cases hy
            exact HEQ.out⟩
         case measure => simp [intOf]; omega
     . obtain rfl : kk = n := by omega
       have hik2 : i < kk := hlt
       have hend : ∀ y, s[kk]? = some y -> y.1 ≠ p.1 := fun y hy => by
        rw [List.getElem?_eq_none (by have := HSL.out; omega)] at hy; cases hy
       have dk : decide (kk < kk) = false := by simp
       go_wp2_with fail
       refine zai qG qG ?_; (repeat (go_big_quiet_step (fail))); refine wpQuiet_nil ?_; intro _ hw'; obtain ⟨pq, hw''⟩ := hw'; subst hw''; have hbq := pq.below; revert hbq; generalize pq.world = wq; intro hbq
       have HBE := qL (btr HBX.out hbq)
       clear hbq
       have HSTEP := qL (SumTo.step HT.out HSO.out (fun x hx => (HSP.out x hx).1) hik2 (by have := HSL.out; omega) HPP.out HSA.out hend)
       have hm1 := HSTEP.out.2
       have hm2 : midS s i kk <= 65536 := by have := (zh7 (s := s) (fun x hx => (HSP.out x hx).1) i kk).2; have := HSC.out; omega
       have q1 := qM HBE.out P1.out
       have HPUT := qL (putE w2.heap.size u4 lo.length lo rA rN rC p.1 (midS s i kk) _ (HO.out.later HBE.out) (HP3.out.later HBE.out) hrN hm1 hm2 (qR HBW.out.size HBE.out.size) (by have := HT.out.2.2.2.2; omega))
       have HV0 : Hid (∀ k, u4.ownBlock = some k -> w2.heap.size <= k) := qL fun k e => (HO.out.lt k e).1
       clear hend
       go_wp2_with fail
       refine HPUT.out.mono ?_
       rintro e w3 ⟨v', rfl, hown', hg⟩
       have HOF := qL hown'
       have HBF := qL (zaf (btr HBW.out HBE.out) hg HV0.out)
       clear hown' hg
       go_wp2
       go_roundw
       case rel => exact ⟨kk, lo ++ [(p.1, midS s i kk)], hkn, rfl, rfl, HBF.out, qL (by simpa using HOF.out), qL HSTEP.out.1⟩
       case measure => simp [intOf]; omega
  . obtain rfl : i = n := by omega
    obtain ⟨vA, vc, hv4, hvc, hrd, hfr⟩ := HO.out.rd
    have HL : Hid (lo = normV t) := qL (by
     have := HT.out
     rw [<- HSL.out] at this
     exact this.fin HPT.out)
    have HR : Hid (rTabF wr w.heap.size vA lo.length lo) := qL (rTabF.mono ⟨hrd, fun _ a e => (hfr a e).1⟩ HB2.out.size)
    have hle : lo.length <= 4096 := by have := HT.out.2.2.2.2; omega
    have dle : decide (4096 < lo.length) = false := by simp; omega
    subst hv4
    clear hrd hfr
    go_wp2_with fail
    refine (doneE vA lo.length vc wr hle).mono ?_
    rintro e w4 ⟨rfl, rfl⟩
    have HBF := qL (HB2.out.trans (hbw.mono HB2.out.size))
    go_wp2
    go_ret2
    exact ⟨_, _, _, rfl, by rw [<- HL.out]; exact HR.out, hvc, HBF.out⟩
set_option maxRecDepth 100000 in
set_option maxHeartbeats 1000000 in
theorem bnormE (A : Option Addr) (n c : Nat) (t : Tab) (w : World) (ht : rTab w A n t) (hn : n <= 4096) (hpos : ∀ x ∈ t, 0 < x.2) (hs : sumC t <= 65536) (h12 : ∀ x ∈ t, x.1.length <= 12) (hv : ∀ x ∈ t, vOk x.1) : Calls Tryz.prog 213 #[.slice A n c] w (Tab2R (normV t) w) := by
 have HT := qL ht
 have HP := qL hpos
 have HS := qL hs
 have H12 := qL h12
 have HV := qL hv
 have HL := qL ht.len
 clear ht hpos hs hv h12
 go_enter Tryz.func213, Tryz.ntmps213
 go_wp2
 go_loopw [9] (fun i wr => ∃ k : Nat, k <= n /\ i = .int .i64 k /\ Below w.heap.size w wr) (fun i _ => n - (intOf i).toNat)
 case atStart => exact ⟨0, by omega, rfl, za0 _⟩
 case round =>
  obtain ⟨k, hk, rfl, hbw⟩ := hrel
  have HBW := qL hbw
  clear hbw
  by_cases hlt : k < n
  . obtain ⟨b1, o1, rfl, hc1⟩ := (HT.out.later HBW.out).opn qF
    obtain ⟨x, hx⟩ := zah (l := t) (k := k) (by have := HL.out; omega)
    obtain ⟨rA, rN, rC, x1, x2, x3⟩ := hc1 k x hx
    have hm := qP hx
    have hx1 := HP.out x hm
    have hx2 : x.2 <= 65536 := by
     have h1 := HS.out
     have h2 : x.2 <= sumC t := by
      have h3 := zbm t k
      have h4 := zbp (l := t.take k) fun y hy => HP.out y (List.mem_of_mem_take hy)
      have h5 := zbp (l := t.drop (k + 1)) fun y hy => HP.out y (List.mem_of_mem_drop hy)
      have h6 : t.drop k = x :: t.drop (k + 1) := by
       rw [List.drop_eq_getElem_cons (qO hx).1, (qO hx).2]
      rw [h6, sumC] at h3
      omega
     omega
    have HF := qL (zoy rA rN rC x.1 x.2 (wr.alloc (.cells #[.slice rA rN rC, .int .i64 x.2] 65)) (x3.later (zae _ _)) (H12.out x hm) (HV.out x hm) qF hx2)
    clear hc1 hx x3
    go_wp2_with (go_at_call 95; refine HF.out.mono ?_; rintro e w' ⟨rfl, hb⟩)
    go_roundw
    case rel => exact ⟨k + 1, by omega, by go_num, btr HBW.out (btr (zae _ _) hb)⟩
    case measure => simp [intOf]; omega
  . have H := qL (bsumE A n c t wr (HT.out.later HBW.out) hn HP.out HS.out H12.out)
    go_wp2_with fail
    refine H.out.mono ?_
    rintro e w2 ⟨A2, n2, c2, rfl, hr2, hc2, hb2⟩
    have HR2 := qL hr2
    have HB2 := qL (btr HBW.out hb2)
    clear hr2 hb2
    go_wp2
    go_ret2
    exact ⟨_, _, _, rfl, HR2.out.mono HBW.out.size, hc2, HB2.out⟩
end
section
open Go.RowKit Go.BigFrame
end
section
open Go.RowKit Go.BigFrame
def idxV {α : Type} (p : α -> Bool) (l : List α) : Int := match l.findIdx? p with | some i => i | none => -1
theorem zck {α : Type} {p : α -> Bool} {l : List α} {k : Nat} {x : α} (hb : ∀ (j : Nat) y, j < k -> l[j]? = some y -> p y = false) (hx : l[k]? = some x) (hp : p x = true) : idxV p l = k := by
 have h : l.findIdx? p = some k := by
  rw [List.findIdx?_eq_some_iff_getElem]
  refine ⟨(qO hx).1, by rw [(qO hx).2]; exact hp, fun j hj => ?_⟩
  have hjl : j < l.length := by have := (qO hx).1; omega
  have := hb j _ hj (List.getElem?_eq_getElem hjl)
  simp [this]
 unfold idxV; rw [h]
theorem zcw {α : Type} {p : α -> Bool} {l : List α} (hb : ∀ (j : Nat) y, l[j]? = some y -> p y = false) : idxV p l = -1 := by
 have h : l.findIdx? p = none := by
  rw [List.findIdx?_eq_none_iff]
  intro x hx
  obtain ⟨j, hj⟩ := List.getElem?_of_mem hx
  exact hb j x hj
 unfold idxV; rw [h]
def NoneTo {α : Type} (p : α -> Bool) (l : List α) (k : Nat) : Prop := ∀ (j : Nat) y, j < k -> l[j]? = some y -> p y = false
theorem NoneTo.succ {α : Type} {p : α -> Bool} {l : List α} {k : Nat} {x : α} (h : NoneTo p l k) (hx : l[k]? = some x) (hp : p x = false) : NoneTo p l (k + 1) := by
 intro j y hj hy
 rcases Nat.lt_or_ge j k with h1 | h1
 . exact h j y h1 hy
 . obtain rfl : j = k := by omega
   rw [hx] at hy; cases hy; exact hp
def nmIs (nm : ByteArray) (c : Col) : Bool := c.nm.toList == nm.toList
theorem clo190 (c : Col) (B : Nat) (nm : ByteArray) (w : World) (hc : w.cell? ⟨B, 0, none⟩ = some (.string nm)) :
 Calls Tryz.prog 190 #[.agg #[.string c.nm, .int .i64 c.k, .bool c.nl], .pointer (some ⟨B, 0, none⟩)] w fun e w' => e = .returned (.bool (nmIs nm c)) /\ Below w.heap.size w w' := by
 have hc' := qM (zae w (.cells #[.string c.nm, .int .i64 c.k, .bool c.nl] 56)) hc
 go_enter Tryz.func190, Tryz.ntmps190
 go_wp2
 go_ret
 exact ⟨zal (by simp [nmIs]), zae _ _⟩
set_option maxRecDepth 100000 in
theorem zkt (cB : Nat) (p : Col -> Bool) (A : Option Addr) (n c : Nat) (l : List Col) (w : World) (h : rCol w A n l) (hn : n <= 100000)
 (hG : ∀ (W : World) (x : Col), Below w.heap.size w W -> x ∈ l -> Calls Tryz.prog 190 #[.agg #[.string x.nm, .int .i64 x.k, .bool x.nl], .pointer (some ⟨cB, 0, none⟩)] W fun e w' => e = .returned (.bool (p x)) /\ Below W.heap.size W w') :
 Calls Tryz.prog 189 #[.slice A n c, .func (.func 190) #[] #[.pointer (some ⟨cB, 0, none⟩)]] w fun e w' => e = .returned (.int .i64 (idxV p l)) /\ Below w.heap.size w w' := by
 have HA := qL h
 have LA := qL h.len
 have HG := qL hG
 clear h hG
 go_enter Tryz.func189, Tryz.ntmps189
 go_wp2
 go_loopw [8] (fun i wr => ∃ k : Nat, k <= n /\ i = .int .i64 k /\ Below w.heap.size w wr /\ Hid (NoneTo p l k)) (fun i _ => n - (intOf i).toNat)
 case atStart => exact ⟨0, by omega, rfl, za0 _, qL fun j _ hj => absurd hj qF⟩
 case round =>
  obtain ⟨k, hk, rfl, hbw, HS⟩ := hrel
  have HBW := qL hbw
  by_cases h1 : k < n
  . obtain ⟨b1, o1, rfl, hc1⟩ := (HA.out.later hbw).opn qF
    obtain ⟨x, hx⟩ := zah (l := l) (k := k) (by have := LA.out; omega)
    have hcells := hc1 k x hx
    have HX := qL hx
    have HC := qL (HG.out wr x hbw (qP hx))
    clear hc1 hx hbw
    (repeat (obtain ⟨_, hcells⟩ := hcells))
    cases hz : p x
    . have HZ := qL hz
      go_wp2_with fail
      refine HC.out.mono ?_
      rintro e w2 ⟨rfl, hb2⟩
      have HB2 := qL (btr HBW.out hb2)
      clear hb2
      go_wp2
      go_roundw
      case rel => exact ⟨k + 1, by omega, by go_num, HB2.out, qL (HS.out.succ HX.out HZ.out)⟩
      case measure => simp [intOf]; omega
    . have HZ := qL hz
      go_wp2_with fail
      refine HC.out.mono ?_
      rintro e w2 ⟨rfl, hb2⟩
      have HB2 := qL (btr HBW.out hb2)
      clear hb2
      go_wp2
      go_ret
      exact ⟨zak (zck HS.out HX.out HZ.out).symm, HB2.out⟩
  . go_wp2
    go_ret
    exact ⟨zak (zcw (fun j y hy => HS.out j y (by have := LA.out; have := (qO hy).1; omega) hy)).symm, hbw⟩
theorem idx189 (A : Option Addr) (n c : Nat) (cs : List Col) (B : Nat) (nm : ByteArray) (w : World) (h : rCol w A n cs) (hn : n <= 100000) (hc : w.cell? ⟨B, 0, none⟩ = some (.string nm)) :
 Calls Tryz.prog 189 #[.slice A n c, .func (.func 190) #[] #[.pointer (some ⟨B, 0, none⟩)]] w fun e w' => e = .returned (.int .i64 (idxV (nmIs nm) cs)) /\ Below w.heap.size w w' :=
 zkt B (nmIs nm) A n c cs w h hn fun W x hb _ => clo190 x B nm W (qM hb hc)
def idxC (cs : List Col) (nm : ByteArray) : Int := idxV (nmIs nm) cs
theorem zl9 (A : Option Addr) (n c : Nat) (cs : List Col) (nm : ByteArray) (w : World) (h : rCol w A n cs) (hn : n <= 100000) :
 Calls Tryz.prog 124 #[.slice A n c, .string nm] w fun e w' => e = .returned (.int .i64 (idxC cs nm)) /\ Below w.heap.size w w' := by
 have H := qL (idx189 A n c cs w.heap.size nm (w.alloc (.cells #[.string nm] 9)) (h.later (zae _ _)) hn qH)
 clear h
 go_enter Tryz.func124, Tryz.ntmps124
 go_wp2_with (go_at_call 189; refine (H.out).mono ?_; rintro e w' ⟨rfl, hb⟩)
 go_ret
 exact ⟨zak rfl, btr (zae _ _) hb⟩
end
section
open Go.RowKit Go.BigFrame
def isS (s x : ByteArray) : Bool := s.toList == x.toList
def hasS (l : List ByteArray) (s : ByteArray) : Bool := l.any (isS s)
set_option maxRecDepth 100000 in
theorem idx221 (A : Option Addr) (n c : Nat) (l : List ByteArray) (s : ByteArray) (w : World) (h : rStr w A n l) (hn : n <= 100000) :
 Calls Tryz.prog 221 #[.slice A n c, .string s] w fun e w' => e = .returned (.int .i64 (idxV (isS s) l)) /\ w = w' := by
 have HA := qL h
 have LA := qL h.len
 clear h
 go_enter Tryz.func221, Tryz.ntmps221
 go_wp2
 go_loop [8] (fun i => ∃ k : Nat, k <= n /\ i = .int .i64 k /\ Hid (NoneTo (isS s) l k)) (fun i => n - (intOf i).toNat)
 case atStart => exact ⟨0, by omega, rfl, qL fun j _ hj => absurd hj qF⟩
 case round =>
  obtain ⟨k, hk, rfl, HS⟩ := hrel
  by_cases h1 : k < n
  . obtain ⟨b1, o1, rfl, hc1⟩ := HA.out.opn qF
    obtain ⟨x, hx⟩ := zah (l := l) (k := k) (by have := LA.out; omega)
    have hcell := hc1 k x hx
    have HX := qL hx
    clear hc1 hx
    cases hz : (s.toList == x.toList)
    . have HZ : Hid (isS s x = false) := qL hz
      go_wp2
      case roundEnd => exact ⟨⟨k + 1, by omega, by go_num, qL (HS.out.succ HX.out HZ.out)⟩, by simp [intOf]; omega⟩
    . have HZ : Hid (isS s x = true) := qL hz
      go_wp2
      go_ret
      exact ⟨zak (zck HS.out HX.out HZ.out).symm, rfl⟩
  . go_wp2
    go_ret
    exact ⟨zak (zcw (fun j y hy => HS.out j y (by have := LA.out; have := (qO hy).1; omega) hy)).symm, rfl⟩
theorem zo0 {α : Type} (p : α -> Bool) (l : List α) : decide (0 <= idxV p l) = l.any p := by
 unfold idxV
 cases h : l.findIdx? p with
 | none =>
   have : l.any p = false := by
    rw [List.findIdx?_eq_none_iff] at h
    simp only [List.any_eq_false]
    intro x hx; have := h x hx; simp [this]
   rw [this]; simp
 | some i =>
   have : l.any p = true := by
    rw [List.findIdx?_eq_some_iff_getElem] at h
    obtain ⟨hi, hp, _⟩ := h
    exact List.any_eq_true.2 ⟨_, List.getElem_mem hi, hp⟩
   rw [this]; simp
theorem contS (A : Option Addr) (n c : Nat) (l : List ByteArray) (s : ByteArray) (w : World) (h : rStr w A n l) (hn : n <= 100000) :
 Calls Tryz.prog 148 #[.slice A n c, .string s] w fun e w' => e = .returned (.bool (hasS l s)) /\ w = w' := by
 have H := qL (idx221 A n c l s w h hn)
 clear h
 go_enter Tryz.func148, Tryz.ntmps148
 go_wp2_with (go_at_call 221; refine (H.out).mono ?_; rintro e w' ⟨rfl, rfl⟩)
 go_ret
 exact ⟨zal (by unfold hasS; rw [<- zo0]), rfl⟩
theorem info3 : (Tryz.prog.info? 3).map (fun i => (i.zero, i.size, i.bytes)) = some (some (.int .i64 0), 1, 8) := by kernel_rfl
theorem pInt : ∃ i, KinP Tryz.prog kInt 22 i (.int .i64 0) 8 := by
 obtain ⟨i0, hi, hz0, hz1, hz2⟩ := info_parts info3
 exact ⟨i0, ⟨Tryz.underlying22, hi, hz0, hz1, hz2, rfl, by omega⟩⟩
theorem zd5 {W : World} {v : Value} {t : TypeId} : ∀ j u, [v][j]? = some u -> (W.alloc (.cells #[v] t)).cell? ((⟨W.heap.size, 0, none⟩ : Addr).add j) = some u := cell_one_new W v t
end
section
open Go.RowKit Go.BigFrame
end
section
open Go.RowKit Go.BigFrame
theorem zac {W : World} {b j : Nat} {o : Obj} {u : Option Value} (h : b < W.heap.size) (hu : W.cell? ⟨b, j, none⟩ = u) : (W.alloc o).cell? ⟨b, j, none⟩ = u := by
 rw [World.cell?_alloc_past _ _ _ h]; exact hu
theorem zab {W : World} {b j : Nat} {o : Obj} {u : Bool} (h : b < W.heap.size) (hu : W.frozen? ⟨b, j, none⟩ = u) : (W.alloc o).frozen? ⟨b, j, none⟩ = u := by
 rw [World.frozen?_alloc_past _ _ _ h]; exact hu
theorem zad {W : World} {cs : Array Value} {t b j : Nat} (h : b = W.heap.size) : (W.alloc (.cells cs t)).frozen? ⟨b, j, none⟩ = false := by
 subst h
 simp
end
section
open Go.RowKit Go.BigFrame
theorem zes : validV zV = true := by simp [validV, zV, ByteArray.toList_eq]
theorem za2 {α β : Type} {K : Kin α β} {w : World} {B n : Nat} {v : Value} {l l' : List β} (h : ownD K w B v n l) (e : l' = l) : ownD K w B v l'.length l' := by
 subst e
 have := h.len
 rw [this]; exact h
end
section
open Go.RowKit Go.Maps Go.WideMaps
def anyE (v : Value) : Option (DataW Value × List MemPlace) := some (.held v, [])
def Mp (P : Program) (k : TypeId) (w : World) (b n : Nat) (f : List UInt8 -> Option Value) : Prop :=
 ∃ D : DataW Value, w.ownsMap P k anyE b n D /\ ∀ s, Maps.has D (.string s) = (f s).isSome /\ ∀ v, f s = some v -> ∀ z, D.atKey (.string s) z = .held v
def setF (f : List UInt8 -> Option Value) (s : List UInt8) (v : Value) : List UInt8 -> Option Value := fun t => if t = s then some v else f t
section
variable {P : Program} {k e t : TypeId} {w w' : World} {b n : Nat} {f : List UInt8 -> Option Value}
theorem Mp.made (w : World) : Mp P k (w.alloc (.map #[] 0)) w.heap.size 0 (fun _ => none) :=
 ⟨.map [], World.ownsMap_made _ _ _ _, fun s => ⟨rfl, fun v h => by cases h⟩⟩
theorem Mp.drew (h : Mp P k w b n f) : Mp P k w.drew b n f := h
theorem Mp.lt (h : Mp P k w b n f) : b < w.heap.size := by
 obtain ⟨D, h1, _⟩ := h
 exact h1.lt
theorem Mp.later (h : Mp P k w b n f) (hb : Below w.heap.size w w') : Mp P k w' b n f := by
 have hl := h.lt
 obtain ⟨D, ⟨es, clock, h1, r⟩, h2⟩ := h
 exact ⟨D, ⟨es, clock, (hb.block b hl).trans h1, r⟩, h2⟩
theorem mp_at {D : DataW Value} (h2 : ∀ s, Maps.has D (.string s) = (f s).isSome /\ ∀ v, f s = some v -> ∀ z, D.atKey (.string s) z = .held v) (s : List UInt8) {v z : Value} {ps : List MemPlace}
 (hv : anyE v = some (D.atKey (.string s) (.held z), ps)) : v = (f s).getD z := by
 cases hf : f s with
 | none =>
   have := (h2 s).1
   rw [hf] at this
   rw [atKey_of_not_has this] at hv
   simp [anyE] at hv
   exact hv.1
 | some u =>
   rw [(h2 s).2 u hf] at hv
   simp [anyE] at hv
   exact hv.1
theorem Mp.look (h : Mp P k w b n f) (hk : P.underlying k = some .string) (ht : P.underlying t = some (.map k e)) {z : Value} (hz : (zeroValue e).run P w = .ok z w) (s : ByteArray) (hs : s.size <= maxLen) :
 (Instr.lookup t (.map (some b)) (.string s) false).run P w = .ok ((f s.data.toList).getD z) w := by
 obtain ⟨D, h1, h2⟩ := h
 obtain ⟨v, ps, hrun, hv⟩ := h1.lookup (string_keyed hk) ht hz (zd := .held z) (zp := []) rfl (keyOf_string_mk hk hs)
 rw [hrun, mp_at h2 _ hv]
theorem Mp.put (h : Mp P k w b n f) (hk : P.underlying k = some .string) (ht : P.underlying t = some (.map k e)) (hn : n < maxLen) (s : ByteArray) (hs : s.size <= maxLen) (v : Value) :
 ∃ w', (Instr.mapUpdate t (.map (some b)) (.string s) v).run P w = .ok () w' /\ Mp P k w' b (n + 1) (setF f s.data.toList v) /\ w.grownBy w' (some b) := by
 obtain ⟨D, h1, h2⟩ := h
 obtain ⟨w', hrun, h3, h4⟩ := h1.update (string_keyed hk) ht hn (keyOf_string_mk hk hs) (d := .held v) (ps := []) rfl
 refine ⟨w', hrun, ⟨_, h3, fun t => ?_⟩, h4⟩
 by_cases e : t = s.data.toList
 . subst e
   refine ⟨?_, fun u hu z => ?_⟩
   . rw [has_put_same h1.isMap (show WideAt.IsKeyLit (.string s.data.toList) from trivial)]; simp [setF]
   . simp [setF] at hu
     subst hu
     exact atKey_put_same h1.isMap (show WideAt.IsKeyLit (.string s.data.toList) from trivial) _ _
 . have hne : (Lit.string t) ≠ .string s.data.toList := fun h => e (by simpa using h)
   refine ⟨?_, fun u hu z => ?_⟩
   . rw [has_put_other hne, (h2 t).1]; simp [setF, e]
   . simp [setF, e] at hu
     rw [atKey_put_other hne]
     exact (h2 t).2 u hu z
end
section
variable {P : Program} (w : World) {ops : Array Oper} {rest : List Oper} {o : Oper} {a : Act} {Q : Exit -> Act -> World -> Prop}
theorem ziq (hg : o.guard = none) (m x v : Operand) (t : TypeId) (hop : o.op = Op.mapUpdate t m x v)
 (k e : TypeId) (hk : P.underlying k = some .string) (ht : P.underlying t = some (.map k e)) (b n : Nat) (f : List UInt8 -> Option Value)
 (hm : a.eval m = .map (some b)) (hown : Mp P k w b n f) (hn : n < maxLen) (s : ByteArray) (val : Value) (hx : a.eval x = .string s) (hv : a.eval v = val) (hs : s.size <= maxLen)
 (hK : ∀ w', Mp P k w' b (n + 1) (setF f s.data.toList val) -> w.grownBy w' (some b) -> wpList P ops Q rest (a.put o.dst undef) w') : wpList P ops Q (o :: rest) a w := by
 refine wpList_plain hg fun K' hK' => ?_
 obtain ⟨w', hrun, r1, r2⟩ := hown.put hk ht hn s hs val
 unfold Oper.wp
 simp [execOp, hop, hm, hx, hv, hrun, Result.andThen]
 exact hK' _ _ (hK w' r1 r2)
end
end
section
open Go.RowKit Go.BigFrame
end
section
open Go.RowKit Go.BigFrame
theorem Asc.at_ : ∀ {t : Tab} (_ : Asc t) {i j : Nat} {p x : List Val × Int} (_ : i < j) (_ : t[i]? = some p) (_ : t[j]? = some x), cmpR p.1 x.1 < 0
 | [], _, i, j, p, x, _, hi, _ => by simp at hi
 | y :: t, h, 0, j + 1, p, x, _, hi, hj => by
   simp at hi; subst hi
   exact h.1 x (qP (by simpa using hj))
 | y :: t, h, i + 1, j + 1, p, x, hl, hi, hj => Asc.at_ h.2 (i := i) (j := j) qF (by simpa using hi) (by simpa using hj)
set_option maxRecDepth 100000 in
set_option maxHeartbeats 1000000 in
theorem zn4 (A : Option Addr) (n c : Nat) (t : Tab) (w : World) (ht : rTab w A n t) (hok : okBag t) : Calls Tryz.prog 66 #[.slice A n c] w fun e w' => e = .returned (.int .i64 0) /\ Below w.heap.size w w' := by
 have HT := qL ht
 have HL := qL ht.len
 have HK := qL hok
 have hn : n <= 4096 := by have := ht.len; have := hok.1; omega
 have d1 : decide (4096 < n) = false := by simp; omega
 clear ht hok
 go_enter Tryz.func66, Tryz.ntmps66
 go_wp2
 go_loopw [11] (fun i wr => ∃ k : Nat, k <= n /\ i = .int .i64 k /\ Below w.heap.size w wr) (fun i _ => n - (intOf i).toNat)
 case atStart => exact ⟨0, by omega, rfl, za0 _⟩
 case round =>
  obtain ⟨k, hk, rfl, hbw⟩ := hrel
  have HBW := qL hbw
  by_cases hlt : k < n
  . obtain ⟨b1, o1, rfl, hc1⟩ := HT.out.opn qF
    obtain ⟨x, hx⟩ := zah (l := t) (k := k) (by have := HL.out; omega)
    obtain ⟨rA, rN, rC, x1, x2, x3⟩ := hc1 k x hx
    have hm := HK.out.2.2 x (qP hx)
    have e0 : (x.2 == 0) = false := by have := HK.out.2.1.2 x (qP hx); simp; exact this
    have y1 := qM hbw x1
    have y2 := qM hbw x2
    have X3 := qL x3
    have h12 := hm.1
    have HF := qL (zoy rA rN rC x.1 x.2 (wr.alloc (.cells #[.slice rA rN rC, .int .i64 x.2] 65)) (x3.later (btr hbw (zae _ _))) hm.1 hm.2.2.2 hm.2.1 hm.2.2.1)
    by_cases hk0 : k = 0
    . subst hk0
      simp only [Nat.zero_mul, Nat.add_zero] at y1 y2
      clear hc1 hx x3 hm hbw
      go_wp2_with fail
      refine HF.out.mono ?_
      rintro e w2 ⟨rfl, hb2⟩
      have z1 : w2.cell? ⟨wr.heap.size, 0, none⟩ = some (.slice rA rN rC) := qM hb2 qH
      have z2 : w2.cell? ⟨wr.heap.size, 1, none⟩ = some (.int .i64 x.2) := qM hb2 qH
      have HB2 := qL (btr HBW.out (btr (zae _ _) hb2))
      clear hb2
      go_wp2_with fail
      go_quiet (fail)
      go_wp2
      go_roundw
      case rel => exact ⟨1, by omega, by go_num, za6 HB2.out _⟩
      case measure => simp [intOf]; omega
    . obtain ⟨p, hp⟩ := zah (l := t) (k := k - 1) (by have := HL.out; omega)
      obtain ⟨qA, qN, qC, p1, p2, p3⟩ := hc1 (k - 1) p hp
      have hcm := HK.out.2.1.1.at_ qF hp hx
      have k1 : decide (0 <= cmpR p.1 x.1) = false := by simp; omega
      have P3 := qL p3
      have hp12 := (HK.out.2.2 p (qP hp)).1
      have d3 : decide (0 < k) = true := by simp; omega
      have i0 : (1 : Int) <= (k : Int) := by omega
      have i1 : IntKind.i64.wrap ((k : Int) - 1) = (k : Int) - 1 := by rw [IntKind.wrap_i64]; omega
      have i2 : ((k : Int) - 1).toNat = k - 1 := by omega
      have i3 : (k : Int) - 1 < n := by omega
      have i4 : (0 : Int) <= (k : Int) - 1 := by omega
      clear hc1 hx x3 hm hbw hcm hk0 hp p3
      go_wp2_with fail
      refine HF.out.mono ?_
      rintro e w2 ⟨rfl, hb2⟩
      have z1 : w2.cell? ⟨wr.heap.size, 0, none⟩ = some (.slice rA rN rC) := qM hb2 qH
      have z2 : w2.cell? ⟨wr.heap.size, 1, none⟩ = some (.int .i64 x.2) := qM hb2 qH
      have hbA := btr HBW.out (btr (zae _ _) hb2)
      have HB2 := qL hbA
      have g1 := Gro.cell z1
      have g2 := Gro.cell (qM hbA p1)
      clear hb2 hbA
      go_wp2_with fail
      refine zai qG qG ?_; (repeat (go_big_quiet_step ((go_at_call 42; exact Calls.gro_of (cmrE qA qN qC rA rN rC p.1 x.1 _ (P3.out.later (btr HB2.out (Gro.below _))) (X3.out.later (btr HB2.out (Gro.below _))) qF qF))))); refine wpQuiet_nil ?_; intro _ hw'; obtain ⟨pq, hw''⟩ := hw'; subst hw''; have hbq := pq.below; revert hbq; generalize pq.world = wq; intro hbq
      have HB3 := qL (btr HB2.out hbq)
      clear g1 g2 hbq
      go_wp2
      go_roundw
      case rel => exact ⟨k + 1, by omega, by go_num, HB3.out⟩
      case measure => simp [intOf]; omega
  . go_wp2
    go_ret
    exact ⟨zak rfl, hbw⟩
theorem clo69 (rA : Option Addr) (rN rC : Nat) (c : Int) (w : World) (h : 0 < c) : Calls Tryz.prog 69 #[.agg #[.slice rA rN rC, .int .i64 c]] w fun e w' => e = .returned (.bool false) /\ Below w.heap.size w w' := by
 go_enter Tryz.func69, Tryz.ntmps69
 go_wp2
 go_ret
 exact ⟨zal (by simp; omega), zae _ _⟩
set_option maxRecDepth 100000 in
theorem zo1  (p : Ent -> Bool) (A : Option Addr) (n c : Nat) (l : List Ent) (w : World) (h : rEnt w A n l) (hn : n <= 100000)
 (hG : ∀ (W : World) (x : Ent), Below w.heap.size w W -> x ∈ l -> Calls Tryz.prog 69 #[.agg #[.slice x.rA x.rN x.rC, .int .i64 x.c]] W fun e w' => e = .returned (.bool (p x)) /\ Below W.heap.size W w') :
 Calls Tryz.prog 96 #[.slice A n c, .func (.func 69) #[] #[]] w fun e w' => e = .returned (.int .i64 (idxV p l)) /\ Below w.heap.size w w' := by
 have HA := qL h
 have LA := qL h.len
 have HG := qL hG
 clear h hG
 go_enter Tryz.func96, Tryz.ntmps96
 go_wp2
 go_loopw [8] (fun i wr => ∃ k : Nat, k <= n /\ i = .int .i64 k /\ Below w.heap.size w wr /\ Hid (NoneTo p l k)) (fun i _ => n - (intOf i).toNat)
 case atStart => exact ⟨0, by omega, rfl, za0 _, qL fun j _ hj => absurd hj qF⟩
 case round =>
  obtain ⟨k, hk, rfl, hbw, HS⟩ := hrel
  have HBW := qL hbw
  by_cases h1 : k < n
  . obtain ⟨b1, o1, rfl, hc1⟩ := (HA.out.later hbw).opn qF
    obtain ⟨x, hx⟩ := zah (l := l) (k := k) (by have := LA.out; omega)
    have hcells := hc1 k x hx
    have HX := qL hx
    have HC := qL (HG.out wr x hbw (qP hx))
    clear hc1 hx hbw
    (repeat (obtain ⟨_, hcells⟩ := hcells))
    cases hz : p x
    . have HZ := qL hz
      go_wp2_with fail
      refine HC.out.mono ?_
      rintro e w2 ⟨rfl, hb2⟩
      have HB2 := qL (btr HBW.out hb2)
      clear hb2
      go_wp2
      go_roundw
      case rel => exact ⟨k + 1, by omega, by go_num, HB2.out, qL (HS.out.succ HX.out HZ.out)⟩
      case measure => simp [intOf]; omega
    . have HZ := qL hz
      go_wp2_with fail
      refine HC.out.mono ?_
      rintro e w2 ⟨rfl, hb2⟩
      have HB2 := qL (btr HBW.out hb2)
      clear hb2
      go_wp2
      go_ret
      exact ⟨zak (zck HS.out HX.out HZ.out).symm, HB2.out⟩
  . go_wp2
    go_ret
    exact ⟨zak (zcw (fun j y hy => HS.out j y (by have := LA.out; have := (qO hy).1; omega) hy)).symm, hbw⟩
theorem cont68 (A : Option Addr) (n c : Nat) (t : Tab) (w : World) (ht : rTab w A n t) (hn : n <= 100000) (hp : ∀ x ∈ t, 0 < x.2) :
 Calls Tryz.prog 68 #[.slice A n c, .func (.func 69) #[] #[]] w fun e w' => e = .returned (.bool false) /\ Below w.heap.size w w' := by
 obtain ⟨es, h1, h2⟩ := ht
 have H := qL (zo1 (fun _ => false) A n c es w h1 hn (fun W x _ hx => by
  obtain ⟨j, hj⟩ := List.getElem?_of_mem hx
  obtain ⟨y, hy, hr⟩ := h2.get hj
  exact clo69 x.rA x.rN x.rC x.c W (by rw [hr.2]; exact hp y (qP hy))))
 have hi : Hid (idxV (fun _ : Ent => false) es = -1) := qL (zcw fun _ _ _ => rfl)
 have H2 : Hid (Calls Tryz.prog 96 #[.slice A n c, .func (.func 69) #[] #[]] w fun e w' => e = .returned (.int .i64 (-1)) /\ Below w.heap.size w w') := qL (by have h := H.out; rw [hi.out] at h; exact h)
 clear h1 h2 H hi hp
 go_enter Tryz.func68, Tryz.ntmps68
 go_wp2_with (go_at_call 96; refine (H2.out).mono ?_; rintro e w' ⟨rfl, hb⟩)
 go_ret
 exact ⟨zal rfl, hb⟩
theorem isTabE (A : Option Addr) (n c : Nat) (t : Tab) (w : World) (ht : rTab w A n t) (hok : okTab t) : Calls Tryz.prog 41 #[.slice A n c] w fun e w' => e = .returned (.bool true) /\ Below w.heap.size w w' := by
 have H := qL (zn4 A n c t w ht hok.1)
 have H2 := qL fun W (hb : Below w.heap.size w W) => cont68 A n c t W (ht.later hb) (by have := ht.len; have := hok.1.1; omega) hok.2
 clear ht hok
 go_enter Tryz.func41, Tryz.ntmps41
 go_wp2_with fail
 refine H.out.mono ?_
 rintro e w1 ⟨rfl, hb1⟩
 have HB1 := qL hb1
 have H3 := qL (H2.out w1 hb1)
 clear hb1
 go_wp2_with fail
 refine H3.out.mono ?_
 rintro e w2 ⟨rfl, hb2⟩
 have HB2 := qL (btr HB1.out hb2)
 clear hb2
 go_wp2
 go_ret
 exact ⟨zal rfl, HB2.out⟩
end
section
open Go.RowKit Go.BigFrame
end
section
open Go.RowKit Go.BigFrame Go.Shelf Go.Sort Go.Lib
end
section
open Go.RowKit Go.BigFrame
end
end
end Go.Proofs.YthcalfeoejdcgaaGreatDoor
