import Derived.Test.YthcalfeoejdcgaaGreatDoorK11
import Derived.KernelRfl
namespace Go.Proofs.YthcalfeoejdcgaaGreatDoor
set_option linter.unusedSimpArgs false
set_option linter.unusedVariables false
set_option maxRecDepth 100000
set_option maxHeartbeats 20000000
section
open Go.BigFrame Go.RowKit
def knds :List Knd:= [⟨0,false⟩,⟨0,true⟩,⟨1,false⟩,⟨1,true⟩,⟨2,false⟩,⟨2,true⟩,⟨3,false⟩,⟨3,true⟩,⟨4,false⟩,⟨4,true⟩]
def sKn (e:TypeId)(l:List Knd):ASt:=⟨(Tr.leaf:Tr AObj).set yad 64 (some ⟨false, .cells e 2 (flat yas l)⟩),65,[]⟩
def ndA (op vk:Int):Value:= .agg ⟨[.int .i64 op, .int .i64 vk, .int .i64 0, .string ⟨⟨[]⟩⟩, .string ⟨⟨[]⟩⟩, .int .i64 0]⟩
def yiu (n:Nat):Value:= .slice (some ⟨64,0,none⟩) n n
def nd0 (op vk:Int):Nod:=⟨op,vk,0,⟨#[]⟩,⟨#[]⟩,0⟩
def Yc4 (x:Option (Value × ASt))(t:Option Knd):Bool:=match t with
 |none=>true
 |some k=>match x with
  |some (.tuple ⟨[.agg ⟨[.int .i64 a, .bool b]⟩, .int .i64 0]⟩,_)=>yib a k.k&&ynx b k.nl
  |_=>false
def yhg (x:Option (Value × ASt))(t:Option Knd):Bool:=match t with
 |none=>true
 |some k=>match x with
  |some (.tuple ⟨[.agg ⟨[.int .i64 a, .bool b]⟩, .bool true]⟩,_)=>yib a k.k&&ynx b k.nl
  |_=>false
noncomputable def c35 (op:Int)(l:List Knd):Bool:=Yc4 ((xR 60).call 35 [ndA op 0,yiu l.length, .chan none, .chan none] (sKn 84 l)) (ybg [] (nd0 op 0) l)
noncomputable def yhy (op:Int)(l:List Knd):Bool:=yhg ((xR 60).call 274 [ndA op 0,yiu l.length] (sKn 282 l)) (ybg [] (nd0 op 0) l)
noncomputable def Yds (f:Int->List Knd->Bool)(ops:List Int):Bool:=ops.all fun op=>knds.all fun a=>f op [a]
noncomputable def ynd (f:Int->List Knd->Bool)(ops:List Int):Bool:=ops.all fun op=>knds.all fun a=>knds.all fun b=>f op [a,b]
noncomputable def yq2 (f:Int->List Knd->Bool)(la:List Knd):Bool:=la.all fun a=>knds.all fun b=>knds.all fun c=>f 17 [a,b,c]
def inR (t:Knd):Prop:=0<=t.k/\t.k<=4
theorem zeg {t:Knd}(h:inR t):t∈knds:=by
 obtain ⟨k,nl⟩:=t
 obtain ⟨h1,h2⟩:=h
 simp only at h1 h2
 have:k=0∨k=1∨k=2∨k=3∨k=4:=by omega
 rcases this with rfl|rfl|rfl|rfl|rfl<;>cases nl<;>simp [knds]
theorem znr {f:Int->List Knd->Bool}{ops:List Int}(h:Yds f ops=true){op:Int}(ho:op∈ops){a:Knd}(ha:inR a):f op [a]=true:=by
 have h1:=List.all_eq_true.1 h op ho
 exact List.all_eq_true.1 h1 a (zeg ha)
theorem zeu {f:Int->List Knd->Bool}{ops:List Int}(h:ynd f ops=true){op:Int}(ho:op∈ops){a b:Knd}(ha:inR a)(hb:inR b):f op [a,b]=true:=by
 have h1:=List.all_eq_true.1 h op ho
 have h2:=List.all_eq_true.1 h1 a (zeg ha)
 exact List.all_eq_true.1 h2 b (zeg hb)
theorem zht {f:Int->List Knd->Bool}{la:List Knd}(h:yq2 f la=true){a b c:Knd}(ha:a∈la)(hb:inR b)(hc:inR c):f 17 [a,b,c]=true:=by
 have h1:=List.all_eq_true.1 h a ha
 have h2:=List.all_eq_true.1 h1 b (zeg hb)
 exact List.all_eq_true.1 h2 c (zeg hc)
theorem zjj {E:Ev}{D:Nat->Prop}{ρ:Nat->Pl}{l:List Value}{v':Value}(h:Rv E D ρ (.tuple ⟨l⟩) v'): ∃ l',v'= .tuple ⟨l'⟩/\Rvs E D ρ l l':=by
 cases h with
 |flat _ h=>cases h
 |tuple l l' h=>exact ⟨_,rfl,h⟩
theorem zp7 {w:World}{b off n c:Nat}{e:TypeId}{l:List Knd}(hr:rKnd w (some ⟨b,off,none⟩) n l)(hn:0<n)(hc:n<=c)(hm:c<=maxLen):
 ∃ D ρ,Sim ye4 D ρ (sKn e l) w/\Rv ye4 D ρ (yiu l.length) (.slice (some ⟨b,off,none⟩) n c):=by
 obtain ⟨b',off',e1,hcell⟩:=(show Fl w 2 (some ⟨b,off,none⟩) n (flat yas l) from hr).2 hn
 cases e1
 have hlt:b<w.heap.size:=by
  cases l with
  |nil=>have:=hr.len;simp at this;omega
  |cons x l=>exact qX _ _ (hcell 0 (.int .i64 x.k) rfl)
 have hget: ∀ j,(sKn e l).heap.get j=if j=64 then some ⟨false, .cells e 2 (flat yas l)⟩ else none:=fun j=>by
  have:=Tr.get_set yad (Tr.leaf:Tr AObj) 64 (some ⟨false, .cells e 2 (flat yas l)⟩) (by decide) j
  rw [Tr.get_leaf] at this
  exact this
 have only: ∀ i o,(sKn e l).heap.get i=some o->i=64/\o=⟨false, .cells e 2 (flat yas l)⟩:=fun i o h=>by
  rw [hget] at h
  split at h
  ·rename_i h1;cases h;exact ⟨h1,rfl⟩
  ·cases h
 refine ⟨fun i=>i<65,fun i=>if i=64 then ya8 b off 2 (c*2) else ya8 i 0 0 0,⟨fun i o h=>?_,fun i h=>h,fun i o h=>?_,fun i o h=>?_,fun i j o o' h h2 hne hwr=>?_,fun g h=>?_,fun g h=>?_,fun i k ob h=>?_⟩,?_⟩
 ·rw [(only i o h).1];decide
 ·obtain ⟨rfl,rfl⟩:=only i o h
  refine ⟨rfl,fun j v hv=>?_⟩
  have hv2:=hcell j v hv
  refine ⟨v,hv2, .flat _ ?_⟩
  obtain ⟨x,_,hx⟩:=List.mem_flatMap.1 (qP hv)
  simp [yas] at hx
  rcases hx with rfl|rfl<;>rfl
 ·obtain ⟨rfl,rfl⟩:=only i o h
  exact hlt
 ·rw [(only i o h).2] at hwr;cases hwr
 ·show g<65
  have:g<64:=h
  omega
 ·have h:g<64:=h
  rw [if_neg qF]
  exact ⟨rfl,rfl⟩
 ·split at h<;>cases h
 ·have h:=Rv.slice (E:=ye4) (D:=fun i=>i<65) (ρ:=fun i=>if i=64 then ya8 b off 2 (c*2) else ya8 i 0 0 0) 64 0 n n c (by decide) (qV _) hc hm qH
  unfold yiu
  rw [hr.len]
  simpa using h
theorem yom (e:TypeId)(l:List Knd): ∀ b o,(sKn e l).heap.get b=some o->o.wr=false:=fun b o h=>by
 have:=Tr.get_set yad (Tr.leaf:Tr AObj) 64 (some ⟨false, .cells e 2 (flat yas l)⟩) (by decide) b
 rw [Tr.get_leaf] at this
 have h:((Tr.leaf:Tr AObj).set yad 64 (some ⟨false, .cells e 2 (flat yas l)⟩)).get b=some o:=h
 rw [this] at h
 split at h
 ·cases h;rfl
 ·cases h
theorem ymo {D:Nat->Prop}{ρ:Nat->Pl}(op vk:Int):Rv ye4 D ρ (ndA op vk) (.agg #[.int .i64 op, .int .i64 vk, .int .i64 0, .string ⟨#[]⟩, .string ⟨#[]⟩, .int .i64 0]):=
 .agg _ _ (.cons _ _ _ _ (.flat _ rfl) (.cons _ _ _ _ (.flat _ rfl) (.cons _ _ _ _ (.flat _ rfl) (.cons _ _ _ _ (.flat _ rfl) (.cons _ _ _ _ (.flat _ rfl) (.cons _ _ _ _ (.flat _ rfl) .nil))))))
theorem yre {op:Int}{l:List Knd}{t:Knd}(h:c35 op l=true)(ht:ybg [] (nd0 op 0) l=some t){w:World}{b off c:Nat}(hr:rKnd w (some ⟨b,off,none⟩) l.length l)(hn:0<l.length)(hc:l.length<=c)(hm:c<=maxLen)(co zo:Value):
 Calls Tryz.prog 35 #[.agg #[.int .i64 op, .int .i64 0, .int .i64 0, .string ⟨#[]⟩, .string ⟨#[]⟩, .int .i64 0], .slice (some ⟨b,off,none⟩) l.length c,co,zo] w fun e w'=>e= .returned (.tuple #[.agg #[.int .i64 t.k, .bool t.nl], .int .i64 0])/\Below w.heap.size w w':=by
 unfold c35 at h
 rw [ht] at h
 unfold Yc4 at h
 simp only at h
 split at h
 ·rename_i a b' s1 hx
  rw [Bool.and_eq_true] at h
  have e1:=zed h.1
  have e2:b'=t.nl:=by
   have:=h.2
   cases b'<;>cases hh:t.nl<;>rw [hh] at this<;>first |rfl|cases this
  obtain ⟨D,ρ,hs,hv⟩:=zp7 (e:=84) hr hn hc hm
  refine (zir ye4 60 35 _ _ _ _ hx D ρ w _ hs (.cons _ _ _ _ (ymo op 0) (.cons _ _ _ _ hv (.cons _ _ _ _ (.poison co) (.cons _ _ _ _ (.poison zo) .nil))))).mono ?_
  rintro e w' ⟨v',ρ',D',rfl,h1,h2,h3⟩
  obtain ⟨m,rfl,h4⟩:=zjj h1
  obtain ⟨x1,m1,rfl,g1,h5⟩:=zag h4
  obtain ⟨x2,m2,rfl,g2,h6⟩:=zag h5
  obtain rfl:=zay h6
  obtain ⟨m3,rfl,h7⟩:=zdl g1
  obtain ⟨y1,m4,rfl,k1,h8⟩:=zag h7
  obtain ⟨y2,m5,rfl,k2,h9⟩:=zag h8
  obtain rfl:=zay h9
  obtain rfl:=zat k1 rfl
  obtain rfl:=zat k2 rfl
  obtain rfl:=zat g2 rfl
  subst e1;subst e2
  exact ⟨rfl,zb1 (yom 84 l) rfl h3⟩
 ·cases h
theorem ynn {op:Int}{l:List Knd}{t:Knd}(h:yhy op l=true)(ht:ybg [] (nd0 op 0) l=some t){w:World}{b off c:Nat}(hr:rKnd w (some ⟨b,off,none⟩) l.length l)(hn:0<l.length)(hc:l.length<=c)(hm:c<=maxLen):
 Calls Tryz.prog 274 #[.agg #[.int .i64 op, .int .i64 0, .int .i64 0, .string ⟨#[]⟩, .string ⟨#[]⟩, .int .i64 0], .slice (some ⟨b,off,none⟩) l.length c] w fun e w'=>e= .returned (.tuple #[.agg #[.int .i64 t.k, .bool t.nl], .bool true])/\Below w.heap.size w w':=by
 unfold yhy at h
 rw [ht] at h
 unfold yhg at h
 simp only at h
 split at h
 ·rename_i a b' s1 hx
  rw [Bool.and_eq_true] at h
  have e1:=zed h.1
  have e2:b'=t.nl:=by
   have:=h.2
   cases b'<;>cases hh:t.nl<;>rw [hh] at this<;>first |rfl|cases this
  obtain ⟨D,ρ,hs,hv⟩:=zp7 (e:=282) hr hn hc hm
  refine (zir ye4 60 274 _ _ _ _ hx D ρ w _ hs (.cons _ _ _ _ (ymo op 0) (.cons _ _ _ _ hv .nil))).mono ?_
  rintro e w' ⟨v',ρ',D',rfl,h1,h2,h3⟩
  obtain ⟨m,rfl,h4⟩:=zjj h1
  obtain ⟨x1,m1,rfl,g1,h5⟩:=zag h4
  obtain ⟨x2,m2,rfl,g2,h6⟩:=zag h5
  obtain rfl:=zay h6
  obtain ⟨m3,rfl,h7⟩:=zdl g1
  obtain ⟨y1,m4,rfl,k1,h8⟩:=zag h7
  obtain ⟨y2,m5,rfl,k2,h9⟩:=zag h8
  obtain rfl:=zay h9
  obtain rfl:=zat k1 rfl
  obtain rfl:=zat k2 rfl
  obtain rfl:=zat g2 rfl
  subst e1;subst e2
  exact ⟨rfl,zb1 (yom 282 l) rfl h3⟩
 ·cases h
def ypm (e:TypeId)(z:Nat)(xs:List Value):ASt:=⟨(Tr.leaf:Tr AObj).set yad 64 (some ⟨false, .cells e z xs⟩),65,[]⟩
theorem zpr (e:TypeId)(z:Nat)(xs:List Value)(j:Nat):(ypm e z xs).heap.get j=if j=64 then some ⟨false, .cells e z xs⟩ else none:=by
 have:=Tr.get_set yad (Tr.leaf:Tr AObj) 64 (some ⟨false, .cells e z xs⟩) (by decide) j
 rw [Tr.get_leaf] at this
 exact this
theorem yms (e:TypeId)(z:Nat)(xs:List Value): ∀ b o,(ypm e z xs).heap.get b=some o->o.wr=false:=fun b o h=>by
 rw [zpr] at h
 split at h
 ·cases h;rfl
 ·cases h
theorem ypr {w:World}{b off n c z:Nat}{e:TypeId}{xs:List Value}(hr:Fl w z (some ⟨b,off,none⟩) n xs)(hx:xs.all ybx=true)(h0:0<xs.length)(hc:n<=c)(hm:c<=maxLen)(hn:0<n):
 ∃ D ρ,Sim ye4 D ρ (ypm e z xs) w/\Rv ye4 D ρ (yiu n) (.slice (some ⟨b,off,none⟩) n c):=by
 obtain ⟨b',off',e1,hcell⟩:=hr.2 hn
 cases e1
 have hlt:b<w.heap.size:=by
  cases xs with
  |nil=>simp at h0
  |cons x l=>exact qX _ _ (hcell 0 x rfl)
 have only: ∀ i o,(ypm e z xs).heap.get i=some o->i=64/\o=⟨false, .cells e z xs⟩:=fun i o h=>by
  rw [zpr] at h
  split at h
  ·rename_i h1;cases h;exact ⟨h1,rfl⟩
  ·cases h
 refine ⟨fun i=>i<65,fun i=>if i=64 then ya8 b off z (c*z) else ya8 i 0 0 0,⟨fun i o h=>?_,fun i h=>h,fun i o h=>?_,fun i o h=>?_,fun i j o o' h h2 hne hwr=>?_,fun g h=>?_,fun g h=>?_,fun i k ob h=>?_⟩,?_⟩
 ·rw [(only i o h).1];decide
 ·obtain ⟨rfl,rfl⟩:=only i o h
  refine ⟨rfl,fun j v hv=>⟨v,hcell j v hv, .flat _ (List.all_eq_true.1 hx v (qP hv))⟩⟩
 ·obtain ⟨rfl,rfl⟩:=only i o h
  exact hlt
 ·rw [(only i o h).2] at hwr;cases hwr
 ·show g<65
  have:g<64:=h
  omega
 ·have h:g<64:=h
  rw [if_neg qF]
  exact ⟨rfl,rfl⟩
 ·split at h<;>cases h
 ·have h:=Rv.slice (E:=ye4) (D:=fun i=>i<65) (ρ:=fun i=>if i=64 then ya8 b off z (c*z) else ya8 i 0 0 0) 64 0 n n c (by decide) (qV _) hc hm qH
  unfold yiu
  simpa using h
def csE :List (List Col):= [oC,[⟨sC,3,false⟩]]
noncomputable def c35c (cs:List Col)(nm:ByteArray):Bool:=Yc4 ((xR 60).call 35 [.agg ⟨[.int .i64 1, .int .i64 0, .int .i64 0, .string ⟨⟨[]⟩⟩, .string nm, .int .i64 0]⟩, .chan none,yiu cs.length, .chan none] (ypm 56 3 (flat yam cs))) (ybg cs ⟨1,0,0,⟨#[]⟩,nm,0⟩ [])
def ok32 (x:Option (Value × ASt)):Bool:=match x with
 |some (.int .i64 0,_)=>true
 |_=>false
theorem Yec :(csE.all fun cs=>cs.all fun c=>c35c cs c.nm)=true:=by kernel_rfl
theorem Yeb :(csE.all fun cs=>ok32 ((xR 100).call 32 [yiu cs.length] (ypm 56 3 (flat yam cs))))=true:=by kernel_rfl
theorem yjr (cs:List Col):(flat yam cs).all ybx=true:=by
 rw [List.all_eq_true]
 intro u hu
 obtain ⟨x,_,hx⟩:=List.mem_flatMap.1 hu
 simp [yam] at hx
 rcases hx with rfl|rfl|rfl<;>rfl
section
variable {cs:List Col}{w:World}{A:Option Addr}{n c:Nat}
theorem ynu (h:cs∈csE):0<cs.length/\cs.length<=4:=by
 simp only [csE,List.mem_cons,List.not_mem_nil,or_false] at h
 rcases h with rfl|rfl<;>decide
theorem zp6 (e:TypeId)(h:cs∈csE)(hr:rCol w A n cs)(hc:n<=c)(hm:c<=maxLen): ∃ D ρ,Sim ye4 D ρ (ypm e 3 (flat yam cs)) w/\Rv ye4 D ρ (yiu cs.length) (.slice A n c):=by
 have hl:=ynu h
 have hn:0<n:=by have:=hr.len;omega
 obtain ⟨b,off,rfl,_⟩:=hr.opn hn
 have:=ypr (e:=e) (z:=3) (show Fl w 3 (some ⟨b,off,none⟩) n (flat yam cs) from hr) (yjr cs) (by rw [zau zdn];omega) hc hm hn
 rw [<-hr.len] at this ⊢
 exact this
theorem yqa (h:cs∈csE)(hr:rCol w A n cs)(hc:n<=c)(hm:c<=maxLen):Calls Tryz.prog 32 #[.slice A n c] w fun e w'=>e= .returned (.int .i64 0)/\Below w.heap.size w w':=by
 have hk:=List.all_eq_true.1 Yeb cs h
 unfold ok32 at hk
 split at hk
 ·rename_i s1 hx
  obtain ⟨D,ρ,hs,hv⟩:=zp6 56 h hr hc hm
  refine (zir ye4 100 32 _ _ _ _ hx D ρ w _ hs (.cons _ _ _ _ hv .nil)).mono ?_
  rintro e w' ⟨v',ρ',D',rfl,h1,h2,h3⟩
  obtain rfl:=zat h1 rfl
  exact ⟨rfl,zb1 (yms 56 3 (flat yam cs)) rfl h3⟩
 ·cases hk
theorem Yhl (h:cs∈csE)(hr:rCol w A n cs)(hc:n<=c)(hm:c<=maxLen){x:Nod}(hx:okN cs x)(h1:x.op=1){t:Knd}(ht:ybg cs x []=some t)(v1 v3:Value):
 Calls Tryz.prog 35 #[.agg #[.int .i64 x.op, .int .i64 x.vk, .int .i64 x.vm, .string x.vs, .string x.nm, .int .i64 x.ar],v1, .slice A n c,v3] w fun e w'=>e= .returned (.tuple #[.agg #[.int .i64 t.k, .bool t.nl], .int .i64 0])/\Below w.heap.size w w':=by
 obtain ⟨op,vk,vm,vs,nm,ar⟩:=x
 simp only at h1
 subst h1
 obtain ⟨e1,e2,e3⟩:=hx.zero qH
 have e4:=hx.ar
 simp only at e1 e2 e3 e4
 subst e1;subst e2;subst e3;subst e4
 obtain ⟨j,cl,_,hcl,hp⟩:=zc3 (p:=yd1 nm) (l:=cs) (hx.col rfl)
 have e5:cl.nm=nm:=toList_inj (by simpa [yd1] using hp)
 have hk:=List.all_eq_true.1 (List.all_eq_true.1 Yec cs h) cl (qP hcl)
 rw [e5] at hk
 unfold c35c at hk
 rw [ht] at hk
 unfold Yc4 at hk
 simp only at hk
 split at hk
 ·rename_i a b' s1 hx
  rw [Bool.and_eq_true] at hk
  have e1:=zed hk.1
  have e2:b'=t.nl:=by
   have:=hk.2
   cases b'<;>cases hh:t.nl<;>rw [hh] at this<;>first |rfl|cases this
  obtain ⟨D,ρ,hs,hv⟩:=zp6 56 h hr hc hm
  refine (zir ye4 60 35 _ _ _ _ hx D ρ w _ hs (.cons _ (.agg #[.int .i64 1, .int .i64 0, .int .i64 0, .string ⟨#[]⟩, .string nm, .int .i64 0]) _ _ (.agg _ _ (.cons _ _ _ _ (.flat _ rfl) (.cons _ _ _ _ (.flat _ rfl) (.cons _ _ _ _ (.flat _ rfl) (.cons _ _ _ _ (.flat _ rfl) (.cons _ _ _ _ (.flat _ rfl) (.cons _ _ _ _ (.flat _ rfl) .nil))))))) (.cons _ _ _ _ (.poison v1) (.cons _ _ _ _ hv (.cons _ _ _ _ (.poison v3) .nil))))).mono ?_
  rintro e w' ⟨v',ρ',D',rfl,h1,h2,h3⟩
  obtain ⟨m,rfl,h4⟩:=zjj h1
  obtain ⟨x1,m1,rfl,g1,h5⟩:=zag h4
  obtain ⟨x2,m2,rfl,g2,h6⟩:=zag h5
  obtain rfl:=zay h6
  obtain ⟨m3,rfl,h7⟩:=zdl g1
  obtain ⟨y1,m4,rfl,k1,h8⟩:=zag h7
  obtain ⟨y2,m5,rfl,k2,h9⟩:=zag h8
  obtain rfl:=zay h9
  obtain rfl:=zat k1 rfl
  obtain rfl:=zat k2 rfl
  obtain rfl:=zat g2 rfl
  subst e1;subst e2
  exact ⟨rfl,zb1 (yms 56 3 (flat yam cs)) rfl h3⟩
 ·cases hk
end
theorem Yhk (vk vm:Int)(vs:ByteArray)(v1 v2 v3:Value)(w:World):Calls Tryz.prog 35 #[.agg #[.int .i64 0, .int .i64 vk, .int .i64 vm, .string vs, .string ⟨#[]⟩, .int .i64 0],v1,v2,v3] w fun e w'=>e= .returned (.tuple #[.agg #[.int .i64 vk, .bool (vk==0)], .int .i64 0])/\Below w.heap.size w w':=by
 go_enter Tryz.func35,Tryz.ntmps35
 go_wp2
 exact bodyPost_ret (v:= .tuple #[.agg #[.int .i64 vk, .bool (vk==0)], .int .i64 0]) (by simp [results,Tryz.results35,go_sem]) rfl ⟨rfl,((zae _ _).alloc qH _).alloc (by simp;omega) _⟩
theorem zip (n:Int)(w:World)(h1: -840<=n)(h2:n<=840):Calls Tryz.prog 52 #[.int .i64 n] w fun e w'=>e= .returned (.bool true)/\w=w':=by
 go_enter Tryz.func52,Tryz.ntmps52
 go_wp2
 go_ret
 exact ⟨zal (by simp;try omega),rfl⟩
theorem yqb (z:Zon)(l:List Shf)(w:World)(h:rShf w z.shA z.shN l)(hok:yga l)(hn:z.shN<=64)(h1: -840<=z.off)(h2:z.off<=840):
 Calls Tryz.prog 33 #[.agg #[.string z.nm, .int .i64 z.off, .slice z.shA z.shN z.shC]] w fun e w'=>e= .returned (.int .i64 0)/\Below w.heap.size w w':=by
 obtain ⟨nm,off,A,n,c⟩:=z
 simp only at h hn h1 h2 ⊢
 have HT:=qL h
 have HL:=qL h.len
 have HK:=qL hok
 have d1:decide (64<n)=false:=by simp;omega
 clear h hok
 go_enter Tryz.func33,Tryz.ntmps33
 go_wp2_with (go_at_call 52;refine (zip _ _ h1 h2).mono ?_;rintro e w' ⟨rfl,rfl⟩)
 go_loopw [3] (fun i wr=> ∃ k:Nat,k<=n/\i= .int .i64 k/\Below (w.alloc (.cells #[.string nm, .int .i64 off, .slice A n c] 80)).heap.size (w.alloc (.cells #[.string nm, .int .i64 off, .slice A n c] 80)) wr) (fun i _=>n - (intOf i).toNat)
 case atStart=>exact ⟨0,by omega,rfl,za0 _⟩
 case round=>
  obtain ⟨k,hk,rfl,hbw⟩:=hrel
  have HBW:=qL hbw
  have hfin:=btr (zae w _) hbw
  have HFI:=qL hfin
  have z0:wr.cell? ⟨w.heap.size,2,none⟩=some (.slice A n c):=qM hbw qH
  have hsz:w.heap.size<wr.heap.size:=by have:=hbw.size;simp at this;omega
  by_cases hlt:k<n
  ·obtain ⟨b1,o1,rfl,hc1⟩:=HT.out.opn qF
   obtain ⟨x,hx⟩:=zah (l:=l) (k:=k) (by have:=HL.out;omega)
   obtain ⟨x1,x2⟩:=hc1 k x hx
   obtain ⟨q1,q2,q3,q4⟩:=HK.out.1 x (qP hx)
   have y1:=qM hfin x1
   have y2:=qM hfin x2
   have e1:decide (x.pos<1)=false:=by simp;omega
   have e2:decide (575999999<x.pos)=false:=by simp;omega
   by_cases hk0:k=0
   ·subst hk0
    simp only [Nat.zero_mul,Nat.add_zero] at y1 y2
    clear hc1 hx hbw hfin x1 x2
    go_wp2_with (go_at_call 52;refine (zip _ _ q3 q4).mono ?_;rintro e w' ⟨rfl,rfl⟩)
    go_quiet (fail)
    go_wp2
    go_roundw
    case rel=>exact ⟨1,by omega,by go_num,za6 (HBW.out.alloc HBW.out.size _) _⟩
    case measure=>simp [intOf];omega
   ·obtain ⟨p,hp⟩:=zah (l:=l) (k:=k - 1) (by have:=HL.out;omega)
    obtain ⟨p1,p2⟩:=hc1 (k - 1) p hp
    have hlt2:=HK.out.2 (k - 1) p x hp (by rw [show k - 1+1=k by omega];exact hx)
    have e3:decide (x.pos<=p.pos)=false:=by simp;omega
    have d3:decide (0<k)=true:=by simp;omega
    have w1:=qM hfin p1
    have i0:(1:Int)<=(k:Int):=by omega
    have i1:IntKind.i64.wrap ((k:Int) - 1)=(k:Int) - 1:=by rw [IntKind.wrap_i64];omega
    have i2:((k:Int) - 1).toNat=k - 1:=by omega
    have i3:(k:Int) - 1<n:=by omega
    have i4:(0:Int)<=(k:Int) - 1:=by omega
    have v1:=qM (zae wr (.cells #[.int .i64 x.pos, .int .i64 x.off] 88)) w1
    have v0:=qM (zae wr (.cells #[.int .i64 x.pos, .int .i64 x.off] 88)) z0
    clear hc1 hx hbw hfin x1 x2 hp p1 p2 hlt2 hk0
    go_wp2_with (go_at_call 52;refine (zip _ _ q3 q4).mono ?_;rintro e w' ⟨rfl,rfl⟩)
    go_quiet (fail)
    go_wp2
    go_roundw
    case rel=>exact ⟨k+1,by omega,by go_num,za6 (HBW.out.alloc HBW.out.size _) _⟩
    case measure=>simp [intOf];omega
  ·go_wp2
   go_ret
   exact ⟨zak rfl,hfin⟩
def ZonR (w:World)(e:Ending)(w':World):Prop:= ∃ z:Zon,e= .returned (.tuple #[.agg #[.string z.nm, .int .i64 z.off, .slice z.shA z.shN z.shC], .bool true])/\Below w.heap.size w w'
theorem Ycq (A:Option Addr)(n c:Nat)(y:ByteArray × Int × List Shf)(w:World)(h:rZns w A n)(hy:y∈zoneL):Calls Tryz.prog 55 #[.slice A n c, .string y.1] w (ZonR w):=by
 obtain ⟨zs,hz,hd⟩:=h
 have H:=qL hz
 have HL:=qL hz.len
 have HEX:Hid (∃ z∈zs,(z.nm.toList==y.1.toList)=true):=qL (by
  obtain ⟨j,hj⟩:=List.getElem?_of_mem hy
  obtain ⟨z,hzj⟩:=zah (l:=zs) (k:=j) (by rw [hd.len];exact (qO hj).1)
  obtain ⟨y',hy',e1,_⟩:=hd.get hzj
  rw [hj] at hy'
  cases hy'
  exact ⟨z,qP hzj,by rw [e1];simp⟩)
 have hn:n<=1000:=by have:=hz.len;have:=hd.len;have:zoneL.length=3:=rfl;omega
 clear hz hd hy
 go_enter Tryz.func55,Tryz.ntmps55
 go_wp2
 go_loopw [6] (fun i wr=> ∃ k:Nat,k<=n/\i= .int .i64 k/\wr=w.alloc (.cells #[.string ⟨#[]⟩, .int .i64 0, .slice none 0 0] 80)/\Hid (NoneTo (fun z:Zon=>z.nm.toList==y.1.toList) zs k)) (fun i _=>n - (intOf i).toNat)
 case atStart=>exact ⟨0,by omega,rfl,by first |rfl|trivial,qL fun j _ hj=>absurd hj qF⟩
 case round=>
  obtain ⟨k,hk,rfl,rfl,HS⟩:=hrel
  by_cases hlt:k<n
  ·obtain ⟨b1,o1,rfl,hc1⟩:=H.out.opn qF
   obtain ⟨x,hx⟩:=zah (l:=zs) (k:=k) (by have:=HL.out;omega)
   obtain ⟨x1,x2,x3⟩:=hc1 k x hx
   have HX:=qL hx
   have z1:=qM (zae w (.cells #[.string ⟨#[]⟩, .int .i64 0, .slice none 0 0] 80)) x1
   have z2:=qM (zae w (.cells #[.string ⟨#[]⟩, .int .i64 0, .slice none 0 0] 80)) x2
   have z3:=qM (zae w (.cells #[.string ⟨#[]⟩, .int .i64 0, .slice none 0 0] 80)) x3
   clear hc1 hx
   cases hq:(x.nm.toList==y.1.toList)
   ·have HQ:=qL hq
    go_wp2
    go_roundw
    case rel=>exact ⟨k+1,by omega,by go_num,by first |rfl|trivial,qL (HS.out.succ HX.out HQ.out)⟩
    case measure=>simp [intOf];omega
   ·go_wp2
    exact bodyPost_ret (v:= .tuple #[.agg #[.string x.nm, .int .i64 x.off, .slice x.shA x.shN x.shC], .bool true]) (by simp [results,Tryz.results55,go_sem]) rfl ⟨x,rfl,zae _ _⟩
  ·obtain rfl:k=n:=by omega
   exfalso
   obtain ⟨z,hz,e⟩:=HEX.out
   obtain ⟨j,hj⟩:=List.getElem?_of_mem hz
   have:=HS.out j z (by have:=HL.out;have:=(qO hj).1;omega) hj
   simp only at this
   rw [this] at e
   cases e
theorem zl4 {a b:Bool}(h:ynx a b=true):a=b:=by cases a<;>cases b<;>first |rfl|cases h
def un56 (x:Option (Value × ASt))(nl:Bool):Bool:=match x with
 |some (.tuple ⟨[.agg ⟨[.int .i64 2, .bool b]⟩, .bool true]⟩,_)=>ynx b nl
 |_=>false
theorem Ydu :([0,4].all fun k=> [true,false].all fun b=>un56 ((xR 60).call 56 [.int .i64 20, .agg ⟨[.int .i64 k, .bool b]⟩] s64) b)=true:=by kernel_rfl
theorem yp7 (k:Int)(b:Bool)(hk:k=0∨k=4)(w:World):Calls Tryz.prog 56 #[.int .i64 20, .agg #[.int .i64 k, .bool b]] w fun e w'=>e= .returned (.tuple #[.agg #[.int .i64 2, .bool b], .bool true])/\Below w.heap.size w w':=by
 have h:=List.all_eq_true.1 (List.all_eq_true.1 Ydu k (by rcases hk with rfl|rfl<;>simp)) b (by cases b<;>simp)
 unfold un56 at h
 split at h
 ·rename_i b' s1 hx
  have e2:=zl4 h
  refine (zir ye4 60 56 _ _ _ _ hx _ _ w [.int .i64 20, .agg #[.int .i64 k, .bool b]] (zp8 w) (.cons _ _ _ _ (.flat _ rfl) (.cons _ _ _ _ (.agg _ _ (.cons _ _ _ _ (.flat _ rfl) (.cons _ _ _ _ (.flat _ rfl) .nil))) .nil))).mono ?_
  rintro e w' ⟨v',ρ',D',rfl,h1,h2,h3⟩
  obtain ⟨m,rfl,h4⟩:=zjj h1
  obtain ⟨x1,m1,rfl,g1,h5⟩:=zag h4
  obtain ⟨x2,m2,rfl,g2,h6⟩:=zag h5
  obtain rfl:=zay h6
  obtain ⟨m3,rfl,h7⟩:=zdl g1
  obtain ⟨y1,m4,rfl,k1,h8⟩:=zag h7
  obtain ⟨y2,m5,rfl,k2,h9⟩:=zag h8
  obtain rfl:=zay h9
  obtain rfl:=zat k1 rfl
  obtain rfl:=zat k2 rfl
  obtain rfl:=zat g2 rfl
  subst e2
  exact ⟨rfl,zb1 (fun b o h=>by
   have h:(Tr.leaf:Tr AObj).get b=some o:=h
   rw [Tr.get_leaf] at h;cases h) rfl h3⟩
 ·cases h
theorem yy1 (A:Option Addr)(n c:Nat)(y:ByteArray × Int × List Shf)(b off m:Nat)(t:Knd)(v2:Value)(w:World)(h:rZns w A n)(hy:y∈zoneL)(ht:t.k=0∨t.k=4)(hr:rKnd w (some ⟨b,off,none⟩) 1 [t])(hm:1<=m):
 Calls Tryz.prog 35 #[.agg #[.int .i64 20, .int .i64 0, .int .i64 0, .string ⟨#[]⟩, .string y.1, .int .i64 0], .slice (some ⟨b,off,none⟩) 1 m,v2, .slice A n c] w fun e w'=>e= .returned (.tuple #[.agg #[.int .i64 2, .bool t.nl], .int .i64 0])/\Below w.heap.size w w':=by
 obtain ⟨b',off',e1,hc1⟩:=hr.opn qF
 cases e1
 obtain ⟨x1,x2⟩:=hc1 0 t rfl
 simp only [Nat.zero_mul,Nat.add_zero] at x1 x2
 have HU:=qL (yp7 t.k t.nl ht)
 have HZ:=qL fun W (hb:Below w.heap.size w W)=>Ycq A n c y W (h.later hb) hy
 clear h hy hr hc1
 go_enter Tryz.func35,Tryz.ntmps35
 go_wp2_with fail
 refine (HZ.out _ ?_).mono ?_
 ·exact ((zae _ _).alloc qH _).alloc (by simp;omega) _
 rintro e w5 ⟨z,rfl,hb5⟩
 have HB5:Hid (Below w.heap.size w w5):=qL (btr (((zae _ _).alloc qH _).alloc (by simp;omega) _) hb5)
 have HBX:=qL hb5
 have k0:w5.cell? ⟨w.heap.size,0,none⟩=some (.int .i64 20):=qM hb5 qD
 have k8a:w5.cell? ⟨w.heap.size+1,0,none⟩=some (.int .i64 0):=qM hb5 qD
 have k8b:w5.cell? ⟨w.heap.size+1,1,none⟩=some (.bool false):=qM hb5 qD
 have k9a:w5.cell? ⟨w.heap.size+2,0,none⟩=some (.int .i64 0):=qM hb5 qD
 have k9b:w5.cell? ⟨w.heap.size+2,1,none⟩=some (.bool false):=qM hb5 qD
 have hf: ∀ b o,b=w.heap.size+1∨b=w.heap.size+2->w5.frozen? ⟨b,o,none⟩=false:=fun b o hb=>by
  rw [hb5.frozen (p:=⟨b,o,none⟩) (by simp;omega)]
  rcases hb with rfl|rfl<;>(repeat (first |(refine zaa ?_ rfl;(simp;done))|(refine zad ?_;(simp;done))|(refine zac ?_ ?_;(focus first |(simp;done)|(simp;omega)))|(refine zab ?_ ?_;(focus first |(simp;done)|(simp;omega)))))
 have hsz:w.heap.size+2<w5.heap.size:=by have:=hb5.size;simp at this;omega
 have y1:=qM HB5.out x1
 have y2:=qM HB5.out x2
 clear hb5 x1 x2
 have l0:=qM (zae w5 (.cells #[.string z.nm, .int .i64 z.off, .slice z.shA z.shN z.shC] 80)) k0
 have l1:=qM (zae w5 (.cells #[.string z.nm, .int .i64 z.off, .slice z.shA z.shN z.shC] 80)) y1
 have l2:=qM (zae w5 (.cells #[.string z.nm, .int .i64 z.off, .slice z.shA z.shN z.shC] 80)) y2
 have l8a:=qM (zae w5 (.cells #[.string z.nm, .int .i64 z.off, .slice z.shA z.shN z.shC] 80)) k8a
 have l8b:=qM (zae w5 (.cells #[.string z.nm, .int .i64 z.off, .slice z.shA z.shN z.shC] 80)) k8b
 have l9a:=qM (zae w5 (.cells #[.string z.nm, .int .i64 z.off, .slice z.shA z.shN z.shC] 80)) k9a
 have l9b:=qM (zae w5 (.cells #[.string z.nm, .int .i64 z.off, .slice z.shA z.shN z.shC] 80)) k9b
 have HFZ:Hid (∀ b o,b=w.heap.size+1∨b=w.heap.size+2->(w5.alloc (.cells #[.string z.nm, .int .i64 z.off, .slice z.shA z.shN z.shC] 80)).frozen? ⟨b,o,none⟩=false):=qL fun b o hb=>zab (by rcases hb with rfl|rfl<;>omega) (hf b o hb)
 have HBA:Hid (Below w.heap.size w (w5.alloc (.cells #[.string z.nm, .int .i64 z.off, .slice z.shA z.shN z.shC] 80))):=qL (HB5.out.alloc HB5.out.size _)
 have hszA:w.heap.size+2<(w5.alloc (.cells #[.string z.nm, .int .i64 z.off, .slice z.shA z.shN z.shC] 80)).heap.size:=by simp;omega
 obtain ⟨wA,hwA⟩: ∃ wA,wA=w5.alloc (.cells #[.string z.nm, .int .i64 z.off, .slice z.shA z.shN z.shC] 80):=⟨_,rfl⟩
 rw [<-hwA] at l0 l1 l2 l8a l8b l9a l9b HFZ HBA hszA
 clear k0 k8a k8b k9a k9b hf hsz y1 y2
 go_wp2_with fail
 rw [<-hwA]
 clear hwA HB5 HBX
 go_region_with (go_at_call 56;refine (HU.out _).mono ?_;rintro e w6 ⟨rfl,hb6⟩;have j8a:=qM hb6 l8a;have j8b:=qM hb6 l8b;have j9a:=qM hb6 l9a;have j9b:=qM hb6 l9b;have jf1: ∀ o,w6.frozen? ⟨w.heap.size+1,o,none⟩=false:=(fun o=>(Below.frozen hb6 (p:=⟨w.heap.size+1,o,none⟩) (show w.heap.size+1<wA.heap.size by omega)).trans (HFZ.out _ o (.inl rfl)));have jf2: ∀ o,w6.frozen? ⟨w.heap.size+2,o,none⟩=false:=(fun o=>(Below.frozen hb6 (p:=⟨w.heap.size+2,o,none⟩) (show w.heap.size+2<wA.heap.size by omega)).trans (HFZ.out _ o (.inr rfl)));have js:w.heap.size+2<w6.heap.size:=qQ (show w.heap.size+2<wA.heap.size from hszA) hb6.size)
 all_goals
  have HB6:Hid (Below w.heap.size w w6):=qL (btr HBA.out (zap hb6))
  clear hb6 l0 l1 l2 l8a l8b l9a l9b
  go_wp2
  exact bodyPost_ret (v:= .tuple #[.agg #[.int .i64 2, .bool t.nl], .int .i64 0]) (by simp [results,Tryz.results35,go_sem,j8a,j8b,j9a,j9b]) rfl ⟨rfl,((((Below.setCell HB6.out (p:=⟨_,0,none⟩) (by simp;try omega) _).setCell (p:=⟨_,1,none⟩) (by simp;try omega) _).setCell (p:=⟨_,0,none⟩) (by simp;try omega) _).setCell (p:=⟨_,1,none⟩) (by simp;try omega) _)⟩
end
end Go.Proofs.YthcalfeoejdcgaaGreatDoor
