import Derived.Test.YthcalfeoejdcgaaGreatDoorK10
import Derived.WalkSpells
import Derived.StillTailTactics
namespace Go.Proofs.YthcalfeoejdcgaaGreatDoor
set_option linter.unusedSimpArgs false
set_option linter.unusedVariables false
set_option maxRecDepth 100000
set_option maxHeartbeats 20000000
section
open Go.BigFrame Go.RowKit
def Tag (w:World)(b:Nat)(e:TypeId):Prop:= ∃ cs fr,w.heap[b]?=some (.cells cs e fr)
theorem Tag.lt {w:World}{b:Nat}{e:TypeId}(h:Tag w b e):b<w.heap.size:=by
 obtain ⟨cs,fr,h⟩:=h
 exact (Array.getElem?_eq_some_iff.1 h).1
theorem Tag.ne {w:World}{a b:Nat}{e f:TypeId}(h:Tag w a e)(k:Tag w b f)(hne:e≠f):a≠b:=fun h2=>by
 subst h2
 obtain ⟨cs,fr,h⟩:=h
 obtain ⟨ds,gr,k⟩:=k
 rw [h] at k
 cases k
 exact hne rfl
theorem Tag.kept {w w':World}{b:Nat}{e:TypeId}{row:Option Nat}(h:Tag w b e)(hg:w.grownBy w' row)(hne:some b≠row):Tag w' b e:=by
 have hl:=h.lt
 obtain ⟨cs,fr,h⟩:=h
 exact ⟨cs,fr,(hg.block b hl hne).trans h⟩
theorem Tag.later {w w':World}{b:Nat}{e:TypeId}(h:Tag w b e)(hb:Below w.heap.size w w'):Tag w' b e:=by
 have hl:=h.lt
 obtain ⟨cs,fr,h⟩:=h
 exact ⟨cs,fr,(hb.block b hl).trans h⟩
theorem zd1 {w:World}{B e size n:Nat}{v:Value}{xs:List Value}(h:w.ownsRow B e size v n xs): ∀ g,v.ownBlock=some g->Tag w g e:=fun g hg=>by
 rcases h with ⟨_,⟨e1,_⟩|⟨g',cap,cur,e1,b1,b2,_⟩⟩
 ·rw [e1] at hg;cases hg
 ·rw [e1] at hg
  injection hg with hg
  subst hg
  exact ⟨cur,_,b2⟩
def IsMap (w:World)(b:Nat):Prop:= ∃ es c,w.heap[b]?=some (.map es c)
theorem IsMap.ne {w:World}{a b:Nat}{e:TypeId}(h:IsMap w a)(k:Tag w b e):a≠b:=fun h2=>by
 subst h2
 obtain ⟨es,c,h⟩:=h
 obtain ⟨ds,gr,k⟩:=k
 rw [h] at k
 cases k
theorem Mp.isMap {P:Program}{k:TypeId}{w:World}{b n:Nat}{f:List UInt8->Option Value}(h:Mp P k w b n f):IsMap w b:=by
 obtain ⟨D,⟨es,clock,h1,_⟩,_⟩:=h
 exact ⟨_,_,h1⟩
def ycs (B:Nat):Kin Ent (List Val × Int) where
 enc:=ya4
 C:=2
 e:=65
 ptrs:=fun a=> [(a.rA,a.rN)]
 D:=fun w e x=>dEnt w e x/\(0<e.rN-> ∀ a,e.rA=some a->B<=a.block/\Tag w a.block 46)
 len:=za5
 pos:=by omega
 one:=zfn
 later:=fun h hb=>⟨h.1.later hb,fun h0 a e=>⟨(h.2 h0 a e).1,(h.2 h0 a e).2.later hb⟩⟩
 kept:=fun h hg hf=>⟨kEnt.kept h.1 hg hf,fun h0 a e=>⟨(h.2 h0 a e).1,(h.2 h0 a e).2.kept hg (hf _ (List.mem_cons_self ..) h0 a e)⟩⟩
 lt:=fun h=>kEnt.lt h.1
def PosM (g:List UInt8->Option Value)(t:Tab):Prop:=
 (∀ (j:Nat) x,t[j]?=some x->g (yav x.1).data.toList=some (.int .i64 j))/\ ∀ s,(∀ x∈t,(yav x.1).data.toList≠s)->g s=none
structure GM where
 key:List Val
 tab:Tab
 v:Value
 ib:Nat
 g:List UInt8->Option Value
def vRow (m:Nat)(r:List Val):Prop:=(∀ v∈r,yab v=true)/\r.length=m
structure GOk (P:Program)(w:World)(B N m q:Nat)(x:GM):Prop where
 own:ownD (ycs B) w B x.v x.tab.length x.tab
 map:Mp P 9 w x.ib N x.g
 pos:PosM x.g x.tab
 kv:vRow m x.key
 rv: ∀ y∈x.tab,vRow q y.1
def GL (P:Program)(w:World)(B N m q:Nat)(l:List GM)(I:Option Nat):Prop:= ∀ (j:Nat) x,l[j]?=some x->some j≠I->GOk P w B N m q x
section
variable {P:Program}{w w':World}{B N m q:Nat}{l:List GM}{I row:Option Nat}{x:GM}
theorem GOk.later (h:GOk P w B N m q x)(hb:Below w.heap.size w w'):GOk P w' B N m q x:=⟨h.own.later hb,h.map.later hb,h.pos,h.kv,h.rv⟩
theorem GOk.mono (h:GOk P w B N m q x){N':Nat}(hN:N<=N'):GOk P w B N' m q x:=⟨h.own,h.map.mono hN,h.pos,h.kv,h.rv⟩
theorem GOk.tag (h:GOk P w B N m q x): ∀ g,x.v.ownBlock=some g->Tag w g 65:=by
 obtain ⟨es,h1,_⟩:=h.own
 exact zd1 h1
theorem GOk.kept (h:GOk P w B N m q x)(hg:w.grownBy w' row)(hne:x.v.ownBlock=none∨x.v.ownBlock≠row)(hm:some x.ib≠row)(hr: ∀ b,row=some b->IsMap w b∨Tag w b 65):GOk P w' B N m q x:=by
 refine ⟨h.own.kept hg hne (fun a h=>by cases h) (fun es ha a hm p hp h0 ad e e2=>?_),h.map.kept hg hm,h.pos,h.kv,h.rv⟩
 have hp:p∈ [(a.rA,a.rN)]:=hp
 simp at hp
 subst hp
 obtain ⟨j,hj⟩:=List.getElem?_of_mem hm
 obtain ⟨y,_,hy⟩:=ha.get hj
 have ht:=(hy.2 h0 ad e).2
 rcases hr _ e2.symm with h|h
 ·exact h.ne ht rfl
 ·exact Tag.ne h ht (by decide) rfl
theorem GL.later (h:GL P w B N m q l I)(hb:Below w.heap.size w w'):GL P w' B N m q l I:=fun j x hj hI=>(h j x hj hI).later hb
theorem GL.mono (h:GL P w B N m q l I){N':Nat}(hN:N<=N'):GL P w B N' m q l I:=fun j x hj hI=>(h j x hj hI).mono hN
theorem GL.but (h:GL P w B N m q l none)(J:Option Nat):GL P w B N m q l J:=fun j x hj _=>h j x hj qH
theorem GL.map (h:GL P w B N m q l I){b:Nat}(hg:w.grownBy w' (some b))(hb:IsMap w b)(hne: ∀ (j:Nat) x,l[j]?=some x->some j≠I->x.ib≠b):GL P w' B N m q l I:=fun j x hj hI=>by
 have hx:=h j x hj hI
 refine hx.kept hg ?_ (fun e=>hne j x hj hI (by injection e)) (fun c e=>by cases e;exact .inl hb)
 cases hv:x.v.ownBlock with
 |none=>exact .inl rfl
 |some c=>exact .inr fun e=>by cases e;exact hb.ne (hx.tag _ hv) rfl
theorem GL.own (h:GL P w B N m q l I)(hg:w.grownBy w' row)(ht: ∀ b,row=some b->Tag w b 65)(hne: ∀ (j:Nat) x b,l[j]?=some x->some j≠I->x.v.ownBlock=some b->row≠some b):GL P w' B N m q l I:=fun j x hj hI=>by
 have hx:=h j x hj hI
 refine hx.kept hg ?_ (fun e=>hx.map.isMap.ne (ht _ e.symm) rfl) (fun c e=> .inr (ht c e))
 cases hv:x.v.ownBlock with
 |none=>exact .inl rfl
 |some c=>exact .inr fun e=>hne j x c hj hI hv e.symm
end
structure PF (l:List GM)(cb ob:Nat):Prop where
 apart: ∀ (i j:Nat) x y b,l[i]?=some x->l[j]?=some y->x.v.ownBlock=some b->y.v.ownBlock=some b->i=j
 inn: ∀ (i j:Nat) x y,l[i]?=some x->l[j]?=some y->x.ib=y.ib->i=j
 keys: ∀ (i j:Nat) x y,l[i]?=some x->l[j]?=some y->x.key=y.key->i=j
 far: ∀ x∈l,x.ib≠cb/\x.ib≠ob
 two:cb≠ob
 lo: ∀ x∈l,cb<x.ib
theorem PF.nil {cb ob:Nat}(h:cb≠ob):PF [] cb ob:=⟨fun i j x y b h=>by simp at h,fun i j x y h=>by simp at h,fun i j x y h=>by simp at h,fun x h=>by (cases h),h,fun x h=>by (cases h)⟩
theorem vRow.inj {m:Nat}{a b:List Val}(ha:vRow m a)(hb:vRow m b)(hm:m<=12)(h:(yav a).data.toList=(yav b).data.toList):a=b:=
 yjz ha.1 hb.1 (by have:=ha.2;omega) (by have:=hb.2;omega) (by
  cases hx:yav a with|mk d=>
  cases hy:yav b with|mk e=>
  rw [hx,hy] at h
  congr 1
  exact Array.toList_inj.1 h)
theorem PosM.add {g:List UInt8->Option Value}{t:Tab}{q:Nat}(h:PosM g t)(hv: ∀ y∈t,vRow q y.1)(hq:q<=12){r:List Val}(hr:vRow q r)(hn: ∀ y∈t,y.1≠r)(n:Int):PosM (yc1 g (yav r).data.toList (.int .i64 (t.length:Nat))) (t++ [(r,n)]):=by
 refine ⟨fun j x hj=>?_,fun s hs=>?_⟩
 ·rw [List.getElem?_append] at hj
  unfold yc1
  split at hj
  ·have hm:=qP hj
   rw [if_neg (fun e=>hn x hm (vRow.inj (hv x hm) hr hq e))]
   exact h.1 j x hj
  ·rw [List.getElem?_singleton] at hj
   split at hj
   ·cases hj
    rw [if_pos rfl]
    congr 2
    omega
   ·cases hj
 ·unfold yc1
  rw [if_neg (fun e=>hs (r,n) qH e.symm)]
  exact h.2 s fun y hy=>hs y (List.mem_append_left _ hy)
theorem PosM.set {g:List UInt8->Option Value}{t:Tab}(h:PosM g t){p:Nat}{x:List Val × Int}(hp:t[p]?=some x)(n:Int):PosM g (t.set p (x.1,n)):=by
 have hl:=(qO hp).1
 refine ⟨fun j y hj=>?_,fun s hs=>?_⟩
 ·rw [List.getElem?_set] at hj
  split at hj
  ·rename_i e
   subst e
   cases hj
   exact h.1 p x hp
  ·exact h.1 j y hj
 ·refine h.2 s fun y hy=>?_
  obtain ⟨j,hj⟩:=List.getElem?_of_mem hy
  by_cases e:p=j
  ·subst e
   rw [hp] at hj
   cases hj
   exact hs (x.1,n) (qP (i:=p) (by rw [List.getElem?_set,if_pos rfl,if_pos hl]))
  ·exact hs y (qP (i:=j) (by rw [List.getElem?_set,if_neg e];exact hj))
def ye9 (t:Tab):Prop:=t.Pairwise fun x y=>x.1≠y.1
theorem zlm {r:List Val}{n:Int}: ∀ {t:Tab} (_: ∀ y∈t,y.1≠r),ydc r n t=t++ [(r,n)]
 | [],_=>rfl
 |x::t,h=>by
  unfold ydc
  rw [if_neg (fun e=>h x (List.mem_cons_self ..) ((zar _ _).1 e)),zlm fun y hy=>h y (qW _ hy)]
  rfl
theorem zlk {r:List Val}{n:Int}: ∀ {t:Tab} {p:Nat} {x:List Val × Int} (_:ye9 t) (_:t[p]?=some x) (_:x.1=r),ydc r n t=t.set p (r,x.2+n)
 | [],p,x,_,h,_=>by simp at h
 |y::t,0,x,_,h,e=>by
  simp at h
  subst h
  unfold ydc
  rw [if_pos ((zar _ _).2 e),<-e]
  rfl
 |y::t,p+1,x,hd,h,e=>by
  obtain ⟨h1,h2⟩:=List.pairwise_cons.1 hd
  have h:t[p]?=some x:=by simpa using h
  have hne:y.1≠r:=fun e2=>h1 x (qP h) (e2.trans e.symm)
  unfold ydc
  rw [if_neg (fun e=>hne ((zar _ _).1 e)),zlk h2 h e]
  rfl
theorem zhq {r:List Val}{n:Int}: ∀ {t:Tab} {y:List Val × Int} (_:y∈ydc r n t),y.1=r∨ ∃ z∈t,z.1=y.1
 | [],y,h=>by
  simp [ydc] at h
  exact .inl (by rw [h])
 |x::t,y,h=>by
  unfold ydc at h
  split at h
  ·rcases qY h with rfl|h
   ·exact .inr ⟨x,List.mem_cons_self ..,rfl⟩
   ·exact .inr ⟨y,qW _ h,rfl⟩
  ·rcases qY h with rfl|h
   ·exact .inr ⟨_,List.mem_cons_self ..,rfl⟩
   ·rcases zhq h with h|⟨z,hz,h⟩
    ·exact .inl h
    ·exact .inr ⟨z,qW _ hz,h⟩
theorem zis {r:List Val}{n:Int}: ∀ {t:Tab} (_:ye9 t),ye9 (ydc r n t)
 | [],_=>by simp [ydc,ye9]
 |x::t,h=>by
  obtain ⟨h1,h2⟩:=List.pairwise_cons.1 h
  unfold ydc
  split
  ·exact List.pairwise_cons.2 ⟨h1,h2⟩
  ·rename_i hne
   refine List.pairwise_cons.2 ⟨fun y hy=>?_,zis h2⟩
   rcases zhq hy with e|⟨z,hz,e⟩
   ·intro e2;exact hne ((zar _ _).2 (e2.trans e))
   ·rw [<-e];exact h1 z hz
theorem zlo (r:List Val)(n:Int): ∀ t:Tab,yac (ydc r n t)=yac t+n
 | []=>by simp [ydc,yac]
 |x::t=>by
  have ih:=zlo r n t
  unfold ydc
  split
  ·rw [yac,yac];omega
  ·rw [yac,yac,ih];omega
theorem zln {r:List Val}{n:Int}(hn:0<n): ∀ {t:Tab} (_: ∀ x∈t,0<x.2),∀ x∈ydc r n t,0<x.2
 | [],_,x,h=>by
  simp [ydc] at h
  rw [h];exact hn
 |y::t,h,x,hx=>by
  have h0:=h y (List.mem_cons_self ..)
  unfold ydc at hx
  split at hx
  ·rcases qY hx with rfl|hx
   ·show 0<y.2+n;omega
   ·exact h x (qW _ hx)
  ·rcases qY hx with rfl|hx
   ·exact h0
   ·exact zln hn (fun z hz=>h z (qW _ hz)) x hx
def yck (k:List Val):List GM->Tab
 | []=> []
 |x::l=>if yag x.key k=0 then x.tab else yck k l
theorem zbx {k:List Val}: ∀ {l:List GM} {x:GM} (_: ∀ (i j:Nat) x y,l[i]?=some x->l[j]?=some y->x.key=y.key->i=j) (_:x∈l) (_:x.key=k),yck k l=x.tab
 | [],x,_,h,_=>by cases h
 |y::l,x,hk,h,e=>by
  unfold yck
  split
  ·rename_i h2
   have h2:=(zar _ _).1 h2
   obtain ⟨j,hj⟩:=List.getElem?_of_mem h
   have:=hk 0 j y x rfl hj (h2.trans e.symm)
   subst this
   simp at hj
   rw [hj]
  ·rename_i h2
   rcases qY h with rfl|h
   ·exact absurd ((zar _ _).2 e) h2
   ·exact zbx (fun i j a b ha hb e=>by have:=hk (i+1) (j+1) a b (by simpa using ha) (by simpa using hb) e;omega) h e
theorem ze9 {k:List Val}: ∀ {l:List GM} (_: ∀ x∈l,x.key≠k),yck k l= []
 | [],_=>rfl
 |y::l,h=>by
  unfold yck
  rw [if_neg (fun e=>h y (List.mem_cons_self ..) ((zar _ _).1 e)),ze9 fun x hx=>h x (qW _ hx)]
theorem zjq {k:List Val}{x:GM}: ∀ {l:List GM} (_: ∀ y∈l,y.key≠x.key),yck k (l++ [x])=if yag x.key k=0 then x.tab else yck k l
 | [],_=>rfl
 |y::l,h=>by
  have ih:=zjq (k:=k) (x:=x) (l:=l) fun z hz=>h z (qW _ hz)
  rw [List.cons_append]
  unfold yck
  rw [ih]
  by_cases h1:yag y.key k=0
  ·rw [if_pos h1,if_pos h1,if_neg]
   intro e
   exact h y (List.mem_cons_self ..) (((zar _ _).1 h1).trans ((zar _ _).1 e).symm)
  ·rw [if_neg h1,if_neg h1]
theorem zjr {k:List Val}{x x':GM}: ∀ {l:List GM} {i:Nat} (_: ∀ (i j:Nat) x y,l[i]?=some x->l[j]?=some y->x.key=y.key->i=j) (_:l[i]?=some x) (_:x'.key=x.key),yck k (l.set i x')=if yag x.key k=0 then x'.tab else yck k l
 | [],i,_,h,_=>by simp at h
 |y::l,0,hk,h,e=>by
  simp at h
  subst h
  show (if yag x'.key k=0 then x'.tab else yck k l)=if yag y.key k=0 then x'.tab else (if yag y.key k=0 then y.tab else yck k l)
  rw [e]
  by_cases h1:yag y.key k=0
  ·rw [if_pos h1,if_pos h1]
  ·rw [if_neg h1,if_neg h1,if_neg h1]
 |y::l,i+1,hk,h,e=>by
  have h:l[i]?=some x:=by simpa using h
  have ih:=zjr (k:=k) (x:=x) (x':=x') (l:=l) (i:=i) (fun i j a b ha hb e=>by have:=hk (i+1) (j+1) a b (by simpa using ha) (by simpa using hb) e;omega) h e
  show (if yag y.key k=0 then y.tab else yck k (l.set i x'))=if yag x.key k=0 then x'.tab else (if yag y.key k=0 then y.tab else yck k l)
  rw [ih]
  by_cases h1:yag y.key k=0
  ·rw [if_pos h1,if_pos h1,if_neg]
   intro e2
   have:=hk 0 (i+1) y x rfl (by simpa using h) (((zar _ _).1 h1).trans ((zar _ _).1 e2).symm)
   omega
  ·rw [if_neg h1,if_neg h1]
structure SemG (m:Nat)(os ps:List Int)(u:Tab)(l:List GM):Prop where
 tab: ∀ k,vRow m k->ycb k=false->yck k l=yff os ps k u
 nn: ∀ x∈l,ycb x.key=false
theorem SemG.nil (m:Nat)(os ps:List Int):SemG m os ps [] []:=⟨fun k _ _=>rfl,fun x h=>by (cases h)⟩
theorem SemG.null {m:Nat}{os ps:List Int}{u:Tab}{l:List GM}(h:SemG m os ps u l){x:List Val × Int}(hn:ycb (pkV os x.1)=true):SemG m os ps (u++ [x]) l:=
 ⟨fun k hk h0=>by
  rw [zi5,h.tab k hk h0]
  unfold yor
  rw [if_neg]
  intro e
  rw [(zar _ _).1 e,h0] at hn
  exact Bool.noConfusion hn,h.nn⟩
theorem SemG.set {m:Nat}{os ps:List Int}{u:Tab}{l:List GM}(h:SemG m os ps u l){cb ob:Nat}(hp:PF l cb ob){e:List Val × Int}{i:Nat}{x x':GM}(hi:l[i]?=some x)(hk:x'.key=x.key)(hx:x.key=pkV os e.1)(ht:x'.tab=ydc (pkV ps e.1) e.2 x.tab):SemG m os ps (u++ [e]) (l.set i x'):=by
 refine ⟨fun k hkk h0=>?_,fun y hy=>?_⟩
 ·rw [zjr hp.keys hi hk,zi5]
  unfold yor
  rw [<-hx]
  by_cases h1:yag x.key k=0
  ·rw [if_pos h1,if_pos h1,ht,<-h.tab k hkk h0,zbx hp.keys (qP hi) ((zar _ _).1 h1)]
  ·rw [if_neg h1,if_neg h1,h.tab k hkk h0]
 ·obtain ⟨j,hj⟩:=List.getElem?_of_mem hy
  rw [List.getElem?_set] at hj
  split at hj
  ·split at hj
   ·cases hj;rw [hk];exact h.nn x (qP hi)
   ·cases hj
  ·exact h.nn y (qP hj)
structure GS (P:Program)(w:World)(B N m q cb ob:Nat)(os ps:List Int)(u:Tab)(l:List GM)(fc fo:List UInt8->Option Value):Prop where
 gl:GL P w B N m q l none
 pf:PF l cb ob
 c: ∀ x∈l,fc (yav x.key).data.toList=some (.map (some x.ib))
 o: ∀ x∈l,(fo (yav x.key).data.toList).getD (.slice none 0 0)=x.v
 no: ∀ s,(∀ x∈l,(yav x.key).data.toList≠s)->fc s=none/\fo s=none
 cm:Mp P 9 w cb N fc
 om:Mp P 9 w ob N fo
 sem:SemG m os ps u l
section
variable {P:Program}{w w':World}{B N m q cb ob:Nat}{os ps:List Int}{u:Tab}{l:List GM}{fc fo:List UInt8->Option Value}
theorem GS.later (h:GS P w B N m q cb ob os ps u l fc fo)(hb:Below w.heap.size w w'):GS P w' B N m q cb ob os ps u l fc fo:=⟨h.gl.later hb,h.pf,h.c,h.o,h.no,h.cm.later hb,h.om.later hb,h.sem⟩
theorem GS.mono (h:GS P w B N m q cb ob os ps u l fc fo){N':Nat}(hN:N<=N'):GS P w B N' m q cb ob os ps u l fc fo:=⟨h.gl.mono hN,h.pf,h.c,h.o,h.no,h.cm.mono hN,h.om.mono hN,h.sem⟩
theorem GS.null (h:GS P w B N m q cb ob os ps u l fc fo){x:List Val × Int}(hn:ycb (pkV os x.1)=true):GS P w B N m q cb ob os ps (u++ [x]) l fc fo:=⟨h.gl,h.pf,h.c,h.o,h.no,h.cm,h.om,h.sem.null hn⟩
theorem GS.empty (h:GS P w B N m q cb ob os ps u l fc fo)(hm:m<=12){k:List Val}(hk:vRow m k)(h0:ycb k=false)(hn: ∀ x∈l,x.key≠k)
 (m2:Mp P 9 w' cb (N+1) (yc1 fc (yav k).data.toList (.map (some w.heap.size)))) (g2:(w.alloc (.map #[] 0)).grownBy w' (some cb)):
 GS P w' B (N+1) m q cb ob os ps u (l++ [⟨k,[], .slice none 0 0,w.heap.size,fun _=>none⟩]) (yc1 fc (yav k).data.toList (.map (some w.heap.size))) fo:=by
 have hl:GL P (w.alloc (.map #[] 0)) B N m q l none:=h.gl.later (zae _ _)
 have hcb:cb<w.heap.size:=h.cm.lt
 have hob:ob<w.heap.size:=h.om.lt
 have hib: ∀ (j:Nat) x,l[j]?=some x->x.ib<w.heap.size:=fun j x hj=>(h.gl j x hj qH).map.lt
 have hinj: ∀ x∈l,(yav x.key).data.toList≠(yav k).data.toList:=fun x hx e=>by
  obtain ⟨j,hj⟩:=List.getElem?_of_mem hx
  exact hn x hx ((h.gl j x hj qH).kv.inj hk hm e)
 have hl2:GL P w' B (N+1) m q l none:=(hl.map g2 (h.cm.later (zae _ _)).isMap fun j x hj _=>(h.pf.far x (qP hj)).1).mono qF
 have snoc: ∀ {j:Nat} {x:GM},(l++ [(⟨k,[], .slice none 0 0,w.heap.size,fun _=>none⟩:GM)])[j]?=some x->l[j]?=some x∨(j=l.length/\x=⟨k,[], .slice none 0 0,w.heap.size,fun _=>none⟩):=fun {j x} hj=>by
  rw [List.getElem?_append] at hj
  split at hj
  ·exact .inl hj
  ·rw [List.getElem?_singleton] at hj
   split at hj
   ·cases hj;exact .inr ⟨by omega,rfl⟩
   ·cases hj
 have lt: ∀ {j:Nat} {x:GM},l[j]?=some x->j<l.length:=fun hj=>(qO hj).1
 have mem: ∀ {x:GM},x∈l++ [(⟨k,[], .slice none 0 0,w.heap.size,fun _=>none⟩:GM)]->x∈l∨x=⟨k,[], .slice none 0 0,w.heap.size,fun _=>none⟩:=fun hx=>by
  rcases List.mem_append.1 hx with h|h
  ·exact .inl h
  ·exact .inr (List.mem_singleton.1 h)
 refine ⟨fun j x hj _=>?_,⟨fun i j x y b hi hj hx hy=>?_,fun i j x y hi hj e=>?_,fun i j x y hi hj e=>?_,fun x hx=>?_,h.pf.two,fun x hx=>?_⟩,fun x hx=>?_,fun x hx=>?_,fun s hs=>?_,m2,?_,⟨fun k' hk' h0'=>?_,fun x hx=>?_⟩⟩
 ·rcases snoc hj with hj|⟨_,rfl⟩
  ·exact hl2 j x hj qH
  ·refine ⟨ownD.nil _ _,?_,⟨fun j x h=>by simp at h,fun s _=>rfl⟩,hk,fun y hy=>by (cases hy)⟩
   exact ((Mp.made (P:=P) (k:=9) w).kept g2 (fun e=>by injection e with e;omega)).mono qF
 ·rcases snoc hi with hi|⟨_,rfl⟩
  ·rcases snoc hj with hj|⟨_,rfl⟩
   ·exact h.pf.apart i j x y b hi hj hx hy
   ·cases hy
  ·cases hx
 ·rcases snoc hi with hi|⟨hi,rfl⟩
  ·rcases snoc hj with hj|⟨hj,rfl⟩
   ·exact h.pf.inn i j x y hi hj e
   ·have:=hib i x hi;simp only at e;omega
  ·rcases snoc hj with hj|⟨hj,rfl⟩
   ·have:=hib j y hj;simp only at e;omega
   ·omega
 ·rcases snoc hi with hi|⟨hi,rfl⟩
  ·rcases snoc hj with hj|⟨hj,rfl⟩
   ·exact h.pf.keys i j x y hi hj e
   ·exact absurd e (hn x (qP hi))
  ·rcases snoc hj with hj|⟨hj,rfl⟩
   ·exact absurd e.symm (hn y (qP hj))
   ·omega
 ·rcases mem hx with hx|rfl
  ·exact h.pf.far x hx
  ·exact ⟨by show w.heap.size≠cb;omega,by show w.heap.size≠ob;omega⟩
 ·rcases mem hx with hx|rfl
  ·exact h.pf.lo x hx
  ·exact hcb
 ·unfold yc1
  rcases mem hx with hx|rfl
  ·rw [if_neg (hinj x hx)];exact h.c x hx
  ·rw [if_pos rfl]
 ·rcases mem hx with hx|rfl
  ·exact h.o x hx
  ·show (fo (yav k).data.toList).getD _=_
   rw [(h.no _ hinj).2]
   rfl
 ·unfold yc1
  rw [if_neg (fun e=>hs ⟨k,[], .slice none 0 0,w.heap.size,fun _=>none⟩ qH e.symm)]
  exact h.no s fun x hx=>hs x (List.mem_append_left _ hx)
 ·exact ((h.om.later (zae _ _)).kept g2 (fun e=>by injection e with e;exact h.pf.two e.symm)).mono qF
 ·rw [zjq hn]
  show (if yag k k'=0 then [] else yck k' l)=_
  by_cases e:yag k k'=0
  ·rw [if_pos e,<-h.sem.tab k' hk' h0',ze9]
   intro x hx e2
   exact hn x hx (e2.trans ((zar _ _).1 e).symm)
  ·rw [if_neg e];exact h.sem.tab k' hk' h0'
 ·rcases mem hx with hx|rfl
  ·exact h.sem.nn x hx
  ·exact h0
variable {i:Nat}{x:GM}{e:List Val × Int}{w1 w2 w3 w4 w5:World}
theorem GS.own_at (h:GS P w B N m q cb ob os ps u l fc fo)(hi:l[i]?=some x)(b1:Below w.heap.size w w1)(g2:w1.grownBy w2 (some x.ib))(b3:Below w2.heap.size w2 w3):ownD (ycs B) w3 B x.v x.tab.length x.tab:=by
 have hx:=(h.gl i x hi qH).later b1
 refine (hx.own.kept g2 ?_ (fun a h=>by cases h) (fun es ha a hm p hp h0 ad e e2=>?_)).later b3
 ·cases hv:x.v.ownBlock with
  |none=>exact .inl rfl
  |some c=>exact .inr fun e=>by cases e;exact hx.map.isMap.ne (hx.tag _ hv) rfl
 ·have hp:p∈ [(a.rA,a.rN)]:=hp
  simp at hp
  subst hp
  obtain ⟨j,hj⟩:=List.getElem?_of_mem hm
  obtain ⟨y,_,hy⟩:=ha.get hj
  injection e2 with e2
  exact hx.map.isMap.ne (hy.2 h0 ad e).2 e2.symm
theorem GS.om_at (h:GS P w B N m q cb ob os ps u l fc fo)(hi:l[i]?=some x)(b1:Below w.heap.size w w1)(g2:w1.grownBy w2 (some x.ib))(b3:Below w2.heap.size w2 w3)(g4:w3.grownBy w4 x.v.ownBlock):Mp P 9 w4 ob N fo:=by
 have h3:Mp P 9 w3 ob N fo:=(((h.om.later b1).kept g2 (fun e=>by injection e with e;exact (h.pf.far x (qP hi)).2 e.symm)).later b3)
 refine h3.kept g4 fun e2=>?_
 obtain ⟨es,h1,_⟩:=h.own_at hi b1 g2 b3
 exact h3.isMap.ne (zd1 h1 _ e2.symm) rfl
theorem GS.push (h:GS P w B N m q cb ob os ps u l fc fo)(hm:m<=12)(hq:q<=12)(hi:l[i]?=some x)(hx:x.key=pkV os e.1)(hr:vRow q (pkV ps e.1))(hnew: ∀ y∈x.tab,y.1≠pkV ps e.1)
 (b1:Below w.heap.size w w1) (m2:Mp P 9 w2 x.ib (N+1) (yc1 x.g (yav (pkV ps e.1)).data.toList (.int .i64 (x.tab.length:Nat)))) (g2:w1.grownBy w2 (some x.ib)) (b3:Below w2.heap.size w2 w3)
 {v':Value} (o4:ownD (ycs B) w4 B v' (x.tab.length+1) (x.tab++ [(pkV ps e.1,e.2)])) (g4:w3.grownBy w4 x.v.ownBlock) (a4:v'.ownBlock=x.v.ownBlock∨v'.ownBlock=some w3.heap.size)
 (m5:Mp P 9 w5 ob (N+1) (yc1 fo (yav x.key).data.toList v')) (g5:w4.grownBy w5 (some ob)):
 GS P w5 B (N+1) m q cb ob os ps (u++ [e]) (l.set i ⟨x.key,x.tab++ [(pkV ps e.1,e.2)],v',x.ib,yc1 x.g (yav (pkV ps e.1)).data.toList (.int .i64 (x.tab.length:Nat))⟩) fc (yc1 fo (yav x.key).data.toList v'):=by
 have hxo:=h.gl i x hi qH
 have hmem:=qP hi
 have hil:=(qO hi).1
 have hob4:=h.om_at hi b1 g2 b3 g4
 have ht3: ∀ b,x.v.ownBlock=some b->Tag w3 b 65:=fun b hb=>by
  obtain ⟨es,h1,_⟩:=h.own_at hi b1 g2 b3
  exact zd1 h1 b hb
 have hl1:GL P w1 B N m q l (some i):=(h.gl.but _).later b1
 have hl2:GL P w2 B N m q l (some i):=hl1.map g2 (hxo.later b1).map.isMap fun j y hj hI e=>hI (by rw [h.pf.inn j i y x hj hi e])
 have hl4:GL P w4 B N m q l (some i):=(hl2.later b3).own g4 ht3 fun j y b hj hI hb e=>hI (by rw [h.pf.apart j i y x b hj hi hb e])
 have hl5:GL P w5 B N m q l (some i):=hl4.map g5 hob4.isMap fun j y hj _=>(h.pf.far y (qP hj)).2
 have hsz:w.heap.size<=w3.heap.size:=qR b1.size (qR g2.size b3.size)
 have hvlt: ∀ (j:Nat) y b,l[j]?=some y->y.v.ownBlock=some b->b<w3.heap.size:=fun j y b hj hb=>by
  have:=((h.gl j y hj qH).own.lt b hb).2
  omega
 have get: ∀ {j:Nat} {y y':GM},(l.set i y')[j]?=some y->(j=i/\y=y')∨(j≠i/\l[j]?=some y):=fun {j y y'} hj=>by
  rw [List.getElem?_set] at hj
  split at hj
  ·rename_i e
   subst e
   first
    |(rw [if_pos hil] at hj;cases hj;exact .inl ⟨rfl,rfl⟩)
    |(cases hj;exact .inl ⟨rfl,rfl⟩)
  ·rename_i e
   exact .inr ⟨fun e2=>e e2.symm,hj⟩
 have mem: ∀ {y y':GM},y∈l.set i y'->y=y'∨ ∃ j,j≠i/\l[j]?=some y:=fun {y y'} hy=>by
  obtain ⟨j,hj⟩:=List.getElem?_of_mem hy
  rcases get hj with ⟨_,e⟩|h
  ·exact .inl e
  ·exact .inr ⟨j,h⟩
 have hkey: ∀ (j:Nat) y,j≠i->l[j]?=some y->(yav y.key).data.toList≠(yav x.key).data.toList:=fun j y hne hj e2=>hne (h.pf.keys j i y x hj hi ((h.gl j y hj qH).kv.inj hxo.kv hm e2))
 refine ⟨fun j y hj _=>?_,⟨fun a b y z c ha hb hy hz=>?_,fun a b y z ha hb e2=>?_,fun a b y z ha hb e2=>?_,fun y hy=>?_,h.pf.two,fun y hy=>?_⟩,fun y hy=>?_,fun y hy=>?_,fun s hs=>?_,?_,m5,h.sem.set h.pf hi rfl hx (zlm hnew).symm⟩
 ·rcases get hj with ⟨_,rfl⟩|⟨hne,hj⟩
  ·refine ⟨?_,?_,hxo.pos.add hxo.rv hq hr hnew e.2,hxo.kv,fun y hy=>?_⟩
   ·show ownD (ycs B) w5 B v' _ _
    rw [List.length_append]
    refine o4.kept g5 ?_ (fun a h=>by cases h) (fun es ha a hm p hp h0 ad e e2=>?_)
    ·cases hv:v'.ownBlock with
     |none=>exact .inl rfl
     |some c=>
      refine .inr fun e=>?_
      cases e
      obtain ⟨es,h1,_⟩:=o4
      exact hob4.isMap.ne (zd1 h1 _ hv) rfl
    ·have hp:p∈ [(a.rA,a.rN)]:=hp
     simp at hp
     subst hp
     obtain ⟨j,hj⟩:=List.getElem?_of_mem hm
     obtain ⟨y,_,hy⟩:=ha.get hj
     injection e2 with e2
     exact hob4.isMap.ne (hy.2 h0 ad e).2 e2.symm
   ·have m3:=m2.later b3
    have m4:=m3.kept g4 fun e2=>m3.isMap.ne (ht3 _ e2.symm) rfl
    exact m4.kept g5 (fun e2=>by injection e2 with e2;exact (h.pf.far x hmem).2 e2)
   ·rcases List.mem_append.1 hy with hy|hy
    ·exact hxo.rv y hy
    ·rw [List.mem_singleton] at hy
     rw [hy];exact hr
  ·exact (hl5 j y hj (fun e=>hne (by injection e))).mono qF
 ·have one: ∀ {a:Nat} {y:GM},a≠i->l[a]?=some y->y.v.ownBlock=some c->v'.ownBlock=some c->False:=fun {a y} hne hya hyc hvc=>by
   rcases a4 with h4|h4
   ·rw [h4] at hvc
    exact hne (h.pf.apart a i y x c hya hi hyc hvc)
   ·rw [h4] at hvc
    injection hvc with hvc
    have:=hvlt a y c hya hyc
    omega
  rcases get ha with ⟨ea,rfl⟩|⟨na,ha⟩
  ·rcases get hb with ⟨eb,rfl⟩|⟨nb,hb⟩
   ·omega
   ·exact (one nb hb hz hy).elim
  ·rcases get hb with ⟨eb,rfl⟩|⟨nb,hb⟩
   ·exact (one na ha hy hz).elim
   ·exact h.pf.apart a b y z c ha hb hy hz
 ·rcases get ha with ⟨ea,rfl⟩|⟨na,ha⟩
  ·rcases get hb with ⟨eb,rfl⟩|⟨nb,hb⟩
   ·omega
   ·exact absurd (h.pf.inn b i z x hb hi e2.symm) nb
  ·rcases get hb with ⟨eb,rfl⟩|⟨nb,hb⟩
   ·exact absurd (h.pf.inn a i y x ha hi e2) na
   ·exact h.pf.inn a b y z ha hb e2
 ·rcases get ha with ⟨ea,rfl⟩|⟨na,ha⟩
  ·rcases get hb with ⟨eb,rfl⟩|⟨nb,hb⟩
   ·omega
   ·exact absurd (h.pf.keys b i z x hb hi e2.symm) nb
  ·rcases get hb with ⟨eb,rfl⟩|⟨nb,hb⟩
   ·exact absurd (h.pf.keys a i y x ha hi e2) na
   ·exact h.pf.keys a b y z ha hb e2
 ·rcases mem hy with rfl|⟨j,_,hj⟩
  ·exact h.pf.far x hmem
  ·exact h.pf.far y (qP hj)
 ·rcases mem hy with rfl|⟨j,_,hj⟩
  ·exact h.pf.lo x hmem
  ·exact h.pf.lo y (qP hj)
 ·rcases mem hy with rfl|⟨j,_,hj⟩
  ·exact h.c x hmem
  ·exact h.c y (qP hj)
 ·unfold yc1
  rcases mem hy with rfl|⟨j,hne,hj⟩
  ·rw [if_pos rfl];rfl
  ·rw [if_neg (hkey j y hne hj)]
   exact h.o y (qP hj)
 ·have hin: ∀ y∈l,(yav y.key).data.toList≠s:=fun y hy=>by
   obtain ⟨j,hj⟩:=List.getElem?_of_mem hy
   by_cases ej:j=i
   ·subst ej
    rw [hi] at hj
    cases hj
    exact hs ⟨x.key,x.tab++ [(pkV ps e.1,e.2)],v',x.ib,_⟩ (qP (i:=j) (by rw [List.getElem?_set,if_pos rfl,if_pos hil]))
   ·exact hs y (qP (i:=j) (by rw [List.getElem?_set,if_neg (Ne.symm ej)];exact hj))
  unfold yc1
  rw [if_neg (fun e2=>hin x hmem e2.symm)]
  exact h.no s hin
 ·have c1:Mp P 9 w3 cb N fc:=((h.cm.later b1).kept g2 (fun e2=>by injection e2 with e2;exact (h.pf.far x hmem).1 e2.symm)).later b3
  have c4:=c1.kept g4 fun e2=>c1.isMap.ne (ht3 _ e2.symm) rfl
  exact (c4.kept g5 (fun e2=>by injection e2 with e2;exact h.pf.two e2)).mono qF
end
section
variable {P:Program}{w w':World}{B N m q cb ob:Nat}{os ps:List Int}{u:Tab}{l:List GM}{fc fo:List UInt8->Option Value}{i:Nat}{x:GM}{e:List Val × Int}
theorem ykj {v:Value}{g n c p:Nat}{t:Tab}{y:List Val × Int}(h:ownD (ycs B) w B v n t)(hv:v= .slice (some ⟨g,0,none⟩) n c)(hp:t[p]?=some y)(k:Int):
 ownD (ycs B) (w.setCell ⟨g,p*2+1,none⟩ (.int .i64 k)) B v n (t.set p (y.1,k)):=by
 obtain ⟨es,h1,h2,h3⟩:=h
 have h1:w.ownsRow B 65 2 v n (flat ya4 es):=h1
 have hpl:=(qO hp).1
 have hel:p<es.length:=by rw [h2.len];exact hpl
 obtain ⟨a,ha⟩:=zah (l:=es) (k:=p) hel
 have htag: ∀ b,v.ownBlock=some b->Tag w b 65:=zd1 h1
 have vb:v.ownBlock=some g:=by rw [hv];rfl
 have hg2:w.grownBy (w.setCell ⟨g,p*2+1,none⟩ (.int .i64 k)) (some g):=⟨rfl,rfl,rfl,by simp,fun b _ hne=>Below.heap_setCell _ _ _ _ (by show b≠g;exact fun e=>hne (by rw [e]))⟩
 refine ⟨es.set p { a with c := k }, ?_, ?_, fun b hb => ?_⟩
 ·show (w.setCell ⟨g, p * 2 + 1, none⟩ (.int .i64 k)).ownsRow B 65 2 v n (flat ya4 (es.set p { a with c := k }))
  rw [hv] at h1 ⊢
  rcases h1 with ⟨l1,⟨e1,_⟩|⟨g',cap,cur,e1,b1,b2,b3,b4,b5,b6⟩⟩
  ·cases e1
  ·injection e1 with e1 e2 e3
   injection e1 with e1
   injection e1 with e1
   subst e1
   subst e3
   refine ⟨by rw [<-l1,zau za5,zau za5,List.length_set], .inr ⟨g,c,cur.setIfInBounds (p*2+1) (.int .i64 k),rfl,b1,heap_setCell_same w g _ _ 65 _ b2,b3,b4,by rw [Array.size_setIfInBounds];exact b5,?_⟩⟩
   rw [Array.toList_setIfInBounds,List.take_set]
   rw [b6]
   have hC: ∀ x:Ent,(ya4 x).length=2:=za5
   apply List.ext_getElem?
   intro j
   rw [List.getElem?_set]
   have hf := zi3 hC es p { a with c := k } hel
   show _ = (flat ya4 (es.set p { a with c := k }))[j]?
   rw [hf]
   have hl2:(flat ya4 es).length=es.length*2:=zau za5 _
   have hp0:=zbf hC ha 0 qF
   have hp1:=zbf hC ha 1 qF
   have hsplit:((flat ya4 es).take (p*2)).length=p*2:=by rw [List.length_take];omega
   by_cases c1:j<p*2
   ·rw [if_neg qF,List.append_assoc,List.getElem?_append_left (by rw [hsplit];exact c1),List.getElem?_take,if_pos c1]
   ·by_cases c2:j=p*2
    ·rw [if_neg qF,List.append_assoc,List.getElem?_append_right (by rw [hsplit];omega),hsplit,c2,Nat.sub_self]
     rw [Nat.add_zero] at hp0
     rw [hp0]
     rfl
    ·by_cases c3:j=p*2+1
     ·rw [if_pos c3.symm,if_pos qF,List.append_assoc,List.getElem?_append_right (by rw [hsplit];omega),hsplit,c3,show p*2+1 - p*2=1 by omega]
      rfl
     ·rw [if_neg qF,List.getElem?_append_right (by rw [List.length_append,hsplit,za5];omega),List.length_append,hsplit,za5,List.getElem?_drop]
      congr 1
      omega
 ·refine dAll.of_get (by rw [List.length_set,List.length_set];exact h2.len) fun j b y' hb hy=>?_
  have far: ∀ {b:Ent} {z:List Val × Int},(ycs B).D w b z->yau ((ycs B).ptrs b) (some g):=fun {b z} hz q hq h0 ad e e2=>by
   have hq:q∈ [(b.rA,b.rN)]:=hq
   simp at hq
   subst hq
   injection e2 with e2
   exact Tag.ne (htag g vb) (hz.2 h0 ad e).2 (by decide) e2.symm
  rw [List.getElem?_set] at hb hy
  by_cases hj:p=j
  ·rw [if_pos hj,if_pos hel] at hb
   rw [if_pos hj,if_pos hpl] at hy
   cases hb
   cases hy
   obtain ⟨z,hz,hr⟩:=h2.get ha
   rw [hp] at hz
   cases hz
   have:=(ycs B).kept hr hg2 (far hr)
   exact ⟨⟨this.1.1,rfl⟩,this.2⟩
  ·rw [if_neg hj] at hb hy
   obtain ⟨z,hz,hr⟩:=h2.get hb
   rw [hy] at hz
   cases hz
   exact (ycs B).kept hr hg2 (far hr)
 ·obtain ⟨j,hj⟩:=List.getElem?_of_mem hb
  rw [List.getElem?_set] at hj
  by_cases e:p=j
  ·rw [if_pos e,if_pos hel] at hj
   cases hj
   exact fun q hq=>h3 a (qP ha) q hq
  ·rw [if_neg e] at hj
   exact h3 b (qP hj)
theorem GS.hit (h:GS P w B N m q cb ob os ps u l fc fo)(hi:l[i]?=some x)(hx:x.key=pkV os e.1)(hd:ye9 x.tab){p:Nat}{y:List Val × Int}(hp:x.tab[p]?=some y)(hy:y.1=pkV ps e.1){g c n:Nat}(hv:x.v= .slice (some ⟨g,0,none⟩) n c):
 ∃ x',GS P (w.setCell ⟨g,p*2+1,none⟩ (.int .i64 (y.2+e.2))) B N m q cb ob os ps (u++ [e]) (l.set i x') fc fo:=by
 have hxo:=h.gl i x hi qH
 have hmem:=qP hi
 have hil:=(qO hi).1
 have vb:x.v.ownBlock=some g:=by rw [hv];rfl
 have hgt:Tag w g 65:=hxo.tag g vb
 have hn:n=x.tab.length:=by
  obtain ⟨A,c',e1,_⟩:=hxo.own.rd
  rw [hv] at e1
  injection e1
 subst hn
 have hg2:w.grownBy (w.setCell ⟨g,p*2+1,none⟩ (.int .i64 (y.2+e.2))) (some g):=⟨rfl,rfl,rfl,by simp,fun b _ hne=>Below.heap_setCell _ _ _ _ (by show b≠g;exact fun e=>hne (by rw [e]))⟩
 have hl2:GL P (w.setCell ⟨g,p*2+1,none⟩ (.int .i64 (y.2+e.2))) B N m q l (some i):=(h.gl.but _).own hg2 (fun b e=>by cases e;exact hgt) fun j z b hj hI hb e=>by
  cases e
  exact hI (by rw [h.pf.apart j i z x g hj hi hb vb])
 have get: ∀ {j:Nat} {z z':GM},(l.set i z')[j]?=some z->(j=i/\z=z')∨(j≠i/\l[j]?=some z):=fun {j z z'} hj=>by
  rw [List.getElem?_set] at hj
  split at hj
  ·rename_i e
   subst e
   first
    |(rw [if_pos hil] at hj;cases hj;exact .inl ⟨rfl,rfl⟩)
    |(cases hj;exact .inl ⟨rfl,rfl⟩)
  ·rename_i e
   exact .inr ⟨fun e2=>e e2.symm,hj⟩
 have key: ∀ x':GM,x'.key=x.key->x'.v=x.v->x'.ib=x.ib->GOk P (w.setCell ⟨g,p*2+1,none⟩ (.int .i64 (y.2+e.2))) B N m q x'->x'.tab=ydc (pkV ps e.1) e.2 x.tab->GS P (w.setCell ⟨g,p*2+1,none⟩ (.int .i64 (y.2+e.2))) B N m q cb ob os ps (u++ [e]) (l.set i x') fc fo:=fun x' k1 k2 k3 hok ht=>by
  have back: ∀ {j:Nat} {z:GM},(l.set i x')[j]?=some z-> ∃ z0,l[j]?=some z0/\z.key=z0.key/\z.v=z0.v/\z.ib=z0.ib:=fun {j z} hj=>by
   rcases get hj with ⟨rfl,rfl⟩|⟨_,hj⟩
   ·exact ⟨x,hi,k1,k2,k3⟩
   ·exact ⟨z,hj,rfl,rfl,rfl⟩
  have backm: ∀ {z:GM},z∈l.set i x'-> ∃ z0∈l,z.key=z0.key/\z.v=z0.v/\z.ib=z0.ib:=fun {z} hz=>by
   obtain ⟨j,hj⟩:=List.getElem?_of_mem hz
   obtain ⟨z0,h0,r⟩:=back hj
   exact ⟨z0,qP h0,r⟩
  refine ⟨fun j z hj _=>?_,⟨fun a b y z c ha hb hy hz=>?_,fun a b y z ha hb e2=>?_,fun a b y z ha hb e2=>?_,fun z hz=>?_,h.pf.two,fun z hz=>?_⟩,fun z hz=>?_,fun z hz=>?_,fun s hs=>?_,?_,?_,h.sem.set h.pf hi k1 hx ht⟩
  ·rcases get hj with ⟨_,rfl⟩|⟨hne,hj⟩
   ·exact hok
   ·exact hl2 j z hj (fun e=>hne (by injection e))
  ·obtain ⟨y0,a1,_,a3,_⟩:=back ha
   obtain ⟨z0,b1,_,b3,_⟩:=back hb
   rw [a3] at hy
   rw [b3] at hz
   exact h.pf.apart a b y0 z0 c a1 b1 hy hz
  ·obtain ⟨y0,a1,_,_,a3⟩:=back ha
   obtain ⟨z0,b1,_,_,b3⟩:=back hb
   rw [a3,b3] at e2
   exact h.pf.inn a b y0 z0 a1 b1 e2
  ·obtain ⟨y0,a1,a3,_⟩:=back ha
   obtain ⟨z0,b1,b3,_⟩:=back hb
   rw [a3,b3] at e2
   exact h.pf.keys a b y0 z0 a1 b1 e2
  ·obtain ⟨z0,h0,_,_,h3⟩:=backm hz
   rw [h3];exact h.pf.far z0 h0
  ·obtain ⟨z0,h0,_,_,h3⟩:=backm hz
   rw [h3];exact h.pf.lo z0 h0
  ·obtain ⟨z0,h0,h1,_,h3⟩:=backm hz
   rw [h1,h3];exact h.c z0 h0
  ·obtain ⟨z0,h0,h1,h2,_⟩:=backm hz
   rw [h1,h2];exact h.o z0 h0
  ·refine h.no s fun z hz=>?_
   obtain ⟨j,hj⟩:=List.getElem?_of_mem hz
   by_cases ej:j=i
   ·subst ej
    rw [hi] at hj
    cases hj
    have:=hs x' (qP (i:=j) (by rw [List.getElem?_set,if_pos rfl,if_pos hil]))
    rwa [k1] at this
   ·exact hs z (qP (i:=j) (by rw [List.getElem?_set,if_neg (Ne.symm ej)];exact hj))
  ·exact h.cm.kept hg2 fun e=>by injection e with e;exact h.cm.isMap.ne hgt e
  ·exact h.om.kept hg2 fun e=>by injection e with e;exact h.om.isMap.ne hgt e
 refine ⟨⟨x.key,x.tab.set p (y.1,y.2+e.2),x.v,x.ib,x.g⟩,key _ rfl rfl rfl ⟨?_,hxo.map.kept hg2 (fun e=>by injection e with e;exact hxo.map.isMap.ne hgt e),hxo.pos.set hp _,hxo.kv,fun z hz=>?_⟩ ?_⟩
 ·show ownD (ycs B) _ B x.v (x.tab.set p (y.1,y.2+e.2)).length _
  rw [List.length_set]
  exact ykj hxo.own hv hp _
 ·obtain ⟨j,hj⟩:=List.getElem?_of_mem hz
  rw [List.getElem?_set] at hj
  by_cases e:p=j
  ·rw [if_pos e,if_pos (qO hp).1] at hj
   cases hj
   exact hxo.rv y (qP hp)
  ·rw [if_neg e] at hj
   exact hxo.rv z (qP hj)
 ·show x.tab.set p (y.1,y.2+e.2)=_
  rw [zlk hd hp hy,hy]
def MatRd (P:Program)(w:World)(b N m:Nat)(M:List Val->Tab):Prop:= ∃ f,Mp P 9 w b N f/\ ∀ k,vRow m k->ycb k=false-> ∃ A n c,(f (yav k).data.toList).getD (.slice none 0 0)= .slice A n c/\rTab w A n (M k)/\n<=c
theorem GS.read (h:GS P w B N m q cb ob os ps u l fc fo)(hm:m<=12):MatRd P w ob N m fun k=>yff os ps k u:=by
 refine ⟨fo,h.om,fun k hk h0=>?_⟩
 show ∃ A n c,_/\rTab w A n (yff os ps k u)/\_
 rw [<-h.sem.tab k hk h0]
 by_cases hex: ∃ x∈l,x.key=k
 ·obtain ⟨x,hx,e⟩:=hex
  obtain ⟨j,hj⟩:=List.getElem?_of_mem hx
  have hxo:=h.gl j x hj qH
  obtain ⟨A,c,ev,hc,hr,_⟩:=hxo.own.rd
  refine ⟨A,x.tab.length,c,by rw [<-e,h.o x hx,ev],?_,hc⟩
  rw [zbx h.pf.keys hx e]
  obtain ⟨es,h1,h2⟩:=hr
  exact ⟨es,h1,h2.imp fun _ _ h=>h.1⟩
 ·have hn: ∀ x∈l,x.key≠k:=fun x hx e=>hex ⟨x,hx,e⟩
  refine ⟨none,0,0,?_,?_,qV _⟩
  ·rw [(h.no _ fun x hx e=>?_).2]
   ·rfl
   ·obtain ⟨j,hj⟩:=List.getElem?_of_mem hx
    exact hn x hx ((h.gl j x hj qH).kv.inj hk hm e)
  ·rw [ze9 hn]
   exact rTab.nil _ _
end
def MokV (ps:List Int)(l u:Tab):Prop:=ye9 l/\(∀ y∈l,0<y.2/\ ∃ x∈u,y.1=pkV ps x.1)/\yac l<=yac u/\l.length<=u.length
theorem zll (r:List Val)(n:Int): ∀ t:Tab,(ydc r n t).length<=t.length+1
 | []=>by simp [ydc]
 |y::t=>by
  have:=zll r n t
  unfold ydc
  split<;>simp only [List.length_cons]<;>omega
theorem MokV.step {os ps:List Int}{k:List Val}{l u:Tab}(h:MokV ps l u){x:List Val × Int}(hx:0<x.2):MokV ps (yor os ps k l x) (u++ [x]):=by
 obtain ⟨i1,i2,i3,i4⟩:=h
 unfold MokV
 rw [zbb,List.length_append,show yac [x]=x.2 by simp [yac]]
 unfold yor
 split
 ·refine ⟨zis i1,fun y hy=>⟨zln hx (fun z hz=>(i2 z hz).1) y hy,?_⟩,by rw [zlo];omega,?_⟩
  ·rcases zhq hy with e|⟨z,hz,e⟩
   ·exact ⟨x,by simp,e⟩
   ·obtain ⟨_,v,hv,e2⟩:=i2 z hz
    exact ⟨v,List.mem_append_left _ hv,e.symm.trans e2⟩
  ·have:=zll (pkV ps x.1) x.2 l
   simp only [List.length_singleton]
   omega
 ·exact ⟨i1,fun y hy=>by
   obtain ⟨h1,z,hz,h2⟩:=i2 y hy
   exact ⟨h1,z,List.mem_append_left _ hz,h2⟩,by omega,by simp only [List.length_singleton];omega⟩
theorem MokV.go {os ps:List Int}{k:List Val}: ∀ (u' l u:Tab) (_:MokV ps l u) (_: ∀ x∈u',0<x.2),MokV ps (u'.foldl (yor os ps k) l) (u++u')
 | [],l,u,h,_=>by rw [List.append_nil];exact h
 |x::u',l,u,h,hp=>by
  have:=MokV.go (os:=os) (ps:=ps) (k:=k) u' _ _ (h.step (os:=os) (k:=k) (hp x (List.mem_cons_self ..))) fun y hy=>hp y (qW _ hy)
  rw [List.append_assoc] at this
  exact this
theorem zc5 {os ps:List Int}{k:List Val}{u:Tab}(h: ∀ x∈u,0<x.2):MokV ps (yff os ps k u) u:=by
 have:=MokV.go (os:=os) (ps:=ps) (k:=k) u [] [] ⟨.nil,fun y h=>(by cases h),Int.le_refl _,qV _⟩ h
 exact this
section
variable {P:Program}{k e t:TypeId}{w:World}{ops:Array Oper}{o:Oper}{a:Act}{Q:Exit->Act->World->Prop}
end
def isZ (v:Val):Bool:=(0==v.k&&(0==v.m&&(⟨#[]⟩:ByteArray).toList==v.s.toList))
theorem yol (v:Val):isZ v=(ya0 v zV==0):=by
 rw [Bool.eq_iff_iff]
 unfold isZ
 simp only [Bool.and_eq_true,beq_iff_eq]
 rw [zct]
 constructor
 ·rintro ⟨h1,h2,h3⟩
  obtain ⟨k,m,s⟩:=v
  simp only at h1 h2 h3
  rw [<-h1,<-h2,<-toList_inj h3]
  rfl
 ·rintro rfl
  exact ⟨rfl,rfl,rfl⟩
theorem yj8 (r:List Val):ycb r=r.any isZ:=by
 unfold ycb
 congr 1
 funext v
 rw [yol]
theorem yyk (A:Option Addr)(n c:Nat)(l:List Val)(w:World)(h:rVal w A n l)(hn:n<=100000):
 Calls Tryz.prog 277 #[.slice A n c, .agg #[.int .i64 0, .int .i64 0, .string ⟨#[]⟩]] w fun e w'=>e= .returned (.int .i64 (yd8 isZ l))/\Below w.heap.size w w':=by
 have HA:=qL h
 have LA:=qL h.len
 clear h
 go_enter Tryz.func277,Tryz.ntmps277
 go_wp2
 go_loopw [8] (fun i wr=> ∃ k:Nat,k<=n/\i= .int .i64 k/\Below w.heap.size w wr/\wr.cell? ⟨w.heap.size,0,none⟩=some (.int .i64 0)/\wr.cell? ⟨w.heap.size,1,none⟩=some (.int .i64 0)/\wr.cell? ⟨w.heap.size,2,none⟩=some (.string ⟨#[]⟩)/\Hid (NoneTo isZ l k)) (fun i _=>n - (intOf i).toNat)
 case atStart=>exact ⟨0,by omega,rfl,zae _ _,by simp,by simp,by simp,qL fun j _ hj=>absurd hj qF⟩
 case round=>
  obtain ⟨k,hk,rfl,hbw,q0,q1,q2,HS⟩:=hrel
  have HBW:=qL hbw
  by_cases h1:k<n
  ·obtain ⟨b1,o1,rfl,hc1⟩:=(HA.out.later hbw).opn qF
   obtain ⟨x,hx⟩:=zah (l:=l) (k:=k) (by have:=LA.out;omega)
   obtain ⟨x1,x2,x3⟩:=hc1 k x hx
   have HX:=qL hx
   have qe: ∀ W:World,(binOp .eql 46 (.agg #[.int .i64 0, .int .i64 0, .string ⟨#[]⟩]) (.agg #[.int .i64 x.k, .int .i64 x.m, .string x.s])).run Tryz.prog W= .ok (.bool (isZ x)) W:=fun W=>zne 0 0 ⟨#[]⟩ x.k x.m x.s W
   have g0:=Gro.cell q0
   have g1:=Gro.cell q1
   have g2:=Gro.cell q2
   have g3:=Gro.cell x1
   have g4:=Gro.cell x2
   have g5:=Gro.cell x3
   have h1':(k:Int)<(n:Int):=by omega
   clear hc1 hx hbw
   cases hz:isZ x
   ·have HZ:=qL hz
    simp only [hz] at qe
    clear hz x1 x2 x3
    go_wp2_with fail
    refine zai qG qG ?_;(repeat (go_big_quiet_step (fail)));refine wpQuiet_nil ?_;intro _ hw';obtain ⟨pq,hw''⟩:=hw';subst hw'';have hbq:=pq.below;revert hbq;generalize pq.world=wq;intro hbq
    have HBF:=qL (btr HBW.out hbq)
    have s0:=qM hbq q0
    have s1:=qM hbq q1
    have s2:=qM hbq q2
    clear g0 g1 g2 g3 g4 g5 hbq q0 q1 q2
    go_wp2
    go_roundw
    case rel=>exact ⟨k+1,by omega,by go_num,HBF.out,s0,s1,s2,qL (HS.out.succ HX.out HZ.out)⟩
    case measure=>simp [intOf];omega
   ·have HZ:=qL hz
    simp only [hz] at qe
    clear hz x1 x2 x3
    go_wp2_with fail
    refine zai qG qG ?_;(repeat (go_big_quiet_step (fail)));refine wpQuiet_nil ?_;intro _ hw';obtain ⟨pq,hw''⟩:=hw';subst hw'';have hbq:=pq.below;revert hbq;generalize pq.world=wq;intro hbq
    have HBF:=qL (btr HBW.out hbq)
    clear g0 g1 g2 g3 g4 g5 hbq q0 q1 q2
    go_wp2
    go_ret
    exact ⟨zak (zck HS.out HX.out HZ.out).symm,HBF.out⟩
  ·go_wp2
   go_ret
   exact ⟨zak (zcw (fun j y hy=>HS.out j y (by have:=LA.out;have:=(qO hy).1;omega) hy)).symm,hbw⟩
theorem zkf (A:Option Addr)(n c:Nat)(l:List Val)(w:World)(h:rVal w A n l)(hn:n<=100000):
 Calls Tryz.prog 248 #[.slice A n c, .agg #[.int .i64 0, .int .i64 0, .string ⟨#[]⟩]] w fun e w'=>e= .returned (.bool (ycb l))/\Below w.heap.size w w':=by
 have H:=qL (yyk A n c l (w.alloc (.cells #[.int .i64 0, .int .i64 0, .string ⟨#[]⟩] 46)) (h.later (zae _ _)) hn)
 clear h
 go_enter Tryz.func248,Tryz.ntmps248
 go_wp2_with fail
 refine H.out.mono ?_
 rintro e w1 ⟨rfl,hb1⟩
 have HB1:=qL (btr (zae _ _) hb1)
 clear hb1
 go_wp2
 go_ret
 exact ⟨zal (by rw [yj8,<-zo0]),HB1.out⟩
theorem yo1 (A:Option Addr)(n c:Nat)(l:List Val)(w:World)(h:rVal w A n l)(hn:n<=100000):
 Calls Tryz.prog 210 #[.slice A n c] w fun e w'=>e= .returned (.bool (ycb l))/\Below w.heap.size w w':=by
 have H:=qL (zkf A n c l w h hn)
 clear h
 go_enter Tryz.func210,Tryz.ntmps210
 go_wp2_with fail
 refine H.out.mono ?_
 rintro e w1 ⟨rfl,hb1⟩
 have HB1:=qL hb1
 clear hb1
 go_wp2
 go_ret
 exact ⟨zal rfl,HB1.out⟩
theorem zdo {r:List Val}(hv: ∀ v∈r,yab v=true)(h:r.length<=12):(yav r).size<=maxLen:=by
 have h1:=zh2 hv
 have:(yav r).size=(ybn r).length:=by simp [yav,ByteArray.size]
 rw [this]
 unfold ybn maxLen
 simp only [List.length_cons]
 omega
theorem zqk (w:World)(cs:Array Value)(e:TypeId):Tag (w.alloc (.cells cs e)) w.heap.size e:=⟨cs,(0,0),by show (w.heap.push _)[w.heap.size]?=_;simp⟩
theorem Yhr (B:Nat): ∃ i,KinP Tryz.prog (ycs B) 29 i (.agg #[.slice none 0 0, .int .i64 0]) 32:=by
 obtain ⟨i,h⟩:=ymt
 exact ⟨i,⟨h.ht,h.hi,h.hz,h.hs,h.hb,h.hzs,h.small⟩⟩
structure okMat (cs:List Col)(ns:List ByteArray)(ps:List Int)(u:Tab):Prop where
 names:ybu cs ns
 n12:ns.length<=12
 p12:ps.length<=12
 len:u.length<=4096
 pos: ∀ x∈u,0<x.2
 sum:yac u<=65536
 w12: ∀ x∈u,x.1.length<=12
 val: ∀ x∈u,vOk x.1
def MatR (os ps:List Int)(u:Tab)(w:World)(e:Ending)(w':World):Prop:= ∃ b N,e= .returned (.map (some b))/\MatRd Tryz.prog w' b N os.length (fun k=>yff os ps k u)/\Below w.heap.size w w'
theorem ygz (op:Int)(so:ByteArray)(nA oA iA dA:Option Addr)(nN nC oN oC iN iC dN dC:Nat)(nm:ByteArray)(cA kA rA:Option Addr)(cN cC kN kC rN rC:Nat)(pA:Option Addr)(pN pC:Nat)(ns:List ByteArray)(cs:List Col)(ps:List Int)(u:Tab)(w:World)
 (hns:rStr w oA oN ns) (hcs:rCol w cA cN cs) (ht:rTab w rA rN u) (hp:rInt w pA pN ps) (hnc:oN<=oC) (hcn:cN<=12) (hok:okMat cs ns ps u):
 Calls Tryz.prog 209 #[.agg #[.int .i64 op, .string so, .slice nA nN nC, .slice oA oN oC, .slice iA iN iC, .slice dA dN dC], .agg #[.string nm, .slice cA cN cC, .slice kA kN kC, .slice rA rN rC], .slice pA pN pC] w (MatR (ns.map (yao cs)) ps u w):=by
 obtain ⟨os,hos⟩: ∃ os,os=ns.map (yao cs):=⟨_,rfl⟩
 rw [<-hos]
 have HOS:=qL hos
 clear hos
 have HT:=qL ht
 have HK:=qL hok
 have HP:=qL hp
 have LN:=qL hns.len
 have LT:=qL ht.len
 have hon:oN<=12:=by have:=hns.len;have:=hok.n12;omega
 have hpp12:pN<=12:=by have:=hp.len;have:=hok.p12;omega
 have hrn:rN<=4096:=by have:=ht.len;have:=hok.len;omega
 have LP:=qL hp.len
 have HA:Hid (Below w.heap.size w ((w.alloc (.cells #[.int .i64 op, .string so, .slice nA nN nC, .slice oA oN oC, .slice iA iN iC, .slice dA dN dC] 44)).alloc (.cells #[.string nm, .slice cA cN cC, .slice kA kN kC, .slice rA rN rC] 31))):=qL ((zae _ _).alloc qH _)
 have HIX:=qL (yoe cA cN cC cs oA oN oC ns _ (hcs.later HA.out) (hns.later HA.out) hok.names qF qF hnc)
 clear hns hcs ht hp hok
 have qT: ∀ (w:World) (r:Option Nat),(binOp .eql 240 (.map r) (.map none)).run Tryz.prog w= .ok (.bool r.isNone) w:=fun w r=>run_eql_map_nil w _ _ _ r Tryz.underlying240
 go_enter Tryz.func209,Tryz.ntmps209
 go_wp2_with fail
 refine HIX.out.mono ?_
 rintro e w1 ⟨B1,m1,k1,rfl,hri,hmk,hb1⟩
 rw [<-HOS.out] at hri
 have HRI:=qL hri
 have HB1:=qL (HA.out.trans (hb1.mono HA.out.size))
 have i3:w1.cell? ⟨w.heap.size+1,3,none⟩=some (.slice rA rN rC):=qM hb1 qD
 have hm1:m1=oN:=by have:=hri.len;rw [HOS.out,List.length_map] at this;have:=LN.out;omega
 subst hm1
 have HOL:Hid (os.length=m1):=qL hri.len
 have hmk1:(Instr.makeMap 258 none).run Tryz.prog w1= .ok (.map (some w1.heap.size)) (w1.alloc (.map #[] 0)):=by simp [Instr.makeMap]
 have hmk2:(Instr.makeMap 218 none).run Tryz.prog (w1.alloc (.map #[] 0))= .ok (.map (some (w1.heap.size+1))) ((w1.alloc (.map #[] 0)).alloc (.map #[] 0)):=by simp [Instr.makeMap]
 have i32:((w1.alloc (.map #[] 0)).alloc (.map #[] 0)).cell? ⟨w.heap.size+1,3,none⟩=some (.slice rA rN rC):=qM (zae _ _) (qM (zae _ _) i3)
 have HG0:Hid (GS Tryz.prog ((w1.alloc (.map #[] 0)).alloc (.map #[] 0)) (w1.heap.size+2) 0 m1 pN w1.heap.size (w1.heap.size+1) os ps [] [] (fun _=>none) (fun _=>none)):=qL (by
  have h2:=Mp.made (P:=Tryz.prog) (k:=9) (w1.alloc (.map #[] 0))
  have e2:(w1.alloc (.map #[] 0)).heap.size=w1.heap.size+1:=by simp
  rw [e2] at h2
  exact ⟨fun j x h=>by simp at h,PF.nil qF,fun x h=>by (cases h),fun x h=>by (cases h),fun _ _=>⟨rfl,rfl⟩,(Mp.made (P:=Tryz.prog) (k:=9) w1).alloc _,h2,SemG.nil _ _ _⟩)
 obtain ⟨iE,PE⟩:=Yhr (w1.heap.size+2)
 clear hri hb1 i3 HIX
 go_wp2
 clear hmk1 hmk2
 go_loopw [31] (fun iv wr=> ∃ (k:Nat) (l:List GM) (fc fo:List UInt8->Option Value),k<=rN/\iv= .int .i64 k/\Below w1.heap.size w1 wr/\w1.heap.size+2<=wr.heap.size/\Hid (GS Tryz.prog wr (w1.heap.size+2) (2*k) m1 pN w1.heap.size (w1.heap.size+1) os ps (u.take k) l fc fo)) (fun iv _=>rN - (intOf iv).toNat)
 case atStart=>exact ⟨0,[],_,_,by omega,rfl,(zae _ _).alloc qH _,by simp,HG0⟩
 case round=>
  obtain ⟨k,l,fc,fo,hk,rfl,hbw,hsz,HGS0⟩:=hrel
  have HBW:=qL hbw
  by_cases hlt:k<rN
  ·obtain ⟨b1,o1,rfl,hc1⟩:=HT.out.opn qF
   obtain ⟨x,hx⟩:=zah (l:=u) (k:=k) (by have:=LT.out;omega)
   obtain ⟨rA,rN2,rC2,x1,x2,x3⟩:=hc1 k x hx
   have X3:Hid (rVal w1 rA rN2 x.1):=qL (x3.later HB1.out)
   have z1:=qM (btr HB1.out hbw) x1
   have z2:=qM (btr HB1.out hbw) x2
   have hmm:=qP hx
   have hx12:=HK.out.w12 x hmm
   have hrN:rN2<=12:=by have:=x3.len;omega
   have hxp:=HK.out.pos x hmm
   have HTK:Hid (u.take (k+1)=u.take k++ [x]):=qL (zbc hx)
   have HXV:Hid (vOk x.1):=qL (HK.out.val x hmm)
   have HVK:Hid (vRow m1 (pkV os x.1)):=qL ⟨zer (HK.out.val x hmm) os,by rw [zdi];exact HOL.out⟩
   have HVR:Hid (vRow pN (pkV ps x.1)):=qL ⟨zer (HK.out.val x hmm) ps,by rw [zdi];exact LP.out⟩
   have HPI:=qL (ypd rA rN2 rC2 x.1 B1 m1 k1 os (wr.alloc (.cells #[.slice rA rN2 rC2, .int .i64 x.2] 65)) (X3.out.later (HBW.out.alloc HBW.out.size _)) (HRI.out.later (HBW.out.alloc HBW.out.size _)) qF qF)
   have HXM:=qL hmm
   clear hc1 hx x3 hbw x1 x2 hmm
   go_wp2_with fail
   refine HPI.out.mono ?_
   rintro e w2 ⟨A1,c1,rfl,hrd,hcc,hb2,hfr,_⟩
   have HRD:Hid (rVal w2 A1 m1 (pkV os x.1)):=qL (zb4.1 hrd)
   have HB2:=qL (btr (zae wr _) hb2)
   have q0:w2.cell? ⟨wr.heap.size,0,none⟩=some (.slice rA rN2 rC2):=qM hb2 qH
   have q1:w2.cell? ⟨wr.heap.size,1,none⟩=some (.int .i64 x.2):=qM hb2 qH
   have HTG2:Hid (Tag w2 wr.heap.size 65):=qL ((zqk _ _ _).later hb2)
   have HNU:=qL (yo1 A1 m1 c1 (pkV os x.1) w2 HRD.out qF)
   clear hrd hb2 hfr
   cases hnul:ycb (pkV os x.1)
   ·have HNULL:=qL hnul
    rw [hnul] at HNU
    clear hnul
    go_wp2_with fail
    refine HNU.out.mono ?_
    rintro e w3 ⟨rfl,hb3⟩
    have HB3:=qL (btr HB2.out hb3)
    have q03:=qM hb3 q0
    have q13:=qM hb3 q1
    have HTG3:=qL (HTG2.out.later hb3)
    have HKE:=qL (ymi A1 m1 c1 (pkV os x.1) w3 (HRD.out.later hb3) qF HVK.out.1)
    clear hb3 q0 q1
    go_wp2_with fail
    refine HKE.out.mono ?_
    rintro e w4 ⟨rfl,hb4⟩
    have HB4:=qL (btr HB3.out hb4)
    have q0G0:=qM hb4 q03
    have q1G0:=qM hb4 q13
    have HTG4:=qL (HTG3.out.later hb4)
    have HG4:=qL (HGS0.out.later HB4.out)
    have hks:(yav (pkV os x.1)).size<=maxLen:=zdo HVK.out.1 (by have:=HVK.out.2;omega)
    have HB4w:=qL (btr HBW.out HB4.out)
    have hsz4:w1.heap.size+2<=w4.heap.size:=qR hsz HB4.out.size
    have hlk:=HG4.out.cm.look Tryz.underlying9 Tryz.underlying258 (z:= .map none) (Tryz.zeroValue240 _) (yav (pkV os x.1)) hks
    clear hb4 q03 q13
    by_cases hex: ∃ y∈l,y.key=pkV os x.1
    ·obtain ⟨y0,hy0,hyk⟩:=hex
     obtain ⟨i,hi0⟩:=List.getElem?_of_mem hy0
     have HI0:=qL hi0
     have HKEY:=hyk
     have hce:=HG4.out.c y0 hy0
     rw [hyk] at hce
     rw [hce] at hlk
     simp only [Option.getD_some] at hlk
     obtain ⟨wG,rfl⟩: ∃ wG,wG=w4:=⟨_,rfl⟩
     have HGS:=HG4
     have HBG:=HB4w
     have hszG:=hsz4
     have q0G:=q0G0
     have q1G:=q1G0
     have HTGG:=HTG4
     have HDR:Hid (ye9 y0.tab):=qL (by
      have h:=HGS.out.sem.tab y0.key (HGS.out.gl i y0 HI0.out qH).kv (HGS.out.sem.nn y0 (qP HI0.out))
      rw [zbx HGS.out.pf.keys (qP HI0.out) rfl] at h
      rw [h]
      exact (zc5 fun z hz=>HK.out.pos z (List.mem_of_mem_take hz)).1)
     have HTL:Hid (y0.tab.length<=4096):=qL (by
      have h:=HGS.out.sem.tab y0.key (HGS.out.gl i y0 HI0.out qH).kv (HGS.out.sem.nn y0 (qP HI0.out))
      rw [zbx HGS.out.pf.keys (qP HI0.out) rfl] at h
      rw [h]
      have h4:=(zc5 (os:=os) (ps:=ps) (k:=y0.key) (u:=u.take k) fun z hz=>HK.out.pos z (List.mem_of_mem_take hz)).2.2.2
      have e6:=List.length_take (i:=k) (l:=u)
      have e7:=HK.out.len
      omega)
     have HTB:Hid (∀ z∈y0.tab,0<z.2/\z.2<=65536/\y0.tab.length<=4096/\z.2+x.2<=65536):=qL (by
      have h:=HGS.out.sem.tab y0.key (HGS.out.gl i y0 HI0.out qH).kv (HGS.out.sem.nn y0 (qP HI0.out))
      rw [zbx HGS.out.pf.keys (qP HI0.out) rfl] at h
      obtain ⟨_,h2,h3,h4⟩:=zc5 (os:=os) (ps:=ps) (k:=y0.key) (u:=u.take k) fun z hz=>HK.out.pos z (List.mem_of_mem_take hz)
      rw [<-h] at h2 h3 h4
      intro z hz
      have e1:z.2<=yac y0.tab:=eOk.le (t:=y0.tab) (fun v hv=>⟨(h2 v hv).1,by
       obtain ⟨_,v2,_,e⟩:=h2 v hv
       rw [e,zdi]
       have:=LP.out
       omega⟩) hz
      have e2:=zbm u (k+1)
      have e3:yac (u.take (k+1))=yac (u.take k)+x.2:=by rw [HTK.out,zbb];simp [yac]
      have e4:0<=yac (u.drop (k+1)):=zbp fun v hv=>HK.out.pos v (List.mem_of_mem_drop hv)
      have e5:=HK.out.sum
      have e6:=List.length_take (i:=k) (l:=u)
      have e7:=HK.out.len
      exact ⟨(h2 z hz).1,by omega,by omega,by omega⟩)
     clear hce hy0 hi0 hyk q0G0 q1G0
     have hy0:=HGS.out.gl i y0 HI0.out qH
     have HKY:Hid (y0.key=pkV os x.1):=HKEY
     have HVW:=qL (ypd rA rN2 rC2 x.1 pA pN pC ps wG (X3.out.later HBG.out) (HP.out.later (btr HB1.out HBG.out)) qF qF)
     clear hy0
     go_wp2_with fail
     refine HVW.out.mono ?_
     rintro e w7 ⟨A2,c2,rfl,hrd7,hcc7,hb7,hfr7,hown7⟩
     have HR7:Hid (rVal w7 A2 pN (pkV ps x.1)):=qL (zb4.1 hrd7)
     have HB7:=qL (btr HBG.out hb7)
     have HT7:Hid (0<pN-> ∀ a,A2=some a->w1.heap.size+2<=a.block/\Tag w7 a.block 46):=qL fun h0 a e=>⟨qR (qR hszG (by exact qV _)) (hfr7 a e).1,by
      obtain ⟨es,h1,_⟩:=hown7
      obtain ⟨b,o⟩:=a
      obtain ⟨g,cc,e2,_⟩:=World.ownsRow.form h1 h0
      rw [e] at e2
      injection e2 with e2
      injection e2 with e2
      rw [e2]
      exact zd1 h1 g (by rw [e,e2];rfl)⟩
     have HG7:=qL (HGS.out.later hb7)
     have q17:=qM hb7 q1G
     have q07:=qM hb7 q0G
     have HFRA:Hid (∀ a,A2=some a->wG.heap.size<=a.block):=qL fun a e=>(hfr7 a e).1
     have HNS:=qL hb7.size
     have HTG7:=qL (HTGG.out.later hb7)
     clear hrd7 hb7 hfr7 hown7 q0G q1G
     have hks2:(yav (pkV ps x.1)).size<=maxLen:=zdo HVR.out.1 (by have:=HVR.out.2;omega)
     have gl1: ∀ p:Gro w7,(Instr.lookup 258 (.map (some w1.heap.size)) (.string (yav (pkV os x.1))) false).run Tryz.prog p.world= .ok (.map (some y0.ib)) p.world:=fun p=>by
      have h:=(HG7.out.later p.below).cm.look Tryz.underlying9 Tryz.underlying258 (z:= .map none) (Tryz.zeroValue240 _) (yav (pkV os x.1)) hks
      rw [<-HKY.out,HG7.out.c y0 (qP HI0.out)] at h
      rw [<-HKY.out]
      exact h
     have gl2: ∀ p:Gro w7,(Instr.lookup 240 (.map (some y0.ib)) (.string (yav (pkV ps x.1))) true).run Tryz.prog p.world= .ok (.tuple #[(y0.g (yav (pkV ps x.1)).data.toList).getD (.int .i64 0), .bool (y0.g (yav (pkV ps x.1)).data.toList).isSome]) p.world:=fun p=>((HG7.out.later p.below).gl i y0 HI0.out qH).map.lookOk Tryz.underlying9 Tryz.underlying240 (z:= .int .i64 0) (Tryz.zeroValue3 _) (yav (pkV ps x.1)) hks2
     by_cases hrow: ∃ z∈y0.tab,z.1=pkV ps x.1
     ·obtain ⟨z,hz,hzr⟩:=hrow
      obtain ⟨j,hj⟩:=List.getElem?_of_mem hz
      have hgj:=(HG7.out.gl i y0 HI0.out qH).pos.1 j z hj
      rw [hzr] at hgj
      simp only [hgj,Option.getD_some,Option.isSome_some] at gl2
      have HZJ:=qL hj
      have HZR:=qL hzr
      have hjl:=(qO hj).1
      obtain ⟨A8,c8,hv8,hc8,hr8,hfr8⟩:=(HG7.out.gl i y0 HI0.out qH).own.rd
      obtain ⟨g8,rfl⟩: ∃ g8,A8=some ⟨g8,0,none⟩:=by
       obtain ⟨es,h1,_⟩:=(HG7.out.gl i y0 HI0.out qH).own
       rw [hv8] at h1
       obtain ⟨g,cc,e2,_⟩:=World.ownsRow.form h1 qF
       injection e2 with e2
       exact ⟨g,e2⟩
      have HV8:=qL hv8
      have HZB:Hid (0<z.2/\z.2<=65536/\y0.tab.length<=4096/\z.2+x.2<=65536):=qL (HTB.out z hz)
      clear hz hzr hj hgj hr8 hfr8 hv8
      go_wp2_with fail
      refine zai qG qG ?_;(repeat (go_big_quiet_step ((go_at_call 211;exact Calls.gro_of (ymi A2 pN c2 (pkV ps x.1) _ (HR7.out.later (Gro.below _)) hpp12 HVR.out.1)))));refine wpQuiet_nil ?_;intro _ hw';obtain ⟨pq,hw''⟩:=hw';subst hw'';have hbq:=pq.below;revert hbq;generalize pq.world=wq;intro hbq
      have HB8:=qL (btr HB7.out hbq)
      have HG8:=qL (HG7.out.later hbq)
      have q08:=qM hbq q07
      have q18:=qM hbq q17
      have HQS:=qL hbq.size
      clear gl1 gl2 hbq q07 q17
      have hlo:=HG8.out.om.drew.look Tryz.underlying9 Tryz.underlying218 (z:= .slice none 0 0) (Tryz.zeroValue29 _) (yav (pkV os x.1)) hks
      rw [<-HKY.out,HG8.out.o y0 (qP HI0.out),HV8.out,HKY.out] at hlo
      have p8:wq.cell? ⟨g8,j*2+1,none⟩=some (.int .i64 z.2):=by
       obtain ⟨es,h1,h2,_⟩:=(HG8.out.gl i y0 HI0.out qH).own
       rw [HV8.out] at h1
       obtain ⟨a,ha,hr⟩:=h2.get2 HZJ.out
       have hel:j<es.length:=(qO ha).1
       have hc:=World.ownsRow.cellAt (by exact h1) (j*2+1) (by have:=h2.len;show j*2+1<y0.tab.length*2;omega)
       have hf:=zbf za5 ha 1 qF
       rw [hc]
       refine hf.trans ?_
       show some (Value.int .i64 a.c)=_
       rw [hr.1.2]
      have pf:wq.frozen? ⟨g8,j*2+1,none⟩=false:=by
       obtain ⟨es,h1,_⟩:=(HG8.out.gl i y0 HI0.out qH).own
       rw [HV8.out] at h1
       exact World.ownsRow.frozenAt (by exact h1) _
      have iw:IntKind.i64.wrap (z.2+x.2)=z.2+x.2:=by have:=HZB.out;rw [IntKind.wrap_i64];omega
      have hj1:(j:Int)<(y0.tab.length:Int):=by omega
      have hj0:(0:Int)<=(j:Int):=by omega
      obtain ⟨x',HSET⟩:=(HG8.out.later (Below.drew (za0 wq))).hit (e:=x) HI0.out HKY.out HDR.out HZJ.out HZR.out HV8.out
      have HBF:Hid (Below w1.heap.size w1 (wq.drew.setCell ⟨g8,j*2+1,none⟩ (.int .i64 (z.2+x.2)))):=qL ((Below.drew HB8.out).setCell (by
       have h:=((HG8.out.gl i y0 HI0.out qH).own.lt g8 (by rw [HV8.out];rfl)).1
       show w1.heap.size<=g8
       omega) _)
      have hszf:w1.heap.size+2<=(wq.drew.setCell ⟨g8,j*2+1,none⟩ (.int .i64 (z.2+x.2))).heap.size:=by have h1:=hszG;have h2:=HNS.out;have h3:=HQS.out;simp only [World.size_setCell];show w1.heap.size+2<=wq.heap.size;omega
      have HGF:Hid (GS Tryz.prog (wq.drew.setCell ⟨g8,j*2+1,none⟩ (.int .i64 (z.2+x.2))) (w1.heap.size+2) (2*(k+1)) m1 pN w1.heap.size (w1.heap.size+1) os ps (u.take (k+1)) (l.set i x') fc fo):=qL (by rw [HTK.out];exact HSET.mono qF)
      clear HSET
      go_wp2_with fail
      have q18d:wq.drew.cell? ⟨wr.heap.size,1,none⟩=some (.int .i64 x.2):=q18
      have p8d:wq.drew.cell? ⟨g8,j*2+1,none⟩=some (.int .i64 z.2):=p8
      have pfd:wq.drew.frozen? ⟨g8,j*2+1,none⟩=false:=pf
      have hlo0:(Instr.lookup 218 (.map (some (w1.heap.size+1))) (.string (yav (pkV os x.1))) false).run Tryz.prog wq= .ok (.slice (some ⟨g8,0,none⟩) y0.tab.length c8) wq:=by
       have hlo:=HG8.out.om.look Tryz.underlying9 Tryz.underlying218 (z:= .slice none 0 0) (Tryz.zeroValue29 _) (yav (pkV os x.1)) hks
       rw [<-HKY.out,HG8.out.o y0 (qP HI0.out),HV8.out,HKY.out] at hlo
       exact hlo
      go_still_tail 12,qG
      clear hlo hlo0 q18 p8 pf
      change wpList _ _ _ _ _ wq.drew
      go_wp2
      go_roundw
      case rel=>exact ⟨k+1,_,_,_,by omega,by go_num,HBF.out,hszf,HGF⟩
      case measure=>simp [intOf];omega
     ·have hrn2: ∀ z∈y0.tab,z.1≠pkV ps x.1:=fun z hz e=>hrow ⟨z,hz,e⟩
      have HNEW:=qL hrn2
      have hgn:y0.g (yav (pkV ps x.1)).data.toList=none:=(HG7.out.gl i y0 HI0.out qH).pos.2 _ fun z hz e=>hrn2 z hz (((HG7.out.gl i y0 HI0.out qH).rv z hz).inj HVR.out hpp12 e)
      simp only [hgn,Option.getD_none,Option.isSome_none] at gl2
      obtain ⟨A8,c8,hv8,hc8,hr8,hfr8⟩:=(HG7.out.gl i y0 HI0.out qH).own.rd
      have HV8:=qL hv8
      have htl:y0.tab.length<=4096:=HTL.out
      clear hr8 hfr8 hv8 hgn hrow hrn2
      go_wp2_with fail
      refine zai qG qG ?_;(repeat (go_big_quiet_step ((go_at_call 211;exact Calls.gro_of (ymi A2 pN c2 (pkV ps x.1) _ (HR7.out.later (Gro.below _)) hpp12 HVR.out.1)))));refine wpQuiet_nil ?_;intro _ hw';obtain ⟨pq,hw''⟩:=hw';subst hw'';have hbq:=pq.below;revert hbq;generalize pq.world=wq;intro hbq
      have HB8:=qL (btr HB7.out hbq)
      have HG8:=qL (HG7.out.later hbq)
      have q08:=qM hbq q07
      have q18:=qM hbq q17
      have HTG8:=qL (HTG7.out.later hbq)
      have HR8:=qL (HR7.out.later hbq)
      have HT8:Hid (0<pN-> ∀ a,A2=some a->w1.heap.size+2<=a.block/\Tag wq a.block 46):=qL fun h0 a e=>⟨(HT7.out h0 a e).1,(HT7.out h0 a e).2.later hbq⟩
      have HQS:=qL hbq.size
      clear gl1 gl2 hbq q07 q17
      have HLK:Hid (∀ W:World,Below wq.heap.size wq W->(Instr.lookup 258 (.map (some w1.heap.size)) (.string (yav (pkV os x.1))) false).run Tryz.prog W= .ok (.map (some y0.ib)) W/\(Instr.lookup 218 (.map (some (w1.heap.size+1))) (.string (yav (pkV os x.1))) false).run Tryz.prog W= .ok (.slice A8 y0.tab.length c8) W):=qL fun W hW=>by
       have hG:=HG8.out.later hW
       have h1:=hG.cm.look Tryz.underlying9 Tryz.underlying258 (z:= .map none) (Tryz.zeroValue240 _) (yav (pkV os x.1)) hks
       have h2:=hG.om.look Tryz.underlying9 Tryz.underlying218 (z:= .slice none 0 0) (Tryz.zeroValue29 _) (yav (pkV os x.1)) hks
       rw [<-HKY.out,hG.c y0 (qP HI0.out)] at h1
       rw [<-HKY.out,hG.o y0 (qP HI0.out),HV8.out] at h2
       rw [<-HKY.out]
       exact ⟨h1,h2⟩
      have HLP:Hid (∀ W W':World,Below wq.heap.size wq W->W.grownBy W' (some y0.ib)->(Instr.lookup 258 (.map (some w1.heap.size)) (.string (yav (pkV os x.1))) false).run Tryz.prog W'= .ok (.map (some y0.ib)) W'/\(Instr.lookup 218 (.map (some (w1.heap.size+1))) (.string (yav (pkV os x.1))) false).run Tryz.prog W'= .ok (.slice A8 y0.tab.length c8) W'):=qL fun W W' hW hg=>by
       have hG:=HG8.out.later hW
       have hm:=qP HI0.out
       have hf:=hG.pf.far y0 hm
       have h1:=(hG.cm.kept hg (fun e=>by injection e with e;exact hf.1 e.symm)).look Tryz.underlying9 Tryz.underlying258 (z:= .map none) (Tryz.zeroValue240 _) (yav (pkV os x.1)) hks
       have h2:=(hG.om.kept hg (fun e=>by injection e with e;exact hf.2 e.symm)).look Tryz.underlying9 Tryz.underlying218 (z:= .slice none 0 0) (Tryz.zeroValue29 _) (yav (pkV os x.1)) hks
       rw [<-HKY.out,hG.c y0 hm] at h1
       rw [<-HKY.out,hG.o y0 hm,HV8.out] at h2
       rw [<-HKY.out]
       exact ⟨h1,h2⟩
      have HMI:=qL (HG8.out.gl i y0 HI0.out qH).map
      have HLD1:=qL (HLK.out _ (Below.drew (za0 wq))).1
      have HLD2:=qL (HLK.out _ (Below.drew (za0 wq))).2
      have hNx:(2*k)<maxLen:=by unfold maxLen;omega
      go_wp2_with fail
      have HKC:=qL (ymi A2 pN c2 (pkV ps x.1) wq.drew (HR8.out.later (Below.drew (za0 wq))) hpp12 HVR.out.1)
      have HKN:Hid (∀ W:World,Below wq.drew.heap.size wq.drew W->Below wq.heap.size wq W):=qL fun W h=>zap h
      have hd1:=HLD1.out
      have hd2:=HLD2.out
      go_region_with (go_at_call 211;refine HKC.out.mono ?_;rintro e wk ⟨rfl,hbk⟩;have hbk:=HKN.out _ hbk;have hk1:=(HLK.out _ hbk).1;have hk2:=(HLK.out _ hbk).2;obtain ⟨wp,hput,hmp,hgp⟩:=(HMI.out.later hbk).put Tryz.underlying9 Tryz.underlying240 hNx (yav (pkV ps x.1)) hks2 (.int .i64 (y0.tab.length:Nat)))
      all_goals
       have HBK:=qL hbk
       have HGP:=qL hgp
       have HMP:=qL hmp
       have hp1:=(HLP.out _ _ hbk hgp).2
       have hneb:some wr.heap.size≠some y0.ib:=fun e=>by injection e with e;exact HMI.out.isMap.ne HTG8.out e.symm
       have q1p:=hgp.cell (qM hbk q18) hneb
       have HFM:Hid (0<pN-> ∀ a,A2=some a->some a.block≠some y0.ib):=qL fun h0 a e e2=>by injection e2 with e2;exact HMI.out.isMap.ne (HT8.out h0 a e).2 e2.symm
       have HRA:Hid (rVal (wp.alloc (.cells #[.slice A2 pN c2, .int .i64 x.2] 65)) A2 pN (pkV ps x.1)):=qL ((Fl.kept (HR8.out.later hbk) hgp (fun h0 a e=>HFM.out h0 a e)).later (zae _ _))
       have HTA:Hid (0<pN-> ∀ a,A2=some a->w1.heap.size+2<=a.block/\Tag (wp.alloc (.cells #[.slice A2 pN c2, .int .i64 x.2] 65)) a.block 46):=qL fun h0 a e=>⟨(HT8.out h0 a e).1,(((HT8.out h0 a e).2.later HBK.out).kept HGP.out (HFM.out h0 a e)).later (zae _ _)⟩
       have HOA:Hid (ownD (ycs (w1.heap.size+2)) (wp.alloc (.cells #[.slice A2 pN c2, .int .i64 x.2] 65)) (w1.heap.size+2) (.slice A8 y0.tab.length c8) y0.tab.length y0.tab):=qL (by
        have h:=HG8.out.own_at HI0.out HBK.out HGP.out (zae wp (.cells #[.slice A2 pN c2, .int .i64 x.2] 65))
        rw [HV8.out] at h
        exact h)
       have HFF:Hid (yau [(A2,pN)] (Value.slice A8 y0.tab.length c8).ownBlock):=qL fun p hp h0 ad e e2=>by
        simp at hp
        subst hp
        rw [<-HV8.out] at e2
        exact Tag.ne ((HG8.out.gl i y0 HI0.out qH).tag _ e2.symm) (HT8.out h0 ad e).2 (by decide) rfl
       have HSZP:Hid (w1.heap.size+2<=wp.heap.size):=qL (by have h1:=hszG;have h2:=HNS.out;have h3:=HQS.out;have h4:=HBK.out.size;have h5:=HGP.out.size;omega)
       have hszp:w1.heap.size+2<=(wp.alloc (.cells #[.slice A2 pN c2, .int .i64 x.2] 65)).heap.size:=qR HSZP.out (zae _ _).size
       have hnl:y0.tab.length<1000000:=by omega
       have HV0:Hid (∀ b,(Value.slice A8 y0.tab.length c8).ownBlock=some b->w1.heap.size<=b):=qL fun b e=>by have:=(HOA.out.lt b e).1;omega
       have HBP:Hid (Below w1.heap.size w1 wp):=qL (zaf (v:= .slice (some ⟨y0.ib,0,none⟩) 0 0) (btr HB8.out hbk) hgp (fun q e=>by cases e;have h:=HG8.out.pf.lo y0 (qP HI0.out);show w1.heap.size<=y0.ib;omega))
       clear hbk hgp hmp hk1 hk2 hput hd1 hd2 q18 q08 hneb
       go_wp2_with (at_builtin;refine zaq _ rfl _ _ rfl PE HOA.out ⟨_,0,none⟩ ⟨A2,pN,c2,x.2⟩ (pkV ps x.1,x.2) rfl rfl (zan _ _ _ _ _ _) ⟨⟨HRA.out,rfl⟩,HTA.out⟩ HFF.out hnl hszp ?_;intro v' w' hown' hgrow hat;obtain ⟨wz,hput2,hmz,hgz⟩:=(HG8.out.om_at HI0.out HBK.out HGP.out (zae wp (.cells #[.slice A2 pN c2, .int .i64 x.2] 65)) (by rw [HV8.out];exact hgrow)).put Tryz.underlying9 Tryz.underlying218 hNx (yav (pkV os x.1)) hks v')
       have HPU:=qL (HG8.out.push (e:=x) hon hpp12 HI0.out HKY.out HVR.out HNEW.out HBK.out HMP.out HGP.out (zae wp (.cells #[.slice A2 pN c2, .int .i64 x.2] 65)) hown' (by rw [HV8.out];exact hgrow) (by rw [HV8.out];exact hat) (by rw [HKY.out];exact hmz) hgz)
       have HGF:=qL (show ∃ l' fo',GS Tryz.prog wz (w1.heap.size+2) (2*(k+1)) m1 pN w1.heap.size (w1.heap.size+1) os ps (u.take (k+1)) l' fc fo' from ⟨_,_,by rw [HTK.out];exact HPU.out.mono qF⟩)
       have HBF:Hid (Below w1.heap.size w1 wz):=qL (zaf (v:= .slice (some ⟨w1.heap.size+1,0,none⟩) 0 0) (zaf (HBP.out.alloc HBP.out.size _) hgrow HV0.out) hgz (fun q e=>by cases e;show w1.heap.size<=w1.heap.size+1;omega))
       have hszf:w1.heap.size+2<=wz.heap.size:=qR hszp (qR hgrow.size hgz.size)
       clear hown' hgrow hat hmz hgz hp1 q1p
       go_wp2
       go_roundw
       case rel=>
        obtain ⟨l',fo',hg⟩:=HGF.out
        exact ⟨k+1,_,_,_,by omega,by go_num,HBF.out,hszf,qL hg⟩
       case measure=>simp [intOf];omega
    ·have HNK:Hid (∀ y∈l,y.key≠pkV os x.1):=qL fun y hy e=>hex ⟨y,hy,e⟩
     have hfcn:fc (yav (pkV os x.1)).data.toList=none:=(HG4.out.no _ fun y hy e=>by
      obtain ⟨j,hj⟩:=List.getElem?_of_mem hy
      exact HNK.out y hy ((HG4.out.gl j y hj qH).kv.inj HVK.out hon e)).1
     rw [hfcn] at hlk
     simp only [Option.getD_none] at hlk
     have hmk3:(Instr.makeMap 240 none).run Tryz.prog w4= .ok (.map (some w4.heap.size)) (w4.alloc (.map #[] 0)):=by simp [Instr.makeMap]
     obtain ⟨wG,hput0,hm0,hg0⟩:=(HG4.out.cm.later (zae w4 (.map #[] 0))).put Tryz.underlying9 Tryz.underlying258 (by unfold maxLen;omega) (yav (pkV os x.1)) hks (.map (some w4.heap.size))
     have HE:=qL (HG4.out.empty hon HVK.out HNULL.out HNK.out hm0 hg0)
     obtain ⟨y0,hy0⟩: ∃ y0:GM,y0=⟨pkV os x.1,[], .slice none 0 0,w4.heap.size,fun _=>none⟩:=⟨_,rfl⟩
     rw [<-hy0] at HE
     have HI0:Hid ((l++ [y0])[l.length]?=some y0):=qL qH
     have HKEY:y0.key=pkV os x.1:=by rw [hy0]
     have HY0:=qL hy0
     obtain ⟨l2,hl2⟩: ∃ l2,l2=l++ [y0]:=⟨_,rfl⟩
     obtain ⟨fc2,hf2⟩: ∃ fc2,fc2=yc1 fc (yav (pkV os x.1)).data.toList (.map (some w4.heap.size)):=⟨_,rfl⟩
     obtain ⟨i,hi2⟩: ∃ i,i=l.length:=⟨_,rfl⟩
     rw [<-hl2,<-hf2] at HE
     rw [<-hl2,<-hi2] at HI0
     have HGS:=HE
     have hneq:some wr.heap.size≠some w1.heap.size:=fun e=>by injection e with e;omega
     have HBG:Hid (Below w1.heap.size w1 wG):=qL (zaf (v:= .slice (some ⟨w1.heap.size,0,none⟩) 0 0) (HB4w.out.alloc HB4w.out.size _) hg0 (fun q e=>by cases e;exact qV _))
     have hszG:w1.heap.size+2<=wG.heap.size:=qR hsz4 (qR (zae _ _).size hg0.size)
     have q0G:=hg0.cell (qM (zae _ _) q0G0) hneq
     have q1G:=hg0.cell (qM (zae _ _) q1G0) hneq
     have HTGG:=qL ((HTG4.out.later (zae w4 (.map #[] 0))).kept hg0 hneq)
     have HDR:Hid (ye9 y0.tab):=qL (by
      have h:=HGS.out.sem.tab y0.key (HGS.out.gl i y0 HI0.out qH).kv (HGS.out.sem.nn y0 (qP HI0.out))
      rw [zbx HGS.out.pf.keys (qP HI0.out) rfl] at h
      rw [h]
      exact (zc5 fun z hz=>HK.out.pos z (List.mem_of_mem_take hz)).1)
     have HTL:Hid (y0.tab.length<=4096):=qL (by
      have h:=HGS.out.sem.tab y0.key (HGS.out.gl i y0 HI0.out qH).kv (HGS.out.sem.nn y0 (qP HI0.out))
      rw [zbx HGS.out.pf.keys (qP HI0.out) rfl] at h
      rw [h]
      have h4:=(zc5 (os:=os) (ps:=ps) (k:=y0.key) (u:=u.take k) fun z hz=>HK.out.pos z (List.mem_of_mem_take hz)).2.2.2
      have e6:=List.length_take (i:=k) (l:=u)
      have e7:=HK.out.len
      omega)
     have HTB:Hid (∀ z∈y0.tab,0<z.2/\z.2<=65536/\y0.tab.length<=4096/\z.2+x.2<=65536):=qL (by
      have h:=HGS.out.sem.tab y0.key (HGS.out.gl i y0 HI0.out qH).kv (HGS.out.sem.nn y0 (qP HI0.out))
      rw [zbx HGS.out.pf.keys (qP HI0.out) rfl] at h
      obtain ⟨_,h2,h3,h4⟩:=zc5 (os:=os) (ps:=ps) (k:=y0.key) (u:=u.take k) fun z hz=>HK.out.pos z (List.mem_of_mem_take hz)
      rw [<-h] at h2 h3 h4
      intro z hz
      have e1:z.2<=yac y0.tab:=eOk.le (t:=y0.tab) (fun v hv=>⟨(h2 v hv).1,by
       obtain ⟨_,v2,_,e⟩:=h2 v hv
       rw [e,zdi]
       have:=LP.out
       omega⟩) hz
      have e2:=zbm u (k+1)
      have e3:yac (u.take (k+1))=yac (u.take k)+x.2:=by rw [HTK.out,zbb];simp [yac]
      have e4:0<=yac (u.drop (k+1)):=zbp fun v hv=>HK.out.pos v (List.mem_of_mem_drop hv)
      have e5:=HK.out.sum
      have e6:=List.length_take (i:=k) (l:=u)
      have e7:=HK.out.len
      exact ⟨(h2 z hz).1,by omega,by omega,by omega⟩)
     clear hfcn hex hm0 hg0 hy0 hl2 hf2 hi2 q0G0 q1G0
     have hy0:=HGS.out.gl i y0 HI0.out qH
     have HKY:Hid (y0.key=pkV os x.1):=HKEY
     have HVW:=qL (ypd rA rN2 rC2 x.1 pA pN pC ps wG (X3.out.later HBG.out) (HP.out.later (btr HB1.out HBG.out)) qF qF)
     clear hy0
     go_wp2_with fail
     refine HVW.out.mono ?_
     rintro e w7 ⟨A2,c2,rfl,hrd7,hcc7,hb7,hfr7,hown7⟩
     have HR7:Hid (rVal w7 A2 pN (pkV ps x.1)):=qL (zb4.1 hrd7)
     have HB7:=qL (btr HBG.out hb7)
     have HT7:Hid (0<pN-> ∀ a,A2=some a->w1.heap.size+2<=a.block/\Tag w7 a.block 46):=qL fun h0 a e=>⟨qR (qR hszG (by exact qV _)) (hfr7 a e).1,by
      obtain ⟨es,h1,_⟩:=hown7
      obtain ⟨b,o⟩:=a
      obtain ⟨g,cc,e2,_⟩:=World.ownsRow.form h1 h0
      rw [e] at e2
      injection e2 with e2
      injection e2 with e2
      rw [e2]
      exact zd1 h1 g (by rw [e,e2];rfl)⟩
     have HG7:=qL (HGS.out.later hb7)
     have q17:=qM hb7 q1G
     have q07:=qM hb7 q0G
     have HFRA:Hid (∀ a,A2=some a->wG.heap.size<=a.block):=qL fun a e=>(hfr7 a e).1
     have HNS:=qL hb7.size
     have HTG7:=qL (HTGG.out.later hb7)
     clear hrd7 hb7 hfr7 hown7 q0G q1G
     have hks2:(yav (pkV ps x.1)).size<=maxLen:=zdo HVR.out.1 (by have:=HVR.out.2;omega)
     have gl1: ∀ p:Gro w7,(Instr.lookup 258 (.map (some w1.heap.size)) (.string (yav (pkV os x.1))) false).run Tryz.prog p.world= .ok (.map (some y0.ib)) p.world:=fun p=>by
      have h:=(HG7.out.later p.below).cm.look Tryz.underlying9 Tryz.underlying258 (z:= .map none) (Tryz.zeroValue240 _) (yav (pkV os x.1)) hks
      rw [<-HKY.out,HG7.out.c y0 (qP HI0.out)] at h
      rw [<-HKY.out]
      exact h
     have gl2: ∀ p:Gro w7,(Instr.lookup 240 (.map (some y0.ib)) (.string (yav (pkV ps x.1))) true).run Tryz.prog p.world= .ok (.tuple #[(y0.g (yav (pkV ps x.1)).data.toList).getD (.int .i64 0), .bool (y0.g (yav (pkV ps x.1)).data.toList).isSome]) p.world:=fun p=>((HG7.out.later p.below).gl i y0 HI0.out qH).map.lookOk Tryz.underlying9 Tryz.underlying240 (z:= .int .i64 0) (Tryz.zeroValue3 _) (yav (pkV ps x.1)) hks2
     have hrow: ¬ ∃ z∈y0.tab,z.1=pkV ps x.1:=by rw [HY0.out];rintro ⟨z,hz,_⟩;cases hz
     have hrn2: ∀ z∈y0.tab,z.1≠pkV ps x.1:=fun z hz e=>hrow ⟨z,hz,e⟩
     have HNEW:=qL hrn2
     have hgn:y0.g (yav (pkV ps x.1)).data.toList=none:=(HG7.out.gl i y0 HI0.out qH).pos.2 _ fun z hz e=>hrn2 z hz (((HG7.out.gl i y0 HI0.out qH).rv z hz).inj HVR.out hpp12 e)
     simp only [hgn,Option.getD_none,Option.isSome_none] at gl2
     obtain ⟨A8,c8,hv8,hc8,hr8,hfr8⟩:=(HG7.out.gl i y0 HI0.out qH).own.rd
     have HV8:=qL hv8
     have htl:y0.tab.length<=4096:=HTL.out
     clear hr8 hfr8 hv8 hgn hrow hrn2
     go_wp2_with fail
     refine zai qG qG ?_;(repeat (go_big_quiet_step ((go_at_call 211;exact Calls.gro_of (ymi A2 pN c2 (pkV ps x.1) _ (HR7.out.later (Gro.below _)) hpp12 HVR.out.1)))));refine wpQuiet_nil ?_;intro _ hw';obtain ⟨pq,hw''⟩:=hw';subst hw'';have hbq:=pq.below;revert hbq;generalize pq.world=wq;intro hbq
     have HB8:=qL (btr HB7.out hbq)
     have HG8:=qL (HG7.out.later hbq)
     have q08:=qM hbq q07
     have q18:=qM hbq q17
     have HTG8:=qL (HTG7.out.later hbq)
     have HR8:=qL (HR7.out.later hbq)
     have HT8:Hid (0<pN-> ∀ a,A2=some a->w1.heap.size+2<=a.block/\Tag wq a.block 46):=qL fun h0 a e=>⟨(HT7.out h0 a e).1,(HT7.out h0 a e).2.later hbq⟩
     have HQS:=qL hbq.size
     clear gl1 gl2 hbq q07 q17
     have HLK:Hid (∀ W:World,Below wq.heap.size wq W->(Instr.lookup 258 (.map (some w1.heap.size)) (.string (yav (pkV os x.1))) false).run Tryz.prog W= .ok (.map (some y0.ib)) W/\(Instr.lookup 218 (.map (some (w1.heap.size+1))) (.string (yav (pkV os x.1))) false).run Tryz.prog W= .ok (.slice A8 y0.tab.length c8) W):=qL fun W hW=>by
      have hG:=HG8.out.later hW
      have h1:=hG.cm.look Tryz.underlying9 Tryz.underlying258 (z:= .map none) (Tryz.zeroValue240 _) (yav (pkV os x.1)) hks
      have h2:=hG.om.look Tryz.underlying9 Tryz.underlying218 (z:= .slice none 0 0) (Tryz.zeroValue29 _) (yav (pkV os x.1)) hks
      rw [<-HKY.out,hG.c y0 (qP HI0.out)] at h1
      rw [<-HKY.out,hG.o y0 (qP HI0.out),HV8.out] at h2
      rw [<-HKY.out]
      exact ⟨h1,h2⟩
     have HLP:Hid (∀ W W':World,Below wq.heap.size wq W->W.grownBy W' (some y0.ib)->(Instr.lookup 258 (.map (some w1.heap.size)) (.string (yav (pkV os x.1))) false).run Tryz.prog W'= .ok (.map (some y0.ib)) W'/\(Instr.lookup 218 (.map (some (w1.heap.size+1))) (.string (yav (pkV os x.1))) false).run Tryz.prog W'= .ok (.slice A8 y0.tab.length c8) W'):=qL fun W W' hW hg=>by
      have hG:=HG8.out.later hW
      have hm:=qP HI0.out
      have hf:=hG.pf.far y0 hm
      have h1:=(hG.cm.kept hg (fun e=>by injection e with e;exact hf.1 e.symm)).look Tryz.underlying9 Tryz.underlying258 (z:= .map none) (Tryz.zeroValue240 _) (yav (pkV os x.1)) hks
      have h2:=(hG.om.kept hg (fun e=>by injection e with e;exact hf.2 e.symm)).look Tryz.underlying9 Tryz.underlying218 (z:= .slice none 0 0) (Tryz.zeroValue29 _) (yav (pkV os x.1)) hks
      rw [<-HKY.out,hG.c y0 hm] at h1
      rw [<-HKY.out,hG.o y0 hm,HV8.out] at h2
      rw [<-HKY.out]
      exact ⟨h1,h2⟩
     have HMI:=qL (HG8.out.gl i y0 HI0.out qH).map
     have HLD1:=qL (HLK.out _ (Below.drew (za0 wq))).1
     have HLD2:=qL (HLK.out _ (Below.drew (za0 wq))).2
     have hNx:(2*k+1)<maxLen:=by unfold maxLen;omega
     go_wp2_with fail
     have HKC:=qL (ymi A2 pN c2 (pkV ps x.1) wq.drew (HR8.out.later (Below.drew (za0 wq))) hpp12 HVR.out.1)
     have HKN:Hid (∀ W:World,Below wq.drew.heap.size wq.drew W->Below wq.heap.size wq W):=qL fun W h=>zap h
     have hd1:=HLD1.out
     have hd2:=HLD2.out
     go_region_with (go_at_call 211;refine HKC.out.mono ?_;rintro e wk ⟨rfl,hbk⟩;have hbk:=HKN.out _ hbk;have hk1:=(HLK.out _ hbk).1;have hk2:=(HLK.out _ hbk).2;obtain ⟨wp,hput,hmp,hgp⟩:=(HMI.out.later hbk).put Tryz.underlying9 Tryz.underlying240 hNx (yav (pkV ps x.1)) hks2 (.int .i64 (y0.tab.length:Nat)))
     all_goals
      have HBK:=qL hbk
      have HGP:=qL hgp
      have HMP:=qL hmp
      have hp1:=(HLP.out _ _ hbk hgp).2
      have hneb:some wr.heap.size≠some y0.ib:=fun e=>by injection e with e;exact HMI.out.isMap.ne HTG8.out e.symm
      have q1p:=hgp.cell (qM hbk q18) hneb
      have HFM:Hid (0<pN-> ∀ a,A2=some a->some a.block≠some y0.ib):=qL fun h0 a e e2=>by injection e2 with e2;exact HMI.out.isMap.ne (HT8.out h0 a e).2 e2.symm
      have HRA:Hid (rVal (wp.alloc (.cells #[.slice A2 pN c2, .int .i64 x.2] 65)) A2 pN (pkV ps x.1)):=qL ((Fl.kept (HR8.out.later hbk) hgp (fun h0 a e=>HFM.out h0 a e)).later (zae _ _))
      have HTA:Hid (0<pN-> ∀ a,A2=some a->w1.heap.size+2<=a.block/\Tag (wp.alloc (.cells #[.slice A2 pN c2, .int .i64 x.2] 65)) a.block 46):=qL fun h0 a e=>⟨(HT8.out h0 a e).1,(((HT8.out h0 a e).2.later HBK.out).kept HGP.out (HFM.out h0 a e)).later (zae _ _)⟩
      have HOA:Hid (ownD (ycs (w1.heap.size+2)) (wp.alloc (.cells #[.slice A2 pN c2, .int .i64 x.2] 65)) (w1.heap.size+2) (.slice A8 y0.tab.length c8) y0.tab.length y0.tab):=qL (by
       have h:=HG8.out.own_at HI0.out HBK.out HGP.out (zae wp (.cells #[.slice A2 pN c2, .int .i64 x.2] 65))
       rw [HV8.out] at h
       exact h)
      have HFF:Hid (yau [(A2,pN)] (Value.slice A8 y0.tab.length c8).ownBlock):=qL fun p hp h0 ad e e2=>by
       simp at hp
       subst hp
       rw [<-HV8.out] at e2
       exact Tag.ne ((HG8.out.gl i y0 HI0.out qH).tag _ e2.symm) (HT8.out h0 ad e).2 (by decide) rfl
      have HSZP:Hid (w1.heap.size+2<=wp.heap.size):=qL (by have h1:=hszG;have h2:=HNS.out;have h3:=HQS.out;have h4:=HBK.out.size;have h5:=HGP.out.size;omega)
      have hszp:w1.heap.size+2<=(wp.alloc (.cells #[.slice A2 pN c2, .int .i64 x.2] 65)).heap.size:=qR HSZP.out (zae _ _).size
      have hnl:y0.tab.length<1000000:=by omega
      have HV0:Hid (∀ b,(Value.slice A8 y0.tab.length c8).ownBlock=some b->w1.heap.size<=b):=qL fun b e=>by have:=(HOA.out.lt b e).1;omega
      have HBP:Hid (Below w1.heap.size w1 wp):=qL (zaf (v:= .slice (some ⟨y0.ib,0,none⟩) 0 0) (btr HB8.out hbk) hgp (fun q e=>by cases e;have h:=HG8.out.pf.lo y0 (qP HI0.out);show w1.heap.size<=y0.ib;omega))
      clear hbk hgp hmp hk1 hk2 hput hd1 hd2 q18 q08 hneb
      go_wp2_with (at_builtin;refine zaq _ rfl _ _ rfl PE HOA.out ⟨_,0,none⟩ ⟨A2,pN,c2,x.2⟩ (pkV ps x.1,x.2) rfl rfl (zan _ _ _ _ _ _) ⟨⟨HRA.out,rfl⟩,HTA.out⟩ HFF.out hnl hszp ?_;intro v' w' hown' hgrow hat;obtain ⟨wz,hput2,hmz,hgz⟩:=(HG8.out.om_at HI0.out HBK.out HGP.out (zae wp (.cells #[.slice A2 pN c2, .int .i64 x.2] 65)) (by rw [HV8.out];exact hgrow)).put Tryz.underlying9 Tryz.underlying218 hNx (yav (pkV os x.1)) hks v')
      have HPU:=qL (HG8.out.push (e:=x) hon hpp12 HI0.out HKY.out HVR.out HNEW.out HBK.out HMP.out HGP.out (zae wp (.cells #[.slice A2 pN c2, .int .i64 x.2] 65)) hown' (by rw [HV8.out];exact hgrow) (by rw [HV8.out];exact hat) (by rw [HKY.out];exact hmz) hgz)
      have HGF:=qL (show ∃ l' fo',GS Tryz.prog wz (w1.heap.size+2) (2*(k+1)) m1 pN w1.heap.size (w1.heap.size+1) os ps (u.take (k+1)) l' fc2 fo' from ⟨_,_,by rw [HTK.out];exact HPU.out.mono qF⟩)
      have HBF:Hid (Below w1.heap.size w1 wz):=qL (zaf (v:= .slice (some ⟨w1.heap.size+1,0,none⟩) 0 0) (zaf (HBP.out.alloc HBP.out.size _) hgrow HV0.out) hgz (fun q e=>by cases e;show w1.heap.size<=w1.heap.size+1;omega))
      have hszf:w1.heap.size+2<=wz.heap.size:=qR hszp (qR hgrow.size hgz.size)
      clear hown' hgrow hat hmz hgz hp1 q1p
      go_wp2
      go_roundw
      case rel=>
       obtain ⟨l',fo',hg⟩:=HGF.out
       exact ⟨k+1,_,_,_,by omega,by go_num,HBF.out,hszf,qL hg⟩
      case measure=>simp [intOf];omega
   ·have HNULL:=qL hnul
    rw [hnul] at HNU
    clear hnul
    go_wp2_with fail
    refine HNU.out.mono ?_
    rintro e w3 ⟨rfl,hb3⟩
    have HB3:=qL (btr HBW.out (btr HB2.out hb3))
    have HGF:Hid (GS Tryz.prog w3 (w1.heap.size+2) (2*(k+1)) m1 pN w1.heap.size (w1.heap.size+1) os ps (u.take (k+1)) l fc fo):=qL (by
     rw [HTK.out]
     exact ((HGS0.out.later (btr HB2.out hb3)).null HNULL.out).mono qF)
    have hszf:w1.heap.size+2<=w3.heap.size:=qR hsz (btr HB2.out hb3).size
    clear hb3 q0 q1
    go_wp2
    go_roundw
    case rel=>exact ⟨k+1,l,fc,fo,by omega,by go_num,HB3.out,hszf,HGF⟩
    case measure=>simp [intOf];omega
  ·obtain rfl:k=rN:=by omega
   have HTT:Hid (u.take k=u):=qL (List.take_of_length_le (by have:=LT.out;omega))
   have HRD:Hid (MatRd Tryz.prog wr (w1.heap.size+1) (2*k) os.length (fun k=>yff os ps k u)):=qL (by
    have h:=HGS0.out.read qF
    rw [HTT.out] at h
    rw [HOL.out]
    exact h)
   have HBF:=qL (btr HB1.out hbw)
   go_wp2
   go_ret
   exact ⟨_,_,rfl,HRD.out,HBF.out⟩
end
end Go.Proofs.YthcalfeoejdcgaaGreatDoor
