import Derived.KernelRfl
import Derived.Test.YthcalfeoejdcgaaGreatDoorK05
namespace Go.Proofs.YthcalfeoejdcgaaGreatDoor
set_option linter.unusedSimpArgs false
set_option linter.unusedVariables false
set_option maxRecDepth 100000
set_option maxHeartbeats 20000000
section
section
open Go.RowKit Go.RowKit
def yhj (l:List UInt8):Value:= .string ⟨⟨l⟩⟩
def syms :List Value:= [[43,43],[60,61],[62,61],[33,61],[40],[41],[44],[59],[58],[124],[61],[43],[45],[42],[47],[37],[60],[62]].map yhj
def wrds :List Value:= [[97,110,100],[111,114],[110,111,116],[110,117,108,108],[116,114,117,101],[102,97,108,115,101],[98,121],[115,101,108,102]].map yhj
def usedc :List Value:= [1,0,0,0,0,0,0,0,0,1,0,0,0,1,0,0,1,0,0,0,1,1,1,1,0,1,1,1,1,0,1,1,1,0,0,1,1,1,0,0,1,0,0,0,0,1,0,0,0,0,0,0,0,0,0,0,1,0,1,0,0,1,1,1,0].map fun n=> .bool (Nat.beq n 1)
def h0 :Tr AObj:=((((((Tr.leaf:Tr AObj).set yad 0 (some ⟨false, .cells 42 1 [.slice (some ⟨64,0,none⟩) 18 18]⟩)).set yad 4 (some ⟨false, .cells 42 1 [.slice (some ⟨65,0,none⟩) 8 8]⟩)).set yad 2 (some ⟨false, .cells 4 1 usedc⟩)).set yad 64 (some ⟨false, .cells 9 1 syms⟩)).set yad 65 (some ⟨false, .cells 9 1 wrds⟩))
def s0 :ASt:=⟨h0,66,[]⟩
def txt :Value:=yhj [102,114,111,109,32,111,114,100,101,114,115,32,124,32,119,104,101,114,101,32,105,100,32,62,32,48]
def yoz :Value:= .slice none 0 0
def Yd4 :AObj:=⟨true, .cells 44 6 [.int .i64 0,yhj [111,114,100,101,114,115],yoz,yoz,yoz,yoz, .int .i64 1,yhj [],yoz,yoz,yoz, .slice (some ⟨201,0,none⟩) 3 3]⟩
def Yd3 :AObj:=⟨true, .cells 48 6 [.int .i64 0, .int .i64 2, .int .i64 0,yhj [],yhj [], .int .i64 0, .int .i64 1, .int .i64 0, .int .i64 0,yhj [],yhj [105,100], .int .i64 0, .int .i64 12, .int .i64 0, .int .i64 0,yhj [],yhj [], .int .i64 0]⟩
def ans36 :Ans where
 args:= [txt]
 g:=h0
 ids:= [0,2,4,64,65]
 next:=76
 v:= .tuple ⟨[.slice (some ⟨226,0,none⟩) 2 2, .int .i64 0, .int .i64 0]⟩
 nh:=((Tr.leaf:Tr AObj).set yad 201 (some Yd3)).set yad 226 (some Yd4)
 nids:= [201,226]
 next2:=260
def ymm (x:Option (Value × ASt)):Option (Value × Nat × Option AObj × Option AObj):=match x with
 |some (v,s)=>some (v,s.next,s.heap.get 201,s.heap.get 226)
 |none=>none
theorem Yh0 :ymm ((xR 1000).call 36 [txt] ⟨h0,76,[]⟩)=some (ans36.v,260,some Yd3,some Yd4):=by kernel_rfl
theorem zec (b:Nat):h0.get b=if b=65 then some ⟨false, .cells 9 1 wrds⟩ else if b=64 then some ⟨false, .cells 9 1 syms⟩ else if b=2 then some ⟨false, .cells 4 1 usedc⟩ else if b=4 then some ⟨false, .cells 42 1 [.slice (some ⟨65,0,none⟩) 8 8]⟩ else if b=0 then some ⟨false, .cells 42 1 [.slice (some ⟨64,0,none⟩) 18 18]⟩ else none:=by
 unfold h0
 rw [Tr.get_set yad _ 65 _ (by decide) b,Tr.get_set yad _ 64 _ (by decide) b,Tr.get_set yad _ 2 _ (by decide) b,Tr.get_set yad _ 4 _ (by decide) b,Tr.get_set yad _ 0 _ (by decide) b,Tr.get_leaf]
theorem yi8 :ans36.Ok (xR 1000) 36 where
 gi b x hb:=by
  have hb:h0.get b=some x:=hb
  rw [zec] at hb
  show b∈ [0,2,4,64,65]
  by_cases h1:b=65
  ·simp [h1]
  ·by_cases h2:b=64
   ·simp [h2]
   ·by_cases h3:b=2
    ·simp [h3]
    ·by_cases h4:b=4
     ·simp [h4]
     ·by_cases h5:b=0
      ·simp [h5]
      ·rw [if_neg h1,if_neg h2,if_neg h3,if_neg h4,if_neg h5] at hb;cases hb
 ni b hb:=by
  have hb:b∈ [201,226]:=hb
  simp only [List.mem_cons,List.not_mem_nil,or_false] at hb
  rcases hb with rfl|rfl
  ·exact ⟨by decide,by decide,Yd3,rfl⟩
  ·exact ⟨by decide,by decide,Yd4,rfl⟩
 run:=by
  have h:=Yh0
  unfold ymm at h
  split at h
  ·rename_i v s hx
   simp only [Option.some.injEq,Prod.mk.injEq] at h
   obtain ⟨h1,h2,h3,h4⟩:=h
   refine ⟨s,?_,h2,fun b hb=>?_⟩
   ·rw [<-h1];exact hx
   ·have hb:b∈ [201,226]:=hb
    simp only [List.mem_cons,List.not_mem_nil,or_false] at hb
    rcases hb with rfl|rfl
    ·exact h3
    ·exact h4
  ·cases h
end
section
open Go.RowKit Go.RowKit
noncomputable def xT2 : Tbl := { xT with sp := fun f => cond (Nat.beq f 36) (some ans36.sp) none }
theorem ym1 (E:Ev):xT2.Ok E Tryz.prog:=⟨(zg2 E).ty,(zg2 E).fn,(zg2 E).eqs,(zg2 E).mixed,(zg2 E).ex,(zg2 E).hint,(zg2 E).hlen⟩
theorem yqe (E:Ev):yqx E Tryz.prog xT2:=fun f g hf args s v s' hx D ρ w args' h hr=>by
 obtain ⟨h1,h2⟩:=zax hf
 have h1:=qU h1
 subst h1
 cases h2
 exact yq4 yi8 (zir E 1000) hx h hr
noncomputable def xR2 (n:Nat):Rn:=rn xT2 (yhr xT2) n
theorem Ycn (E:Ev)(n:Nat):ybl E Tryz.prog (xR2 n):=(ykn (ym1 E) (zhr (ym1 E)) (yqe E) n).2
def isT :Option (Value × ASt)->Bool|some (.bool true,_)=>true|_=>false
theorem Yhz :isT ((xR2 1000).call 13 [] s0)=true:=by kernel_rfl
end
section
open Go.RowKit Go.RowKit
def tDe (k:Nat):Bool:=Nat.ble (k % 1024) 31
def chD :Nat->Nat->Value:=fun i d=> .chan (some (i*1024+d))
def sp62 (cols:Nat->List Col)(args:List Value)(s:ASt):Option (Value × ASt):=match args with
 | [.agg ⟨[.string _,co, .slice none 0 0, .chan (some k)]⟩]=>cond (Nat.ble (k % 1024) 3&&yak 3 s co (flat yam (cols (k % 1024)))) (some (.int .i64 0,s)) none
 |_=>none
def Ydc (C:List (List Col))(args:List Value)(s:ASt):Option (Value × ASt):=match args with
 | [co]=>cond (C.any fun cs=>yak 3 s co (flat yam cs)) (some (.int .i64 0,s)) none
 |_=>none
def yk6 (args:List Value)(s:ASt):Option (Value × ASt):=match args with
 | [.chan (some k)]=>cond (tDe k) (some (chD s.next (k % 1024),s.opq)) none
 |_=>none
def Ydb (S:Nat->Nat->Bool)(args:List Value)(s:ASt):Option (Value × ASt):=match args with
 | [.chan (some a), .chan (some b)]=>cond (tDe a&&tDe b&&S (a % 1024) (b % 1024)) (some (.bool true,s)) none
 |_=>none
def Yda (args:List Value)(s:ASt):Option (Value × ASt):=match args with
 | []=>cond ([0,2,4,64,65].all fun b=>eqO (s.heap.get b) (h0.get b)) (some (.bool true,s)) none
 |_=>none
end
section
open Go.RowKit Go.RowKit
section
variable {E:Ev}{D:Nat->Prop}{ρ:Nat->Pl}{s:ASt}{w:World}
theorem zij (h:Sim E D ρ s w)(hro: ∀ b o,s.heap.get b=some o->o.wr=false)(hn:s.next+1<2 ^ yad){p:Pl}{b:ABody}(hb:Bd E (ydf D s.next) (ych ρ s.next p) w p false b)(hi:p.blk<w.heap.size)(hp:p.snap=ycu):
 Sim E (ydf D s.next) (ych ρ s.next p) ⟨s.heap.set yad s.next (some ⟨false,b⟩),s.next+1,s.tc⟩ w/\(∀ b' o,(s.heap.set yad s.next (some ⟨false,b⟩)).get b'=some o->o.wr=false):=by
 have hget: ∀ j,(s.heap.set yad s.next (some ⟨false,b⟩)).get j=if j=s.next then some ⟨false,b⟩ else s.heap.get j:=Tr.get_set yad s.heap s.next (some ⟨false,b⟩) hn
 have ro: ∀ b' o,(s.heap.set yad s.next (some ⟨false,b⟩)).get b'=some o->o.wr=false:=fun b' o ho=>by
  rw [hget] at ho
  split at ho
  ·cases ho;rfl
  ·exact hro b' o ho
 refine ⟨⟨fun i o hi=>?_,fun i hi=>?_,fun i o hi=>?_,fun i o hi=>?_,fun i j o o' hi hj hne hwr=>?_,fun g hg=> .inl (h.gl g hg),fun g hg=>?_,fun i k ob hk=>?_⟩,ro⟩
 ·rw [zav,hget] at hi
  split at hi
  ·rename_i e;exact .inr e
  ·exact .inl (h.lt i o hi)
 ·show i<s.next+1
  rcases hi with hi|hi
  ·have:=h.dn i hi;omega
  ·omega
 ·rw [zav,hget] at hi
  split at hi
  ·rename_i e
   cases hi
   rw [e,zao]
   exact hb
  ·rw [zam (h.low i o hi)]
   exact (h.bd i o hi).kept (fun j hj=> .inl hj) (fun j hj=>zam (h.dn j hj)) (fun _=>rfl)
 ·rw [zav,hget] at hi
  split at hi
  ·rename_i e
   rw [e,zao];assumption
  ·rw [zam (h.low i o hi)]
   exact h.inh i o hi
 ·have:=ro i o hi
  rw [this] at hwr;cases hwr
 ·rw [zam (h.dn g (h.gl g hg))]
  exact h.glob g hg
 ·have hk2:(ρ i).snap k=some ob:=zen hp i k ob hk
  exact ⟨(h.prot i k ob hk2).1,fun b' o ho hwr=>by have:=ro b' o ho;rw [this] at hwr;cases hwr⟩
theorem zii (h:Sim E D ρ s w)(hro: ∀ b o,s.heap.get b=some o->o.wr=false){p:Pl}(hp: ∀ k ob,p.snap k=some ob->w.heap[k]?=some ob):Sim E (ydf D s.next) (ych ρ s.next p) s.opq w:=by
 have old: ∀ i o,s.heap.get i=some o->ych ρ s.next p i=ρ i:=fun i o hi=>zam (h.low i o hi)
 refine ⟨fun i o hi=> .inl (h.lt i o hi),fun i hi=>?_,fun i o hi=>?_,fun i o hi=>?_,fun i j o o' hi hj hne hwr=>?_,fun g hg=> .inl (h.gl g hg),fun g hg=>?_,fun i k ob hk=>?_⟩
 ·show i<s.next+1
  rcases hi with hi|hi
  ·have:=h.dn i hi;omega
  ·omega
 ·rw [old i o hi]
  exact (h.bd i o hi).kept (fun j hj=> .inl hj) (fun j hj=>zam (h.dn j hj)) (fun _=>rfl)
 ·rw [old i o hi];exact h.inh i o hi
 ·have:=hro i o hi
  rw [this] at hwr;cases hwr
 ·rw [zam (h.dn g (h.gl g hg))];exact h.glob g hg
 ·have no: ∀ b o,s.opq.heap.get b=some o->o.wr=true->(ych ρ s.next p b).blk≠k:=fun b o ho hwr=>by have:=hro b o ho;rw [this] at hwr;cases hwr
  by_cases e:i=s.next
  ·subst e
   rw [zao] at hk
   exact ⟨hp k ob hk,no⟩
  ·have e2:ych ρ s.next p i=ρ i:=if_neg e
   rw [e2] at hk
   exact ⟨(h.prot i k ob hk).1,no⟩
theorem zja {d i:Nat}(hd:d<1024)(hD:D i){v:Value}(h1:v.oneCell'=true)(he:E d v (ρ i).snap):Rv E D ρ (.chan (some (i*1024+d))) v:=by
 have e1:(i*1024+d) / 1024=i:=by omega
 have e2:(i*1024+d) % 1024=d:=by omega
 exact .opq _ v (by rw [e1];exact hD) h1 (by rw [e1,e2];exact he)
end
section
variable {E:Ev}{P:Program}{T:Tbl}{r:Rn}
theorem zb1 {D D':Nat->Prop}{s s':ASt}{ρ ρ':Nat->Pl}{w w':World}(hro: ∀ b o,s.heap.get b=some o->o.wr=false)(htc:s.tc= [])(k:Ex D s ρ w D' s' ρ' w'):Below w.heap.size w w':=
 ⟨k.os,k.tape,k.output,k.size,fun b hb=>k.frame b hb fun c hc o ho=>by
  have:=k.twr c o hc (by rw [htc];simp) ho
  rw [hro c o ho] at this;cases this⟩
def ydo (T:Tbl)(res:List ResultVar):Option (AEx × Tm × ASt)->Bool
 |some (ex,tm,s)=>(match ex with| .exit _=>false|_=>true)&&(match yja T tm s res with|some [.bool true]=>true|_=>false)
 |none=>false
theorem zpz (hT:T.Ok E P)(hK:yec E P r){fn:Func}{c:Code}{sz:Nat}{tm:Tm}{s:ASt}(hx:ydo T fn.results.toList (r.code sz c tm s)=true){D:Nat->Prop}{ρ:Nat->Pl}{a:Act}{w:World}(hst:St E D ρ sz s tm a w){Q:Ending->World->Prop}(hQ: ∀ D' s' ρ' w',Ex D s ρ w D' s' ρ' w'->Q (.returned (.bool true)) w'):c.wp P (bodyPost P fn Q) a w:=by
 unfold ydo at hx
 split at hx
 ·rename_i ex tm' s' hcode
  simp only [Bool.and_eq_true] at hx
  obtain ⟨h1,h2⟩:=hx
  split at h2
  ·rename_i hres
   refine (hK _ c _ s ex tm' s' hcode D ρ _ w hst _ fun D1 ρ1 a1 w1 g1 g2=>?_).wp
   obtain ⟨v',j1,j2⟩:=zhl hT g1.sim g1.tr hres
   have e:v'= .bool true:=by
    have j2:Rv E D1 ρ1 (.bool true) v':=j2
    cases j2;rfl
   subst e
   cases ex with
   |normal=>exact ⟨g1.defers,_,j1,hQ D1 s' ρ1 w1 g2⟩
   |exit id=>cases h1
   |ret=>exact ⟨g1.defers,_,j1,hQ D1 s' ρ1 w1 g2⟩
  ·cases h2
 ·cases hx
end
end
section
open Go.RowKit Go.RowKit
def oC :List Col:= [⟨⟨#[105,100]⟩,2,false⟩,⟨⟨#[99]⟩,3,false⟩,⟨⟨#[97,116]⟩,4,false⟩,⟨⟨#[118]⟩,2,true⟩]
def cC :List Col:= [⟨⟨#[99]⟩,3,false⟩,⟨⟨#[97,116]⟩,4,false⟩,⟨⟨#[114]⟩,3,true⟩,⟨⟨#[107]⟩,2,false⟩]
def nmO :ByteArray:=⟨#[111,114,100,101,114,115]⟩
def nmC :ByteArray:=⟨#[99,117,115,116,111,109,101,114,115]⟩
def nmR :ByteArray:=⟨#[114,101,116,117,114,110,115]⟩
def Yhv (nm:ByteArray)(ci:Nat)(k:Nat):List Value:= [.string nm, .slice (some ⟨ci,0,none⟩) 4 4, .slice none 0 0, .chan (some k)]
def yzc :ABody:= .cells 31 4 (Yhv nmO 69 (66*1024+0)++Yhv nmC 70 (67*1024+1)++Yhv nmR 69 (68*1024+2))
def hF :Tr AObj:=(((h0.set yad 69 (some ⟨false, .cells 56 3 (flat yam oC)⟩)).set yad 70 (some ⟨false, .cells 56 3 (flat yam cC)⟩)).set yad 71 (some ⟨false,yzc⟩))
def sF :ASt:=⟨hF,72,[]⟩
def ba (l:List UInt8):ByteArray:=⟨⟨l⟩⟩
def itm (nm co:ByteArray)(f:Int):Itm:=⟨nm,f,co,0,none,0,0⟩
def sAt :ByteArray:=ba [97,116]
def sV :ByteArray:=ba [118]
def sC :ByteArray:=ba [99]
def sK :ByteArray:=ba [107]
def sT :ByteArray:=ba [116]
end
end
end Go.Proofs.YthcalfeoejdcgaaGreatDoor
