import Derived.Laws.Small
import Derived.Lib.ConvBytes
import Derived.Test.YthcalfeoejdcgaaGreatDoorK00
namespace Go.Proofs.YthcalfeoejdcgaaGreatDoor
set_option linter.unusedSimpArgs false
set_option linter.unusedVariables false
set_option maxRecDepth 100000
set_option maxHeartbeats 20000000
section
open Go.RowKit
section
variable {E:Ev}{s s1:ASt}{ρ:Nat->Pl}{w w1:World}{P:Program}{D D1:Nat->Prop}{t:TypeId}{i:TI}
def ym7 (s:ASt)(e:TypeId)(v:Value):Option (Value × ASt):=
 match yq3 s e 1 (yar v) with
 |some s1=>some (.pointer (some ⟨s.next,0,none⟩),s1)
 |none=>none
theorem Runs.box {e:TypeId}{v v' r:Value}(hb:ym7 s e v=some (r,s1))(h:Sim E D ρ s w)(hv:Rvs E D ρ (yar v) v'.cells.toList):Runs E P D s s1 ρ w (Instr.box e v') r:=by
 unfold ym7 at hb
 split at hb
 ·rename_i s2 hs
  cases hb
  obtain ⟨k1,k2,k3⟩:=znv hs h hv
  refine ⟨.pointer (some ⟨w.heap.size,0,none⟩),_,_,_,?_,?_,k2,k3⟩
  ·simp [Instr.box,newVar,newRow]
  ·have:=Rv.ptr (E:=E) (D:=ydf D s.next) (ρ:=ych ρ s.next (ya8 (w.heap.size) 0 (1) ((yar v).length))) s.next 0 (.inr rfl)
   rwa [zao] at this
 ·cases hb
theorem ym8 {e:TypeId}{v v' r:Value}(hb:ym7 s e v=some (r,s1))(h:Sim E D ρ s w)(hv:Rv E D ρ v v'):Runs E P D s s1 ρ w (Instr.box e v') r:=by
 have h1:(yar v).all yki=true:=by
  unfold ym7 at hb
  split at hb
  ·rename_i s2 hs;exact (zas hs).1
  ·cases hb
 exact Runs.box hb h (zfy hv h1)
theorem znl (hi:TyOk P t i){r:Value}(hb:ym7 s t i.zero=some (r,s1))(hc:yay i.zero=true)(h:Sim E D ρ s w):Runs E P D s s1 ρ w (Instr.alloc t true (.tuple #[])) r:=by
 obtain ⟨r',w1,ρ1,D1,h1,h2⟩:=Runs.box (P:=P) hb h (zdy hc (.inr trivial))
 refine ⟨r',w1,ρ1,D1,?_,h2⟩
 rw [<-h1]
 simp [Instr.alloc,hi.run_zero,Instr.box]
def yee (s:ASt)(i:TI)(a:Value):Option Value:=
 match a with
 | .pointer (some ⟨b,o,none⟩)=>match yhv s b o (cond (yi1 i.desc) i.size 1) with
  |some l=>cond (yi1 i.desc) (some (.agg ⟨l⟩)) (match l with
   | [v]=>some v
   |_=>none)
  |none=>none
 |_=>none
theorem znt (hi:TyOk P t i){a a' r:Value}(hl:yee s i a=some r)(h:Sim E D ρ s w)(ha:Rv E D ρ a a'):Runs E P D s s ρ w (Instr.loadAt t a') r:=by
 unfold yee at hl
 split at hl
 ·rename_i b o
  split at hl
  ·rename_i l hld
   obtain ⟨l',k1,k2,k3⟩:=zfi hld h
   cases ha with
   |flat _ h=>cases h
   |ptr b o hb=>
    have hlen:=k1.len
    cases hd:yi1 i.desc
    ·rw [hd] at hl
     obtain ⟨v,rfl⟩: ∃ v,l= [v]:=by
      rw [hd] at k2
      match l,k2 with
      | [v],_=>exact ⟨v,rfl⟩
     cases hl
     cases k1 with
     |cons _ v' _ m hv ht=>
      have hc:=k3 0 v' rfl
      rw [zb2,Nat.add_zero] at hc
      refine .quiet h (r':=v') ?_ hv
      simp [Instr.loadAt,Instr.sureAddr,loadVar,zc0 hi.und,hd,run_load,hc]
    ·rw [hd] at hl
     cases hl
     refine .quiet h (r':= .agg ⟨l'⟩) ?_ (.agg _ _ k1)
     have hsz:i.size=l'.length:=by rw [hlen,k2,hd];rfl
     simp only [Instr.loadAt,Instr.sureAddr,loadVar,Sem.run_bind,Sem.run_pure,Result.andThen_ok,zc0 hi.und,hd,if_true,hi.run_size,hsz]
     rw [run_loadCells_list w _ l' k3]
     rfl
  ·cases hl
 ·cases hl
def yfz (s:ASt)(i:TI)(a v:Value):Option ASt:=
 match a with
 | .pointer (some ⟨b,o,none⟩)=>cond (Nat.beq (yar v).length i.size) (ygr s b o (yar v)) none
 |_=>none
theorem zna (hi:TyOk P t i){a a' v v':Value}(hl:yfz s i a v=some s1)(h:Sim E D ρ s w)(ha:Rv E D ρ a a')(hv:Rv E D ρ v v'):
 ∃ w1,(Instr.storeAt t a' v').run P w= .ok () w1/\s1.next=s.next/\Sim E D ρ s1 w1/\Ex D s ρ w D s1 ρ w1:=by
 unfold yfz at hl
 split at hl
 ·rename_i b o
  obtain ⟨h1,h2⟩:=zas hl
  have h1:=qU h1
  have h3:(yar v).all yki=true:=by
   unfold ygr at h2
   split at h2
   ·have:=(zax h2).1
    simp only [Bool.and_eq_true] at this
    exact this.2
   ·cases h2
  have hc:=zfy hv h3
  cases ha with
  |flat _ h=>cases h
  |ptr b o hb=>
   obtain ⟨w1,k1,k2⟩:=zn1 (P:=P) h2 h hc
   refine ⟨w1,?_,k2⟩
   have hsz:v'.cells.size=i.size:=by
    have:=hc.len
    simp at this
    omega
   simp only [Instr.storeAt,Instr.sureAddr,storeVar,Sem.run_bind,Sem.run_pure,Result.andThen_ok,hi.run_size,hsz]
   rw [if_neg qH,k1]
 ·cases hl
def ygo (zT:Nat->Option TI)(i:TI)(x ix:Value):Option Value:=
 match ix with
 | .int _ (.ofNat k)=>match i.desc,x with
  | .slice e, .slice (some ⟨b,o,none⟩) n _=>match zT e with
   |some ei=>cond (Nat.ble (k+1) n) (some (.pointer (some ⟨b,o+k*ei.size,none⟩))) none
   |none=>none
  | .array n e, .pointer (some ⟨b,o,none⟩)=>match zT e with
   |some ei=>cond (Nat.ble (k+1) n) (some (.pointer (some ⟨b,o+k*ei.size,none⟩))) none
   |none=>none
  |_,_=>none
 |_=>none
theorem znq {zT:Nat->Option TI}(hi:TyOk P t i)(hT: ∀ t i,zT t=some i->TyOk P t i){x x' ix r:Value}(hl:ygo zT i x ix=some r)(h:Sim E D ρ s w)(hx:Rv E D ρ x x'):Runs E P D s s ρ w (Instr.indexAt t x' ix) r:=by
 unfold ygo at hl
 split at hl
 ·rename_i kk k
  split at hl
  ·rename_i e b o n c hd
   split at hl
   ·rename_i ei he
    obtain ⟨h1,h2⟩:=zax hl
    have h1:=qS h1
    cases h2
    have hei:=hT e ei he
    cases hx with
    |flat _ h=>cases h
    |slice b o n lb c hb g1 g2 g3 g4=>
     refine .quiet h (r':= .pointer (some ⟨(ρ b).blk,(ρ b).off+o+k*ei.size,none⟩)) ?_ ?_
     ·have hin:(0:Int)<=Int.ofNat k/\Int.ofNat k<(n:Int):=⟨Int.natCast_nonneg k,by show ((k:Int))<n;omega⟩
      simp only [Instr.indexAt,asIntOf,Sem.run_bind,Sem.run_pure,Result.andThen_ok,hi.run_und,hd]
      rw [if_pos hin]
      simp only [Sem.run_bind,hei.run_size,Result.andThen_ok,zb2,Sem.run_pure]
      simp
     ·have:=Rv.ptr (E:=E) (D:=D) (ρ:=ρ) b (o+k*ei.size) hb
      rwa [<-Nat.add_assoc] at this
   ·cases hl
  ·rename_i n e b o hd
   split at hl
   ·rename_i ei he
    obtain ⟨h1,h2⟩:=zax hl
    have h1:=qS h1
    cases h2
    have hei:=hT e ei he
    cases hx with
    |flat _ h=>cases h
    |ptr b o hb=>
     refine .quiet h (r':= .pointer (some ⟨(ρ b).blk,(ρ b).off+o+k*ei.size,none⟩)) ?_ ?_
     ·have hin:(0:Int)<=Int.ofNat k/\Int.ofNat k<(n:Int):=⟨Int.natCast_nonneg k,by show ((k:Int))<n;omega⟩
      simp only [Instr.indexAt,asIntOf,Sem.run_bind,Sem.run_pure,Result.andThen_ok,hi.run_und,hd,Instr.sureAddr]
      rw [if_pos hin]
      simp only [Sem.run_bind,hei.run_size,Result.andThen_ok,zb2,Sem.run_pure]
      simp
     ·have:=Rv.ptr (E:=E) (D:=D) (ρ:=ρ) b (o+k*ei.size) hb
      rwa [<-Nat.add_assoc] at this
   ·cases hl
  ·cases hl
 ·cases hl
end
def Yde (s:ByteArray)(l h:Nat):ByteArray:=⟨⟨(s.data.toList.take h).drop l⟩⟩
def yg2 :Sem Value->Option Value
 | .pure v=>some v
 |_=>none
theorem zgk {m:Sem Value}{v:Value}(h:yg2 m=some v)(P:Program)(w:World):m.run P w= .ok v w:=by
 cases m<;>cases h
 rfl
def ltB :List UInt8->List UInt8->Bool
 |_,[]=>false
 | [],_::_=>true
 |a::x,b::y=>Nat.ble (a.toNat+1) b.toNat || (Nat.beq a.toNat b.toNat&&ltB x y)
def eqB :List UInt8->List UInt8->Bool
 | [],[]=>true
 |a::x,b::y=>Nat.beq a.toNat b.toNat&&eqB x y
 |_,_=>false
theorem zkc (a b:UInt8):Nat.beq a.toNat b.toNat=(a==b):=by
 by_cases h:a=b
 ·subst h;simp
 ·have h2: ¬ a.toNat=b.toNat:=fun e=>h (UInt8.toNat_inj.1 e)
  have e1:Nat.beq a.toNat b.toNat=false:=by
   cases hb:Nat.beq a.toNat b.toNat with
   |false=>rfl
   |true=>exact absurd (qU hb) h2
  rw [e1]
  simp [h]
theorem ziz : ∀ x y:List UInt8,eqB x y=(x==y)
 | [],[]=>rfl
 | [],_::_=>rfl
 |_::_,[]=>rfl
 |a::x,b::y=>by rw [eqB,ziz x y,zkc];rfl
theorem ymn : ∀ x y:List UInt8,ltB x y=Op.bytesLess x y
 | [],[]=>rfl
 |_::_,[]=>rfl
 | [],_::_=>rfl
 |a::x,b::y=>by
  have e:Nat.ble (a.toNat+1) b.toNat=decide (a<b):=by
   by_cases h:a<b
   ·rw [decide_eq_true h];exact Nat.ble_eq_true_of_le (UInt8.lt_iff_toNat_lt.1 h)
   ·rw [decide_eq_false h]
    cases hb:Nat.ble (a.toNat+1) b.toNat with
    |false=>rfl
    |true=>exact absurd (UInt8.lt_iff_toNat_lt.2 (qS hb)) h
  rw [ltB,ymn x y,zkc,e]
  rfl
def yq8 (op:BinOp)(x y:ByteArray):Option Value:=
 let a:=x.data.toList
 let b:=y.data.toList
 match op with
 | .add=>cond (Nat.ble (a.length+b.length) 1000000) (some (.string ⟨⟨a++b⟩⟩)) none
 | .eql=>some (.bool (eqB a b))
 | .neq=>some (.bool (!eqB a b))
 | .lss=>some (.bool (ltB a b))
 | .leq=>some (.bool (ltB a b || eqB a b))
 | .gtr=>some (.bool (!(ltB a b || eqB a b)))
 | .geq=>some (.bool (!ltB a b))
 |_=>none
section
variable {E:Ev}{s s1:ASt}{ρ:Nat->Pl}{w w1:World}{P:Program}{D D1:Nat->Prop}{t:TypeId}{i:TI}
theorem ynj {op:BinOp}{x y:ByteArray}{r:Value}(h:yq8 op x y=some r):(Op.stringOp op x y).run P w= .ok r w:=by
 have e1:x.toList=x.data.toList:=ByteArray.toList_eq x
 have e2:y.toList=y.data.toList:=ByteArray.toList_eq y
 unfold yq8 at h
 unfold Op.stringOp
 rw [e1,e2]
 dsimp only at h ⊢
 cases op<;>first |(cases h;done)|(simp only [ziz,ymn] at h;cases h;rfl)|skip
 obtain ⟨h1,h2⟩:=zax h
 have h1:=qS h1
 cases h2
 have e3: ¬ (((x.size+y.size:Nat):Int)>IntKind.i64.max):=by
  have:x.size=x.data.toList.length:=(Array.length_toList (xs:=x.data)).symm
  have:y.size=y.data.toList.length:=(Array.length_toList (xs:=y.data)).symm
  show ¬ ((9223372036854775807:Int)<_)
  omega
 dsimp only
 rw [if_neg e3]
 have e4:x++y=(⟨⟨x.data.toList++y.data.toList⟩⟩:ByteArray):=by
  apply ByteArray.ext
  rw [ByteArray.data_append]
  apply Array.ext'
  simp
 rw [e4]
 rfl
def Ydp (i:TI)(eqs:Bool)(op:BinOp)(t:TypeId)(x y:Value):Option Value:=
 match x,y with
 | .int _ _, .int _ _=>yg2 (binOp op t x y)
 | .string a, .string b=>yq8 op a b
 | .bool a, .bool b=>match op,i.desc with
  | .eql, .bool=>some (.bool (a==b))
  | .neq, .bool=>some (.bool (!(a==b)))
  |_,_=>none
 | .slice none 0 0, .slice none 0 0=>match op,i.desc with
  | .eql, .slice _=>some (.bool true)
  | .neq, .slice _=>some (.bool false)
  |_,_=>none
 | .slice (some ⟨_,_,none⟩) _ _, .slice none 0 0=>match op,i.desc with
  | .eql, .slice _=>some (.bool false)
  | .neq, .slice _=>some (.bool true)
  |_,_=>none
 | .nilFunc, .nilFunc=>match op,i.desc with
  | .eql, .func _ _ _=>some (.bool true)
  | .neq, .func _ _ _=>some (.bool false)
  |_,_=>none
 | .func _ _ _, .nilFunc=>match op,i.desc with
  | .eql, .func _ _ _=>some (.bool false)
  | .neq, .func _ _ _=>some (.bool true)
  |_,_=>none
 | .map none, .map none=>match op,i.desc with
  | .eql, .map _ _=>some (.bool true)
  | .neq, .map _ _=>some (.bool false)
  |_,_=>none
 | .map (some _), .map none=>match op,i.desc with
  | .eql, .map _ _=>some (.bool false)
  | .neq, .map _ _=>some (.bool true)
  |_,_=>none
 | .agg ⟨[.int .i64 a, .int .i64 b, .string u]⟩, .agg ⟨[.int .i64 a', .int .i64 b', .string u']⟩=>cond eqs (match op with
  | .eql=>some (.bool (decide (a=a')&&(decide (b=b')&&eqB u.data.toList u'.data.toList)))
  | .neq=>some (.bool (!(decide (a=a')&&(decide (b=b')&&eqB u.data.toList u'.data.toList))))
  |_=>none) none
 |_,_=>none
def ym3 (P:Program)(t:TypeId):Prop:= ∀ (op:BinOp) (x y:Operand) (a b:Int) (u:ByteArray) (a' b':Int) (u':ByteArray) (w:World),op= .eql∨op= .neq->
 (do eqGuard op t x y (.agg #[.int .i64 a, .int .i64 b, .string u]) (.agg #[.int .i64 a', .int .i64 b', .string u']);binOp op t (.agg #[.int .i64 a, .int .i64 b, .string u]) (.agg #[.int .i64 a', .int .i64 b', .string u']):Sem Value).run P w= .ok (.bool (cond (op== .eql) (a==a'&&(b==b'&&u.toList==u'.toList)) (!(a==a'&&(b==b'&&u.toList==u'.toList))))) w
theorem zbe {k:IntKind}{n:Int}{v:Value}(h:Rv E D ρ (.int k n) v):v= .int k n:=by cases h;rfl
theorem zbk {u:ByteArray}{v:Value}(h:Rv E D ρ (.string u) v):v= .string u:=by cases h;rfl
theorem zcv {b:Bool}{v:Value}(h:Rv E D ρ (.bool b) v):v= .bool b:=by cases h;rfl
theorem zdd {v:Value}(h:Rv E D ρ (.slice none 0 0) v):v= .slice none 0 0:=by cases h;rfl
theorem zf8 {v:Value}(h:Rv E D ρ .nilFunc v):v= .nilFunc:=by cases h;rfl
theorem zf9 {v:Value}(h:Rv E D ρ (.map none) v):v= .map none:=by cases h;rfl
theorem yr5 {a b:Int}{u:ByteArray}{v:Value}(h:Rv E D ρ (.agg ⟨[.int .i64 a, .int .i64 b, .string u]⟩) v):v= .agg #[.int .i64 a, .int .i64 b, .string u]:=by
 cases h with
 |flat _ h=>cases h
 |agg _ l' h=>
  cases h with
  |cons _ x _ _ h1 h=>
   cases h with
   |cons _ y _ _ h2 h=>
    cases h with
    |cons _ z _ _ h3 h=>
     cases h
     rw [zbe h1,zbe h2,zbk h3]
theorem zkm {x y:Value}{b:Bool}(h: ∀ d,(Op.equalIn (d+1) t x y).run P w= .ok b w):(Op.equal t x y).run P w= .ok b w:=h 9999
theorem zom (hd:P.underlying t=some .bool)(a b:Bool)(d:Nat):(Op.equalIn (d+1) t (.bool a) (.bool b)).run P w= .ok (a==b) w:=by
 rw [Op.equalIn];simp only [Sem.run_bind,run_underlying hd,Result.andThen_ok];rfl
theorem zhc {e:TypeId}(hd:P.underlying t=some (.slice e))(A:Option Addr)(n c:Nat)(d:Nat):(Op.equalIn (d+1) t (.slice A n c) (.slice none 0 0)).run P w= .ok A.isNone w:=by
 rw [Op.equalIn];simp only [Sem.run_bind,run_underlying hd,Result.andThen_ok];cases A<;>rfl
theorem zoo {ps rs:Array TypeId}{v:Bool}(hd:P.underlying t=some (.func ps rs v))(fn:Fn)(a b:Array Value)(d:Nat):(Op.equalIn (d+1) t (.func fn a b) .nilFunc).run P w= .ok false w:=by
 rw [Op.equalIn];simp only [Sem.run_bind,run_underlying hd,Result.andThen_ok];rfl
theorem zop {ps rs:Array TypeId}{v:Bool}(hd:P.underlying t=some (.func ps rs v))(d:Nat):(Op.equalIn (d+1) t .nilFunc .nilFunc).run P w= .ok true w:=by
 rw [Op.equalIn];simp only [Sem.run_bind,run_underlying hd,Result.andThen_ok];rfl
theorem zl5 {k e:TypeId}(hd:P.underlying t=some (.map k e))(A:Option Nat)(d:Nat):(Op.equalIn (d+1) t (.map A) (.map none)).run P w= .ok A.isNone w:=by
 rw [Op.equalIn];simp only [Sem.run_bind,run_underlying hd,Result.andThen_ok];cases A<;>rfl
theorem zd2 {op:BinOp}{xo yo:Operand}{x y:Value}{b:Bool}(h:(Op.equal t x y).run P w= .ok b w)(hs:(∀ op,op= .eql->binOp op t x y=(do pure (.bool (<-Op.equal t x y)):Sem Value))/\(∀ op,op= .neq->binOp op t x y=(do pure (.bool (!(<-Op.equal t x y))):Sem Value)))
 (hg:(eqGuard op t xo yo x y).run P w= .ok () w) {r:Value} (hr:(op= .eql/\r= .bool b)∨(op= .neq/\r= .bool !b)):(do eqGuard op t xo yo x y;binOp op t x y:Sem Value).run P w= .ok r w:=by
 rcases hr with ⟨rfl,rfl⟩|⟨rfl,rfl⟩
 ·simp only [Sem.run_bind,hg,Result.andThen_ok,hs.1 _ rfl,h,Sem.run_pure]
 ·simp only [Sem.run_bind,hg,Result.andThen_ok,hs.2 _ rfl,h,Sem.run_pure]
theorem zcb (op:BinOp)(x y:Operand)(a b:Value)(h:(match a with| .agg _=>false| .nilIface=>false|_=>true)=true):(eqGuard op t x y a b).run P w= .ok () w:=by
 unfold eqGuard
 cases a<;>first |(cases h;done)|(cases op<;>rfl)
theorem ym6 {eqs:Bool}{op:BinOp}(hi:TyOk P t i)(he:eqs=true->ym3 P t){xo yo:Operand}{x y x' y' r:Value}(hb:Ydp i eqs op t x y=some r)(h:Sim E D ρ s w)(hx:Rv E D ρ x x')(hy:Rv E D ρ y y'):
 Runs E P D s s ρ w (do eqGuard op t xo yo x' y';binOp op t x' y') r:=by
 unfold Ydp at hb
 split at hb
 ·rename_i k n k' n'
  cases zbe hx
  cases zbe hy
  have h1:=zgk hb P w
  have hfl:ybx r=true:=by
   revert hb
   unfold binOp
   intro hb
   cases op<;>first
    |(dsimp only at hb;split at hb<;>first |(cases hb;done)|(simp only [Op.intArith,Op.intDiv,Op.intBits,Op.intCmp] at hb;first |(cases hb;rfl)|(split at hb<;>first |(cases hb;done)|(cases hb;rfl))))
    |(dsimp only at hb;simp only [Op.shift] at hb;(repeat' (split at hb))<;>first |(cases hb;rfl)|cases hb)
  refine .quiet h (r':=r) ?_ (.flat _ hfl)
  simp only [Sem.run_bind,zcb op xo yo (.int k n) (.int k' n') rfl,Result.andThen_ok,h1]
 ·rename_i a b
  cases zbk hx
  cases zbk hy
  have hfl:ybx r=true:=by
   unfold yq8 at hb
   cases op<;>first |(cases hb;done)|(cases hb;rfl)|(obtain ⟨_,h2⟩:=zax hb;cases h2;rfl)
  refine .quiet h (r':=r) ?_ (.flat _ hfl)
  simp only [Sem.run_bind,zcb op xo yo (.string a) (.string b) rfl,Result.andThen_ok]
  rw [<-ynj (P:=P) (w:=w) hb]
  unfold yq8 at hb
  cases op<;>first |(cases hb;done)|rfl
 ·rename_i a b
  cases zcv hx
  cases zcv hy
  split at hb<;>first |(cases hb;done)|skip
  all_goals
   rename_i hd
   cases hb
   have hu:=hi.und
   rw [hd] at hu
   refine .quiet h (zd2 (zkm (zom hu a b)) ⟨fun op e=>by subst e;rfl,fun op e=>by subst e;rfl⟩ (zcb _ _ _ _ _ rfl) qH) (.flat _ rfl)
 ·cases zdd hx
  cases zdd hy
  split at hb<;>first |(cases hb;done)|skip
  all_goals
   rename_i hd
   cases hb
   have hu:=hi.und
   rw [hd] at hu
   refine .quiet h (zd2 (zkm (zhc hu none 0 0)) ⟨fun op e=>by subst e;rfl,fun op e=>by subst e;rfl⟩ (zcb _ _ _ _ _ rfl) qH) (.flat _ rfl)
 ·cases zdd hy
  have hform: ∃ ad n c,x'= .slice (some ad) n c:=by
   cases hx with
   |flat _ h=>cases h
   |slice=>exact ⟨_,_,_,rfl⟩
  obtain ⟨ad,n,c,rfl⟩:=hform
  split at hb<;>first |(cases hb;done)|skip
  all_goals
   rename_i hd
   cases hb
   have hu:=hi.und
   rw [hd] at hu
   refine .quiet h (zd2 (zkm (zhc hu (some ad) n c)) ⟨fun op e=>by subst e;rfl,fun op e=>by subst e;rfl⟩ (zcb _ _ _ _ _ rfl) qH) (.flat _ rfl)
 ·cases zf8 hx
  cases zf8 hy
  split at hb<;>first |(cases hb;done)|skip
  all_goals
   rename_i hd
   cases hb
   have hu:=hi.und
   rw [hd] at hu
   refine .quiet h (zd2 (zkm (zop hu)) ⟨fun op e=>by subst e;rfl,fun op e=>by subst e;rfl⟩ (zcb _ _ _ _ _ rfl) qH) (.flat _ rfl)
 ·cases zf8 hy
  have hform: ∃ fn a b,x'= .func fn a b:=by
   cases hx with
   |flat _ h=>exact ⟨_,_,_,rfl⟩
   |func=>exact ⟨_,_,_,rfl⟩
  obtain ⟨fn,a,b,rfl⟩:=hform
  split at hb<;>first |(cases hb;done)|skip
  all_goals
   rename_i hd
   cases hb
   have hu:=hi.und
   rw [hd] at hu
   refine .quiet h (zd2 (zkm (zoo hu fn a b)) ⟨fun op e=>by subst e;rfl,fun op e=>by subst e;rfl⟩ (zcb _ _ _ _ _ rfl) qH) (.flat _ rfl)
 ·cases zf9 hx
  cases zf9 hy
  split at hb<;>first |(cases hb;done)|skip
  all_goals
   rename_i hd
   cases hb
   have hu:=hi.und
   rw [hd] at hu
   refine .quiet h (zd2 (zkm (zl5 hu none)) ⟨fun op e=>by subst e;rfl,fun op e=>by subst e;rfl⟩ (zcb _ _ _ _ _ rfl) qH) (.flat _ rfl)
 ·cases zf9 hy
  have hform: ∃ r,x'= .map (some r):=by
   cases hx with
   |flat _ h=>cases h
   |map=>exact ⟨_,rfl⟩
  obtain ⟨ad,rfl⟩:=hform
  split at hb<;>first |(cases hb;done)|skip
  all_goals
   rename_i hd
   cases hb
   have hu:=hi.und
   rw [hd] at hu
   refine .quiet h (zd2 (zkm (zl5 hu (some ad))) ⟨fun op e=>by subst e;rfl,fun op e=>by subst e;rfl⟩ (zcb _ _ _ _ _ rfl) qH) (.flat _ rfl)
 ·rename_i a b u a' b' u'
  cases yr5 hx
  cases yr5 hy
  obtain ⟨h1,h2⟩:=zas hb
  have heq:=he h1
  have e1:u.toList=u.data.toList:=ByteArray.toList_eq u
  have e2:u'.toList=u'.data.toList:=ByteArray.toList_eq u'
  split at h2<;>first |(cases h2;done)|skip
  ·cases h2
   refine .quiet h (heq .eql xo yo a b u a' b' u' w (.inl rfl)) ?_
   rw [e1,e2,ziz]
   exact Rv.flat (.bool _) rfl
  ·cases h2
   refine .quiet h (heq .neq xo yo a b u a' b' u' w (.inr rfl)) ?_
   rw [e1,e2,ziz]
   exact Rv.flat (.bool _) rfl
 ·cases hb
end
section
variable {E:Ev}{s s1:ASt}{ρ:Nat->Pl}{w w1:World}{P:Program}{D D1:Nat->Prop}{t:TypeId}{i:TI}
def yet (v:Value)(k:Nat):Option Value:=
 match v with
 | .tuple ⟨l⟩=>l[k]?
 |_=>none
theorem zj5 {v v' r:Value}{k:Nat}(hl:yet v k=some r)(h:Sim E D ρ s w)(hv:Rv E D ρ v v'):Runs E P D s s ρ w (Instr.extract v' k) r:=by
 unfold yet at hl
 split at hl
 ·rename_i l
  cases hv with
  |flat _ h=>cases h
  |tuple _ l' hr=>
   obtain ⟨u,hu,hur⟩:=hr.get hl
   refine .quiet h (r':=u) ?_ hur
   simp [Instr.extract,hu]
 ·cases hl
def yfy (i:TI)(v:Value)(k:Nat):Option Value:=
 match i.desc,v,i.flds[k]? with
 | .struct _, .agg ⟨l⟩,some (off,sz,ag)=>cond ag (some (.agg ⟨(l.drop off).take sz⟩)) l[off]?
 |_,_,_=>none
theorem zm6 (hi:TyOk P t i){v v' r:Value}{k:Nat}(hf:yfy i v k=some r)(h:Sim E D ρ s w)(hv:Rv E D ρ v v'):Runs E P D s s ρ w (Instr.field t v' k) r:=by
 unfold yfy at hf
 split at hf
 ·rename_i fs l off sz ag hd hk
  cases hv with
  |flat _ h=>cases h
  |agg _ l' hr=>
   have hlen:=hi.fl fs hd
   obtain ⟨f,hfk⟩: ∃ f,fs[k]?=some f:=by
    have:=(qO hk).1
    exact ⟨fs[k]'(by omega),Array.getElem?_eq_getElem _⟩
   obtain ⟨sz',ag',d,g,h1,h2,h3,h4,h5⟩:=hi.fs fs hd k f hfk
   rw [hk] at h1
   injection h1 with h1
   injection h1 with h6 h7
   injection h7 with h7 h8
   have hsz:(sizeOf f.type).run P w= .ok sz w:=by simp [sizeOf,typeInfo,h4,h5,h7]
   have hag:=zc0 h2 w
   rw [h3,<-h8] at hag
   cases ag
   ·obtain ⟨u,hu,hur⟩:=hr.get (show l[off]?=some r from hf)
    refine .quiet h (r':=u) ?_ hur
    have hu2:l'[f.offset]?=some u:=by rw [<-h6];exact hu
    simp [Instr.field,hi.run_und,hd,hfk,asAgg,part,hag,hu2]
   ·cases hf
    refine .quiet h (r':= .agg ⟨(l'.drop off).take sz⟩) ?_ (.agg _ _ ((hr.drop off).take sz))
    have e:(⟨l'⟩:Array Value).extract f.offset (f.offset+sz)=⟨(l'.drop off).take sz⟩:=by
     apply Array.ext'
     rw [<-h6]
     simp
    simp only [Instr.field,Sem.run_bind,hi.run_und,hd,hfk,asAgg,part,hag,hsz,e,Result.andThen_ok,Sem.run_pure,if_true]
 ·cases hf
def yiw (i:TI)(x ix:Value):Option Value:=
 match x,ix,i.desc with
 | .string u, .int _ (.ofNat k), .string=>match u.data.toList[k]? with
  |some b=>some (.int .u8 b.toNat)
  |none=>none
 |_,_,_=>none
theorem yix (hi:TyOk P t i){x x' ix r:Value}(hf:yiw i x ix=some r)(h:Sim E D ρ s w)(hx:Rv E D ρ x x'):Runs E P D s s ρ w (Instr.index t x' ix) r:=by
 unfold yiw at hf
 split at hf
 ·rename_i u kk k hd
  cases zbk hx
  split at hf
  ·rename_i b hb
   cases hf
   refine .quiet h (r':= .int .u8 b.toNat) ?_ (.flat _ rfl)
   have hb2:u[k]?=some b:=by
    have hlt:=(qO hb).1
    have hlt2:k<u.size:=by simpa using hlt
    rw [getElem?_pos u k hlt2]
    congr 1
    have:=(qO hb).2
    rw [<-this]
    simp only [Array.getElem_toList]
    rfl
   have hk0:(0:Int)<=(Int.ofNat k):=Int.natCast_nonneg k
   simp only [Instr.index,asIntOf,Sem.run_bind,Sem.run_pure,Result.andThen_ok,hi.run_und,hd]
   rw [if_pos hk0]
   simp only [Int.ofNat_eq_natCast,Int.toNat_natCast,hb2]
   rfl
  ·cases hf
 ·cases hf
def ycc (v:Option Value)(d:Nat):Option Nat:=
 match v with
 |none=>some d
 |some (.int _ (.ofNat k))=>some k
 |_=>none
def ygq (zT:Nat->Option TI)(s:ASt)(i:TI)(x:Value)(lo hi:Option Value):Option Value:=
 match i.desc,x with
 | .string, .string u=>match ycc lo 0,ycc hi u.data.toList.length with
  |some l,some h=>cond (Nat.ble l h&&Nat.ble h u.data.toList.length) (some (.string (Yde u l h))) none
  |_,_=>none
 | .slice e, .slice (some ⟨b,o,none⟩) n lb=>match ycc lo 0,ycc hi n,zT e,s.heap.get b with
  |some l,some h,some ei,some ⟨_, .cells _ z _⟩=>cond (Nat.ble l h&&Nat.ble h lb&&Nat.beq z ei.size) (cond (Nat.ble (l+1) lb) (some (.slice (some ⟨b,o+l*z,none⟩) (h - l) (lb - l))) (some (.slice (some ⟨0,0,some 0⟩) 0 0))) none
  |_,_,_,_=>none
 | .slice e, .slice none 0 0=>match ycc lo 0,ycc hi 0,zT e with
  |some 0,some 0,some _=>some (.slice none 0 0)
  |_,_,_=>none
 |_,_=>none
theorem zfv {v:Option Value}{d k:Nat}(h:ycc v d=some k):(v=none/\k=d)∨ ∃ kk,v=some (.int kk (k:Int)):=by
 unfold ycc at h
 split at h
 ·cases h;exact .inl ⟨rfl,rfl⟩
 ·rename_i kk k;cases h;exact .inr ⟨kk,rfl⟩
 ·cases h
theorem zji {kk:IntKind}{k y:Nat}(h:k<=y)(c:BoundsCode)(w:World):(Instr.sliceBound (.int kk (k:Int)) y c).run P w= .ok k w:=by
 unfold Instr.sliceBound
 simp only [asIntOf,Sem.run_bind,Sem.run_pure,Result.andThen_ok]
 rw [if_pos ⟨Int.natCast_nonneg k,by omega⟩]
 simp
theorem ze7 {lo hi:Option Value}{n c l h:Nat}(hl:ycc lo 0=some l)(hh:ycc hi n=some h)(h1:l<=h)(h2:h<=c)(b:Bool)(w:World):(Instr.sliceBounds b n c lo hi none).run P w= .ok (l,h,c) w:=by
 unfold Instr.sliceBounds
 rcases zfv hl with ⟨rfl,rfl⟩|⟨k1,rfl⟩<;>rcases zfv hh with ⟨rfl,rfl⟩|⟨k2,rfl⟩<;>simp [zji h1,zji h2]
theorem zda (hi:TyOk P t i)(hd:yi1 i.desc=false)(x:Value)(lo hi' mx:Option Value)(w:World):(Instr.sliceAt t x lo hi' mx).run P w=(Instr.slice t x lo hi' mx).run P w:=by
 unfold Instr.sliceAt
 simp only [Sem.run_bind,hi.run_und,Result.andThen_ok]
 cases h:i.desc<;>first |rfl|(rw [h] at hd;cases hd)
theorem zn0 {zT:Nat->Option TI}(hi:TyOk P t i)(hT: ∀ t i,zT t=some i->TyOk P t i){x x' r:Value}{lo hi':Option Value}(hl:ygq zT s i x lo hi'=some r)(h:Sim E D ρ s w)(hx:Rv E D ρ x x'):Runs E P D s s ρ w (Instr.sliceAt t x' lo hi' none) r:=by
 unfold ygq at hl
 split at hl
 ·rename_i u hd
  cases zbk hx
  split at hl
  ·rename_i l hh h1 h2
   obtain ⟨h3,h4⟩:=zax hl
   cases h4
   simp only [Bool.and_eq_true] at h3
   have h5:=qS h3.1
   have h6:=qS h3.2
   have hus:u.data.toList.length=u.size:=Array.length_toList (xs:=u.data)
   rw [hus] at h2 h6
   refine .quiet h (r':= .string (Yde u l hh)) ?_ (.flat _ rfl)
   rw [zda hi (by rw [hd];rfl)]
   have e:u.extract l hh=Yde u l hh:=by
    apply ByteArray.ext
    rw [ByteArray.data_extract]
    apply Array.ext'
    simp only [Yde,Array.toList_extract,List.extract_eq_take_drop,List.drop_take]
   simp only [Instr.slice,Sem.run_bind,hi.run_und,hd,Result.andThen_ok,Option.isSome_none,Bool.false_eq_true,if_false,ze7 h1 h2 h5 h6,e]
   rfl
  ·cases hl
 ·rename_i e b o n lb hd
  split at hl
  ·rename_i l hh ei wr e' z c h1 h2 h3 h4
   obtain ⟨h5,h6⟩:=zas hl
   simp only [Bool.and_eq_true] at h5
   obtain ⟨⟨h5,h7⟩,h8⟩:=h5
   have h5:=qS h5
   have h7:=qS h7
   have h8:=qU h8
   have hei:=hT e ei h3
   have hz:(ρ b).esz=z:=by
    have:=h.bd b _ h4
    cases wr<;>exact this.1
   cases hx with
   |flat _ h=>cases h
   |slice b o n lb c' hb g1 g2 g3 g4=>
    have hrun:(Instr.sliceAt t (.slice (some ⟨(ρ b).blk,(ρ b).off+o,none⟩) n c') lo hi' none).run P w= .ok (.slice (if c'=l then some ⟨(ρ b).blk,(ρ b).off+o,none⟩ else (some ⟨(ρ b).blk,(ρ b).off+o,none⟩:Option Addr).map (·.add (l*ei.size))) (hh - l) (c' - l)) w:=by
     rw [zda hi (by rw [hd];rfl)]
     simp only [Instr.slice,Sem.run_bind,hi.run_und,hd,Result.andThen_ok,ze7 h1 h2 h5 (qR h7 g2),hei.run_size,Sem.run_pure]
    cases hlt:Nat.ble (l+1) lb
    ·rw [hlt] at h6
     cases h6
     have hn: ¬ l<lb:=fun hx=>by
      have:=Nat.ble_eq_true_of_le (show l+1<=lb from hx)
      rw [hlt] at this;cases this
     have e0:hh - l=0:=by omega
     rw [e0] at hrun
     exact .quiet h hrun (.empty _ _)
    ·rw [hlt] at h6
     cases h6
     have hn:=qS hlt
     rw [if_neg qF,Option.map_some,zb2] at hrun
     refine .quiet h hrun ?_
     have:=Rv.slice (E:=E) (D:=D) (ρ:=ρ) b (o+l*z) (hh - l) (lb - l) (c' - l) hb qF qF qF (by
      rw [hz] at g4 ⊢
      have:c'*z=l*z+(c' - l)*z:=by rw [<-Nat.add_mul];congr 1;omega
      omega)
     rw [<-Nat.add_assoc] at this
     rw [<-h8]
     exact this
  ·cases hl
 ·rename_i e hd
  split at hl
  ·rename_i ei h1 h2 h3
   cases hl
   cases zdd hx
   have hei:=hT e ei h3
   refine .quiet h (r':= .slice none 0 0) ?_ (.flat _ rfl)
   rw [zda hi (by rw [hd];rfl)]
   simp only [Instr.slice,Sem.run_bind,hi.run_und,hd,Result.andThen_ok,ze7 h1 h2 (qV _) (qV _),hei.run_size,Sem.run_pure]
   rfl
  ·cases hl
 ·cases hl
end
section
variable {E:Ev}{s s1:ASt}{ρ:Nat->Pl}{w w1:World}{P:Program}{D D1:Nat->Prop}{t:TypeId}{i:TI}
def yfu (z:Value)(k:Nat):List Value:=(List.range k).map fun j=>(yar z).getD (j % (yar z).length) (.chan none)
theorem zm3 {z:Value}(hc:yay z=true)(k:Nat)(hp:k=0∨0<(yar z).length):Rvs E D ρ (yfu z k) ((Array.range k).map (z.cells[· % z.cells.size]!)).toList:=by
 have hz:=zdy (E:=E) (D:=D) (ρ:=ρ) hc (.inr trivial)
 have hl:z.cells.size=(yar z).length:=by have:=hz.len;simpa using this
 refine .of_get (by simp [yfu]) fun j v hj=>?_
 unfold yfu at hj
 rw [List.getElem?_map] at hj
 rcases Nat.lt_or_ge j k with hjk|hjk
 ·rw [List.getElem?_range hjk] at hj
  cases hj
  have hpos:0<(yar z).length:=by omega
  have hm:j % (yar z).length<(yar z).length:=Nat.mod_lt _ hpos
  obtain ⟨u,hu,hr⟩:=hz.get (List.getElem?_eq_getElem hm)
  refine ⟨u,?_,?_⟩
  ·have hu2:z.cells[j % z.cells.size]?=some u:=by rw [hl];simpa using hu
   simp [hjk,Array.getElem!_eq_getD,Array.getD_eq_getD_getElem?,hu2]
  ·show Rv E D ρ ((yar z).getD (j % (yar z).length) (.chan none)) u
   rw [List.getD_eq_getElem?_getD,List.getElem?_eq_getElem hm]
   exact hr
 ·rw [List.getElem?_eq_none (by simpa using hjk)] at hj;cases hj
def yer (zT:Nat->Option TI)(s:ASt)(i:TI)(len:Nat)(ps:List (Nat × Value)):Option (Value × ASt):=
 match i.desc with
 | .slice e=>match zT e with
  |some ei=>cond (yay ei.zero&&Nat.ble 1 ei.size&&Nat.ble (len*ei.size) 16000000&&Nat.beq (yar ei.zero).length ei.size) (match yht (fun k=>some (k*ei.size,ei.size)) (yfu ei.zero (len*ei.size)) ps with
   |some l=>match yq3 s e ei.size l with
    |some s1=>some (.slice (some ⟨s.next,0,none⟩) len len,s1)
    |none=>none
   |none=>none) none
  |none=>none
 |_=>none
theorem zm5 {zT:Nat->Option TI}(hi:TyOk P t i)(hT: ∀ t i,zT t=some i->TyOk P t i){len:Nat}{ps ps':List (Nat × Value)}{r:Value}(hb:yer zT s i len ps=some (r,s1))(h:Sim E D ρ s w)(hp:Prts E D ρ ps ps'):Runs E P D s s1 ρ w (Instr.buildSlice t len ⟨ps'⟩) r:=by
 unfold yer at hb
 split at hb
 ·rename_i e hd
  split at hb
  ·rename_i ei he
   have hei:=hT e ei he
   obtain ⟨h1,h2⟩:=zas hb
   simp only [Bool.and_eq_true] at h1
   obtain ⟨⟨⟨h1,h3⟩,h4⟩,h5⟩:=h1
   have h3:=qS h3
   have h4:=qS h4
   have h5:=qU h5
   split at h2
   ·rename_i l hl
    split at h2
    ·rename_i s2 hs
     cases h2
     have hz:=zm3 (E:=E) (D:=D) (ρ:=ρ) h1 (len*ei.size) (.inr qF)
     obtain ⟨r',k1,k2,k3⟩:=zhs (place':=fun k=>some (k*ei.size,ei.size)) (fun k x hk=>hk) _ _ l ps ps' hl hz hp
     obtain ⟨j1,j2,j3⟩:=znv hs h k2
     have hll:l.length=len*ei.size:=by rw [k3];simp [yfu]
     refine ⟨.slice (some ⟨w.heap.size,0,none⟩) len len,_,_,_,?_,?_,j2,j3⟩
     ·simp only [Instr.buildSlice,Sem.run_bind,hi.run_und,hd,Result.andThen_ok,hei.run_size]
      rw [if_neg qF]
      by_cases h0:len*ei.size=0
      ·rw [if_pos h0]
       have hfill:Instr.fill (fun k=>some (k*ei.size,ei.size)) ((Array.range (len*ei.size)).map ((#[]:Array Value)[· % (#[]:Array Value).size]!)) ps'=some ⟨r'⟩:=by
        rw [<-k1]
        congr 1
        rw [h0]
        simp
       simp only [Sem.run_bind,Sem.run_pure,Result.andThen_ok]
       rw [hfill]
       simp [newRow]
      ·rw [if_neg h0]
       simp only [Sem.run_bind,Sem.run_pure,Result.andThen_ok,hei.run_zero]
       rw [show Instr.fill (fun k=>some (k*ei.size,ei.size)) ((Array.range (len*ei.size)).map (ei.zero.cells[· % ei.zero.cells.size]!)) ps'=some ⟨r'⟩ from k1]
       simp [newRow]
     ·have:=Rv.slice (E:=E) (D:=ydf D s.next) (ρ:=ych ρ s.next (ya8 (w.heap.size) 0 (ei.size) (l.length))) s.next 0 len len len (.inr rfl) (qV _) (qV _) (by
       have:len<=len*ei.size:=Nat.le_mul_of_pos_right _ h3
       unfold maxLen;omega) (by rw [zao];show 0+len*ei.size=l.length;omega)
      rwa [zao] at this
    ·cases h2
   ·cases h2
  ·cases hb
 ·cases hb
def ygp (zT:Nat->Option TI)(s:ASt)(i:TI)(l c:Value):Option (Value × ASt):=
 match i.desc,l,c with
 | .slice e, .int _ (.ofNat n), .int _ (.ofNat m)=>match zT e with
  |some ei=>cond (Nat.beq n m&&yay ei.zero&&Nat.ble 1 ei.size&&Nat.ble (n*ei.size) 16000000&&Nat.ble (ei.bytes*n) 16000000&&Nat.beq (yar ei.zero).length ei.size) (match yq3 s e ei.size (yfu ei.zero (n*ei.size)) with
   |some s1=>some (.slice (some ⟨s.next,0,none⟩) n n,s1)
   |none=>none) none
  |none=>none
 |_,_,_=>none
theorem znu {zT:Nat->Option TI}(hi:TyOk P t i)(hT: ∀ t i,zT t=some i->TyOk P t i){l c r:Value}(hb:ygp zT s i l c=some (r,s1))(h:Sim E D ρ s w):Runs E P D s s1 ρ w (Instr.makeSlice t l c) r:=by
 unfold ygp at hb
 split at hb
 ·rename_i e kl n kc m hd
  split at hb
  ·rename_i ei he
   have hei:=hT e ei he
   obtain ⟨h1,h2⟩:=zas hb
   simp only [Bool.and_eq_true] at h1
   obtain ⟨⟨⟨⟨⟨h0,h1⟩,h3⟩,h4⟩,h6⟩,h5⟩:=h1
   have h0:=qU h0
   subst h0
   have h3:=qS h3
   have h4:=qS h4
   have h6:=qS h6
   have h5:=qU h5
   split at h2
   ·rename_i s2 hs
    cases h2
    obtain ⟨f,hf1,hf2,hf3,hf4⟩:=hei.info
    have hz:=zm3 (E:=E) (D:=D) (ρ:=ρ) h1 (n*ei.size) (.inr qF)
    have hnl:n<=n*ei.size:=Nat.le_mul_of_pos_right _ h3
    have hu:=hi.und
    rw [hd] at hu
    obtain ⟨w1,k1,⟨_,k2⟩,k3⟩:=run_make_full (P:=P) w 0 t e f ei.zero ei.size hu hf1 hf2 hf3 kl kc n (by rw [hf4];omega) (by unfold maxLen;omega) (Nat.zero_le _)
    rcases k2 with ⟨e1,_⟩|⟨g,cap,cur,e1,_,hg,hnc,hcm,hcs,htk⟩
    ·cases e1
    ·injection e1 with e1 _ e3
     injection e1 with e1
     injection e1 with e1
     subst e1
     subst e3
     have hcl:cur.toList=(madeCells ei.zero.cells (n*ei.size)).toList:=by rw [<-htk,List.take_of_length_le (by simp [hcs])]
     have hlen:(yfu ei.zero (n*ei.size)).length=n*ei.size:=by simp [yfu]
     obtain ⟨j1,j2,j3⟩:=ze8 (ρ:=ρ) (p:=(ya8 (w.heap.size) 0 (ei.size) (cur.size))) (zas hs).2 h rfl rfl k3.os k3.tape k3.output (Array.getElem?_eq_some_iff.1 hg).1 (fun k hk=>k3.block k hk qH) ⟨rfl,cur,hg,rfl,rfl,by rw [hlen,hcs];exact qV _,fun j u hj=>by
      obtain ⟨u',hu',hr⟩:=hz.get hj
      refine ⟨u',?_,hr.mono (fun i hi=> .inl hi) fun i hi=>zam (h.dn i hi)⟩
      have:cur.toList[j]?=some u':=by rw [hcl];exact hu'
      simpa using this⟩
     refine ⟨_,w1,_,_,k1,?_,j2,j3⟩
     have:=Rv.slice (E:=E) (D:=ydf D s.next) (ρ:=ych ρ s.next (ya8 (w.heap.size) 0 (ei.size) (cur.size))) s.next 0 n n n (.inr rfl) (qV _) (qV _) (by unfold maxLen;omega) (by rw [zao];show 0+n*ei.size=cur.size;omega)
     rwa [zao] at this
   ·cases h2
  ·cases hb
 ·cases hb
def alen (s:ASt)(i:TI)(x:Value):Option Value:=
 match i.desc,x with
 | .string, .string u=>some (.int .i64 u.data.toList.length)
 | .slice _, .slice _ n _=>some (.int .i64 n)
 |_,_=>none
theorem ync (hi:TyOk P t i){x x' r:Value}(hl:alen s i x=some r)(h:Sim E D ρ s w)(hx:Rv E D ρ x x')(ty:TypeId):Runs E P D s s ρ w (Builtin.len_ #[t] ty #[x']) r:=by
 unfold alen at hl
 split at hl
 ·rename_i u hd
  cases zbk hx
  cases hl
  have hus:u.data.toList.length=u.size:=Array.length_toList (xs:=u.data)
  refine .quiet h (r':= .int .i64 u.data.toList.length) ?_ (.flat _ rfl)
  rw [hus]
  simp [Builtin.len_,hi.run_und,hd,goInt]
 ·rename_i e A n c hd
  cases hl
  have hform: ∃ A' c',x'= .slice A' n c':=by
   cases hx with
   |flat=>exact ⟨_,_,rfl⟩
   |slice=>exact ⟨_,_,rfl⟩
   |empty=>exact ⟨_,_,rfl⟩
  obtain ⟨A',c',rfl⟩:=hform
  refine .quiet h (r':= .int .i64 n) ?_ (.flat _ rfl)
  simp [Builtin.len_,hi.run_und,hd,goInt]
 ·cases hl
def ym9 (si di:TI)(x:Value):Option Value:=
 match si.desc,di.desc,x with
 | .int _, .int k, .int _ n=>some (.int k (k.wrap n))
 | .string, .string, .string u=>some (.string u)
 |_,_,_=>none
theorem yi0 {t2:TypeId}{di:TI}(hi:TyOk P t i)(hd:TyOk P t2 di){x x' r:Value}(hl:ym9 i di x=some r)(h:Sim E D ρ s w)(hx:Rv E D ρ x x'):Runs E P D s s ρ w (convert t t2 x') r:=by
 unfold ym9 at hl
 split at hl
 ·rename_i k0 k k1 n e1 e2
  cases zbe hx
  cases hl
  refine .quiet h (r':= .int k (k.wrap n)) ?_ (.flat _ rfl)
  simp only [convert,Sem.run_bind,hi.run_und,hd.run_und,e1,e2,Result.andThen_ok]
  rfl
 ·rename_i u e1 e2
  cases zbk hx
  cases hl
  refine .quiet h (r':= .string u) ?_ (.flat _ rfl)
  simp only [convert,Sem.run_bind,hi.run_und,hd.run_und,e1,e2,Result.andThen_ok]
  rfl
 ·cases hl
def yhp (zT:Nat->Option TI)(s:ASt)(si di:TI)(x:Value):Option (Value × ASt):=
 match si.desc,di.desc,x with
 | .string, .slice e, .string u=>match zT e with
  |some ei=>match ei.desc with
   | .int .u8=>cond (Nat.ble u.data.toList.length 1000000) (match s.new false (.cells e 1 (u.data.toList.map fun b=> .int .u8 b.toNat)) with
    |some s1=>some (.slice (some ⟨s.next,0,none⟩) u.data.toList.length u.data.toList.length,s1)
    |none=>none) none
   |_=>none
  |none=>none
 |_,_,_=>none
theorem znn {zT:Nat->Option TI}{t2:TypeId}{di:TI}(hi:TyOk P t i)(hd:TyOk P t2 di)(hT: ∀ t i,zT t=some i->TyOk P t i){x x' r:Value}(hl:yhp zT s i di x=some (r,s1))(h:Sim E D ρ s w)(hx:Rv E D ρ x x'):Runs E P D s s1 ρ w (convert t t2 x') r:=by
 unfold yhp at hl
 split at hl
 ·rename_i e u e1 e2
  cases zbk hx
  split at hl
  ·rename_i ei he
   split at hl
   ·rename_i hed
    obtain ⟨h1,h2⟩:=zas hl
    have h1:=qS h1
    split at h2
    ·rename_i s2 hs
     cases h2
     have hu:=hi.und
     have hud:=hd.und
     have hue:=(hT e ei he).und
     rw [e1] at hu
     rw [e2] at hud
     rw [hed] at hue
     have hus:u.data.toList.length=u.size:=Array.length_toList (xs:=u.data)
     have hge:u.size<=grownCap w u.size 0 e:=grownCap_ge w u.size 0 e
     have hle:grownCap w u.size 0 e<=maxLen:=grownCap_le_maxLen w u.size 0 e (by unfold maxLen;omega)
     have hrun:=Lib.run_convert_string_bytes (P:=P) w t t2 e u hu hud hue
     obtain ⟨j1,j2,j3⟩:=ze8 (ρ:=ρ) (p:=(ya8 (w.heap.size) 0 (1) (grownCap w u.size 0 e))) (w1:=Lib.bytesWorld w e u) hs h rfl rfl rfl rfl rfl (by rw [Lib.bytesWorld_size];omega) (fun k hk=>Lib.bytesWorld_at_old w e u k hk) ⟨rfl,fun j v hj=>by
      rw [List.getElem?_map] at hj
      cases hb:u.data.toList[j]? with
      |none=>rw [hb] at hj;cases hj
      |some b=>
       rw [hb] at hj
       cases hj
       have hlt:=(qO hb).1
       refine ⟨_,by rw [Nat.zero_add];exact Lib.bytesWorld_cell w e u j qF,?_⟩
       rw [List.getD_eq_getElem?_getD,hb]
       exact .flat _ rfl⟩
     refine ⟨_,_,_,_,hrun,?_,j2,j3⟩
     have:=Rv.slice (E:=E) (D:=ydf D s.next) (ρ:=ych ρ s.next (ya8 (w.heap.size) 0 (1) (grownCap w u.size 0 e))) s.next 0 u.data.toList.length u.data.toList.length (grownCap w u.size 0 e) (.inr rfl) (qV _) qF hle (by rw [zao];show 0+grownCap w u.size 0 e*1=grownCap w u.size 0 e;omega)
     rw [zao,hus] at this
     rw [hus]
     exact this
    ·cases h2
   ·cases hl
  ·cases hl
 ·cases hl
end
inductive ARes where
 |val (v:Value)
 |call (f:FuncId) (args:List Value)
abbrev Tm :=Tr Value
def aev (tm:Tm):Operand->Value
 | .tmp t=>match tm.get t with
  |some v=>v
  |none=> .tuple ⟨[]⟩
 | .const v=>cond (yay v) v (.chan none)
 | .global g=>cond (Nat.ble (g+1) yfg) (.pointer (some ⟨g,0,none⟩)) (.chan none)
 | .func f=> .func (.func f) ⟨[]⟩ ⟨[]⟩
def TRel (E:Ev)(D:Nat->Prop)(ρ:Nat->Pl)(tm:Tm)(a:Act):Prop:= ∀ t,Rv E D ρ (match tm.get t with|some v=>v|none=> .tuple ⟨[]⟩) (a.tmps.getD t undef)
structure Tbl.Ok (T:Tbl)(E:Ev)(P:Program):Prop where
 ty: ∀ t i,T.ty t=some i->TyOk P t i
 fn : ∀ f x, T.fn f = some x -> P.funcs[f]? = some x /\ (x.name == "runtime.NumGoroutine") = false /\ ∃ c, x.body = some c
 eqs: ∀ t,T.eqs t=true->ym3 P t
 mixed:P.follows .mixedOrders=true
 ex: ∀ f h,T.ex f=some h-> ∀ (D:Nat->Prop) (ρ:Nat->Pl) (args args':List Value) (v:Value) (w:World),h args=some v->Rvs E D ρ args args'-> ∃ v',(callFunc f ⟨args'⟩).run P w= .ok (.value v') w/\Rv E D ρ v v'
 hint: ∀ op x y r,T.hint op x y=some r-> ∀ (t:TypeId) (xo yo:Operand) (x' y':Value) (w:World),HV E x x'->HV E y y'-> ∃ r',(do eqGuard op t xo yo x' y';binOp op t x' y':Sem Value).run P w= .ok r' w/\HR E r r'
 hlen: ∀ x r,T.hlen x=some r-> ∀ x',HV E x x'-> ∃ A n c,x'= .slice A n c/\HR E r (.int .i64 (n:Nat))
def yeu (ev:Operand->Value):List (Nat × Operand)->List (Nat × Value)
 | []=> []
 |(k,x)::l=>(k,ev x)::yeu ev l
def yco (ev:Operand->Value):List Operand->List Value
 | []=> []
 |x::l=>ev x::yco ev l
def ye5 (x:Option Value)(s:ASt):Option (ARes × ASt):=match x with|some v=>some (.val v,s)|none=>none
def ycw (x:Option (Value × ASt)):Option (ARes × ASt):=match x with|some (v,s)=>some (.val v,s)|none=>none
def yp8 (x:Option ASt):Option (ARes × ASt):=match x with|some s=>some (.val (.tuple ⟨[]⟩),s)|none=>none
def yl1 (op:UnOp)(x:Value):Option Value:=
 match x with
 | .int _ _=>yg2 (Op.unary op x)
 | .bool _=>yg2 (Op.unary op x)
 |_=>none
def yi9 (T:Tbl)(t:TypeId)(m k v:Value)(s:ASt):Option ASt:=
 match T.ty t,m,k with
 |some i, .map (some b), .string kk=>match i.desc,s.heap.get b with
  | .map kt _,some ⟨true, .map es⟩=>match T.ty kt with
   |some ki=>match ki.desc with
    | .string=>cond (Nat.ble (b+2) (2 ^ yad)) (match Yd2 es kk v with
     |some es2=>some (s.put b (.map es2))
     |none=>none) none
    |_=>none
   |none=>none
  |_,_=>none
 |_,_,_=>none
def yne (T:Tbl)(t:TypeId)(m k:Value)(ok:Bool)(s:ASt):Option Value:=
 match T.ty t,k,ydd s m with
 |some i, .string kk,some es=>match i.desc with
  | .map kt et=>match T.ty kt,T.ty et with
   |some ki,some ei=>match ki.desc with
    | .string=>cond (yay ei.zero) (some (match yb2 kk es 0 with
     |some (_,v)=>if ok then .tuple ⟨[v, .bool true]⟩ else v
     |none=>if ok then .tuple ⟨[ei.zero, .bool false]⟩ else ei.zero)) none
    |_=>none
   |_,_=>none
  |_=>none
 |_,_,_=>none
def ydb (T:Tbl)(b:Builtin)(ts:List TypeId)(args:List Value)(s:ASt):Option (Value × ASt):=
 match b,ts,args with
 | .len,[t],[x]=>match T.ty t with
  |some i=>match cond (yql x) (match i.desc with| .slice _=>T.hlen x|_=>none) (alen s i x) with
    |some v=>some (v,s)
    |none=>none
  |none=>none
 | .append,[t,u],[x,y]=>cond (Nat.beq t u) (match T.ty t with
  |some i=>match i.desc with
   | .slice e=>match T.ty e with
    |some ei=>cond (Nat.ble 1 ei.size&&Nat.beq (yar ei.zero).length ei.size) (yfx s e ei.size ei.bytes x y) none
    |none=>none
   |_=>none
  |none=>none) none
 | .max,_,[.int k x, .int _ y]=>some (.int k (if y>x then y else x),s)
 | .min,_,[.int k x, .int _ y]=>some (.int k (if y<x then y else x),s)
 |_,_,_=>none
def aop (T:Tbl)(ev:Operand->Value)(o:Op)(s:ASt):Option (ARes × ASt):=
 match o with
 | .move x=>some (.val (ev x),s)
 | .assign x=>some (.val (ev x),s)
 | .pick c a b=>match ev c with
  | .bool t=>some (.val (cond t (ev a) (ev b)),s)
  |_=>none
 | .alloc e=>match T.ty e with
  |some i=>cond (yay i.zero) (ycw (ym7 s e i.zero)) none
  |none=>none
 | .box e x=>ycw (ym7 s e (ev x))
 | .build t ps=>match T.ty t with
  |some i=>ye5 (yhn i (yeu ev ps.toList)) s
  |none=>none
 | .buildSlice t n ps=>match T.ty t with
  |some i=>ycw (yer T.ty s i n (yeu ev ps.toList))
  |none=>none
 | .load t a=>match T.ty t with
  |some i=>ye5 (yee s i (ev a)) s
  |none=>none
 | .store t a x=>match T.ty t with
  |some i=>yp8 (yfz s i (ev a) (ev x))
  |none=>none
 | .nilCheck x=>match ev x with
  | .pointer (some ⟨b,o,none⟩)=>some (.val (.pointer (some ⟨b,o,none⟩)),s)
  |_=>none
 | .binOp op t x y _=>cond (yql (ev x) || yql (ev y)) (ye5 (cond (okH (ev x)&&okH (ev y)) (T.hint op (ev x) (ev y)) none) s) (match T.ty t with
  |some i=>ye5 (Ydp i (T.eqs t) op t (ev x) (ev y)) s
  |none=>none)
 | .unOp op _ x=>ye5 (yl1 op (ev x)) s
 | .convert a b x=>match T.ty a,T.ty b with
  |some i,some j=>match ym9 i j (ev x) with
   |some v=>some (.val v,s)
   |none=>ycw (yhp T.ty s i j (ev x))
  |_,_=>none
 | .makeFunc fn fs cs=>some (.val (.func fn ⟨yco ev fs.toList⟩ ⟨yco ev cs.toList⟩),s)
 | .makeMap _ none=>match s.new true (.map []) with
  |some s1=>some (.val (.map (some s.next)),s1)
  |none=>none
 | .makeSlice t l c=>match T.ty t with
  |some i=>ycw (ygp T.ty s i (ev l) (ev c))
  |none=>none
 | .slice t x lo hi none=>match T.ty t with
  |some i=>ye5 (ygq T.ty s i (ev x) (lo.map ev) (hi.map ev)) s
  |none=>none
 | .fieldAddr t x k=>match T.ty t with
  |some i=>ye5 (yhs i (ev x) k) s
  |none=>none
 | .field t x k=>match T.ty t with
  |some i=>ye5 (yfy i (ev x) k) s
  |none=>none
 | .indexAddr t x ix=>match T.ty t with
  |some i=>ye5 (ygo T.ty i (ev x) (ev ix)) s
  |none=>none
 | .index t x ix=>match T.ty t with
  |some i=>ye5 (yiw i (ev x) (ev ix)) s
  |none=>none
 | .lookup t x ix ok=>ye5 (yne T t (ev x) (ev ix) ok s) s
 | .mapUpdate t m k x=>yp8 (yi9 T t (ev m) (ev k) (ev x) s)
 | .insert t m k x=>yp8 (yi9 T t (ev m) (ev k) (ev x) s)
 | .range t x=>match T.ty t,ev x with
  |some i, .string u=>match i.desc with
   | .string=>match s.new true (.iter u 0) with
    |some s1=>some (.val (.pointer (some ⟨s.next,0,none⟩)),s1)
    |none=>none
   |_=>none
  |_,_=>none
 | .next it true=>ycw (yng s (ev it))
 | .extract t k=>ye5 (yet (ev t) k) s
 | .call ⟨.builtin b,args,ts⟩=>ycw (ydb T b ts.toList (yco ev args.toList) s)
 | .call ⟨.value f,args,_⟩=>match ev f with
  | .func (.func g) ⟨fs⟩ ⟨cs⟩=>match T.fn g with
   |some _=>some (.call g (fs++(yco ev args.toList++cs)),s)
   |none=>match T.ex g with
    |some h=>ye5 (h (fs++(yco ev args.toList++cs))) s
    |none=>none
  |_=>none
 |_=>none
section
variable {E:Ev}{s s1:ASt}{ρ:Nat->Pl}{w w1:World}{P:Program}{D D1:Nat->Prop}{t:TypeId}{i:TI}{T:Tbl}{tm:Tm}{a:Act}
theorem zfb (h:Sim E D ρ s w)(ht:TRel E D ρ tm a)(x:Operand):Rv E D ρ (aev tm x) (a.eval x):=by
 cases x with
 |tmp t=>exact ht t
 |const v=>
  show Rv E D ρ (cond (yay v) v (.chan none)) v
  cases hc:yay v
  ·exact .poison _
  ·exact zgq hc
 |global g=>
  show Rv E D ρ (cond (Nat.ble (g+1) yfg) (.pointer (some ⟨g,0,none⟩)) (.chan none)) (.pointer (some ⟨g,0,none⟩))
  cases hc:Nat.ble (g+1) yfg
  ·exact .poison _
  ·have hg:g<yfg:=qS hc
   have:=Rv.ptr (E:=E) (D:=D) (ρ:=ρ) g 0 (h.gl g hg)
   rw [(h.glob g hg).1,(h.glob g hg).2] at this
   exact this
 |func f=>exact .flat _ rfl
theorem zhw {ef:Operand->Value}(ev: ∀ x,Rv E D ρ (ef x) (a.eval x)): ∀ l,Prts E D ρ (yeu ef l) (l.map fun (k,x)=>(k,a.eval x))
 | []=> .nil
 |(k,x)::l=> .cons _ _ _ _ _ (ev x) (zhw ev l)
theorem zd4 {ef:Operand->Value}(ev: ∀ x,Rv E D ρ (ef x) (a.eval x)): ∀ l,Rvs E D ρ (yco ef l) (l.map a.eval)
 | []=> .nil
 |x::l=> .cons _ _ _ _ (ev x) (zd4 ev l)
def ym4 (E:Ev)(P:Program)(D:Nat->Prop)(s s1:ASt)(ρ:Nat->Pl)(w:World)(m:Sem Next):ARes->Prop
 | .val r=> ∃ n w1 ρ1 r' D1,m.run P w= .ok n w1/\(n= .value r'∨(n= .skip/\r'=undef))/\Rv E D1 ρ1 r r'/\Sim E D1 ρ1 s1 w1/\Ex D s ρ w D1 s1 ρ1 w1
 | .call g args=>s1=s/\ ∃ args',m.run P w= .ok (.enter g ⟨args'⟩) w/\Rvs E D ρ args args'
theorem zc6 {m:Sem Value}{r:Value}(h:Runs E P D s s1 ρ w m r):ym4 E P D s s1 ρ w (do pure (.value (<-m))) (.val r):=by
 obtain ⟨r',w1,ρ1,D1,h1,h2,h3,h4⟩:=h
 exact ⟨_,w1,ρ1,r',D1,by simp only [Sem.run_bind,h1,Result.andThen_ok];rfl, .inl rfl,h2,h3,h4⟩
theorem zb5 {x:Option Value}{r:ARes}{m:Sem Value}(hx:ye5 x s=some (r,s1))(h: ∀ v,x=some v->Runs E P D s s ρ w m v):ym4 E P D s s1 ρ w (do pure (.value (<-m))) r:=by
 unfold ye5 at hx
 split at hx
 ·cases hx;exact zc6 (h _ rfl)
 ·cases hx
theorem zdr {x:Option (Value × ASt)}{r:ARes}{m:Sem Value}(hx:ycw x=some (r,s1))(h: ∀ v,x=some (v,s1)->Runs E P D s s1 ρ w m v):ym4 E P D s s1 ρ w (do pure (.value (<-m))) r:=by
 unfold ycw at hx
 split at hx
 ·cases hx;exact zc6 (h _ rfl)
 ·cases hx
theorem zk4 {x:Option ASt}{r:ARes}{m:Sem Unit}(hx:yp8 x=some (r,s1))(h:x=some s1-> ∃ w1 ρ1 D1,m.run P w= .ok () w1/\Sim E D1 ρ1 s1 w1/\Ex D s ρ w D1 s1 ρ1 w1):ym4 E P D s s1 ρ w (do m;pure .skip) r:=by
 unfold yp8 at hx
 split at hx
 ·cases hx
  obtain ⟨w1,ρ1,D1,h1,h2,h3⟩:=h rfl
  exact ⟨_,w1,ρ1,undef,D1,by simp only [Sem.run_bind,h1,Result.andThen_ok];rfl, .inr ⟨rfl,rfl⟩, .tuple _ _ .nil,h2,h3⟩
 ·cases hx
theorem zlr (hT:T.Ok E P){m m' k k' v v':Value}(hx:yi9 T t m k v s=some s1)(h:Sim E D ρ s w)(hm:Rv E D ρ m m')(hk:Rv E D ρ k k')(hv:Rv E D ρ v v'): ∃ w1 ρ1 D1,(Instr.mapUpdate t m' k' v').run P w= .ok () w1/\Sim E D1 ρ1 s1 w1/\Ex D s ρ w D1 s1 ρ1 w1:=by
 unfold yi9 at hx
 split at hx
 ·rename_i i b kk hi
  split at hx
  ·rename_i kt et es hd hb
   split at hx
   ·rename_i ki hki
    split at hx
    ·rename_i hkd
     obtain ⟨h1,h2⟩:=zas hx
     split at h2
     ·rename_i es2 hput
      cases h2
      cases zbk hk
      have hi:=hT.ty _ _ hi
      have hki:=hT.ty _ _ hki
      have hu:=hi.und
      rw [hd] at hu
      have hku:=hki.und
      rw [hkd] at hku
      obtain ⟨w1,k1,k2,k3⟩:=zm9 (P:=P) hb h1 hput h hm hv hu hku
      exact ⟨w1,ρ,D,k1,k2,k3⟩
     ·cases h2
    ·cases hx
   ·cases hx
  ·cases hx
 ·cases hx
theorem yi3 (hT:T.Ok E P){m m' k k' r:Value}{ok:Bool}(hx:yne T t m k ok s=some r)(h:Sim E D ρ s w)(hm:Rv E D ρ m m')(hk:Rv E D ρ k k'):Runs E P D s s ρ w (Instr.lookup t m' k' ok) r:=by
 unfold yne at hx
 split at hx
 ·rename_i i kk es hi hes
  split at hx
  ·rename_i kt et hd
   split at hx
   ·rename_i ki ei hki hei
    split at hx
    ·rename_i hkd
     obtain ⟨h1,h2⟩:=zax hx
     cases zbk hk
     have hi:=hT.ty _ _ hi
     have hki:=hT.ty _ _ hki
     have hei:=hT.ty _ _ hei
     have hu:=hi.und
     rw [hd] at hu
     have hku:=hki.und
     rw [hkd] at hku
     obtain ⟨f,hf1,hf2,_⟩:=hei.info
     obtain ⟨r',k1,k2⟩:=zm8 (P:=P) (k:=kk) hes h hm ok hu hku hf1 hf2 (zgq h1)
     subst h2
     exact .quiet h k1 k2
    ·cases hx
   ·cases hx
  ·cases hx
 ·cases hx
theorem zj3 (hT:T.Ok E P){b:Builtin}{ts:List TypeId}{args args':List Value}{r:Value}(hx:ydb T b ts args s=some (r,s1))(h:Sim E D ρ s w)(hr:Rvs E D ρ args args')(ty:TypeId)(cs:Array Bool):
 ym4 E P D s s1 ρ w (builtin b ⟨ts⟩ ty cs ⟨args'⟩) (.val r):=by
 unfold ydb at hx
 split at hx
 ·rename_i t x
  split at hx
  ·rename_i i hi
   split at hx
   ·rename_i v hv
    cases hx
    cases hr with
    |cons _ x' _ _ h1 h2=>
     cases h2
     cases hch:yql x
     ·rw [hch] at hv
      exact zc6 (ync (hT.ty _ _ hi) hv h h1 ty)
     ·rw [hch] at hv
      simp only [cond_true] at hv
      split at hv
      ·rename_i e hd
       obtain ⟨A,n,c,rfl,h3⟩:=hT.hlen _ _ hv x' (HV.of h1 (by cases x<;>first |(cases hch;done)|(rename_i k;cases k<;>first |(cases hch;done)|rfl)))
       refine zc6 (.quiet h (r':= .int .i64 n) ?_ (h3.rv h))
       simp [Builtin.len_,(hT.ty _ _ hi).run_und,hd,goInt]
      ·cases hv
   ·cases hx
  ·cases hx
 ·rename_i t u x y
  obtain ⟨h1,h2⟩:=zas hx
  have h1:=qU h1
  subst h1
  split at h2
  ·rename_i i hi
   split at h2
   ·rename_i e hd
    split at h2
    ·rename_i ei hei
     obtain ⟨h3,h4⟩:=zas h2
     simp only [Bool.and_eq_true] at h3
     have h5:=qS h3.1
     have h6:=qU h3.2
     cases hr with
     |cons _ x' _ _ k1 k2=>
      cases k2 with
      |cons _ y' _ _ k2 k3=>
       cases k3
       have hi:=hT.ty _ _ hi
       have hei:=hT.ty _ _ hei
       have hu:=hi.und
       rw [hd] at hu
       obtain ⟨f,hf1,hf2,hf3,hf4⟩:=hei.info
       exact zc6 (zm4 (P:=P) (ty:=ty) h4 h k1 k2 hu hf1 hf2 hf3 hf4 hei.zs h5)
    ·cases h2
   ·cases h2
  ·cases h2
 ·rename_i k x k' y
  cases hx
  cases hr with
  |cons _ x' _ _ k1 k2=>
   cases k2 with
   |cons _ y' _ _ k2 k3=>
    cases k3
    cases zbe k1
    cases zbe k2
    exact zc6 (.quiet h (run_max_int2 _ _ ty k k' x y) (.flat _ rfl))
 ·rename_i k x k' y
  cases hx
  cases hr with
  |cons _ x' _ _ k1 k2=>
   cases k2 with
   |cons _ y' _ _ k2 k3=>
    cases k3
    cases zbe k1
    cases zbe k2
    exact zc6 (.quiet h (run_min_int2 _ _ ty k k' x y) (.flat _ rfl))
 ·cases hx
end
end
end Go.Proofs.YthcalfeoejdcgaaGreatDoor
