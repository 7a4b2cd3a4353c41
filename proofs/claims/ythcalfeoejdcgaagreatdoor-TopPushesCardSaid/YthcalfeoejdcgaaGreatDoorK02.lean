import Derived.Scope
import Derived.Orders
import Derived.Test.YthcalfeoejdcgaaGreatDoorK01
namespace Go.Proofs.YthcalfeoejdcgaaGreatDoor
set_option linter.unusedSimpArgs false
set_option linter.unusedVariables false
set_option maxRecDepth 100000
set_option maxHeartbeats 20000000
section
open Go.RowKit
section
variable (ev:Operand->Value)(d:Option Tmp)(ty:TypeId)(pos:String)(af:Array Edge)(g:Option (Nat × Bool))
theorem yn5 (c x y:Operand):execOp ev ⟨d, .pick c x y,ty,pos,af,g⟩=(do pure (.value (if<-asBool (ev c) then ev x else ev y))):=rfl
theorem yjl (e:TypeId):execOp ev ⟨d, .alloc e,ty,pos,af,g⟩=(do pure (.value (<-Instr.alloc e true (.tuple #[])))):=rfl
theorem yry (e:TypeId)(x:Operand):execOp ev ⟨d, .box e x,ty,pos,af,g⟩=(do pure (.value (<-Instr.box e (ev x)))):=rfl
theorem yjm (t:TypeId)(ps:Array (Nat × Operand)):execOp ev ⟨d, .build t ps,ty,pos,af,g⟩=(do pure (.value (<-Instr.build t (ps.map fun p=>(p.1,ev p.2))))):=rfl
theorem zoq (t:TypeId)(n:Nat)(ps:Array (Nat × Operand)):execOp ev ⟨d, .buildSlice t n ps,ty,pos,af,g⟩=(do pure (.value (<-Instr.buildSlice t n (ps.map fun p=>(p.1,ev p.2))))):=rfl
theorem yn2 (t:TypeId)(x:Operand):execOp ev ⟨d, .load t x,ty,pos,af,g⟩=(do pure (.value (<-Instr.loadAt t (ev x)))):=rfl
theorem yjp (t:TypeId)(x y:Operand):execOp ev ⟨d, .store t x y,ty,pos,af,g⟩=(do Instr.storeAt t (ev x) (ev y);pure .skip):=rfl
theorem yrx (op:BinOp)(t t2:TypeId)(x y:Operand):execOp ev ⟨d, .binOp op t x y t2,ty,pos,af,g⟩=(do pure (.value (<-(do eqGuard op t x y (ev x) (ev y);binOp op t (ev x) (ev y):Sem Value)))):=rfl
theorem Yes (op:UnOp)(t:TypeId)(x:Operand):execOp ev ⟨d, .unOp op t x,ty,pos,af,g⟩=(do pure (.value (<-Op.unary op (ev x)))):=rfl
theorem yn1 (t u:TypeId)(x:Operand):execOp ev ⟨d, .convert t u x,ty,pos,af,g⟩=(do pure (.value (<-convert t u (ev x)))):=rfl
theorem yr1 (fn:Fn)(fs cs:Array Operand):execOp ev ⟨d, .makeFunc fn fs cs,ty,pos,af,g⟩=(do pure (.value (<-Instr.makeFunc fn (fs.map ev) (cs.map ev)))):=rfl
theorem ymc (t:TypeId)(r:Option Operand):execOp ev ⟨d, .makeMap t r,ty,pos,af,g⟩=(do pure (.value (<-Instr.makeMap t (r.map ev)))):=rfl
theorem yr2 (t:TypeId)(x y:Operand):execOp ev ⟨d, .makeSlice t x y,ty,pos,af,g⟩=(do pure (.value (<-Instr.makeSlice t (ev x) (ev y)))):=rfl
theorem yjo (t:TypeId)(x:Operand)(lo hi mx:Option Operand):execOp ev ⟨d, .slice t x lo hi mx,ty,pos,af,g⟩=(do pure (.value (<-Instr.sliceAt t (ev x) (lo.map ev) (hi.map ev) (mx.map ev)))):=rfl
theorem Yep (t:TypeId)(x:Operand)(k:Nat):execOp ev ⟨d, .fieldAddr t x k,ty,pos,af,g⟩=(do pure (.value (<-Instr.fieldAt t (ev x) k))):=rfl
theorem yr0 (t:TypeId)(x:Operand)(k:Nat):execOp ev ⟨d, .field t x k,ty,pos,af,g⟩=(do pure (.value (<-Instr.field t (ev x) k))):=rfl
theorem Yeq (t:TypeId)(x y:Operand):execOp ev ⟨d, .indexAddr t x y,ty,pos,af,g⟩=(do pure (.value (<-Instr.indexAt t (ev x) (ev y)))):=rfl
theorem Yer (t:TypeId)(x y:Operand):execOp ev ⟨d, .index t x y,ty,pos,af,g⟩=(do pure (.value (<-Instr.index t (ev x) (ev y)))):=rfl
theorem yn3 (t:TypeId)(x y:Operand)(ok:Bool):execOp ev ⟨d, .lookup t x y ok,ty,pos,af,g⟩=(do pure (.value (<-Instr.lookup t (ev x) (ev y) ok))):=rfl
theorem yr3 (t:TypeId)(m k x:Operand):execOp ev ⟨d, .mapUpdate t m k x,ty,pos,af,g⟩=(do Instr.mapUpdate t (ev m) (ev k) (ev x);pure .skip):=rfl
theorem ymb (t:TypeId)(m k x:Operand):execOp ev ⟨d, .insert t m k x,ty,pos,af,g⟩=(do Instr.mapUpdate t (ev m) (ev k) (ev x);pure .skip):=rfl
theorem yjn (t:TypeId)(x:Operand):execOp ev ⟨d, .range t x,ty,pos,af,g⟩=(do pure (.value (<-Instr.range t (ev x)))):=rfl
theorem yn4 (x:Operand)(b:Bool):execOp ev ⟨d, .next x b,ty,pos,af,g⟩=(do pure (.value (<-Instr.next (ev x) b ty))):=rfl
theorem yrz (x:Operand)(k:Nat):execOp ev ⟨d, .extract x k,ty,pos,af,g⟩=(do pure (.value (<-Instr.extract (ev x) k))):=rfl
theorem yn0 (c:Call):execOp ev ⟨d, .call c,ty,pos,af,g⟩=(do let d<-resolve ev c ty;invoke d.target d.args):=rfl
end
section
variable {E:Ev}{s s1:ASt}{ρ:Nat->Pl}{w w1:World}{P:Program}{D D1:Nat->Prop}{t:TypeId}{i:TI}{T:Tbl}{tm:Tm}{a:Act}
theorem zp1 {f : FuncId}{fn : Func}{c : Code}(hf : P.funcs[f]? = some fn)(hname : (fn.name == "runtime.NumGoroutine") = false)(hb : fn.body = some c)(args : Array Value)(w : World) :
 (callFunc f args).run P w= .ok (.enter f args) w:=by
 have h1 : fn.name ≠ "runtime.NumGoroutine" := by simpa using hname
 simp [callFunc,hf,h1,hb]
theorem zmt (ps:Array (Nat × Operand))(ev:Operand->Value):ps.map (fun p=>(p.1,ev p.2))=⟨ps.toList.map fun (k,x)=>(k,ev x)⟩:=by
 apply Array.ext'
 simp
theorem zn3 (hT:T.Ok E P)(h:Sim E D ρ s w){ef:Operand->Value}(ev: ∀ x,Rv E D ρ (ef x) (a.eval x)){n:Nat}{ps:Array (Nat × Operand)}{r:ARes}(hi:T.ty t=some i)(hx:ycw (yer T.ty s i n (yeu ef ps.toList))=some (r,s1)):
 ym4 E P D s s1 ρ w (do pure (.value (<-Instr.buildSlice t n (ps.map fun p=>(p.1,a.eval p.2))))) r:=by
 rw [zmt]
 exact zdr hx fun v hv=>zm5 (hT.ty _ _ hi) hT.ty hv h (zhw ev _)
theorem yl0 (hT:T.Ok E P)(h:Sim E D ρ s w){ef:Operand->Value}(ev: ∀ x,Rv E D ρ (ef x) (a.eval x)){o:Oper}{r:ARes}(hx:aop T ef o.op s=some (r,s1)):ym4 E P D s s1 ρ w (execOp a.eval o) r/\ ∀ g args,r= .call g args-> ∃ fn,T.fn g=some fn:=by
 obtain ⟨dst,op,ty,pos,after,guard⟩:=o
 have nocall: ∀ {r:ARes},(∃ v,r= .val v)-> ∀ g args,r= .call g args-> ∃ fn,T.fn g=some fn:=fun ⟨v,e⟩ g args e2=>by rw [e] at e2;cases e2
 have nv: ∀ {x:Option Value} {s:ASt},ye5 x s=some (r,s1)-> ∃ v,r= .val v:=fun {x s} h=>by
  unfold ye5 at h;split at h
  ·cases h;exact ⟨_,rfl⟩
  ·cases h
 have nv2: ∀ {x:Option (Value × ASt)},ycw x=some (r,s1)-> ∃ v,r= .val v:=fun {x} h=>by
  unfold ycw at h;split at h
  ·cases h;exact ⟨_,rfl⟩
  ·cases h
 have nu: ∀ {x:Option ASt},yp8 x=some (r,s1)-> ∃ v,r= .val v:=fun {x} h=>by
  unfold yp8 at h;split at h
  ·cases h;exact ⟨_,rfl⟩
  ·cases h
 cases op with
 |move x=>
  cases hx
  exact ⟨⟨_,w,ρ,_,D,rfl, .inl rfl,ev x,h,Ex.refl h⟩,nocall ⟨_,rfl⟩⟩
 |assign x=>
  cases hx
  exact ⟨⟨_,w,ρ,_,D,rfl, .inl rfl,ev x,h,Ex.refl h⟩,nocall ⟨_,rfl⟩⟩
 |pick c x y=>
  rw [yn5]
  simp only [aop] at hx
  split at hx
  ·rename_i b hb
   have hc:=ev c
   rw [hb] at hc
   have hc:=zcv hc
   cases hx
   refine ⟨⟨.value (if b then a.eval x else a.eval y),w,ρ,(if b then a.eval x else a.eval y),D,?_, .inl rfl,?_,h,Ex.refl h⟩,nocall ⟨_,rfl⟩⟩
   ·simp [hc,asBool]
   ·cases b
    ·exact ev y
    ·exact ev x
  ·cases hx
 |alloc e=>
  rw [yjl]
  simp only [aop] at hx
  split at hx
  ·rename_i i hi
   obtain ⟨h1,h2⟩:=zas hx
   exact ⟨zdr h2 fun v hv=>znl (hT.ty _ _ hi) hv h1 h,nocall (nv2 h2)⟩
  ·cases hx
 |box e x=>
  rw [yry]
  simp only [aop] at hx
  exact ⟨zdr hx fun v hv=>ym8 hv h (ev x),nocall (nv2 hx)⟩
 |build t ps=>
  rw [yjm]
  simp only [aop] at hx
  split at hx
  ·rename_i i hi
   refine ⟨zb5 (m:=Instr.build t (ps.map fun p=>(p.1,a.eval p.2))) hx fun v hv=>?_,nocall (nv hx)⟩
   rw [zmt]
   exact znm (hT.ty _ _ hi) hv h (zhw ev _)
  ·cases hx
 |buildSlice t n ps=>
  rw [zoq]
  simp only [aop] at hx
  split at hx
  ·rename_i i hi
   exact ⟨zn3 hT h ev hi hx,nocall (nv2 hx)⟩
  ·cases hx
 |load t x=>
  rw [yn2]
  simp only [aop] at hx
  split at hx
  ·rename_i i hi
   exact ⟨zb5 hx fun v hv=>znt (hT.ty _ _ hi) hv h (ev x),nocall (nv hx)⟩
  ·cases hx
 |store t x y=>
  rw [yjp]
  simp only [aop] at hx
  split at hx
  ·rename_i i hi
   refine ⟨zk4 hx fun hv=>?_,nocall (nu hx)⟩
   obtain ⟨w1,k1,k2,k3,k4⟩:=zna (P:=P) (hT.ty _ _ hi) hv h (ev x) (ev y)
   exact ⟨w1,ρ,D,k1,k3,k4⟩
  ·cases hx
 |nilCheck x=>
  simp only [aop] at hx
  split at hx
  ·rename_i b o hb
   have hc:=ev x
   rw [hb] at hc
   cases hx
   refine ⟨?_,nocall ⟨_,rfl⟩⟩
   revert hc
   unfold execOp
   dsimp only
   generalize a.eval x=u
   intro hc
   cases hc with
   |flat _ h=>cases h
   |ptr b o hb=>exact ⟨_,w,ρ,_,D,rfl, .inl rfl, .ptr b o hb,h,Ex.refl h⟩
  ·cases hx
 |binOp op t x y ty2=>
  rw [yrx]
  simp only [aop] at hx
  cases hch:yql (ef x) || yql (ef y)
  ·rw [hch] at hx
   simp only [cond_false] at hx
   split at hx
   ·rename_i i hi
    exact ⟨zb5 hx fun v hv=>ym6 (hT.ty _ _ hi) (hT.eqs t) hv h (ev x) (ev y),nocall (nv hx)⟩
   ·cases hx
  ·rw [hch] at hx
   simp only [cond_true] at hx
   refine ⟨zb5 hx fun v hv=>?_,nocall (nv hx)⟩
   obtain ⟨h1,h2⟩:=zas hv
   simp only [Bool.and_eq_true] at h1
   obtain ⟨r',h3,h4⟩:=hT.hint _ _ _ _ h2 t x y _ _ w (HV.of (ev x) h1.1) (HV.of (ev y) h1.2)
   exact .quiet h h3 (h4.rv h)
 |unOp op t x=>
  rw [Yes]
  simp only [aop] at hx
  refine ⟨zb5 hx fun v hv=>?_,nocall (nv hx)⟩
  have hc:=ev x
  unfold yl1 at hv
  split at hv
  ·rename_i k n hb
   rw [hb] at hc hv
   rw [zbe hc]
   have hfl:ybx v=true:=by
    cases op<;>first |(cases hv;done)|(cases hv;rfl)
   exact .quiet h (zgk hv P w) (.flat _ hfl)
  ·rename_i b hb
   rw [hb] at hc hv
   rw [zcv hc]
   have hfl:ybx v=true:=by
    cases op<;>first |(cases hv;done)|(cases hv;rfl)
   exact .quiet h (zgk hv P w) (.flat _ hfl)
  ·cases hv
 |convert x y z=>
  rw [yn1]
  simp only [aop] at hx
  split at hx
  ·rename_i i j hi hj
   split at hx
   ·rename_i v hv
    cases hx
    exact ⟨zc6 (yi0 (hT.ty _ _ hi) (hT.ty _ _ hj) hv h (ev z)),nocall ⟨_,rfl⟩⟩
   ·exact ⟨zdr hx fun v hv=>znn (hT.ty _ _ hi) (hT.ty _ _ hj) hT.ty hv h (ev z),nocall (nv2 hx)⟩
  ·cases hx
 |makeFunc fn fs cs=>
  rw [yr1]
  have hx:some (ARes.val (.func fn ⟨yco ef fs.toList⟩ ⟨yco ef cs.toList⟩),s)=some (r,s1):=hx
  cases hx
  refine ⟨⟨.value (.func fn ⟨fs.toList.map a.eval⟩ ⟨cs.toList.map a.eval⟩),w,ρ, .func fn ⟨fs.toList.map a.eval⟩ ⟨cs.toList.map a.eval⟩,D,?_, .inl rfl, .func _ _ _ _ _ (zd4 ev _) (zd4 ev _),h,Ex.refl h⟩,nocall ⟨_,rfl⟩⟩
  have e:cs.map a.eval=⟨cs.toList.map a.eval⟩:=by apply Array.ext';simp
  have e0:fs.map a.eval=⟨fs.toList.map a.eval⟩:=by apply Array.ext';simp
  rw [e,e0]
  rfl
 |makeMap t r=>
  rw [ymc]
  cases r with
  |some=>cases hx
  |none=>
   have hx:(match s.new true (.map []) with
    |some s1=>some (ARes.val (.map (some s.next)),s1)
    |none=>none)=some (r,s1):=hx
   split at hx
   ·rename_i s2 hs
    cases hx
    obtain ⟨k1,k2,k3⟩:=ze8 (ρ:=ρ) (p:=(ya8 (w.heap.size) 0 (1) (0))) (w1:=w.alloc (.map #[] 0)) hs h rfl rfl rfl rfl rfl qH (fun k hk=>Below.heap_alloc w _ k hk) ⟨#[],0,heap_alloc_new w _,Ents.nil⟩
    refine ⟨⟨.value (.map (some w.heap.size)),_,_, .map (some w.heap.size),_,?_, .inl rfl,?_,k2,k3⟩,nocall ⟨_,rfl⟩⟩
    ·simp [Instr.makeMap]
    ·have:=Rv.map (E:=E) (D:=ydf D s.next) (ρ:=ych ρ s.next (ya8 (w.heap.size) 0 (1) (0))) s.next (.inr rfl)
     rwa [zao] at this
   ·cases hx
 |makeSlice t l c=>
  rw [yr2]
  simp only [aop] at hx
  split at hx
  ·rename_i i hi
   refine ⟨zdr hx fun v hv=>?_,nocall (nv2 hx)⟩
   have hl:=ev l
   have hc:=ev c
   have hcopy:=hv
   unfold ygp at hcopy
   split at hcopy
   ·rename_i e kl n kc m hd e1 e2
    rw [e1] at hl
    rw [e2] at hc
    rw [e1,e2] at hv
    rw [zbe hl,zbe hc]
    exact znu (hT.ty _ _ hi) hT.ty hv h
   ·cases hcopy
  ·cases hx
 |slice t x lo hi mx=>
  rw [yjo]
  cases mx with
  |some=>cases hx
  |none=>
  simp only [aop] at hx
  split at hx
  ·rename_i i hi'
   refine ⟨zb5 hx fun v hv=>?_,nocall (nv hx)⟩
   have hb: ∀ (y:Option Operand) (d k:Nat),ycc (y.map ef) d=some k->y.map a.eval=y.map ef:=fun y d k hk=>by
    cases y with
    |none=>rfl
    |some y=>
     have hy:=ev y
     rcases zfv hk with ⟨e,_⟩|⟨kk,e⟩
     ·cases e
     ·simp only [Option.map_some,Option.some.injEq] at e ⊢
      rw [e] at hy ⊢
      exact zbe hy
   have hlo:lo.map a.eval=lo.map ef/\hi.map a.eval=hi.map ef:=by
    have hcopy:=hv
    unfold ygq at hcopy
    split at hcopy
    ·split at hcopy
     ·rename_i k1 k2
      exact ⟨hb _ _ _ k1,hb _ _ _ k2⟩
     ·cases hcopy
    ·split at hcopy
     ·rename_i k1 k2 _ _
      exact ⟨hb _ _ _ k1,hb _ _ _ k2⟩
     ·cases hcopy
    ·split at hcopy
     ·rename_i k1 k2 _
      exact ⟨hb _ _ _ k1,hb _ _ _ k2⟩
     ·cases hcopy
    ·cases hcopy
   rw [hlo.1,hlo.2]
   exact zn0 (hT.ty _ _ hi') hT.ty hv h (ev x)
  ·cases hx
 |fieldAddr t x k=>
  rw [Yep]
  simp only [aop] at hx
  split at hx
  ·rename_i i hi
   exact ⟨zb5 hx fun v hv=>znp (hT.ty _ _ hi) hv h (ev x),nocall (nv hx)⟩
  ·cases hx
 |field t x k=>
  rw [yr0]
  simp only [aop] at hx
  split at hx
  ·rename_i i hi
   exact ⟨zb5 hx fun v hv=>zm6 (hT.ty _ _ hi) hv h (ev x),nocall (nv hx)⟩
  ·cases hx
 |indexAddr t x ix=>
  rw [Yeq]
  simp only [aop] at hx
  split at hx
  ·rename_i i hi
   refine ⟨zb5 hx fun v hv=>?_,nocall (nv hx)⟩
   have hc:=ev ix
   have hcopy:=hv
   unfold ygo at hcopy
   split at hcopy
   ·rename_i kk k e1
    rw [e1] at hc
    rw [e1] at hv
    rw [zbe hc]
    exact znq (hT.ty _ _ hi) hT.ty hv h (ev x)
   ·cases hcopy
  ·cases hx
 |index t x ix=>
  rw [Yer]
  simp only [aop] at hx
  split at hx
  ·rename_i i hi
   refine ⟨zb5 hx fun v hv=>?_,nocall (nv hx)⟩
   have hc:=ev ix
   have hcopy:=hv
   unfold yiw at hcopy
   split at hcopy
   ·rename_i u kk k e0 e1 e2
    rw [e1] at hc
    rw [e1] at hv
    rw [zbe hc]
    exact yix (hT.ty _ _ hi) hv h (ev x)
   ·cases hcopy
  ·cases hx
 |lookup t x ix ok=>
  rw [yn3]
  simp only [aop] at hx
  exact ⟨zb5 hx fun v hv=>yi3 hT hv h (ev x) (ev ix),nocall (nv hx)⟩
 |mapUpdate t m k x=>
  rw [yr3]
  simp only [aop] at hx
  exact ⟨zk4 hx fun hv=>zlr hT hv h (ev m) (ev k) (ev x),nocall (nu hx)⟩
 |insert t m k x=>
  rw [ymb]
  simp only [aop] at hx
  exact ⟨zk4 hx fun hv=>zlr hT hv h (ev m) (ev k) (ev x),nocall (nu hx)⟩
 |range t x=>
  rw [yjn]
  simp only [aop] at hx
  split at hx
  ·rename_i i u hi hu
   have hc:=ev x
   rw [hu] at hc
   split at hx
   ·rename_i hd
    split at hx
    ·rename_i s2 hs
     cases hx
     have hui:=(hT.ty _ _ hi).und
     rw [hd] at hui
     refine ⟨zc6 (m:=Instr.range t (a.eval x)) ?_,nocall ⟨_,rfl⟩⟩
     rw [zbk hc]
     exact znx hs h hui
    ·cases hx
   ·cases hx
  ·cases hx
 |next it b=>
  rw [yn4]
  cases b
  ·cases hx
  ·refine ⟨zdr hx fun v hv=>?_,nocall (nv2 hx)⟩
   obtain ⟨r',w1,k1,k2,k3,k4⟩:=yi7 (P:=P) (t:=ty) hv h (ev it) trivial
   exact ⟨r',w1,ρ,D,k1,k2,k3,k4⟩
 |extract t k=>
  rw [yrz]
  simp only [aop] at hx
  exact ⟨zb5 hx fun v hv=>zj5 hv h (ev t),nocall (nv hx)⟩
 |call c=>
  rw [yn0]
  obtain ⟨callee,args,ts⟩:=c
  cases callee with
  |builtin b=>
   have hv:ycw (ydb T b ts.toList (yco ef args.toList) s)=some (r,s1):=hx
   refine ⟨?_,nocall (nv2 hv)⟩
   unfold ycw at hv
   split at hv
   ·rename_i v s2 hb
    cases hv
    have:=zj3 (P:=P) hT hb h (zd4 ev args.toList) ty (args.map fun| .const _=>true|_=>false)
    have e:(⟨args.toList.map a.eval⟩:Array Value)=args.map a.eval:=by apply Array.ext';simp
    rw [e] at this
    exact this
   ·cases hv
  |value f=>
   simp only [aop] at hx
   split at hx
   ·rename_i g fs cs hf
    have hc:=ev f
    rw [hf] at hc
    have hform: ∃ fs' cs',a.eval f= .func (.func g) ⟨fs'⟩ ⟨cs'⟩/\Rvs E D ρ fs fs'/\Rvs E D ρ cs cs':=by
     generalize a.eval f=u at hc ⊢
     cases hc with
     |flat _ hfl=>
      cases fs with
      |nil=>
       cases cs with
       |nil=>exact ⟨[],[],rfl, .nil, .nil⟩
       |cons=>cases hfl
      |cons=>cases hfl
     |func _ _ k' _ l' hk hr=>exact ⟨k',l',rfl,hk,hr⟩
    obtain ⟨fs',cs',e1,hk,hr⟩:=hform
    have e2:((⟨fs'⟩:Array Value)++args.map a.eval)++(⟨cs'⟩:Array Value)=⟨fs'++(args.toList.map a.eval++cs')⟩:=by apply Array.ext';simp
    have hall:Rvs E D ρ (fs++(yco ef args.toList++cs)) (fs'++(args.toList.map a.eval++cs')):=hk.append ((zd4 ev _).append hr)
    have hrun:(do let d<-resolve a.eval ⟨.value f,args,ts⟩ ty;invoke d.target d.args:Sem Next).run P w=(callFunc g ⟨fs'++(args.toList.map a.eval++cs')⟩).run P w:=by
     simp only [resolve,e1,Deferred.ofValue,invoke,Sem.run_bind,Sem.run_pure,Result.andThen_ok]
     rw [e2]
    split at hx
    ·rename_i fn hfn
     cases hx
     obtain ⟨k1,k2,c,k3⟩:=hT.fn g fn hfn
     exact ⟨⟨rfl,_,by rw [hrun];exact zp1 k1 k2 k3 _ w,hall⟩,fun g' args' e=>by cases e;exact ⟨fn,hfn⟩⟩
    ·split at hx
     ·rename_i hh hhx
      have hn:=nv hx
      unfold ye5 at hx
      split at hx
      ·rename_i v hv
       cases hx
       obtain ⟨v',j1,j2⟩:=hT.ex g hh hhx D ρ _ _ v w hv hall
       exact ⟨⟨.value v',w,ρ,v',D,by rw [hrun];exact j1, .inl rfl,j2,h,Ex.refl h⟩,nocall hn⟩
      ·cases hx
     ·cases hx
   ·cases hx
  |invoke r m=>cases hx
 |_=>cases hx
end
inductive AEx where
 |normal
 |exit (id:Nat)
 |ret
def AEx.to :AEx->Exit
 | .normal=> .normal
 | .exit id=> .exit id
 | .ret=> .ret
structure Rn where
 code:Nat->Code->Tm->ASt->Option (AEx × Tm × ASt)
 call:FuncId->List Value->ASt->Option (Value × ASt)
def ycq :Nat:=8
def yd5 (tm:Tm)(sz:Nat)(d:Option Tmp)(v:Value):Option Tm:=
 match d with
 |none=>some tm
 |some d=>cond (Nat.ble (d+1) sz&&Nat.ble (d+2) (2 ^ ycq - 1)) (some (tm.set ycq d (some v))) none
def yd4 (T:Tbl)(r:Rn)(ef:Operand->Value)(s:ASt)(o:Op):Option (Value × ASt):=
 match aop T ef o s with
 |some (.val v,s1)=>some (v,s1)
 |some (.call f args,s1)=>r.call f args s1
 |none=>none
def ycy (ops:List Oper)(tm:Tm)(g:Option (Nat × Bool)):Option Bool:=
 match g with
 |none=>some true
 |some (j,want)=>match ops[j]? with
  |none=>some false
  |some o=>match o.dst with
   |none=>some false
   |some d=>match tm.get d with
    |some (.bool b)=>some (b==want)
    |some (.tuple ⟨[]⟩)=>some false
    |none=>some false
    |_=>none
def yqi (T:Tbl)(r:Rn)(sz:Nat)(all:List Oper):List Oper->Tm->ASt->Option (Tm × ASt)
 | [],tm,s=>some (tm,s)
 |o::l,tm,s=>match ycy all tm o.guard with
  |some true=>match yd4 T r (aev tm) s o.op with
   |some (v,s1)=>match yd5 tm sz o.dst v with
    |some tm1=>yqi T r sz all l tm1 s1
    |none=>none
   |none=>none
  |some false=>match yd5 tm sz o.dst (.tuple ⟨[]⟩) with
   |some tm1=>yqi T r sz all l tm1 s
   |none=>none
  |none=>none
structure St (E:Ev)(D:Nat->Prop)(ρ:Nat->Pl)(sz:Nat)(s:ASt)(tm:Tm)(a:Act)(w:World):Prop where
 sim:Sim E D ρ s w
 tr:TRel E D ρ tm a
 size:a.tmps.size=sz
 defers:a.defers= []
def ybl (E:Ev)(P:Program)(r:Rn):Prop:= ∀ f args s v s',r.call f args s=some (v,s')-> ∀ D ρ w args',Sim E D ρ s w->Rvs E D ρ args args'->
 Calls P f ⟨args'⟩ w fun e w'=> ∃ v' ρ' D',e= .returned v'/\Rv E D' ρ' v v'/\Sim E D' ρ' s' w'/\Ex D s ρ w D' s' ρ' w'
section
variable {E:Ev}{s s1:ASt}{ρ ρ1:Nat->Pl}{w w1:World}{P:Program}{D D1:Nat->Prop}{t:TypeId}{i:TI}{T:Tbl}{tm tm1:Tm}{a:Act}{sz:Nat}{r:Rn}
theorem TRel.mono (h:TRel E D ρ tm a)(hs:Sim E D ρ s w)(k:Ex D s ρ w D1 s1 ρ1 w1):TRel E D1 ρ1 tm a:=fun t=>(h t).mono k.sub fun i hi=>k.same i (hs.dn i hi)
theorem zlv {d:Option Tmp}{v v':Value}(hp:yd5 tm sz d v=some tm1)(h:TRel E D ρ tm a)(hs:a.tmps.size=sz)(hv:Rv E D ρ v v'):TRel E D ρ tm1 (a.put d v')/\(a.put d v').tmps.size=sz:=by
 unfold yd5 at hp
 split at hp
 ·cases hp;exact ⟨h,hs⟩
 ·rename_i d
  obtain ⟨h1,h2⟩:=zax hp
  simp only [Bool.and_eq_true] at h1
  have h3:=qS h1.1
  have h4:=qS h1.2
  cases h2
  refine ⟨fun t=>?_,by simp [Act.put,hs]⟩
  have hlt:d+1<2 ^ ycq:=qQ (Nat.lt_succ_self _) (qR h4 (Nat.sub_le _ _))
  rw [Tr.get_set ycq tm d (some v) hlt t]
  by_cases e:t=d
  ·subst e
   rw [if_pos rfl]
   have e2:(a.put (some t) v').tmps.getD t undef=v':=by
    have hlt2:t<a.tmps.size:=by omega
    simp [Act.put,Array.getD_eq_getD_getElem?,Array.getElem?_setIfInBounds,hlt2]
   rw [e2]
   exact hv
  ·rw [if_neg e]
   have e2:(a.put (some d) v').tmps.getD t undef=a.tmps.getD t undef:=by
    simp only [Act.put,Array.getD_eq_getD_getElem?]
    rw [Array.getElem?_setIfInBounds,if_neg (fun h=>e h.symm)]
   rw [e2]
   exact h t
theorem zdm {ops : List Oper}{o : Oper}{b : Bool}(hw : ycy ops tm o.guard = some b)(h : ∀ j want o' d, o.guard = some (j, want) -> ops[j]? = some o' -> o'.dst = some d -> Rv E D ρ (match tm.get d with | some v => v | none => .tuple ⟨[]⟩) (a.tmps.getD d undef)) : Region.wanted o (yielded ⟨ops⟩ a.tmps) = b := by
 unfold ycy at hw
 unfold Region.wanted
 split at hw
 ·rename_i hg
  rw [hg]
  cases hw
  rfl
 ·rename_i j want hg
  rw [hg]
  unfold yielded
  have e1:(⟨ops⟩:Array Oper)[j]?=ops[j]?:=by simp
  dsimp only
  rw [e1]
  split at hw
  ·rename_i ho
   rw [ho];cases hw;rfl
  ·rename_i o' ho
   rw [ho]
   split at hw
   ·rename_i hd
    rw [Option.bind_some,hd];cases hw;rfl
   ·rename_i d hd
    rw [Option.bind_some,hd,Option.bind_some]
    have hd2:=h j want o' d hg ho hd
    have key: ∀ u,a.tmps.getD d undef=u->u≠undef->a.tmps[d]?=some u:=fun u hu hne=>by
     rw [Array.getD_eq_getD_getElem?] at hu
     cases hx:a.tmps[d]? with
     |none=>rw [hx] at hu;exact absurd hu.symm hne
     |some x=>rw [hx] at hu;exact congrArg some hu
    split at hw
    ·rename_i bb hb
     rw [hb] at hd2
     rw [key _ (zcv hd2) (by intro e;cases e)]
     cases hw
     cases bb<;>cases want<;>rfl
    ·rename_i hb
     rw [hb] at hd2
     have hu:a.tmps.getD d undef=undef:=by
      revert hd2
      generalize a.tmps.getD d undef=u
      intro hd2
      cases hd2 with
      |flat _ h=>cases h
      |tuple _ _ h=>cases h;rfl
     cases hw
     rw [Array.getD_eq_getD_getElem?] at hu
     cases hx:a.tmps[d]? with
     |none=>rfl
     |some x=>
      rw [hx] at hu
      have hu:x=undef:=hu
      rw [hu];rfl
    ·rename_i hb
     rw [hb] at hd2
     have hu:a.tmps.getD d undef=undef:=by
      revert hd2
      generalize a.tmps.getD d undef=u
      intro hd2
      cases hd2 with
      |flat _ h=>cases h
      |tuple _ _ h=>cases h;rfl
     cases hw
     rw [Array.getD_eq_getD_getElem?] at hu
     cases hx:a.tmps[d]? with
     |none=>rfl
     |some x=>
      rw [hx] at hu
      have hu:x=undef:=hu
      rw [hu];rfl
    ·cases hw
theorem zlu (hT:T.Ok E P)(hC:ybl E P r){ef:Operand->Value}{o:Oper}{v:Value}(hx:yd4 T r ef s o.op=some (v,s1))(h:Sim E D ρ s w)(ev: ∀ x,Rv E D ρ (ef x) (a.eval x)){K:Act->World->Prop}{Q:Exit->Act->World->Prop}
 (hK: ∀ v' ρ1 D1 w1,Rv E D1 ρ1 v v'->Sim E D1 ρ1 s1 w1->Ex D s ρ w D1 s1 ρ1 w1->K (a.put o.dst v') w1):o.wp P a w K Q:=by
 unfold yd4 at hx
 split at hx
 ·rename_i v0 s2 ho
  cases hx
  obtain ⟨⟨n,w1,ρ1,r',D1,k1,k2,k3,k4,k5⟩,_⟩:=yl0 hT h ev ho
  unfold Oper.wp
  rw [k1]
  rcases k2 with rfl|⟨rfl,rfl⟩
  ·exact hK _ ρ1 D1 w1 k3 k4 k5
  ·exact hK _ ρ1 D1 w1 k3 k4 k5
 ·rename_i f args s2 ho
  obtain ⟨⟨rfl,args',k1,k2⟩,_⟩:=yl0 hT h ev ho
  unfold Oper.wp
  rw [k1]
  refine (hC f args _ v s1 hx D ρ w args' h k2).mono ?_
  rintro e w' ⟨v',ρ',D',rfl,j1,j2,j3⟩
  exact hK v' ρ' D' w' j1 j2 j3
 ·cases hx
theorem zj8 (hT:T.Ok E P)(hC:ybl E P r){all:List Oper}: ∀ (l:List Oper) (tm:Tm) (s:ASt) (tm':Tm) (s':ASt),yqi T r sz all l tm s=some (tm',s')-> ∀ (D:Nat->Prop) (ρ:Nat->Pl) (a:Act) (w:World),St E D ρ sz s tm a w-> ∀ {Q:Exit->Act->World->Prop},
 (∀ D' ρ' a' w',St E D' ρ' sz s' tm' a' w'->Ex D s ρ w D' s' ρ' w'->Q .normal a' w')->wpList P ⟨all⟩ Q l a w
 | [],tm,s,tm',s',hx,D,ρ,a,w,h,Q,hQ=>by
  cases hx
  exact hQ D ρ a w h (Ex.refl h.sim)
 |o::l,tm,s,tm',s',hx,D,ρ,a,w,h,Q,hQ=>by
  unfold yqi at hx
  unfold wpList
  split at hx
  ·rename_i hw
   rw [if_pos (zdm hw fun _ _ _ d _ _ _=>h.tr d)]
   split at hx
   ·rename_i v s1 hs
    split at hx
    ·rename_i tm1 hp
     refine .inl (zlu hT hC hs h.sim (zfb h.sim h.tr) fun v' ρ1 D1 w1 j1 j2 j3=>?_)
     obtain ⟨k1,k2⟩:=zlv hp (h.tr.mono h.sim j3) h.size j1
     refine zj8 hT hC l tm1 s1 tm' s' hx D1 ρ1 _ w1 ⟨j2,k1,k2,?_⟩ fun D' ρ' a' w' g1 g2=>hQ D' ρ' a' w' g1 (Ex.trans h.sim.low j3 g2)
     cases hd:o.dst<;>exact h.defers
    ·cases hx
   ·cases hx
  ·rename_i hw
   rw [if_neg (by rw [zdm hw fun _ _ _ d _ _ _=>h.tr d];simp)]
   split at hx
   ·rename_i tm1 hp
    obtain ⟨k1,k2⟩:=zlv hp h.tr h.size (.tuple _ _ .nil)
    refine zj8 hT hC l tm1 s tm' s' hx D ρ _ w ⟨h.sim,k1,k2,?_⟩ hQ
    cases hd:o.dst<;>exact h.defers
   ·cases hx
  ·cases hx
end
def yja (T:Tbl)(tm:Tm)(s:ASt):List ResultVar->Option (List Value)
 | []=>some []
 | .tmp t::l=>match yja T tm s l with
  |some vs=>some (aev tm (.tmp t)::vs)
  |none=>none
 | .cell p t::l=>match T.ty t,yja T tm s l with
  |some i,some vs=>match yee s i (aev tm (.tmp p)) with
   |some v=>some (v::vs)
   |none=>none
  |_,_=>none
def Yc8 (tmps:Array Value):ResultVar->Sem Value
 | .tmp t=>pure (tmps.getD t undef)
 | .cell p t=>do loadVar t (<-asAddr (tmps.getD p undef))
theorem znj (fn:Func)(tmps:Array Value):results fn tmps=(do
 let vs<-fn.results.mapM (Yc8 tmps)
 pure (if h:vs.size=1 then vs[0] else .tuple vs)):=by
 unfold results
 congr 1
 first |done|(congr 1;funext x;cases x<;>rfl)
def yni (l:List Value):Value:=
 match l with
 | [v]=>v
 |l=> .tuple ⟨l⟩
section
variable {E:Ev}{s s1:ASt}{ρ ρ1:Nat->Pl}{w w1:World}{P:Program}{D D1:Nat->Prop}{t:TypeId}{i:TI}{T:Tbl}{tm tm1:Tm}{a:Act}{sz:Nat}{r:Rn}
theorem zns (hi:TyOk P t i){a a' r:Value}(hl:yee s i a=some r)(h:Sim E D ρ s w)(ha:Rv E D ρ a a'): ∃ r',(do loadVar t (<-asAddr a'):Sem Value).run P w= .ok r' w/\Rv E D ρ r r':=by
 unfold yee at hl
 split at hl
 ·rename_i b o
  split at hl
  ·rename_i l hld
   obtain ⟨l',k1,k2,k3⟩:=zfi hld h
   cases ha with
   |flat _ h=>cases h
   |ptr b o hb=>
    have hlen:=k1.len
    cases hd:yi1 i.desc
    ·rw [hd] at hl
     obtain ⟨v,rfl⟩: ∃ v,l= [v]:=by
      rw [hd] at k2
      match l,k2 with
      | [v],_=>exact ⟨v,rfl⟩
     cases hl
     cases k1 with
     |cons _ v' _ m hv ht=>
      have hc:=k3 0 v' rfl
      rw [zb2,Nat.add_zero] at hc
      refine ⟨v',?_,hv⟩
      simp [asAddr,loadVar,zc0 hi.und,hd,run_load,hc]
    ·rw [hd] at hl
     cases hl
     refine ⟨.agg ⟨l'⟩,?_, .agg _ _ k1⟩
     have hsz:i.size=l'.length:=by rw [hlen,k2,hd];rfl
     simp only [asAddr,loadVar,Sem.run_bind,Sem.run_pure,Result.andThen_ok,zc0 hi.und,hd,if_true,hi.run_size,hsz]
     rw [run_loadCells_list w _ l' k3]
     rfl
  ·cases hl
 ·cases hl
theorem zj9 (hT:T.Ok E P)(h:Sim E D ρ s w)(ht:TRel E D ρ tm a): ∀ (l:List ResultVar) (vs:List Value),yja T tm s l=some vs-> ∃ vs',(l.mapM (m:=Sem) (Yc8 a.tmps)).run P w= .ok vs' w/\Rvs E D ρ vs vs'
 | [],vs,hx=>by cases hx;exact ⟨[],rfl, .nil⟩
 | .tmp t::l,vs,hx=>by
  unfold yja at hx
  split at hx
  ·rename_i vs2 hl
   cases hx
   obtain ⟨vs',k1,k2⟩:=zj9 hT h ht l vs2 hl
   refine ⟨a.tmps.getD t undef::vs',?_, .cons _ _ _ _ (ht t) k2⟩
   rw [List.mapM_cons]
   simp only [Sem.run_bind]
   rw [show (Yc8 a.tmps (.tmp t)).run P w= .ok (a.tmps.getD t undef) w from rfl]
   simp only [Result.andThen_ok]
   rw [k1]
   rfl
  ·cases hx
 | .cell p t::l,vs,hx=>by
  unfold yja at hx
  split at hx
  ·rename_i i vs2 hi hl
   split at hx
   ·rename_i v hv
    cases hx
    obtain ⟨vs',k1,k2⟩:=zj9 hT h ht l vs2 hl
    obtain ⟨r',g1,g2⟩:=zns (P:=P) (hT.ty _ _ hi) hv h (ht p)
    refine ⟨r'::vs',?_, .cons _ _ _ _ g2 k2⟩
    rw [List.mapM_cons]
    simp only [Sem.run_bind]
    rw [show (Yc8 a.tmps (.cell p t)).run P w= .ok r' w from g1]
    simp only [Result.andThen_ok]
    rw [k1]
    rfl
   ·cases hx
  ·cases hx
theorem zhl (hT:T.Ok E P)(h:Sim E D ρ s w)(ht:TRel E D ρ tm a){fn:Func}{vs:List Value}(hx:yja T tm s fn.results.toList=some vs): ∃ v',(results fn a.tmps).run P w= .ok v' w/\Rv E D ρ (yni vs) v':=by
 obtain ⟨vs',k1,k2⟩:=zj9 hT h ht _ vs hx
 rw [znj]
 refine ⟨if h:(⟨vs'⟩:Array Value).size=1 then (⟨vs'⟩:Array Value)[0] else .tuple ⟨vs'⟩,?_,?_⟩
 ·rw [Array.mapM_eq_mapM_toList]
  simp only [Sem.run_bind,Sem.run_map]
  rw [k1]
  rfl
 ·cases k2 with
  |nil=>exact .tuple _ _ .nil
  |cons x y l m h1 h2=>
   cases h2 with
   |nil=>exact h1
   |cons x2 y2 l2 m2 h3 h4=>
    rw [dif_neg qH]
    exact .tuple _ _ (.cons _ _ _ _ h1 (.cons _ _ _ _ h3 h4))
end
def ynb :List Value->Nat->Tm->Tm
 | [],_,tm=>tm
 |v::l,k,tm=>ynb l (k+1) (tm.set ycq k (some v))
def yd3 (T:Tbl)(dr:Rn->Nat->List Oper->Tm->ASt->Option (Tm × ASt))(r:Rn)(sz:Nat)(c:Code)(tm:Tm)(s:ASt):Option (AEx × Tm × ASt):=
 match c with
 | .skip=>some (.normal,tm,s)
 | .label _=>some (.normal,tm,s)
 | .region _ ops draw=>match cond draw (dr r sz ops.toList tm s) (yqi T r sz ops.toList ops.toList tm s) with
  |some (tm1,s1)=>some (.normal,tm1,s1)
  |none=>none
 | .seq a b=>match r.code sz a tm s with
  |some (.normal,tm1,s1)=>r.code sz b tm1 s1
  |x=>x
 | .cond c a b=>match aev tm c with
  | .bool t=>r.code sz (cond t a b) tm s
  |_=>none
 | .block id c=>match r.code sz c tm s with
  |some (.exit id',tm1,s1)=>cond (Nat.beq id' id) (some (.normal,tm1,s1)) (some (.exit id',tm1,s1))
  |x=>x
 | .loop c=>match r.code sz c tm s with
  |some (.normal,tm1,s1)=>r.code sz (.loop c) tm1 s1
  |x=>x
 | .scope c=>r.code sz c tm s
 | .exit id=>some (.exit id,tm,s)
 | .ret=>some (.ret,tm,s)
 |_=>none
def yho (T:Tbl)(r:Rn)(f:FuncId)(args:List Value)(s:ASt):Option (Value × ASt):=
 match T.sp f with
 |some g=>g args s
 |none=>match T.fn f with
  |some fn=>match fn.body with
   |some c=>cond (Nat.ble (args.length+2) (2 ^ ycq)) (match r.code (max args.length fn.ntmps) c (ynb args 0 .leaf) s with
    |some (.exit _,_,_)=>none
    |some (_,tm,s1)=>match yja T tm s1 fn.results.toList with
     |some vs=>some (yni vs,s1)
     |none=>none
    |none=>none) none
   |none=>none
  |none=>none
def rn (T:Tbl)(dr:Rn->Nat->List Oper->Tm->ASt->Option (Tm × ASt)):Nat->Rn
 |0=>⟨fun _ _ _ _=>none,fun _ _ _=>none⟩
 |n+1=>⟨yd3 T dr (rn T dr n),yho T (rn T dr n)⟩
def yed (P:Program)(c:Code)(Q:Exit->Act->World->Prop)(a:Act)(w:World):Prop:=
 ∀ (b:Frame) (k:List Item) (cs:List Frame),∃ e a' w',Q e a' w'/\Arrives P (lone (b.at a (.code c:: .inLoop c::k)) cs w) b k cs e a' w'
def CodeWp (P:Program)(c:Code)(Q:Exit->Act->World->Prop)(a:Act)(w:World):Prop:=
 match c with
 | .loop c=>yed P c Q a w
 |c=>c.wp P Q a w
section
variable {P:Program}{Q:Exit->Act->World->Prop}{a:Act}{w:World}
theorem zk0 {c:Code}(h:c.wp P (Exit.then (yed P c Q) Q) a w):yed P c Q a w:=by
 intro b k cs
 obtain ⟨e,a₁,w₁,hq,harr⟩:=h b (.inLoop c::k) cs
 cases e with
 |normal=>
  obtain ⟨e₂,a₂,w₂,hq₂,harr₂⟩:=hq b k cs
  exact ⟨e₂,a₂,w₂,hq₂, .of_steps (Steps.trans harr (.one step_inLoop)) harr₂⟩
 |exit id=>exact ⟨_,a₁,w₁,hq, .pass (x:= .inLoop c) rfl (fun _ _=> .inl qH) harr⟩
 |goto l=>exact ⟨_,a₁,w₁,hq, .pass (x:= .inLoop c) rfl (fun _ _=> .inl qH) harr⟩
 |ret=>exact ⟨_,a₁,w₁,hq, .pass (x:= .inLoop c) rfl (fun _ _=> .inl qH) harr⟩
 |panic ch=>exact ⟨_,a₁,w₁,hq, .pass (x:= .inLoop c) rfl (fun _ _=> .inl qH) harr⟩
 |outgrown=>exact ⟨_,a₁,w₁,hq, .pass (x:= .inLoop c) rfl (fun _ _=> .inl qH) harr⟩
theorem zj0 {c:Code}(h:yed P c Q a w):(Code.loop c).wp P Q a w:=by
 intro b k cs
 obtain ⟨e,a',w',hq,harr⟩:=h b k cs
 exact ⟨e,a',w',hq, .of_steps (.one step_loop) harr⟩
theorem CodeWp.wp {c:Code}(h:CodeWp P c Q a w):c.wp P Q a w:=by
 cases c<;>first |exact h|exact zj0 h
end
abbrev Dr :=Rn->Nat->List Oper->Tm->ASt->Option (Tm × ASt)
def yec (E:Ev)(P:Program)(r:Rn):Prop:= ∀ sz c tm s ex tm' s',r.code sz c tm s=some (ex,tm',s')-> ∀ D ρ a w,St E D ρ sz s tm a w-> ∀ (Q:Exit->Act->World->Prop),
 (∀ D' ρ' a' w',St E D' ρ' sz s' tm' a' w'->Ex D s ρ w D' s' ρ' w'->Q ex.to a' w')->CodeWp P c Q a w
def Ycu (E:Ev)(P:Program)(dr:Dr):Prop:= ∀ r,ybl E P r-> ∀ sz ops tm s tm' s',dr r sz ops tm s=some (tm',s')-> ∀ D ρ a w,St E D ρ sz s tm a w-> ∀ (Q:Exit->Act->World->Prop),
 (∀ D' ρ' a' w',St E D' ρ' sz s' tm' a' w'->Ex D s ρ w D' s' ρ' w'->Q .normal a' w')-> ∀ id,(Code.region id ⟨ops⟩ true).wp P Q a w
def yqx (E:Ev)(P:Program)(T:Tbl):Prop:= ∀ f g,T.sp f=some g-> ∀ args s v s',g args s=some (v,s')-> ∀ D ρ w args',Sim E D ρ s w->Rvs E D ρ args args'->
 Calls P f ⟨args'⟩ w fun e w'=> ∃ v' ρ' D',e= .returned v'/\Rv E D' ρ' v v'/\Sim E D' ρ' s' w'/\Ex D s ρ w D' s' ρ' w'
section
variable {E:Ev}{P:Program}{T:Tbl}{dr:Dr}{r:Rn}
theorem zpy (hT:T.Ok E P)(hD:Ycu E P dr)(hC:ybl E P r){id:Nat}{ops:Array Oper}{draw:Bool}{sz:Nat}{tm tm':Tm}{s s':ASt}
 (hx:cond draw (dr r sz ops.toList tm s) (yqi T r sz ops.toList ops.toList tm s)=some (tm',s')) {D:Nat->Prop} {ρ:Nat->Pl} {a:Act} {w:World} (h:St E D ρ sz s tm a w) {Q:Exit->Act->World->Prop}
 (hQ: ∀ D' ρ' a' w',St E D' ρ' sz s' tm' a' w'->Ex D s ρ w D' s' ρ' w'->Q .normal a' w'):(Code.region id ops draw).wp P Q a w:=by
 cases draw
 ·have:=zj8 hT hC ops.toList tm s tm' s' hx D ρ a w h (Q:=Q) hQ
  exact wp_region_list (by simpa using this)
 ·exact hD r hC sz ops.toList tm s tm' s' hx D ρ a w h Q hQ id
theorem yiz (hT:T.Ok E P)(hD:Ycu E P dr)(hC:ybl E P r)(hK:yec E P r):yec E P ⟨yd3 T dr r,yho T r⟩:=by
 intro sz c tm s ex tm' s' hx D ρ a w h Q hQ
 have hx:yd3 T dr r sz c tm s=some (ex,tm',s'):=hx
 cases c with
 |skip=>cases hx;exact wp_skip (hQ D ρ a w h (Ex.refl h.sim))
 |label l=>cases hx;exact wp_label (hQ D ρ a w h (Ex.refl h.sim))
 |region id ops draw=>
  simp only [yd3] at hx
  split at hx
  ·rename_i tm1 s1 hr
   cases hx
   exact zpy hT hD hC hr h hQ
  ·cases hx
 |seq x y=>
  simp only [yd3] at hx
  refine wp_seq ?_
  split at hx
  ·rename_i tm1 s1 hr
   refine (hK sz x tm s _ tm1 s1 hr D ρ a w h (Exit.then (y.wp P Q) Q) fun D1 ρ1 a1 w1 h1 k1=>?_).wp
   exact (hK sz y tm1 s1 ex tm' s' hx D1 ρ1 a1 w1 h1 Q fun D' ρ' a' w' h2 k2=>hQ D' ρ' a' w' h2 (Ex.trans h.sim.low k1 k2)).wp
  ·rename_i hne
   refine (hK sz x tm s ex tm' s' hx D ρ a w h (Exit.then (y.wp P Q) Q) fun D1 ρ1 a1 w1 h1 k1=>?_).wp
   cases ex with
   |normal=>exact absurd hx (hne tm' s')
   |exit id=>exact hQ D1 ρ1 a1 w1 h1 k1
   |ret=>exact hQ D1 ρ1 a1 w1 h1 k1
 |cond c x y=>
  simp only [yd3] at hx
  split at hx
  ·rename_i t ht
   have hc:=zfb h.sim h.tr c
   rw [ht] at hc
   refine wp_cond (zcv hc) ?_
   cases t
   ·exact (hK sz y tm s ex tm' s' hx D ρ a w h Q hQ).wp
   ·exact (hK sz x tm s ex tm' s' hx D ρ a w h Q hQ).wp
  ·cases hx
 |block id c=>
  simp only [yd3] at hx
  refine wp_block ?_
  split at hx
  ·rename_i id' tm1 s1 hr
   refine (hK sz c tm s _ tm1 s1 hr D ρ a w h (Exit.inBlock id Q) fun D1 ρ1 a1 w1 h1 k1=>?_).wp
   show (if id'=id then Q .normal a1 w1 else Q (.exit id') a1 w1)
   cases hb:Nat.beq id' id
   ·rw [hb] at hx
    cases hx
    rw [if_neg (fun e=>by rw [e] at hb;simp at hb)]
    exact hQ D1 ρ1 a1 w1 h1 k1
   ·rw [hb] at hx
    cases hx
    rw [if_pos (qU hb)]
    exact hQ D1 ρ1 a1 w1 h1 k1
  ·rename_i hne
   refine (hK sz c tm s ex tm' s' hx D ρ a w h (Exit.inBlock id Q) fun D1 ρ1 a1 w1 h1 k1=>?_).wp
   cases ex with
   |normal=>exact hQ D1 ρ1 a1 w1 h1 k1
   |exit id'=>exact absurd hx (hne id' tm' s')
   |ret=>exact hQ D1 ρ1 a1 w1 h1 k1
 |loop c=>
  simp only [yd3] at hx
  refine zk0 ?_
  split at hx
  ·rename_i tm1 s1 hr
   refine (hK sz c tm s _ tm1 s1 hr D ρ a w h (Exit.then (yed P c Q) Q) fun D1 ρ1 a1 w1 h1 k1=>?_).wp
   exact hK sz (.loop c) tm1 s1 ex tm' s' hx D1 ρ1 a1 w1 h1 Q fun D' ρ' a' w' h2 k2=>hQ D' ρ' a' w' h2 (Ex.trans h.sim.low k1 k2)
  ·rename_i hne
   refine (hK sz c tm s ex tm' s' hx D ρ a w h (Exit.then (yed P c Q) Q) fun D1 ρ1 a1 w1 h1 k1=>?_).wp
   cases ex with
   |normal=>exact absurd hx (hne tm' s')
   |exit id=>exact hQ D1 ρ1 a1 w1 h1 k1
   |ret=>exact hQ D1 ρ1 a1 w1 h1 k1
 |scope c=>
  simp only [yd3] at hx
  refine wp_scope_straight ?_
  refine (hK sz c tm s ex tm' s' hx D ρ a w h (Exit.noGoto Q) fun D1 ρ1 a1 w1 h1 k1=>?_).wp
  cases ex<;>exact hQ D1 ρ1 a1 w1 h1 k1
 |exit id=>cases hx;exact wp_exit (hQ D ρ a w h (Ex.refl h.sim))
 |ret=>cases hx;exact wp_ret (hQ D ρ a w h (Ex.refl h.sim))
 |_=>cases hx
theorem zlp : ∀ (args:List Value) (k:Nat) (tm:Tm) (t:Nat),k+args.length+1<2 ^ ycq->(ynb args k tm).get t=if k<=t/\t<k+args.length then args[t - k]? else tm.get t
 | [],k,tm,t,_=>by
  rw [ynb,if_neg (by simp only [List.length_nil];omega)]
 |v::l,k,tm,t,h=>by
  simp only [List.length_cons] at h ⊢
  rw [ynb,zlp l (k+1) _ t qF,Tr.get_set ycq tm k (some v) qF t]
  by_cases h1:k+1<=t/\t<k+1+l.length
  ·rw [if_pos h1,if_pos qF]
   rw [show t - k=(t - (k+1))+1 by omega,List.getElem?_cons_succ]
  ·rw [if_neg h1]
   by_cases h2:t=k
   ·subst h2
    rw [if_pos rfl,if_pos qF,Nat.sub_self,List.getElem?_cons_zero]
   ·rw [if_neg h2,if_neg qF]
theorem yiy (hT:T.Ok E P)(hS:yqx E P T)(hK:yec E P r):ybl E P ⟨yd3 T dr r,yho T r⟩:=by
 intro f args s v s' hx D ρ w args' h hr
 have hx:yho T r f args s=some (v,s'):=hx
 unfold yho at hx
 split at hx
 ·rename_i g hg
  exact hS f g hg args s v s' hx D ρ w args' h hr
 ·split at hx
  ·rename_i fn hfn
   split at hx
   ·rename_i c hc
    obtain ⟨h1,h2⟩:=zas hx
    have h1:=qS h1
    obtain ⟨k1,k2,k3⟩:=hT.fn f fn hfn
    refine calls_of_wp k1 hc ?_
    have hl:=hr.len
    have hst:St E D ρ (max args.length fn.ntmps) s (ynb args 0 .leaf) { tmps:=(⟨args'⟩:Array Value)++Array.replicate (fn.ntmps - (⟨args'⟩:Array Value).size) undef,defers:= []} w:=by
     refine ⟨h,fun t=>?_,?_,rfl⟩
     ·rw [zlp args 0 .leaf t qF]
      simp only [Nat.zero_le,true_and,Nat.zero_add,Nat.sub_zero]
      by_cases ht:t<args.length
      ·rw [if_pos ht]
       obtain ⟨u,hu,hur⟩:=hr.get (List.getElem?_eq_getElem ht)
       rw [List.getElem?_eq_getElem ht]
       have:((⟨args'⟩:Array Value)++Array.replicate (fn.ntmps - (⟨args'⟩:Array Value).size) undef).getD t undef=u:=by
        rw [Array.getD_eq_getD_getElem?,Array.getElem?_append_left (by simp;omega)]
        simp [hu]
       rw [this]
       exact hur
      ·rw [if_neg ht,Tr.get_leaf]
       have:((⟨args'⟩:Array Value)++Array.replicate (fn.ntmps - (⟨args'⟩:Array Value).size) undef).getD t undef=undef:=by
        rw [Array.getD_eq_getD_getElem?,Array.getElem?_append_right (by simp;omega),Array.getElem?_replicate]
        split<;>rfl
       rw [this]
       exact .tuple _ _ .nil
     ·simp [hl];omega
    have fin: ∀ (ex:AEx) (tm:Tm) (s1:ASt) (vs:List Value),r.code (max args.length fn.ntmps) c (ynb args 0 .leaf) s=some (ex,tm,s1)->ex= .normal∨ex= .ret->yja T tm s1 fn.results.toList=some vs->v=yni vs->s'=s1->
     c.wp P (bodyPost P fn fun e w'=> ∃ v' ρ' D',e= .returned v'/\Rv E D' ρ' v v'/\Sim E D' ρ' s' w'/\Ex D s ρ w D' s' ρ' w') { tmps:=(⟨args'⟩:Array Value)++Array.replicate (fn.ntmps - (⟨args'⟩:Array Value).size) undef,defers:= []} w:=by
     intro ex tm s1 vs hcode hex hres hv hs
     subst hv
     subst hs
     refine (hK _ c _ s ex tm s' hcode D ρ _ w hst _ fun D1 ρ1 a1 w1 g1 g2=>?_).wp
     obtain ⟨v',j1,j2⟩:=zhl hT g1.sim g1.tr hres
     rcases hex with rfl|rfl
     ·exact ⟨g1.defers,v',j1,v',ρ1,D1,rfl,j2,g1.sim,g2⟩
     ·exact ⟨g1.defers,v',j1,v',ρ1,D1,rfl,j2,g1.sim,g2⟩
    split at h2
    ·cases h2
    ·rename_i ex tm s1 hne hcode
     split at h2
     ·rename_i vs hvs
      cases h2
      refine fin ex tm _ vs hcode ?_ hvs rfl rfl
      cases ex with
      |normal=>exact .inl rfl
      |exit id=>exact absurd rfl (hne id)
      |ret=>exact .inr rfl
     ·cases h2
    ·cases h2
   ·cases hx
  ·cases hx
theorem ykn (hT:T.Ok E P)(hD:Ycu E P dr)(hS:yqx E P T): ∀ n,yec E P (rn T dr n)/\ybl E P (rn T dr n)
 |0=>by
  refine ⟨?_,?_⟩
  ·intro sz c tm s ex tm' s' hx
   cases hx
  ·intro f args s v s' hx
   cases hx
 |n+1=>by
  obtain ⟨h1,h2⟩:=ykn hT hD hS n
  exact ⟨yiz hT hD h2 h1,yiy hT hS h1⟩
end
section
theorem zdx {ef eg:Operand->Value}: ∀ l:List (Nat × Operand),(∀ x∈l.map (·.2),ef x=eg x)->yeu ef l=yeu eg l
 | [],_=>rfl
 |(k,x)::l,h=>by
  rw [yeu,yeu,h x qH,zdx l fun y hy=>h y (by simp at hy ⊢;exact .inr hy)]
theorem zce {ef eg:Operand->Value}: ∀ l:List Operand,(∀ x∈l,ef x=eg x)->yco ef l=yco eg l
 | [],_=>rfl
 |x::l,h=>by
  rw [yco,yco,h x qH,zce l fun y hy=>h y (by simp [hy])]
theorem zjb {ef eg:Operand->Value}(o:Option Operand)(h: ∀ x∈o.toArray,ef x=eg x):o.map ef=o.map eg:=by
 cases o with
 |none=>rfl
 |some x=>simp [h x qH]
theorem znw (T:Tbl){ef eg:Operand->Value}(o:Op)(s:ASt)(h: ∀ x∈o.operands,ef x=eg x):aop T ef o s=aop T eg o s:=by
 cases o with
 |build t ps=>simp only [aop];rw [zdx ps.toList fun x hx=>h x (by simpa [Op.operands] using hx)]
 |buildSlice t n ps=>simp only [aop];rw [zdx ps.toList fun x hx=>h x (by simpa [Op.operands] using hx)]
 |makeFunc fn fs cs=>
  simp only [aop]
  rw [zce fs.toList fun x hx=>h x (by simp [Op.operands];exact .inl (by simpa using hx)),zce cs.toList fun x hx=>h x (by simp [Op.operands];exact .inr (by simpa using hx))]
 |slice t x lo hi mx=>
  cases mx with
  |some=>rfl
  |none=>
   simp only [aop]
   rw [h x qK,zjb lo fun y hy=>h y (by simp [Op.operands] at hy ⊢;exact .inr (.inl hy)),zjb hi fun y hy=>h y (by simp [Op.operands] at hy ⊢;exact .inr (.inr hy))]
 |call c=>
  obtain ⟨callee,args,ts⟩:=c
  cases callee with
  |builtin b=>simp only [aop];rw [zce args.toList fun x hx=>h x (by simp [Op.operands,Call.operands];simpa using hx)]
  |value f=>
   simp only [aop]
   rw [h f (by simp [Op.operands,Call.operands]),zce args.toList fun x hx=>h x (by simp [Op.operands,Call.operands];exact .inr (by simpa using hx))]
  |invoke r m=>rfl
 |next it b=>
  cases b
  ·rfl
  ·simp only [aop];rw [h it qK]
 |makeMap t r=>cases r<;>rfl
 |pick c x y=>simp only [aop];rw [h c qK,h x qK,h y qK]
 |mapUpdate t m k x=>simp only [aop];rw [h m qK,h k qK,h x qK]
 |insert t m k x=>simp only [aop];rw [h m qK,h k qK,h x qK]
 |store t x y=>simp only [aop];rw [h x qK,h y qK]
 |binOp op t x y u=>simp only [aop];rw [h x qK,h y qK]
 |makeSlice t x y=>simp only [aop];rw [h x qK,h y qK]
 |indexAddr t x y=>simp only [aop];rw [h x qK,h y qK]
 |index t x y=>simp only [aop];rw [h x qK,h y qK]
 |lookup t x y ok=>simp only [aop];rw [h x qK,h y qK]
 |move x=>simp only [aop];rw [h x qK]
 |assign x=>simp only [aop];rw [h x qK]
 |box e x=>simp only [aop];rw [h x qK]
 |load t x=>simp only [aop];rw [h x qK]
 |nilCheck x=>simp only [aop];rw [h x qK]
 |unOp op t x=>simp only [aop];rw [h x qK]
 |convert t u x=>simp only [aop];rw [h x qK]
 |fieldAddr t x k=>simp only [aop];rw [h x qK]
 |field t x k=>simp only [aop];rw [h x qK]
 |range t x=>simp only [aop];rw [h x qK]
 |extract x k=>simp only [aop];rw [h x qK]
 |_=>rfl
theorem zka {T:Tbl}{r:Rn}{ef eg:Operand->Value}{o:Op}{s:ASt}(h: ∀ x∈o.operands,ef x=eg x):yd4 T r ef s o=yd4 T r eg s o:=by
 unfold yd4
 rw [znw T o s h]
end
structure Plan where
 run:Nat->Bool
 kd:Nat->Bool
 nd:Nat->Nat->Bool
 base:Nat->Nat
 inp:Nat->Tr AObj
 v:Nat->Value
 out:Nat->ASt
 tmS:Nat->Tm
 hpS:Nat->Tr AObj
def Plan.aff (p:Plan)(k b:Nat):Prop:=(p.base k<=b/\b<p.base (k+1))∨b∈(p.out k).tc
def Plan.Kept (p:Plan)(k:Nat):Prop:=(∀ b,b<p.base k->b∉(p.out k).tc->(p.out k).heap.get b=(p.inp k).get b)/\(∀ b x,(p.out k).heap.get b=some x->b<p.base (k+1))/\ ∀ b,b∈(p.out k).tc->(∃ x,(p.inp k).get b=some x)∨(p.base k<=b/\b<p.base (k+1))
structure Plan.Good (p:Plan)(T:Tbl)(r:Rn)(sz:Nat)(ops:List Oper)(tm0:Tm)(s0:ASt):Prop where
 b0:p.base 0=s0.next
 low: ∀ b x,s0.heap.get b=some x->b<s0.next
 bs: ∀ k,k<ops.length->p.base k<=p.base (k+1)
 bo: ∀ k,k<ops.length->(p.out k).next=p.base (k+1)
 t0:p.tmS 0=tm0
 h0:p.hpS 0=s0.heap
 lt: ∀ k j,k<ops.length->p.nd k j=true->j<k
 dir: ∀ k o,ops[k]?=some o-> ∀ e∈o.after,Region.binds .any e=true->e.on<k/\p.nd k e.on=true
 tr: ∀ k j i,k<ops.length->p.nd k j=true->p.nd j i=true->p.nd k i=true
 up: ∀ k o j,ops[k]?=some o->p.nd k j=true-> ∃ e∈o.after,Region.binds .any e=true/\(j=e.on∨p.nd e.on j=true)
 wan: ∀ k o,ops[k]?=some o->ycy ops (p.tmS k) o.guard=some (p.run k)
 yes: ∀ k o,ops[k]?=some o->p.run k=true->p.kd k=false->yd4 T r (aev (p.tmS k)) ⟨p.inp k,p.base k,[]⟩ o.op=some (p.v k,p.out k)
 no: ∀ k,k<ops.length->p.run k=false->p.v k= .tuple ⟨[]⟩/\p.out k=⟨.leaf,p.base k,[]⟩/\p.inp k= .leaf
 put: ∀ k o,ops[k]?=some o->yd5 (p.tmS k) sz o.dst (p.v k)=some (p.tmS (k+1))
 apa: ∀ k j o o',ops[k]?=some o->ops[j]?=some o'->j<k->p.nd k j=false->Oper.apart ⟨ops⟩ o' o=true
 inq: ∀ k b x,k<ops.length->(p.inp k).get b=some x->(p.hpS k).get b=some x/\ ∀ j,j<k->p.nd k j=false-> ¬ p.aff j b
 lat: ∀ i k b x,i<k->k<ops.length->p.nd k i=false->(p.inp i).get b=some x->b<p.base i->b∉(p.out k).tc
 hps: ∀ k,k<ops.length->(∀ j,j<=k->p.Kept j)-> ∀ b,(p.aff k b->(p.hpS (k+1)).get b=(p.out k).heap.get b)/\(¬ p.aff k b->(p.hpS (k+1)).get b=(p.hpS k).get b)
def yln (tm:Tm)(t:Nat):Value:=match tm.get t with|some v=>v|none=> .tuple ⟨[]⟩
theorem ziu {tm tm1:Tm}{sz:Nat}{d:Option Tmp}{v:Value}(hp:yd5 tm sz d v=some tm1)(t:Nat):yln tm1 t=(if d=some t then v else yln tm t)/\ ∀ e,d=some e->e<sz:=by
 unfold yd5 at hp
 split at hp
 ·cases hp;exact ⟨by rw [if_neg qH],fun e he=>by cases he⟩
 ·rename_i d
  obtain ⟨h1,h2⟩:=zax hp
  simp only [Bool.and_eq_true] at h1
  have h3:=qS h1.1
  have h4:=qS h1.2
  cases h2
  refine ⟨?_,fun e he=>by cases he;exact h3⟩
  unfold yln
  rw [Tr.get_set ycq tm d (some v) (qQ (Nat.lt_succ_self _) (qR h4 (Nat.sub_le _ _))) t]
  by_cases e:t=d
  ·subst e;rw [if_pos rfl,if_pos rfl]
  ·rw [if_neg e,if_neg (by simpa using fun h=>e h.symm)]
section
variable (p:Plan)(ops:List Oper)(tm0:Tm)(s0:ASt)(D0:Nat->Prop)(X Y:Nat->Prop)
open Classical in
noncomputable def AX :Nat->Nat->Option AObj
 |0,b=>s0.heap.get b
 |m+1,b=>if X m/\p.aff m b then (p.out m).heap.get b else AX m b
def DK (k:Nat):Nat->Prop:=fun x=>D0 x∨ ∃ j,(j=k∨p.nd k j=true)/\p.base j<=x/\x<p.base (j+1)
def Din (k:Nat):Nat->Prop:=fun x=>D0 x∨ ∃ j,p.nd k j=true/\p.base j<=x/\x<p.base (j+1)
open Classical in
noncomputable def DX :Nat->Nat->(Nat->Prop)
 |0,_=>D0
 |m+1,b=>if X m/\p.aff m b then DK p D0 m else DX m b
def yb8 (m:Nat):Option Tmp:=(ops[m]?).bind (·.dst)
open Classical in
noncomputable def VX :Nat->Nat->Value
 |0,t=>yln tm0 t
 |m+1,t=>if X m/\yb8 ops m=some t then p.v m else VX m t
open Classical in
noncomputable def TX :Nat->Nat->(Nat->Prop)
 |0,_=>D0
 |m+1,t=>if X m/\yb8 ops m=some t then DK p D0 m else TX m t
variable {p ops tm0 s0 D0 X Y}
open Classical in
theorem zdw (m b:Nat):AX p s0 X (m+1) b=if X m/\p.aff m b then (p.out m).heap.get b else AX p s0 X m b:=by rw [AX]
open Classical in
theorem zfs (m b:Nat):DX p D0 X (m+1) b=if X m/\p.aff m b then DK p D0 m else DX p D0 X m b:=by rw [DX]
open Classical in
theorem zfu (m t:Nat):VX p ops tm0 X (m+1) t=if X m/\yb8 ops m=some t then p.v m else VX p ops tm0 X m t:=by rw [VX]
open Classical in
theorem zft (m t:Nat):TX p ops D0 X (m+1) t=if X m/\yb8 ops m=some t then DK p D0 m else TX p ops D0 X m t:=by rw [TX]
theorem zci {b:Nat}: ∀ m,(∀ j,j<m->p.aff j b->(X j↔Y j))->AX p s0 X m b=AX p s0 Y m b
 |0,_=>rfl
 |m+1,h=>by
  have ih:=zci (b:=b) m fun j hj=>h j (Nat.lt_succ_of_lt hj)
  rw [zdw,zdw]
  by_cases ha:p.aff m b
  ·have:=h m (Nat.lt_succ_self _) ha
   by_cases hx:X m
   ·rw [if_pos ⟨hx,ha⟩,if_pos ⟨this.1 hx,ha⟩]
   ·rw [if_neg (fun e=>hx e.1),if_neg (fun e=>hx (this.2 e.1)),ih]
  ·rw [if_neg (fun e=>ha e.2),if_neg (fun e=>ha e.2),ih]
theorem zlh {b:Nat}: ∀ m,(∀ j,j<m->p.aff j b->(X j↔Y j))->DX p D0 X m b=DX p D0 Y m b
 |0,_=>rfl
 |m+1,h=>by
  have ih:=zlh (b:=b) m fun j hj=>h j (Nat.lt_succ_of_lt hj)
  rw [zfs,zfs]
  by_cases ha:p.aff m b
  ·have:=h m (Nat.lt_succ_self _) ha
   by_cases hx:X m
   ·rw [if_pos ⟨hx,ha⟩,if_pos ⟨this.1 hx,ha⟩]
   ·rw [if_neg (fun e=>hx e.1),if_neg (fun e=>hx (this.2 e.1)),ih]
  ·rw [if_neg (fun e=>ha e.2),if_neg (fun e=>ha e.2),ih]
theorem zfh {t:Nat}: ∀ m,(∀ j,j<m->yb8 ops j=some t->(X j↔Y j))->VX p ops tm0 X m t=VX p ops tm0 Y m t/\TX p ops D0 X m t=TX p ops D0 Y m t
 |0,_=>⟨rfl,rfl⟩
 |m+1,h=>by
  obtain ⟨i1,i2⟩:=zfh (t:=t) m fun j hj=>h j (Nat.lt_succ_of_lt hj)
  rw [zfu,zfu,zft,zft]
  by_cases ha:yb8 ops m=some t
  ·have:=h m (Nat.lt_succ_self _) ha
   by_cases hx:X m
   ·rw [if_pos ⟨hx,ha⟩,if_pos ⟨this.1 hx,ha⟩,if_pos ⟨hx,ha⟩,if_pos ⟨this.1 hx,ha⟩];exact ⟨rfl,rfl⟩
   ·rw [if_neg (fun e=>hx e.1),if_neg (fun e=>hx (this.2 e.1)),if_neg (fun e=>hx e.1),if_neg (fun e=>hx (this.2 e.1))];exact ⟨i1,i2⟩
  ·rw [if_neg (fun e=>ha e.2),if_neg (fun e=>ha e.2),if_neg (fun e=>ha e.2),if_neg (fun e=>ha e.2)];exact ⟨i1,i2⟩
theorem zdb {b i:Nat}: ∀ m,i<=m->(∀ j,i<=j->j<m->X j-> ¬ p.aff j b)->AX p s0 X m b=AX p s0 X i b/\DX p D0 X m b=DX p D0 X i b
 |0,h,_=>by
  have:i=0:=by omega
  subst this;exact ⟨rfl,rfl⟩
 |m+1,h,hn=>by
  by_cases e:i=m+1
  ·subst e;exact ⟨rfl,rfl⟩
  ·obtain ⟨i1,i2⟩:=zdb (b:=b) (i:=i) m qF fun j h1 h2=>hn j h1 (Nat.lt_succ_of_lt h2)
   have hno: ¬ (X m/\p.aff m b):=fun ⟨h1,h2⟩=>hn m qF (Nat.lt_succ_self _) h1 h2
   rw [zdw,zfs,if_neg hno,if_neg hno]
   exact ⟨i1,i2⟩
theorem zhp {t i:Nat}: ∀ m,i<=m->(∀ j,i<=j->j<m->X j->yb8 ops j≠some t)->VX p ops tm0 X m t=VX p ops tm0 X i t/\TX p ops D0 X m t=TX p ops D0 X i t
 |0,h,_=>by
  have:i=0:=by omega
  subst this;exact ⟨rfl,rfl⟩
 |m+1,h,hn=>by
  by_cases e:i=m+1
  ·subst e;exact ⟨rfl,rfl⟩
  ·obtain ⟨i1,i2⟩:=zhp (t:=t) (i:=i) m qF fun j h1 h2=>hn j h1 (Nat.lt_succ_of_lt h2)
   have hno: ¬ (X m/\yb8 ops m=some t):=fun ⟨h1,h2⟩=>hn m qF (Nat.lt_succ_self _) h1 h2
   rw [zfu,zft,if_neg hno,if_neg hno]
   exact ⟨i1,i2⟩
theorem zli {b x:Nat}: ∀ m,DX p D0 X m b x->D0 x∨ ∃ k,k<m/\X k/\p.aff k b/\DK p D0 k x
 |0,h=> .inl h
 |m+1,h=>by
  rw [zfs] at h
  split at h
  ·rename_i hx;exact .inr ⟨m,Nat.lt_succ_self _,hx.1,hx.2,h⟩
  ·exact (zli m h).imp id fun ⟨k,h1,h2⟩=>⟨k,Nat.lt_succ_of_lt h1,h2⟩
theorem zlj {t x:Nat}: ∀ m,TX p ops D0 X m t x->D0 x∨ ∃ k,k<m/\X k/\yb8 ops k=some t/\DK p D0 k x
 |0,h=> .inl h
 |m+1,h=>by
  rw [zft] at h
  split at h
  ·rename_i hx;exact .inr ⟨m,Nat.lt_succ_self _,hx.1,hx.2,h⟩
  ·exact (zlj m h).imp id fun ⟨k,h1,h2⟩=>⟨k,Nat.lt_succ_of_lt h1,h2⟩
variable {T:Tbl}{r:Rn}{sz:Nat}
theorem zkr (g:p.Good T r sz ops tm0 s0){b:Nat}: ∀ k,k<=ops.length->(∀ j,j<k->p.Kept j)->(p.hpS k).get b=AX p s0 (fun _=>True) k b
 |0,_,_=>by rw [g.h0];rfl
 |k+1,h,hk=>by
  have ih:=zkr g (b:=b) k qF fun j hj=>hk j (Nat.lt_succ_of_lt hj)
  have:=g.hps k qF (fun j hj=>hk j qF) b
  rw [zdw]
  by_cases ha:p.aff k b
  ·rw [if_pos ⟨trivial,ha⟩];exact this.1 ha
  ·rw [if_neg (fun e=>ha e.2),this.2 ha,ih]
theorem yp3 (g:p.Good T r sz ops tm0 s0){t:Nat}: ∀ k,k<=ops.length->yln (p.tmS k) t=VX p ops tm0 (fun _=>True) k t
 |0,_=>by rw [g.t0];rfl
 |k+1,h=>by
  have ih:=yp3 g (t:=t) k qF
  have ho:ops[k]?=some (ops[k]'(by omega)):=List.getElem?_eq_getElem _
  have:=(ziu (g.put k _ ho) t).1
  have hd:yb8 ops k=(ops[k]'(by omega)).dst:=by unfold yb8;rw [ho];rfl
  rw [zfu,this,hd]
  by_cases ha:(ops[k]'(by omega)).dst=some t
  ·rw [if_pos ha,if_pos ⟨trivial,ha⟩]
  ·rw [if_neg ha,if_neg (fun e=>ha e.2),ih]
theorem zaz (g:p.Good T r sz ops tm0 s0){j k:Nat}(h:j<=k):k<=ops.length->p.base j<=p.base k:=by
 induction h with
 |refl=>exact fun _=>qV _
 |step h ih=>exact fun hk=>qR (ih qF) (g.bs _ qF)
theorem yiv (g:p.Good T r sz ops tm0 s0){b:Nat}{x:AObj}: ∀ k,k<=ops.length->(∀ j,j<k->X j->p.Kept j)->AX p s0 X k b=some x->b<p.base k
 |0,_,_,h=>by rw [g.b0];exact g.low b x h
 |k+1,hk,hK,h=>by
  rw [zdw] at h
  split at h
  ·rename_i hx
   exact (hK k (Nat.lt_succ_self _) hx.1).2.1 b x h
  ·exact qQ (yiv g k qF (fun j hj=>hK j (Nat.lt_succ_of_lt hj)) h) (g.bs k qF)
end
end
end Go.Proofs.YthcalfeoejdcgaaGreatDoor
