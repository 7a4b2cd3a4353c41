import Derived.Test.YthcalfeoejdcgaaGreatDoorK36
import Derived.Test.YthcalfeoejdcgaaGreatDoorK37
import Derived.Test.YthcalfeoejdcgaaGreatDoorK38
import Derived.Test.YthcalfeoejdcgaaGreatDoorK39
import Derived.Test.YthcalfeoejdcgaaGreatDoorK40
import Derived.Test.YthcalfeoejdcgaaGreatDoorK41
import Derived.Test.YthcalfeoejdcgaaGreatDoorK42
import Derived.Test.YthcalfeoejdcgaaGreatDoorK43
import Derived.Test.YthcalfeoejdcgaaGreatDoorK44
import Derived.Test.YthcalfeoejdcgaaGreatDoorK45
import Derived.KernelRfl
namespace Go.Proofs.YthcalfeoejdcgaaGreatDoor
set_option linter.unusedSimpArgs false
set_option linter.unusedVariables false
set_option maxRecDepth 100000
set_option maxHeartbeats 20000000
open Go.RowKit Go.RowKit Go.BigFrame
theorem ylx {P:Program}{c0 c1 c2 c3 rest:Code}{Q:Exit->Act->World->Prop}{a:Act}{w:World}(h: ∀ R,R=rest->(Code.seq c0 (.seq c1 (.seq c2 (.seq c3 R)))).wp P Q a w):(Code.seq c0 (.seq c1 (.seq c2 (.seq c3 rest)))).wp P Q a w:=h rest rfl
theorem yo8 :pL0.small=true:=by kernel_rfl
theorem run4 {c:Nat}(hc:c<=7):ydo (T4 c) Tryz.f4.results.toList ((R4 c).code 110 (yd9 Tryz.f4.body) pL0.tm sPu)=true:=by
 match c,hc with
 |0,_=>exact yzd
 |1,_=>exact yze
 |2,_=>exact yzf
 |3,_=>exact yzg
 |4,_=>exact yzh
 |5,_=>exact yzi
 |6,_=>exact yzj
 |7,_=>exact yzk
theorem ptm0 {E:Ev}{D:Nat->Prop}{ρ:Nat->Pl}{a:Act}(h1:Rv E D ρ (.chan (some 600)) (a.tmps.getD 2 undef))(h4:a.tmps.getD 6 undef= .bool false)(h5:Rv E D ρ (.slice (some ⟨71,0,none⟩) 3 3) (a.tmps.getD 7 undef))(h9:Rv E D ρ (.chan (some (72*1024+500))) (a.tmps.getD 9 undef)): ∀ p∈pL0.tms,Rv E D ρ p.2 (a.tmps.getD p.1 undef):=fun p hp=>by
 simp only [pL0,List.mem_cons,List.not_mem_nil,or_false] at hp
 rcases hp with rfl|rfl|rfl|rfl
 ·exact h1
 ·show Rv E D ρ (.bool false) (a.tmps.getD 6 undef)
  rw [h4];exact .flat _ rfl
 ·exact h5
 ·exact h9
theorem yij :okCols c1C:=zel (by decide) (by decide) qG qG
theorem yj0 : ∀ c∈c1C,c.nm∈knownN:=fun c hc=>by
 have hc:c∈ [(⟨sC,3,false⟩:Col)]:=hc
 rw [List.mem_singleton] at hc
 subst hc
 exact ygw ⟨sC,3,false⟩ (qW _ (List.mem_cons_self ..))
theorem ypf (A:Option Addr)(n c:Nat)(l:List Int)(B:Option Addr)(m d:Nat)(l2:List Int)(k:Int)(w:World)(h:rInt w A n l)(hc:n<=c)(hn:n<=9223372036854775807)(hc2:c<=9223372036854775807)(h2:rInt w B m l2)(hm:m<=9223372036854775807)(ht:Tbs w):
 Calls Tryz.prog 4 #[.slice A n c, .slice B m d, .int .i64 k] w fun e w'=>e= .returned (.bool true)/\Below w.heap.size w w':=by
 have HF:=qL (yn7 A n c l 7 w h hc hn hc2 qF)
 have HT:=qL ht
 have H2:=qL h2
 clear h ht h2
 go_enter Tryz.func4,Tryz.ntmps4
 refine ylx fun R hR=>?_
 have HR:=qL hR
 clear hR
 go_wp2_with fail
 refine HF.out.mono ?_
 rintro e w1 ⟨g,bo,bc,rs,rfl,hblk,hfil,hco,hcc,hb,hg1,hg2⟩
 obtain ⟨r0,r1,r2,rfl,⟨A0,n0,c0,t0,rfl,a2,a3,a4⟩,⟨A1,n1,c1,t1,rfl,b2,b3',b4⟩,⟨A2,n2,c2,t2,rfl,d2,d3,d4⟩⟩:=hfil
 have e21:(3:Int)*((7:Nat):Int)=21:=rfl
 rw [e21] at a4 b4 d4
 have TJ:=Yh8 (a4.mono (show (21:Int)<=24 by omega)) (b4.mono (show (21:Int)<=24 by omega)) (d4.mono (show (21:Int)<=24 by omega))
 have hg1b:w1.cell? ⟨g,1,none⟩=some (.slice (some ⟨bo,0,none⟩) 4 4):=by
  unfold World.cell?
  rw [show w1.heap[g]?=_ from hblk]
  rfl
 obtain ⟨b',o',eb,hcol⟩:=Fl.cells (show Fl w1 3 (some ⟨bo,0,none⟩) 4 (flat yam oC) from hco) zdn qF
 cases eb
 have y0:w1.cell? ⟨bo,3,none⟩=some (.string ⟨#[99]⟩):=hcol 1 ⟨sC,3,false⟩ 0 (.string ⟨#[99]⟩) rfl qF rfl
 have y1:w1.cell? ⟨bo,4,none⟩=some (.int .i64 3):=hcol 1 ⟨sC,3,false⟩ 1 (.int .i64 3) rfl qF rfl
 have y2:w1.cell? ⟨bo,5,none⟩=some (.bool false):=hcol 1 ⟨sC,3,false⟩ 2 (.bool false) rfl qF rfl
 have hrc:rCol (w1.alloc (.cells #[.string ⟨#[99]⟩, .int .i64 3, .bool false] 56)) (some ⟨w1.heap.size,0,none⟩) 1 c1C:=⟨rfl,fun _=>⟨w1.heap.size,0,rfl,fun j u hu=>by
  match j,hu with
  |0,hu=>cases hu;show (w1.alloc (.cells #[.string ⟨#[99]⟩, .int .i64 3, .bool false] 56)).cell? ⟨w1.heap.size,0,none⟩=some (.string ⟨#[99]⟩);simp
  |1,hu=>cases hu;show (w1.alloc (.cells #[.string ⟨#[99]⟩, .int .i64 3, .bool false] 56)).cell? ⟨w1.heap.size,1,none⟩=some (.int .i64 3);simp
  |2,hu=>cases hu;show (w1.alloc (.cells #[.string ⟨#[99]⟩, .int .i64 3, .bool false] 56)).cell? ⟨w1.heap.size,2,none⟩=some (.bool false);simp
  |j+3,hu=>cases hu⟩⟩
 have h15:=Ydv k
 have HE:=qL (yme (cs:=c1C) (some ⟨w1.heap.size,0,none⟩) B 1 1 m d l2 hm yij yj0 (qW _ (List.mem_cons_self ..)) (by decide) (by decide) (by decide) 3 qF 1 (k % 16) (w1.alloc (.cells #[.string ⟨#[99]⟩, .int .i64 3, .bool false] 56)) (H2.out.later (btr hb (zae _ _))) hrc qF qF qF qF)
 clear hrc hcol
 go_wp2_with fail
 refine HE.out.mono ?_
 rintro e w3 ⟨v3,m3,p,rfl,hown,hk,hb3⟩
 obtain ⟨A5,c5,rfl,hcc5,hrd5,hfr5⟩:=hown.rd
 have HK:=qL (show okE c1C 1 40 p from hk)
 have HN5:Hid (rNod w3 A5 m3 p):=qL (ymu.1 hrd5)
 have HF5:Hid (∀ a,A5=some a->w1.heap.size<=a.block):=qL fun a e=>qR (zae w1 _).size (hfr5 a e).1
 have HB3:Hid (Below w1.heap.size w1 w3):=qL (btr (zae w1 _) hb3)
 have e:R=yd9 Tryz.f4.body:=HR.out.trans rfl
 clear hown hk hrd5 hfr5 hb3 HE HR HF
 go_wp2_with fail
 obtain ⟨h40,hnd,tk,htk,hbl⟩:=HK.out
 obtain ⟨cc,hcP⟩:=yrq k
 obtain ⟨hT,hK⟩:=Ydj hcP TJ HK.out hbl htk
 obtain ⟨D,ρ,hs,h71,hp71,hD0,hro⟩:=simF (E:=ETb (tbP cc p t0 t1 t2) (yo2 k) fun _=>p) (w:=w) (HT.out.later hb (qV _)) hblk hco hcc (.inl ⟨by omega,zbw a2 qF a3⟩) (.inl ⟨by omega,zbw b2 qF b3'⟩) (.inl ⟨by omega,zbw d2 qF d3⟩)
 have e500:ETb (tbP cc p t0 t1 t2) (yo2 k) (fun _=>p) 500 (.slice A5 m3 c5) (ya2 w1 w3):= .inr (.inr (.inl ⟨⟨by omega,by omega⟩,yj6 HN5.out HF5.out hcc5⟩))
 obtain ⟨_,s2,_⟩:=zd3 hs HB3.out (d:=500) qF (v:= .slice A5 m3 c5) rfl e500
 subst e
 refine zpz hT hK (fn:=Tryz.f4) (run4 hcP.le) (s:=sPu) ⟨s2,?_,rfl,rfl⟩ (fun D' s' ρ' w' kx=>⟨rfl,btr hb (btr HB3.out (zb1 (s:=sPu) (fun b o hbo=>hro b o hbo) rfl kx))⟩)
 refine Ya4 yo8 rfl (ptm0 (zja (i:=0) (d:=600) qF (.inl hD0) rfl (.inr (.inl ⟨by omega,rfl⟩))) rfl (zeo (b:=g) (e:=4) (r:=12) (.inl h71) ?_ rfl (by decide)) ?_)
 ·exact hp71
 ·exact zja (i:=72) (d:=500) qF (.inr rfl) rfl e500
end Go.Proofs.YthcalfeoejdcgaaGreatDoor
