/- Texts of the mirror and contracts, put together. -/
import Derived.Test.YtjcbhomccohklaaGreatDoorPD4
import Derived.Test.YtjcbhomccohklaaGreatDoorPD3
import Derived.Test.YtjcbhomccohklaaGreatDoorPD1
import Derived.LoopN
namespace Go.Proofs.YtjcbhomccohklaaGreatDoor
section
open Go Go.aa Go.RowKit
attribute [local irreducible] Go.aa.DT.sat Go.aa.a8 Go.aa.RT.sat Go.aa.dD
abbrev aaH:PB:= .cells [.h I,.h I,.h I,.h I,.h I,.h I,.h I,.c (.osl 3 4)]
abbrev acs:PB:= .cells [.c .any,.c .any,.c .any,.c .any,.c .any,.c .any,.c .any,.c .any]
abbrev hpG:List (Nat×PB):= [(0,.dat (.nm .aj)),(1,.dat (.nm .ay)),(2,aaH),(3,.row 4 I),(5,acs)]
abbrev tmG:List (Nat×PC):= [(1,.h kP),(3,.c (.ptr 0 0)),(5,.c (.ptr 1 0)),(6,.c (.ptr 5 0)),(7,.c (.ptr 2 0))]
abbrev ZU:List (Nat×PC):= [(20,.h lM),(21,.h I),(22,.h I)]
abbrev aa3:List (Nat×PB):= [(0,.dat (.nm .aj)),(1,.dat (.nm .ay)),(2,aaH),(3,.row 4 I),(5,acs),(6,.dat (.nm .aH))]
abbrev qG0:bl:=⟨tmG++ZU++[(9,.c (.ptr 6 0)),(27,.h (.slice .str)),(28,.h I),(29,.h I)],aa3,7⟩
abbrev xG0:List (Lf×bl):= [(.ext 2,⟨tmG++ZU++[(9,.c (.ptr 6 0))],aa3,7⟩)]
abbrev TG0:Type:=List ag×List aa.aH×Int×Int×List ByteArray×Int×Int×aj×aa.ay×Int×Int×Int×Int×Int×Int×Int×List Int×aa.aH×Unit
abbrev adz:Type:=List ag×List aa.aH×Int×Int×aj×aa.ay×Int×Int×Int×Int×Int×Int×Int×List Int×aa.aH×Unit
def qz:TG0->adz
 |(a,l,n,i,s,_,j,r,b,fc,ch,wd,nb,by_,lg,ot,t,x,_)=>(a,l,n,i,r,b,fc+au mb ((s.drop j.toNat).map (bu r)),ch+au gJ ((s.drop j.toNat).map (bu r)),wd+au mK ((s.drop j.toNat).map (bu r)),nb+au (mJ r.NoBall) ((s.drop j.toNat).map (bu r)),by_+au n5 ((s.drop j.toNat).map (bu r)),lg+au n6 ((s.drop j.toNat).map (bu r)),ot+au lD ((s.drop j.toNat).map (bu r)),bC t x.Bowler (au lN ((s.drop j.toNat).map (bu r))),x,())
def upG (u fc ch wd nb by_ lg ot:Int) (t:List Int):Prop:=fU u fc/\fU u ch/\fU u wd/\fU u nb/\fU u by_/\fU u lg/\fU u ot/\Q5 u t
def geG (r:aj) (a:List ag) (t:List Int):Prop:=sT r/\vE r a/\(t.length:Int)=r.Side+1
def inG (r:aj) (x:aa.aH):Prop:=0<=x.Bowler/\x.Bowler<=r.Side
def Ae:TG0->Prop
 |(a,_,_,i,s,m,j,r,_,fc,ch,wd,nb,by_,lg,ot,t,x,_)=>(m =(s.length:Int)/\s.length<=4000/\mw r s)/\(0<=j/\j<=m)/\(0<=i/\i<=4000)/\geG r a t/\inG r x/\upG (64000*i+16*j) fc ch wd nb by_ lg ot t
def O2:TG0->Nat
 |(_,_,_,_,_,m,j,_)=>(m - j).toNat
abbrev qG1:bl:=⟨tmG++ZU,hpG,6⟩
abbrev xG1:List (Lf×bl):= [(.ext 0,⟨tmG,hpG,6⟩)]
abbrev TG1:Type:=List ag×List aa.aH×Int×Int×aj×aa.ay×Int×Int×Int×Int×Int×Int×Int×List Int×Unit
abbrev adB:Type:=List ag×aj×aa.ay×Int×Int×Int×Int×Int×Int×Int×List Int×Unit
def eY (r:aj) (l:List aa.aH):List (List ab):=l.map fun x=>x.Symbols.map (bu r)
def qA:TG1->adB
 |(a,l,_,i,r,b,fc,ch,wd,nb,by_,lg,ot,t,_)=>(a,r,b,fc+au mb (aU (eY r (l.drop i.toNat))),ch+au gJ (aU (eY r (l.drop i.toNat))),wd+au mK (aU (eY r (l.drop i.toNat))),nb+au (mJ r.NoBall) (aU (eY r (l.drop i.toNat))),by_+au n5 (aU (eY r (l.drop i.toNat))),lg+au n6 (aU (eY r (l.drop i.toNat))),ot+au lD (aU (eY r (l.drop i.toNat))),dM t (l.drop i.toNat) (eY r (l.drop i.toNat)),())
def rdX (r:aj) (l:List aa.aH):Prop:=∀ x∈l,mw r x.Symbols/\inG r x
def Af:TG1->Prop
 |(a,l,n,i,r,_,fc,ch,wd,nb,by_,lg,ot,t,_)=>(n =(l.length:Int)/\po l/\rdX r l)/\(0<=i/\i<=n)/\geG r a t/\upG (64000*i) fc ch wd nb by_ lg ot t
def O3:TG1->Nat
 |(_,_,n,i,_)=>(n - i).toNat
abbrev Gz:bl:=cQ [.nm .aj,kP,.nm .ay]
abbrev PL:bl:=⟨[(0,.a [.h I,.h I,.h I,.h I,.h I,.h I,.h I,.c (.osl 0 1)])],[(0,.row 1 I)],2⟩
def aaJ (r:aj) (b:aa.ay):Den (bj PL):=(au mb (aU (eY r b.Boxes)),au gJ (aU (eY r b.Boxes)),au mK (aU (eY r b.Boxes)),au (mJ r.NoBall) (aU (eY r b.Boxes)),au n5 (aU (eY r b.Boxes)),au n6 (aU (eY r b.Boxes)),au lD (aU (eY r b.Boxes)),dM (List.replicate (r.Side.toNat+1) 0) b.Boxes (eY r b.Boxes),())
def I1:Den (bj Gz)->List Prop×Den (bj PL):=fun x=>([vE x.1 x.2.1,sT x.1,po x.2.2.1.Boxes,rdX x.1 x.2.2.1.Boxes],aaJ x.1 x.2.2.1)
theorem afb {k:Int} (h:k3 k 119 110) :(vr k==2) =(k==119)/\(vr k==3) =(k==110):=by rcases h with rfl|rfl|rfl <;> exact ⟨rfl,rfl⟩
noncomputable def LS:Lp:=(⟨0,aI [dF] Tryz.f77,(fun _=>none),(bA Tryz.f77 0 0),qG0,xG0⟩:Lp)
theorem Zi (a:List ag) (l:List aa.aH) (n:Int) (i:Int) (s:List ByteArray) (m:Int) (j:Int) (r:aj) (b:aa.ay) (fc:Int) (ch:Int) (wd:Int) (nb:Int) (by_:Int) (lg:Int) (ot:Int) (t:List Int) (x:aa.aH) (hi:Ae (a,l,n,i,s,m,j,r,b,fc,ch,wd,nb,by_,lg,ot,t,x,())) :(Go.aa.stepG LS qz (fun y:Den (bj LS.q)=>Ae y/\O2 y<O2 (a,l,n,i,s,m,j,r,b,fc,ch,wd,nb,by_,lg,ot,t,x,())) (a,l,n,i,s,m,j,r,b,fc,ch,wd,nb,by_,lg,ot,t,x,())/\Go.aa.bB LS qz (a,l,n,i,s,m,j,r,b,fc,ch,wd,nb,by_,lg,ot,t,x,())=qz (a,l,n,i,s,m,j,r,b,fc,ch,wd,nb,by_,lg,ot,t,x,())):=by
 refine cast (by kernel_rfl) (?_:let r1:Bool:=(aO a (s.getD j.toNat (af Ty.str))).1.2 != 2;let r2:Bool:=(aO a (s.getD j.toNat (af Ty.str))).1.2==2;let r3:Bool:=(aO a (s.getD j.toNat (af Ty.str))).1.2==3;let r4:Int:=IntKind.i64.wrap (ch +(aO a (s.getD j.toNat (af Ty.str))).1.3);let r5:Int:=IntKind.i64.wrap (by_ +(aO a (s.getD j.toNat (af Ty.str))).1.4);let r6:Int:=IntKind.i64.wrap (lg +(aO a (s.getD j.toNat (af Ty.str))).1.5);let r7:List ag×List aa.aH×Int×Int×aj×aa.ay×Int×Int×Int×Int×Int×Int×Int×List Int×aa.aH×PUnit:=af (kP.prod (lM.prod (I.prod (I.prod ((Ty.nm Nm.aj).prod ((Ty.nm Nm.ay).prod (I.prod (I.prod (I.prod (I.prod (I.prod (I.prod (I.prod (I.slice.prod ((Ty.nm Nm.aH).prod Ty.unit)))))))))))))));let r8:Int:=cond r2 fc (cond r3 fc fc);let r9:Int:=cond r2 ot (cond r3 ot ot);let r10:List Int:=cond (aO a (s.getD j.toNat (af Ty.str))).1.6 (t.set x.2.toNat (IntKind.i64.wrap (t.getD x.2.toNat (af (Ty.int IntKind.i64))+1))) t;let r11:Int:=cond r2 nb (cond r3 (IntKind.i64.wrap (nb+r.8)) nb);let r12:Int:=cond r2 (IntKind.i64.wrap (wd +(aO a (s.getD j.toNat (af Ty.str))).1.3)) (cond r3 wd wd);let r13:List ag×List aa.aH×Int×Int×aj×aa.ay×Int×Int×Int×Int×Int×Int×Int×List Int×aa.aH×PUnit:=cond (aO a (s.getD j.toNat (af Ty.str))).1.7 r7 r7;let r14:Int:=cond r2 r4 (cond r3 r4 r4);let r15:Int:=cond r2 r5 (cond r3 r5 r5);let r16:Int:=cond r2 r6 (cond r3 r6 r6);let r17:Int:=cond r1 r9 r9;let r18:Int:=cond r1 (IntKind.i64.wrap (r8+1)) r8;let r19:Int:=cond r1 r11 r11;let r20:Int:=cond r1 r12 r12;let r21:Int:=cond r1 r14 r14;let r22:Int:=cond r1 r15 r15;let r23:Int:=cond r1 r16 r16;((decide (j<m)=true->((0<=j/\j <(↑s.length:Int))/\a.length<=aW/\(((aO a (s.getD j.toNat (af Ty.str))).1.6=true->(0<=x.2/\x.2 <(↑t.length:Int))/\(0<=x.2/\x.2 <(↑t.length:Int))/\True)/\((aO a (s.getD j.toNat (af Ty.str))).1.6=false->True))/\(true=true->((aO a (s.getD j.toNat (af Ty.str))).1.7=true->True)/\((aO a (s.getD j.toNat (af Ty.str))).1.7=false->True)))/\(true=true->Ae (a,l,n,i,s,m,IntKind.i64.wrap (j+1),r,b,cond (aO a (s.getD j.toNat (af Ty.str))).1.7 r18 r18,cond (aO a (s.getD j.toNat (af Ty.str))).1.7 r21 r21,cond (aO a (s.getD j.toNat (af Ty.str))).1.7 r20 r20,cond (aO a (s.getD j.toNat (af Ty.str))).1.7 r19 r19,cond (aO a (s.getD j.toNat (af Ty.str))).1.7 r22 r22,cond (aO a (s.getD j.toNat (af Ty.str))).1.7 r23 r23,cond (aO a (s.getD j.toNat (af Ty.str))).1.7 (IntKind.i64.wrap (r17+1)) r17,cond (aO a (s.getD j.toNat (af Ty.str))).1.7 r10 r10,x,())/\O2 (a,l,n,i,s,m,IntKind.i64.wrap (j+1),r,b,cond (aO a (s.getD j.toNat (af Ty.str))).1.7 r18 r18,cond (aO a (s.getD j.toNat (af Ty.str))).1.7 r21 r21,cond (aO a (s.getD j.toNat (af Ty.str))).1.7 r20 r20,cond (aO a (s.getD j.toNat (af Ty.str))).1.7 r19 r19,cond (aO a (s.getD j.toNat (af Ty.str))).1.7 r22 r22,cond (aO a (s.getD j.toNat (af Ty.str))).1.7 r23 r23,cond (aO a (s.getD j.toNat (af Ty.str))).1.7 (IntKind.i64.wrap (r17+1)) r17,cond (aO a (s.getD j.toNat (af Ty.str))).1.7 r10 r10,x,())<O2 (a,l,n,i,s,m,j,r,b,fc,ch,wd,nb,by_,lg,ot,t,x,())))/\(decide (j<m)=false->True))/\(cond (decide (j<m)) (cond (true&&true&&(true&&true)) (qz (a,l,n,i,s,m,IntKind.i64.wrap (j+1),r,b,cond (aO a (s.getD j.toNat (af Ty.str))).1.7 r18 r18,cond (aO a (s.getD j.toNat (af Ty.str))).1.7 r21 r21,cond (aO a (s.getD j.toNat (af Ty.str))).1.7 r20 r20,cond (aO a (s.getD j.toNat (af Ty.str))).1.7 r19 r19,cond (aO a (s.getD j.toNat (af Ty.str))).1.7 r22 r22,cond (aO a (s.getD j.toNat (af Ty.str))).1.7 r23 r23,cond (aO a (s.getD j.toNat (af Ty.str))).1.7 (IntKind.i64.wrap (r17+1)) r17,cond (aO a (s.getD j.toNat (af Ty.str))).1.7 r10 r10,x,())) (cond true (qz (a,l,n,i,s,m,IntKind.i64.wrap (j+1),r,b,cond (aO a (s.getD j.toNat (af Ty.str))).1.7 r18 r18,cond (aO a (s.getD j.toNat (af Ty.str))).1.7 r21 r21,cond (aO a (s.getD j.toNat (af Ty.str))).1.7 r20 r20,cond (aO a (s.getD j.toNat (af Ty.str))).1.7 r19 r19,cond (aO a (s.getD j.toNat (af Ty.str))).1.7 r22 r22,cond (aO a (s.getD j.toNat (af Ty.str))).1.7 r23 r23,cond (aO a (s.getD j.toNat (af Ty.str))).1.7 (IntKind.i64.wrap (r17+1)) r17,cond (aO a (s.getD j.toNat (af Ty.str))).1.7 r10 r10,x,())) (cond (true&&true) r13 (cond true r13 (cond (aO a (s.getD j.toNat (af Ty.str))).1.6 r7 r7))))) (a,l,n,i,r,b,fc,ch,wd,nb,by_,lg,ot,t,x,()))=qz (a,l,n,i,s,m,j,r,b,fc,ch,wd,nb,by_,lg,ot,t,x,()));intro r1 r2 r3 r4 r5 r6 r7 r8 r9 r10 r11 r12 r13 r14 r15 r16 r17 r18 r19 r20 r21 r22 r23
 clear_value (hr1:r1=_) (hr2:r2=_) (hr3:r3=_) (hr4:r4=_) (hr5:r5=_) (hr6:r6=_) (hr7:r7=_) (hr8:r8=_) (hr9:r9=_) (hr10:r10=_) (hr11:r11=_) (hr12:r12=_) (hr13:r13=_) (hr14:r14=_) (hr15:r15=_) (hr16:r16=_) (hr17:r17=_) (hr18:r18=_) (hr19:r19=_) (hr20:r20=_) (hr21:r21=_) (hr22:r22=_) (hr23:r23=_)
 simp only [Bool.cond_self] at *;obtain ⟨⟨h1,h1a,h1b⟩,⟨h2,h3⟩,⟨hi0,hi4⟩,⟨hg,hsa,htl⟩,⟨x0,x1⟩,u1,u2,u3,u4,u5,u6,u7,u8⟩:=hi;have h1:m =(s.length:Int):=h1;have h1a:s.length<=4000:=h1a;have h2:0<=j:=h2;have h3:j<=m:=h3;have hi0:0<=i:=hi0;have hi4:i<=4000:=hi4;have htl :(t.length:Int)=r.Side+1:=htl;have x0:0<=x.Bowler:=x0;have x1:x.Bowler<=r.Side:=x1;have hnb:=hg.1.2;have hal:a.length<=aW:=by have hsa:a=bQ r:=hsa;rw [hsa];exact pA r
 refine dP (fun h=>?_) (fun h=>?_)
 ·have e1:IntKind.i64.wrap (j+1)=j+1:=a7 (by omega) (by omega);have hd:s.drop j.toNat=s.getD j.toNat (af Ty.str)::s.drop (j+1).toNat:=aY h2 (by omega) _;have hm:s.getD j.toNat (af Ty.str)∈s:=List.mem_of_mem_drop (i:=j.toNat) (by rw [hd];exact List.mem_cons_self);have hrd:=h1b _ hm;generalize s.getD j.toNat (af Ty.str)=w at *;have hfw:aO a w =(D0 (bu r w),true):=by have hsa:a=bQ r:=hsa;rw [hsa];exact tB hrd
  have hdm :(s.drop j.toNat).map (bu r)=bu r w ::(s.drop (j+1).toNat).map (bu r):=by rw [hd,List.map_cons]
  obtain ⟨k1,k2⟩:=NP hrd;have hw:=wh hg.1 hrd;rw [hfw] at hr1 hr2 hr3 hr4 hr5 hr6 hr10 hr12 ⊢;generalize bu r w=e at *;obtain ⟨t2,t3⟩:=afb k1;have f2:r2 =(e.kind==119):=by rw [hr2];exact t2
  have f3:r3 =(e.kind==110):=by rw [hr3];exact t3
  have f1:r1=!(e.kind==119):=by rw [hr1,<-t2];rfl
  have up :∀ {v d:Int},fU (64000*i+16*j) v->0<=d->d<=16->fU (64000*i+16 *(j+1)) (v+d)/\IntKind.i64.wrap (v+d)=v+d:=fun {v d} hv a b=>by obtain ⟨v0,v1⟩:=hv;exact ⟨⟨by omega,by omega⟩,bE (by omega) (by omega)⟩
  have q1:=up u1 (qR e).1 (qR e).2;have q2:=up u2 (oB hw).1 (oB hw).2;have q3:=up u3 (tA hw).1 (tA hw).2;have q4:=up u4 (tz hnb e).1 (tz hnb e).2;have q5:=up u5 (tw hw).1 (tw hw).2;have q6:=up u6 (tx hw).1 (tx hw).2;have q7:=up u7 (oC e).1 (oC e).2;have q8:=up (pH u8 x0 (by omega)) (mS e).1 (mS e).2
  have e18:r18=fc+mb e:=by
   rw [hr18,hr8,f1]
   have:=q1.2
   unfold mb at this ⊢
   cases hz:e.kind==119 with
   | true=>show fc=fc+0;omega
   | false=>rw [hz] at this;exact this
  have e21:r21=ch+gJ e:=by rw [hr21,hr14,hr4];exact q2.2
  have e20:r20=wd+mK e:=by
   rw [hr20,hr12,f2]
   have:=q3.2
   unfold mK at this ⊢
   cases hz:e.kind==119 with
   | true=>rw [hz] at this;exact this
   | false=>show wd=wd+0;omega
  have e19:r19=nb+mJ r.NoBall e:=by
   rw [hr19,hr11,f2,f3]
   have:=q4.2
   unfold mJ at this ⊢
   cases hz:e.kind==119 with
   | true=>
    have hz:e.kind=119:=by simpa using hz
    rw [hz];show nb=nb+0;omega
   | false=>
    cases hy:e.kind==110 with
    | true=>rw [hy] at this;exact this
    | false=>show nb=nb+0;omega
  have e22:r22=by_+n5 e:=by rw [hr22,hr15,hr5];exact q5.2
  have e23:r23=lg+n6 e:=by rw [hr23,hr16,hr6];exact q6.2
  have eO :(bif (D0 e,true).1.7 then IntKind.i64.wrap (r17+1) else r17)=ot+lD e:=by
   rw [hr17,hr9]
   have:=q7.2
   unfold lD at this ⊢;show (bif e.mark==82 then _ else _)=_
   cases hz:e.mark==82 with
   | true=>rw [hz] at this;exact this
   | false=>show ot=ot+0;omega
  have e10:r10=bC t x.Bowler (lN e):=by
   rw [hr10]
   have:=q8.2
   unfold lN at this ⊢;show (bif e.mark==87 then _ else _)=_
   cases hz:e.mark==87 with
   | true=>rw [hz] at this;show t.set x.Bowler.toNat (IntKind.i64.wrap (t.getD x.Bowler.toNat 0+1))=t.set x.Bowler.toNat (t.getD x.Bowler.toNat 0+1);rw [show IntKind.i64.wrap (t.getD x.Bowler.toNat 0+1)=t.getD x.Bowler.toNat 0+1 from this]
   | false=>exact (pD t x.Bowler).symm
  rw [e18,e21,e20,e19,e22,e23,eO,e10,e1];have hwk:=mS e;refine ⟨⟨⟨⟨h2,by omega⟩,hal,⟨fun _=>⟨⟨x0,by show x.Bowler<_;omega⟩,⟨x0,by show x.Bowler<_;omega⟩,trivial⟩,fun _=>trivial⟩,fun _=>⟨fun _=>trivial,fun _=>trivial⟩⟩,fun _=>⟨⟨⟨h1,h1a,h1b⟩,⟨?_,?_⟩,⟨hi0,hi4⟩,⟨hg,hsa,?_⟩,⟨x0,x1⟩,q1.1,q2.1,q3.1,q4.1,q5.1,q6.1,q7.1,?_⟩,?_⟩⟩,?_⟩
  ·show 0<=j+1;omega
  ·show j+1<=m;omega
  ·show ((bC t x.Bowler (lN e)).length:Int)=_;rw [fu];exact htl
  ·intro v hv;rcases kj hv with hv|rfl
   ·obtain ⟨v0,v1⟩:=u8 v hv;exact ⟨v0,by show v<=64000*i+16 *(j+1);omega⟩
   ·exact q8.1
  ·show (m - (j+1)).toNat <(m - j).toNat;omega
  ·have p :∀ (f:ab->Int) (v:Int),v+f e+au f ((s.drop (j+1).toNat).map (bu r))=v+au f ((s.drop j.toNat).map (bu r)):=fun f v=>by rw [hdm];show _=v +(f e+au f ((s.drop (j+1).toNat).map (bu r)));omega
   have p0:lN e+au lN ((s.drop (j+1).toNat).map (bu r))=au lN ((s.drop j.toNat).map (bu r)):=by have:=p lN 0;omega
   show (a,l,n,i,r,b,fc+mb e+au mb ((s.drop (j+1).toNat).map (bu r)),ch+gJ e+au gJ ((s.drop (j+1).toNat).map (bu r)),wd+mK e+au mK ((s.drop (j+1).toNat).map (bu r)),nb+mJ r.NoBall e+au (mJ r.NoBall) ((s.drop (j+1).toNat).map (bu r)),by_+n5 e+au n5 ((s.drop (j+1).toNat).map (bu r)),lg+n6 e+au n6 ((s.drop (j+1).toNat).map (bu r)),ot+lD e+au lD ((s.drop (j+1).toNat).map (bu r)),bC (bC t x.Bowler (lN e)) x.Bowler (au lN ((s.drop (j+1).toNat).map (bu r))),x,())=_;rw [p mb,p gJ,p mK,p (mJ r.NoBall),p n5,p n6,p lD,zt,p0];rfl
 ·unfold qz;simp only;rw [aN (l:=s) (by omega)];simp only [List.map_nil,au,Int.add_zero,pD]
noncomputable def ab2:aw:=aq LS qz Ae
noncomputable def abD:Nat:=fo (bA Tryz.f77 0 0)
theorem XA:aJ Tryz.prog 0 Tryz.f77.ntmps (bA Tryz.f77 0 0) (aq LS qz Ae):=
 aD LS (az (.aP dY rfl .nil) _) mixed (fun b hb S hS=>by cases hS) qz Ae O2 (fun |⟨a,l,n,i,s,m,j,r,b,fc,ch,wd,nb,by_,lg,ot,t,x,⟨⟩⟩,hi=>Zi a l n i s m j r b fc ch wd nb by_ lg ot t x hi)
noncomputable def LU:Lp:=(⟨0,aI [dF] Tryz.f77,(find [(abD,ab2)]),(aC Tryz.f77 0),qG1,xG1⟩:Lp)
theorem Zj (a:List ag) (l:List aa.aH) (n:Int) (i:Int) (r:aj) (b:aa.ay) (fc:Int) (ch:Int) (wd:Int) (nb:Int) (by_:Int) (lg:Int) (ot:Int) (t:List Int) (hi:Af (a,l,n,i,r,b,fc,ch,wd,nb,by_,lg,ot,t,())) :(Go.aa.stepG LU qA (fun y:Den (bj LU.q)=>Af y/\O3 y<O3 (a,l,n,i,r,b,fc,ch,wd,nb,by_,lg,ot,t,())) (a,l,n,i,r,b,fc,ch,wd,nb,by_,lg,ot,t,())/\Go.aa.bB LU qA (a,l,n,i,r,b,fc,ch,wd,nb,by_,lg,ot,t,())=qA (a,l,n,i,r,b,fc,ch,wd,nb,by_,lg,ot,t,())):=by
 refine cast (by kernel_rfl) (?_:let r1:Int:=(↑(l.getD i.toNat (af (Ty.nm Nm.aH))).3.length:Int);let r2:List ab:=List.map (bu r) (List.drop (Int.toNat 0) (l.getD i.toNat (af (Ty.nm Nm.aH))).3);((decide (i<n)=true->(0<=i/\i <(↑l.length:Int))/\((cq fun x=>none)/\(r1 =(↑(l.getD i.toNat (af (Ty.nm Nm.aH))).3.length:Int)/\(l.getD i.toNat (af (Ty.nm Nm.aH))).3.length<=(4000:Nat)/\mw r (l.getD i.toNat (af (Ty.nm Nm.aH))).3)/\((0:Int)<=0/\0<=r1)/\(0<=i/\i<=4000)/\geG r a t/\inG r (l.getD i.toNat (af (Ty.nm Nm.aH)))/\upG (64000*i +(16:Int)*0) fc ch wd nb by_ lg ot t)/\Af (a,l,n,IntKind.i64.wrap (i+1),r,b,fc+au mb r2,ch+au gJ r2,wd+au mK r2,nb+au (mJ r.8) r2,by_+au n5 r2,lg+au n6 r2,ot+au lD r2,bC t (l.getD i.toNat (af (Ty.nm Nm.aH))).2 (au lN r2),())/\O3 (a,l,n,IntKind.i64.wrap (i+1),r,b,fc+au mb r2,ch+au gJ r2,wd+au mK r2,nb+au (mJ r.8) r2,by_+au n5 r2,lg+au n6 r2,ot+au lD r2,bC t (l.getD i.toNat (af (Ty.nm Nm.aH))).2 (au lN r2),())<O3 (a,l,n,i,r,b,fc,ch,wd,nb,by_,lg,ot,t,()))/\(decide (i<n)=false->True))/\(cond (decide (i<n)) (qA (a,l,n,IntKind.i64.wrap (i+1),r,b,fc+au mb r2,ch+au gJ r2,wd+au mK r2,nb+au (mJ r.8) r2,by_+au n5 r2,lg+au n6 r2,ot+au lD r2,bC t (l.getD i.toNat (af (Ty.nm Nm.aH))).2 (au lN r2),())) (a,r,b,fc,ch,wd,nb,by_,lg,ot,t,()))=qA (a,l,n,i,r,b,fc,ch,wd,nb,by_,lg,ot,t,()));intro r1 r2
 clear_value (hr1:r1=_) (hr2:r2=_)
 obtain ⟨⟨h1,⟨h1a,h1b⟩,h1c⟩,⟨h2,h3⟩,⟨hg,hsa,htl⟩,u1,u2,u3,u4,u5,u6,u7,u8⟩:=hi;have h1:n =(l.length:Int):=h1;have h1a:l.length<=4000:=h1a;have h2:0<=i:=h2;have h3:i<=n:=h3;have htl :(t.length:Int)=r.Side+1:=htl;have hnb:=hg.1.2;refine dP (fun h=>?_) (fun h=>?_)
 ·have e1:IntKind.i64.wrap (i+1)=i+1:=a7 (by omega) (by omega);have hd:l.drop i.toNat=l.getD i.toNat (af (Ty.nm Nm.aH))::l.drop (i+1).toNat:=aY h2 (by omega) _;have hm:l.getD i.toNat (af (Ty.nm Nm.aH))∈l:=List.mem_of_mem_drop (i:=i.toNat) (by rw [hd];exact List.mem_cons_self);have hx:=h1b _ hm;obtain ⟨hrd,hin⟩:=h1c _ hm;generalize l.getD i.toNat (af (Ty.nm Nm.aH))=x at *;have e2:r2=x.Symbols.map (bu r):=hr2
  have hw:rJ (x.Symbols.map (bu r)):=fun y hy=>by obtain ⟨w,hw,rfl⟩:=List.mem_map.1 hy;exact wh hg.1 (hrd w hw)
  have hle :(x.Symbols.map (bu r)).length<=4000:=by rw [List.length_map];exact hx
  have hdm:eY r (l.drop i.toNat)=x.Symbols.map (bu r)::eY r (l.drop (i+1).toNat):=by rw [hd];rfl
  rw [e1,e2];generalize x.Symbols.map (bu r)=ys at *;have hbk:0<=x.Bowler/\x.Bowler<=r.Side:=hin
  have up :∀ {v:Int} {f:ab->Int},fU (64000*i) v->(∀ y∈ys,0<=f y/\f y<=16)->fU (64000 *(i+1)) (v+au f ys):=fun {v f} hv hf=>by obtain ⟨v0,v1⟩:=hv;obtain ⟨c0,c1⟩:=B9 hf;exact ⟨by omega,by omega⟩
  have e3:64000*i+16*0=64000*i:=by omega
  refine ⟨⟨⟨h2,by omega⟩,⟨rfl,⟨hr1,hx,hrd⟩,⟨Int.le_refl _,by omega⟩,⟨h2,by omega⟩,⟨hg,hsa,htl⟩,hin,by rw [e3];exact ⟨u1,u2,u3,u4,u5,u6,u7,u8⟩⟩,⟨⟨h1,⟨h1a,h1b⟩,h1c⟩,⟨?_,?_⟩,⟨hg,hsa,?_⟩,up u1 fun y _=>qR y,up u2 fun y hy=>oB (hw y hy),up u3 fun y hy=>tA (hw y hy),up u4 fun y _=>tz hnb y,up u5 fun y hy=>tw (hw y hy),up u6 fun y hy=>tx (hw y hy),up u7 fun y _=>oC y,?_⟩,?_⟩,?_⟩
  ·show 0<=i+1;omega
  ·show i+1<=n;omega
  ·show ((bC t x.Bowler (au lN ys)).length:Int)=_;rw [fu];exact htl
  ·intro v hv;rcases kj hv with hv|rfl
   ·obtain ⟨v0,v1⟩:=u8 v hv;exact ⟨v0,by show v<=64000 *(i+1);omega⟩
   ·exact up (pH u8 hbk.1 (by omega)) fun y _=>mS y
  ·show (n - (i+1)).toNat <(n - i).toNat;omega
  ·have p :∀ (f:ab->Int) (v:Int),v+au f ys+au f (aU (eY r (l.drop (i+1).toNat)))=v+au f (aU (eY r (l.drop i.toNat))):=fun f v=>by rw [hdm];show _=v+au f (ys++aU (eY r (l.drop (i+1).toNat)));rw [rF];omega
   show (a,r,b,fc+au mb ys+au mb (aU (eY r (l.drop (i+1).toNat))),ch+au gJ ys+au gJ (aU (eY r (l.drop (i+1).toNat))),wd+au mK ys+au mK (aU (eY r (l.drop (i+1).toNat))),nb+au (mJ r.NoBall) ys+au (mJ r.NoBall) (aU (eY r (l.drop (i+1).toNat))),by_+au n5 ys+au n5 (aU (eY r (l.drop (i+1).toNat))),lg+au n6 ys+au n6 (aU (eY r (l.drop (i+1).toNat))),ot+au lD ys+au lD (aU (eY r (l.drop (i+1).toNat))),dM (bC t x.Bowler (au lN ys)) (l.drop (i+1).toNat) (eY r (l.drop (i+1).toNat)),())=_;rw [p mb,p gJ,p mK,p (mJ r.NoBall),p n5,p n6,p lD];unfold qA;simp only;rw [hdm,hd];rfl
 ·unfold qA;simp only;rw [aN (l:=l) (by omega)];simp only [eY,List.map_nil,aU,au,Int.add_zero];rfl
noncomputable def VE:aw:=aq LU qA Af
noncomputable def U4:Nat:=fo (aC Tryz.f77 0)
theorem XB:aJ Tryz.prog 0 Tryz.f77.ntmps (aC Tryz.f77 0) (aq LU qA Af):=
 aD LU (az (.aP dY rfl .nil) _) mixed (aL.cons (by kernel_rfl) XA .nil) qA Af O3 (fun |⟨a,l,n,i,r,b,fc,ch,wd,nb,by_,lg,ot,t,⟨⟩⟩,hi=>Zj a l n i r b fc ch wd nb by_ lg ot t hi)
theorem GP (r:aj) (a:List ag) (b:aa.ay) (ha:vE r a) (hr:sT r) (hb:po b.Boxes) (hx:rdX r b.Boxes) :(a8 (aI [dF] Tryz.f77) (find [(U4,VE)]) Tryz.f77 Gz PL (r,a,b,())).sat fun z_=>z_ =(I1 (r,a,b,())).2:=by
 refine cast (by kernel_rfl) (?_:let r1:Int:=IntKind.i64.wrap (r.2+1);let r2:List Int:=List.replicate r1.toNat 0;(0<=r1/\r1=r1/\r1<=17179869184)/\((cq fun x=>none)/\((↑b.2.length:Int) =(↑b.2.length:Int)/\po b.2/\rdX r b.2)/\((0:Int)<=0/\0<=(↑b.2.length:Int))/\geG r a r2/\upG ((64000:Int)*0) 0 0 0 0 0 0 0 r2)/\(0+au mb (aU (eY r (List.drop (Int.toNat 0) b.2))),0+au gJ (aU (eY r (List.drop (Int.toNat 0) b.2))),0+au mK (aU (eY r (List.drop (Int.toNat 0) b.2))),0+au (mJ r.8) (aU (eY r (List.drop (Int.toNat 0) b.2))),0+au n5 (aU (eY r (List.drop (Int.toNat 0) b.2))),0+au n6 (aU (eY r (List.drop (Int.toNat 0) b.2))),0+au lD (aU (eY r (List.drop (Int.toNat 0) b.2))),dM r2 (List.drop (Int.toNat 0) b.2) (eY r (List.drop (Int.toNat 0) b.2)),())=aaJ r b);intro r1 r2
 clear_value (hr1:r1=_) (hr2:r2=_)
 obtain ⟨hwn,⟨hb0,hb1⟩,hs0,hs1⟩:=id hr;have e1:r1=r.Side+1:=by rw [hr1];exact bE (by omega) (by omega)
 have e2:r2=List.replicate (r.Side.toNat+1) 0:=by rw [hr2,e1];congr 1;omega
 have l2 :(r2.length:Int)=r.Side+1:=by rw [e2,List.length_replicate];omega
 have z0:fU (64000*0) 0:=⟨Int.le_refl _,by decide⟩
 have u2:Q5 (64000*0) r2:=fun v hv=>by rw [e2] at hv;rw [(List.mem_replicate.1 hv).2];exact z0
 refine ⟨⟨by omega,rfl,by omega⟩,⟨rfl,⟨rfl,hb,hx⟩,⟨Int.le_refl _,by omega⟩,⟨hr,ha,l2⟩,z0,z0,z0,z0,z0,z0,z0,u2⟩,?_⟩;rw [e2];simp only [Int.zero_add];rfl
def AG:FuncId×dR:=(77,ax KE Gz PL I1)
theorem Ip:aR Tryz.prog KE 77 (ax KE Gz PL I1):=by
 refine bh (C:=aI [dF] Tryz.f77) (az (.aP dY rfl .nil) _) mixed (fn:=Tryz.f77) Tryz.func77 (by kernel_rfl) (by kernel_rfl) (by kernel_rfl) (by kernel_rfl) (by kernel_rfl) (by kernel_rfl) (Λ:=fun x=>find [(U4,VE)]) ?_ ?_
 ·rintro ⟨r,a,b,⟨⟩⟩ hw hn
  exact aL.at (by kernel_rfl) (.cons (by kernel_rfl) (XB) .nil)
 ·rintro ⟨r,a,b,⟨⟩⟩ hw hn
  exact GP r a b (hn _ List.mem_cons_self) (hn _ (List.mem_cons_of_mem _ List.mem_cons_self)) (hn _ (List.mem_cons_of_mem _ (List.mem_cons_of_mem _ List.mem_cons_self))) (hn _ (List.mem_cons_of_mem _ (List.mem_cons_of_mem _ (List.mem_cons_of_mem _ List.mem_cons_self))))
def qq:List Int->List aa.ak->List Int
 | t,[]=>t
 | t,x::l=>qq (if decide (x.Bowler>0) then bC t x.Bowler (-1) else t) l
abbrev aaI:PB:= .cells [.h I,.h I,.h I,.h I,.h I,.h I,.h I,.c (.osl 2 3)]
abbrev hpP:List (Nat×PB):= [(0,.dat (.nm .ay)),(1,aaI),(2,.row 3 I)]
abbrev aa5:List (Nat×PB):= [(0,.dat (.nm .ay)),(1,aaI),(2,.row 3 I),(4,.dat MZ)]
abbrev tmP:List (Nat×PC):= [(5,.c (.ptr 0 0)),(7,.c (.ptr 1 0)),(8,.h I),(9,.h I),(10,.h I)]
abbrev ZV:List (Nat×PC):= [(23,.h ze),(24,.h I),(25,.h I)]
abbrev qP0:bl:=⟨tmP++ZV++[(12,.c (.ptr 4 0)),(35,.h (.slice .str)),(36,.h I),(37,.h I)],aa5,5⟩
abbrev xP0:List (Lf×bl):= [(.ext 2,⟨tmP++ZV++[(12,.c (.ptr 4 0))],aa5,5⟩)]
abbrev TP0:Type:=Int×Int×Int×List aa.ak×Int×Int×List ByteArray×Int×Int×aa.ay×Int×Int×Int×Int×Int×Int×Int×List Int×aa.ak×Unit
abbrev adJ:Type:=Int×Int×Int×List aa.ak×Int×Int×aa.ay×Int×Int×Int×Int×Int×Int×Int×List Int×aa.ak×Unit
def sH:TP0->adJ
 |(fa,ru,ou,l,n,i,s,_,j,b,fc,ch,wd,nb,by_,lg,ot,t,x,_)=>(fa,ru+eb (s.drop j.toNat),ou,l,n,i,b,fc,ch,wd,nb,by_,lg,ot,t,x,())
def lE (s:List ByteArray):Prop:=∀ w∈s,(cd w).2=true
def Al:TP0->Prop
 |(_,ru,_,_,_,i,s,m,j,_)=>(m =(s.length:Int)/\s.length<=4000/\lE s)/\(0<=j/\j<=m)/\(0<=i/\i<=4000)/\fU (64000*i+16*j) ru
def O7:TP0->Nat
 |(_,_,_,_,_,_,_,m,j,_)=>(m - j).toNat
abbrev qP1:bl:=⟨tmP++ZV,hpP,4⟩
abbrev xP1:List (Lf×bl):= [(.ext 0,⟨tmP,hpP,4⟩)]
abbrev TP1:Type:=Int×Int×Int×List aa.ak×Int×Int×aa.ay×Int×Int×Int×Int×Int×Int×Int×List Int×Unit
abbrev adL:Type:=Int×Int×Int×aa.ay×Int×Int×Int×Int×Int×Int×Int×List Int×Unit
def pn:TP1->adL
 |(fa,ru,ou,l,_,i,b,fc,ch,wd,nb,by_,lg,ot,t,_)=>(fa+bt kV (l.drop i.toNat),ru+bt rz (l.drop i.toNat),ou+bt qi (l.drop i.toNat),b,fc,ch,wd,nb,by_,lg,ot - bt qj (l.drop i.toNat),qq t (l.drop i.toNat),())
def stP (k:Int) (x:aa.ak):Prop:=(0<=x.Bowler/\x.Bowler<k)/\lE x.Symbols
def T8 (k:Int) (l:List aa.ak):Prop:=∀ x∈l,stP k x
def rmP (i:Int) (t:List Int):Prop:=∀ v∈t,Re i 300000000 v
def Am:TP1->Prop
 |(fa,ru,ou,l,n,i,_,_,_,_,_,_,_,ot,t,_)=>(n =(l.length:Int)/\xY l/\T8 (t.length:Int) l)/\(0<=i/\i<=n)/\(fU (4000*i) fa/\fU (64000*i) ru/\fU i ou/\Re i 300000000 ot)/\rmP i t
def O8:TP1->Nat
 |(_,_,_,_,n,i,_)=>(n - i).toNat
abbrev hpQ:List (Nat×PB):= [(0,.dat (.nm .ay)),(1,.cells [.h I,.h I,.h I,.h I,.h I,.h I,.h I,.c .any])]
abbrev qQ0:bl:=⟨tmP++[(81,.h (.slice I)),(82,.h I),(83,.h I)],hpQ,2⟩
abbrev xQ0:List (Lf×bl):= [(.ext 4,⟨tmP,hpQ,2⟩),(.ret,⟨[(6,.h .bool)],[],0⟩)]
abbrev TQ0:Type:=Int×Int×Int×List Int×Int×Int×aa.ay×Int×Int×Int×Int×Int×Int×Int×Unit
abbrev adO:Type:=Int×Int×Int×aa.ay×Int×Int×Int×Int×Int×Int×Int×Unit
def lp:TQ0->Sum adO (Bool×Unit)
 |(fa,ru,ou,l,_,i,b,fc,ch,wd,nb,by_,lg,ot,_)=>if (l.drop i.toNat).all (fun v=>v==0) then .inl (fa,ru,ou,b,fc,ch,wd,nb,by_,lg,ot,()) else .inr (false,())
def Ao:TQ0->Prop
 |(_,_,_,l,n,i,_)=>(n =(l.length:Int)/\l.length<=4000)/\0<=i/\i<=n
def Pa:TQ0->Nat
 |(_,_,_,_,n,i,_)=>(n - i).toNat
def ad2 (b:aa.ay):Prop:=∀ x∈b.Boxes,1<=x.Bowler
def ndR (r:aj) (a:List ag) (b:aa.ay):Prop:=(vE r a/\sT r/\ad2 b)/\qe b/\rdX r b.Boxes/\T8 (r.Side+1) b.Strips/\rq b
def Qi:Den (bj Gz)->List Prop×Den (bj cO):=fun x=>([ndR x.1 x.2.1 x.2.2.1],(n4 x.1 x.2.2.1 (rI x.1 x.2.2.1),()))
theorem zu (c:Int) (u:List Int) {i:Int} (n:Int) (h:0<i) :∃ v,(∀ d,bC (d::u) i n=d::v):=by obtain ⟨k,hk⟩ :∃ k,i.toNat=k+1:=⟨i.toNat - 1,by omega⟩;refine ⟨u.set k (u.getD k 0+n),fun d=>?_⟩;unfold bC;rw [hk];rfl
theorem Yk :∀ (l:List aa.ak) (a c:Int) (u:List Int),(∀ x∈l,0<=x.Bowler)->∃ v d,qq (a::u) l=a::v/\ml (c::u) l=d::v
 | [],a,c,u,_=>⟨u,c,rfl,rfl⟩
 | x::l,a,c,u,h=>by
  have hx:=h x List.mem_cons_self;have ht :∀ z∈l,0<=z.Bowler:=fun z hz=>h z (List.mem_cons_of_mem _ hz);by_cases hb:x.Bowler>0
  ·obtain ⟨w,hw⟩:=zu 0 u (-1) hb;obtain ⟨v,d,h1,h2⟩:=Yk l a c w ht;refine ⟨v,d,?_,?_⟩
   ·show qq (if decide (x.Bowler>0)=true then bC (a::u) x.Bowler (-1) else a::u) l=_;rw [decide_eq_true hb,if_pos rfl,hw];exact h1
   ·show ml (bC (c::u) x.Bowler (-1)) l=_;rw [hw];exact h2
  ·have h0:x.Bowler=0:=by omega
   obtain ⟨v,d,h1,h2⟩:=Yk l a (c + -1) u ht;refine ⟨v,d,?_,?_⟩
   ·show qq (if decide (x.Bowler>0)=true then bC (a::u) x.Bowler (-1) else a::u) l=_;rw [decide_eq_false hb];exact h1
   ·show ml (bC (c::u) x.Bowler (-1)) l=_;rw [h0];exact h2
theorem yj :∀ (l:List aa.aH) (es:List (List ab)) (a:Int) (u:List Int),(∀ x∈l,1<=x.Bowler)->∃ v,dM (a::u) l es=a::v
 | [],es,a,u,_=>⟨u,by cases es <;> rfl⟩
 | x::l,[],a,u,_=>⟨u,rfl⟩
 | x::l,ys::es,a,u,h=>by obtain ⟨w,hw⟩:=zu 0 u (au lN ys) (i:=x.Bowler) (by have:=h x List.mem_cons_self;omega);obtain ⟨v,hv⟩:=yj l es a w fun z hz=>h z (List.mem_cons_of_mem _ hz);refine ⟨v,?_⟩;show dM (bC (a::u) x.Bowler (au lN ys)) l es=_;rw [hw];exact hv
theorem Nc {n:Nat} {l:List aa.aH} {es:List (List ab)} {st:List aa.ak} (h1 :∀ x∈l,1<=x.Bowler) (h2 :∀ x∈st,0<=x.Bowler) :
  (qq (dM (List.replicate (n+1) 0) l es) st).all (fun v=>v==0) =((ml (dM (List.replicate (n+1) 0) l es) st).drop 1).all (fun v=>v==0):=by
 obtain ⟨v,hv⟩:=yj l es 0 (List.replicate n 0) h1;rw [List.replicate_succ,hv];obtain ⟨w,d,e1,e2⟩:=Yk st 0 0 v h2;rw [e1,e2];rfl
theorem Bo :∀ (t:List Int) (l:List aa.ak),(qq t l).length=t.length
 | _,[]=>rfl
 | t,x::l=>by
  show (qq (if decide (x.Bowler>0)=true then bC t x.Bowler (-1) else t) l).length=_;rw [Bo];split
  ·exact fu _ _ _
  ·rfl
theorem Ko :∀ {l:List ByteArray},lE l->∀ w∈l,gn w =(cd w).1:=fun h w hw=>by rw [KL,h w hw];rfl
noncomputable def L4:Lp:=(⟨0,aI [iD] Tryz.f34,(fun _=>none),(bA Tryz.f34 0 0),qP0,xP0⟩:Lp)
theorem Zt (fa:Int) (ru:Int) (ou:Int) (l:List aa.ak) (n:Int) (i:Int) (s:List ByteArray) (m:Int) (j:Int) (b:aa.ay) (fc:Int) (ch:Int) (wd:Int) (nb:Int) (by_:Int) (lg:Int) (ot:Int) (t:List Int) (x:aa.ak) (hi:Al (fa,ru,ou,l,n,i,s,m,j,b,fc,ch,wd,nb,by_,lg,ot,t,x,())) :(Go.aa.stepG L4 sH (fun y:Den (bj L4.q)=>Al y/\O7 y<O7 (fa,ru,ou,l,n,i,s,m,j,b,fc,ch,wd,nb,by_,lg,ot,t,x,())) (fa,ru,ou,l,n,i,s,m,j,b,fc,ch,wd,nb,by_,lg,ot,t,x,())/\Go.aa.bB L4 sH (fa,ru,ou,l,n,i,s,m,j,b,fc,ch,wd,nb,by_,lg,ot,t,x,())=sH (fa,ru,ou,l,n,i,s,m,j,b,fc,ch,wd,nb,by_,lg,ot,t,x,())):=by
 refine cast (by kernel_rfl) (?_ :((decide (j<m)=true->(0<=j/\j <(↑s.length:Int))/\Al (fa,IntKind.i64.wrap (ru+gn (s.getD j.toNat (af Ty.str))),ou,l,n,i,s,m,IntKind.i64.wrap (j+1),b,fc,ch,wd,nb,by_,lg,ot,t,x,())/\O7 (fa,IntKind.i64.wrap (ru+gn (s.getD j.toNat (af Ty.str))),ou,l,n,i,s,m,IntKind.i64.wrap (j+1),b,fc,ch,wd,nb,by_,lg,ot,t,x,())<O7 (fa,ru,ou,l,n,i,s,m,j,b,fc,ch,wd,nb,by_,lg,ot,t,x,()))/\(decide (j<m)=false->True))/\(cond (decide (j<m)) (sH (fa,IntKind.i64.wrap (ru+gn (s.getD j.toNat (af Ty.str))),ou,l,n,i,s,m,IntKind.i64.wrap (j+1),b,fc,ch,wd,nb,by_,lg,ot,t,x,())) (fa,ru,ou,l,n,i,b,fc,ch,wd,nb,by_,lg,ot,t,x,()))=sH (fa,ru,ou,l,n,i,s,m,j,b,fc,ch,wd,nb,by_,lg,ot,t,x,()));obtain ⟨⟨h1,h1b,h1c⟩,⟨h2,h3⟩,⟨hi0,hi4⟩,u0,u1⟩:=hi;have h1:m =(s.length:Int):=h1;have h1b:s.length<=4000:=h1b;have h2:0<=j:=h2;have h3:j<=m:=h3;have hi0:0<=i:=hi0;have hi4:i<=4000:=hi4;have u0:0<=ru:=u0;have u1:ru<=64000*i+16*j:=u1;refine dP (fun h=>?_) (fun h=>?_)
 ·have e1:IntKind.i64.wrap (j+1)=j+1:=a7 (by omega) (by omega);have hd:s.drop j.toNat=s.getD j.toNat (af Ty.str)::s.drop (j+1).toNat:=aY h2 (by omega) _;have hm:s.getD j.toNat (af Ty.str)∈s:=List.mem_of_mem_drop (i:=j.toNat) (by rw [hd];exact List.mem_cons_self);have ev:=Ko h1c _ hm;generalize s.getD j.toNat (af Ty.str)=w at *;have hf:=wH w;have e2:IntKind.i64.wrap (ru+gn w)=ru +(cd w).1:=by rw [ev];exact bE (by omega) (by omega)
  rw [e1,e2];refine ⟨⟨⟨h2,by omega⟩,⟨⟨h1,h1b,h1c⟩,⟨?_,?_⟩,⟨hi0,hi4⟩,?_,?_⟩,?_⟩,?_⟩
  ·show 0<=j+1;omega
  ·show j+1<=m;omega
  ·show 0<=ru +(cd w).1;omega
  ·show ru +(cd w).1<=64000*i+16 *(j+1);omega
  ·show (m - (j+1)).toNat <(m - j).toNat;omega
  ·have p:ru +(cd w).1+eb (s.drop (j+1).toNat)=ru+eb (s.drop j.toNat):=by rw [hd];show _=ru +((cd w).1+eb (s.drop (j+1).toNat));omega
   show (fa,ru +(cd w).1+eb (s.drop (j+1).toNat),ou,l,n,i,b,fc,ch,wd,nb,by_,lg,ot,t,x,())=_;rw [p];rfl
 ·unfold sH;simp only;rw [aN (l:=s) (by omega)];show _ =(fa,ru+0,ou,l,n,i,b,fc,ch,wd,nb,by_,lg,ot,t,x,());rw [Int.add_zero]
noncomputable def ab4:aw:=aq L4 sH Al
noncomputable def abF:Nat:=fo (bA Tryz.f34 0 0)
theorem XM:aJ Tryz.prog 0 Tryz.f34.ntmps (bA Tryz.f34 0 0) (aq L4 sH Al):=
 aD L4 (az (.aP iH rfl .nil) _) mixed (fun b hb S hS=>by cases hS) sH Al O7 (fun |⟨fa,ru,ou,l,n,i,s,m,j,b,fc,ch,wd,nb,by_,lg,ot,t,x,⟨⟩⟩,hi=>Zt fa ru ou l n i s m j b fc ch wd nb by_ lg ot t x hi)
noncomputable def L5:Lp:=(⟨0,aI [iD] Tryz.f34,(find [(abF,ab4)]),(aC Tryz.f34 0),qP1,xP1⟩:Lp)
theorem Zu (fa:Int) (ru:Int) (ou:Int) (l:List aa.ak) (n:Int) (i:Int) (b:aa.ay) (fc:Int) (ch:Int) (wd:Int) (nb:Int) (by_:Int) (lg:Int) (ot:Int) (t:List Int) (hi:Am (fa,ru,ou,l,n,i,b,fc,ch,wd,nb,by_,lg,ot,t,())) :(Go.aa.stepG L5 pn (fun y:Den (bj L5.q)=>Am y/\O8 y<O8 (fa,ru,ou,l,n,i,b,fc,ch,wd,nb,by_,lg,ot,t,())) (fa,ru,ou,l,n,i,b,fc,ch,wd,nb,by_,lg,ot,t,())/\Go.aa.bB L5 pn (fa,ru,ou,l,n,i,b,fc,ch,wd,nb,by_,lg,ot,t,())=pn (fa,ru,ou,l,n,i,b,fc,ch,wd,nb,by_,lg,ot,t,())):=by
 refine cast (by kernel_rfl) (?_:let r1:Int:=(↑(l.getD i.toNat (af (Ty.nm Nm.ak))).2.length:Int);let r2:Int:=IntKind.i64.wrap (fa+r1);let r3:Int:=ru+eb (List.drop (Int.toNat 0) (l.getD i.toNat (af (Ty.nm Nm.ak))).2);let r4:Int×Int×Int×aa.ay×Int×Int×Int×Int×Int×Int×Int×List Int×PUnit:=af (I.prod (I.prod (I.prod ((Ty.nm Nm.ay).prod (I.prod (I.prod (I.prod (I.prod (I.prod (I.prod (I.prod (I.slice.prod Ty.unit))))))))))));let r5:Bool:=decide ((l.getD i.toNat (af (Ty.nm Nm.ak))).4>0);let r6:Int:=cond ((l.getD i.toNat (af (Ty.nm Nm.ak))).3 != 0) (IntKind.i64.wrap (ou+1)) ou;let r7:Bool:=cond ((l.getD i.toNat (af (Ty.nm Nm.ak))).3==6) true (cond ((l.getD i.toNat (af (Ty.nm Nm.ak))).3==7) true ((l.getD i.toNat (af (Ty.nm Nm.ak))).3==8));let r8:List Int:=cond r5 (t.set (l.getD i.toNat (af (Ty.nm Nm.ak))).4.toNat (IntKind.i64.wrap (t.getD (l.getD i.toNat (af (Ty.nm Nm.ak))).4.toNat (af (Ty.int IntKind.i64)) - 1))) t;let r9:Int×Int×Int×aa.ay×Int×Int×Int×Int×Int×Int×Int×List Int×PUnit:=cond r7 r4 r4;((decide (i<n)=true->((0<=i/\i <(↑l.length:Int))/\((cq fun x=>none)/\(r1 =(↑(l.getD i.toNat (af (Ty.nm Nm.ak))).2.length:Int)/\(l.getD i.toNat (af (Ty.nm Nm.ak))).2.length<=(4000:Nat)/\lE (l.getD i.toNat (af (Ty.nm Nm.ak))).2)/\((0:Int)<=0/\0<=r1)/\(0<=i/\i<=4000)/\fU (64000*i +(16:Int)*0) ru)/\((r5=true->(0<=(l.getD i.toNat (af (Ty.nm Nm.ak))).4/\(l.getD i.toNat (af (Ty.nm Nm.ak))).4 <(↑t.length:Int))/\(0<=(l.getD i.toNat (af (Ty.nm Nm.ak))).4/\(l.getD i.toNat (af (Ty.nm Nm.ak))).4 <(↑t.length:Int))/\True)/\(r5=false->True))/\(true=true->(r7=true->True)/\(r7=false->True)))/\(true=true->Am (cond r7 r2 r2,cond r7 r3 r3,cond r7 r6 r6,cond r7 l l,cond r7 n n,IntKind.i64.wrap ((cond r7 i i)+1),aa.ay.mk (cond r7 b.1 b.1) (cond r7 b.2 b.2) (cond r7 b.3 b.3) (an.mk (cond r7 b.4.1 b.4.1) (cond r7 b.4.2 b.4.2) (cond r7 b.4.3 b.4.3) (cond r7 b.4.4 b.4.4) (cond r7 b.4.5 b.4.5)) (cond r7 b.5 b.5) (cond r7 b.6 b.6),cond r7 fc fc,cond r7 ch ch,cond r7 wd wd,cond r7 nb nb,cond r7 by_ by_,cond r7 lg lg,cond r7 (IntKind.i64.wrap (ot - 1)) ot,cond r7 r8 r8,())/\O8 (cond r7 r2 r2,cond r7 r3 r3,cond r7 r6 r6,cond r7 l l,cond r7 n n,IntKind.i64.wrap ((cond r7 i i)+1),aa.ay.mk (cond r7 b.1 b.1) (cond r7 b.2 b.2) (cond r7 b.3 b.3) (an.mk (cond r7 b.4.1 b.4.1) (cond r7 b.4.2 b.4.2) (cond r7 b.4.3 b.4.3) (cond r7 b.4.4 b.4.4) (cond r7 b.4.5 b.4.5)) (cond r7 b.5 b.5) (cond r7 b.6 b.6),cond r7 fc fc,cond r7 ch ch,cond r7 wd wd,cond r7 nb nb,cond r7 by_ by_,cond r7 lg lg,cond r7 (IntKind.i64.wrap (ot - 1)) ot,cond r7 r8 r8,())<O8 (fa,ru,ou,l,n,i,b,fc,ch,wd,nb,by_,lg,ot,t,())))/\(decide (i<n)=false->True))/\(cond (decide (i<n)) (cond (true&&true&&(true&&true)) (pn (cond r7 r2 r2,cond r7 r3 r3,cond r7 r6 r6,cond r7 l l,cond r7 n n,IntKind.i64.wrap ((cond r7 i i)+1),aa.ay.mk (cond r7 b.1 b.1) (cond r7 b.2 b.2) (cond r7 b.3 b.3) (an.mk (cond r7 b.4.1 b.4.1) (cond r7 b.4.2 b.4.2) (cond r7 b.4.3 b.4.3) (cond r7 b.4.4 b.4.4) (cond r7 b.4.5 b.4.5)) (cond r7 b.5 b.5) (cond r7 b.6 b.6),cond r7 fc fc,cond r7 ch ch,cond r7 wd wd,cond r7 nb nb,cond r7 by_ by_,cond r7 lg lg,cond r7 (IntKind.i64.wrap (ot - 1)) ot,cond r7 r8 r8,())) (cond true (pn (cond r7 r2 r2,cond r7 r3 r3,cond r7 r6 r6,cond r7 l l,cond r7 n n,IntKind.i64.wrap ((cond r7 i i)+1),aa.ay.mk (cond r7 b.1 b.1) (cond r7 b.2 b.2) (cond r7 b.3 b.3) (an.mk (cond r7 b.4.1 b.4.1) (cond r7 b.4.2 b.4.2) (cond r7 b.4.3 b.4.3) (cond r7 b.4.4 b.4.4) (cond r7 b.4.5 b.4.5)) (cond r7 b.5 b.5) (cond r7 b.6 b.6),cond r7 fc fc,cond r7 ch ch,cond r7 wd wd,cond r7 nb nb,cond r7 by_ by_,cond r7 lg lg,cond r7 (IntKind.i64.wrap (ot - 1)) ot,cond r7 r8 r8,())) (cond (true&&true) r9 (cond true r9 (cond r5 r4 r4))))) (fa,ru,ou,b,fc,ch,wd,nb,by_,lg,ot,t,()))=pn (fa,ru,ou,l,n,i,b,fc,ch,wd,nb,by_,lg,ot,t,()));intro r1 r2 r3 r4 r5 r6 r7 r8 r9
 clear_value (hr1:r1=_) (hr2:r2=_) (hr3:r3=_) (hr4:r4=_) (hr5:r5=_) (hr6:r6=_) (hr7:r7=_) (hr8:r8=_) (hr9:r9=_)
 simp only [Bool.cond_self] at *;obtain ⟨⟨h1,⟨h1a,h1b⟩,h1c⟩,⟨h2,h3⟩,⟨⟨u1,v1⟩,⟨u2,v2⟩,⟨u3,v3⟩,⟨u4,v4⟩⟩,u8⟩:=hi;have h1:n =(l.length:Int):=h1;have h1a:l.length<=4000:=h1a;have h2:0<=i:=h2;have h3:i<=n:=h3;have u1:0<=fa:=u1;have v1:fa<=4000*i:=v1;have u2:0<=ru:=u2;have v2:ru<=64000*i:=v2;have u3:0<=ou:=u3;have v3:ou<=i:=v3;have u4:-i<=ot:=u4;have v4:ot<=300000000:=v4;refine dP (fun h=>?_) (fun h=>?_)
 ·have e1:IntKind.i64.wrap (i+1)=i+1:=a7 (by omega) (by omega);have hd:l.drop i.toNat=l.getD i.toNat (af (Ty.nm Nm.ak))::l.drop (i+1).toNat:=aY h2 (by omega) _;have hm:l.getD i.toNat (af (Ty.nm Nm.ak))∈l:=List.mem_of_mem_drop (i:=i.toNat) (by rw [hd];exact List.mem_cons_self);have hx:=h1b _ hm;obtain ⟨⟨y0,y1⟩,yf⟩:=h1c _ hm;generalize l.getD i.toNat (af (Ty.nm Nm.ak))=y at *;have hrb:=IV y.Symbols;obtain ⟨g0,g1⟩:=pH u8 y0 y1;have hgl:0<=kV y/\kV y<=4000:=by unfold kV;omega
  have hgn:0<=rz y/\rz y<=44000:=by unfold rz;omega
  have hgo:0<=qi y/\qi y<=1:=by unfold qi;split <;> decide
  have hgr:0<=qj y/\qj y<=1:=by unfold qj;split <;> decide
  have e2:r2=fa+kV y:=by rw [hr2,hr1];exact bE (by omega) (by omega)
  have e3:r3=ru+rz y:=hr3
  have e6:r6=ou+qi y:=by
   rw [hr6];unfold qi;show (bif y.How != 0 then IntKind.i64.wrap (ou+1) else ou)=ou+if y.How==0 then 0 else 1
   cases hz:y.How==0 with
   | true=>rw [show (y.How != 0)=false by rw [bne,hz];rfl];show ou=ou+0;omega
   | false=>rw [show (y.How != 0)=true by rw [bne,hz];rfl];exact bE (by omega) (by omega)
  have e7 :(bif r7 then IntKind.i64.wrap (ot - 1) else ot)=ot - qj y:=by
   have:r7 =(y.How==6 ||(y.How==7||y.How==8)):=by rw [hr7];cases y.How==6 <;> cases y.How==7 <;> rfl
   rw [this];unfold qj
   cases (y.How==6 ||(y.How==7||y.How==8)) with
   | true=>exact bE (by omega) (by omega)
   | false=>show ot=ot - 0;omega
  have e8:r8=if decide (y.Bowler>0) then bC t y.Bowler (-1) else t:=by rw [hr8,hr5];show (bif decide (y.Bowler>0) then t.set y.Bowler.toNat (IntKind.i64.wrap (t.getD y.Bowler.toNat 0 - 1)) else t)=if decide (y.Bowler>0)=true then t.set y.Bowler.toNat (t.getD y.Bowler.toNat 0 + -1) else t;rw [show IntKind.i64.wrap (t.getD y.Bowler.toNat 0 - 1)=t.getD y.Bowler.toNat 0 + -1 from bE (by omega) (by omega)];cases decide (y.Bowler>0) <;> rfl
  have l8 :(if decide (y.Bowler>0) then bC t y.Bowler (-1) else t).length=t.length:=by
   split
   ·exact fu _ _ _
   ·rfl
  have m8:rmP (i+1) (if decide (y.Bowler>0) then bC t y.Bowler (-1) else t):=fun v hv=>by
   split at hv
   ·rcases kj hv with hv|rfl
    ·obtain ⟨v0,v1⟩:=u8 v hv;exact ⟨by omega,v1⟩
    ·exact ⟨by omega,by omega⟩
   ·obtain ⟨v0,v1⟩:=u8 v hv;exact ⟨by omega,v1⟩
  rw [e2,e3,e6,e7,e8,e1];generalize hT :(if decide (y.Bowler>0) then bC t y.Bowler (-1) else t)=t' at *;refine ⟨⟨⟨⟨h2,by omega⟩,⟨rfl,⟨hr1,hx,yf⟩,⟨Int.le_refl _,by omega⟩,⟨h2,by omega⟩,u2,by omega⟩,⟨fun _=>⟨⟨y0,y1⟩,⟨y0,y1⟩,trivial⟩,fun _=>trivial⟩,fun _=>⟨fun _=>trivial,fun _=>trivial⟩⟩,fun _=>⟨⟨⟨h1,⟨h1a,h1b⟩,?_⟩,⟨?_,?_⟩,⟨⟨?_,?_⟩,⟨?_,?_⟩,⟨?_,?_⟩,⟨?_,?_⟩⟩,m8⟩,?_⟩⟩,?_⟩
  ·show T8 (t'.length:Int) l;rw [l8];exact h1c
  ·show 0<=i+1;omega
  ·show i+1<=n;omega
  ·show 0<=fa+kV y;omega
  ·show fa+kV y<=4000 *(i+1);omega
  ·show 0<=ru+rz y;omega
  ·show ru+rz y<=64000 *(i+1);omega
  ·show 0<=ou+qi y;omega
  ·show ou+qi y<=i+1;omega
  ·show -(i+1)<=ot - qj y;omega
  ·show ot - qj y<=300000000;omega
  ·show (n - (i+1)).toNat <(n - i).toNat;omega
  ·have p :∀ (f:aa.ak->Int) (v:Int),v+f y+bt f (l.drop (i+1).toNat)=v+bt f (l.drop i.toNat):=fun f v=>by rw [hd];show _=v +(f y+bt f (l.drop (i+1).toNat));omega
   have pm :∀ (f:aa.ak->Int) (v:Int),v - f y - bt f (l.drop (i+1).toNat)=v - bt f (l.drop i.toNat):=fun f v=>by rw [hd];show _=v - (f y+bt f (l.drop (i+1).toNat));omega
   show (fa+kV y+bt kV (l.drop (i+1).toNat),ru+rz y+bt rz (l.drop (i+1).toNat),ou+qi y+bt qi (l.drop (i+1).toNat),b,fc,ch,wd,nb,by_,lg,ot - qj y - bt qj (l.drop (i+1).toNat),qq t' (l.drop (i+1).toNat),())=_;rw [p kV,p rz,p qi,pm qj];unfold pn;simp only;rw [hd,<-hT];rfl
 ·unfold pn;simp only;rw [aN (l:=l) (by omega)];show _ =(fa+0,ru+0,ou+0,b,fc,ch,wd,nb,by_,lg,ot - 0,t,());simp only [Int.add_zero,Int.sub_zero]
noncomputable def VN:aw:=aq L5 pn Am
noncomputable def Ve:Nat:=fo (aC Tryz.f34 0)
theorem XN:aJ Tryz.prog 0 Tryz.f34.ntmps (aC Tryz.f34 0) (aq L5 pn Am):=
 aD L5 (az (.aP iH rfl .nil) _) mixed (aL.cons (by kernel_rfl) XM .nil) pn Am O8 (fun |⟨fa,ru,ou,l,n,i,b,fc,ch,wd,nb,by_,lg,ot,t,⟨⟩⟩,hi=>Zu fa ru ou l n i b fc ch wd nb by_ lg ot t hi)
noncomputable def L7:Lp:=(⟨0,aI [] Tryz.f34,(fun _=>none),(aC Tryz.f34 1),qQ0,xQ0⟩:Lp)
theorem Zw (fa:Int) (ru:Int) (ou:Int) (l:List Int) (n:Int) (i:Int) (b:aa.ay) (fc:Int) (ch:Int) (wd:Int) (nb:Int) (by_:Int) (lg:Int) (ot:Int) (hi:Ao (fa,ru,ou,l,n,i,b,fc,ch,wd,nb,by_,lg,ot,())) :(Go.aa.stepG L7 lp (fun y:Den (bj L7.q)=>Ao y/\Pa y<Pa (fa,ru,ou,l,n,i,b,fc,ch,wd,nb,by_,lg,ot,())) (fa,ru,ou,l,n,i,b,fc,ch,wd,nb,by_,lg,ot,())/\Go.aa.bB L7 lp (fa,ru,ou,l,n,i,b,fc,ch,wd,nb,by_,lg,ot,())=lp (fa,ru,ou,l,n,i,b,fc,ch,wd,nb,by_,lg,ot,())):=by
 refine cast (by kernel_rfl) (?_:let r1:Bool:=l.getD i.toNat (af (Ty.int IntKind.i64)) != 0;((decide (i<n)=true->(0<=i/\i <(↑l.length:Int))/\(r1=true->True)/\(r1=false->Ao (fa,ru,ou,l,n,IntKind.i64.wrap (i+1),b,fc,ch,wd,nb,by_,lg,ot,())/\Pa (fa,ru,ou,l,n,IntKind.i64.wrap (i+1),b,fc,ch,wd,nb,by_,lg,ot,())<Pa (fa,ru,ou,l,n,i,b,fc,ch,wd,nb,by_,lg,ot,())))/\(decide (i<n)=false->True))/\(cond (decide (i<n)) (cond r1 (Sum.inr (false,())) (lp (fa,ru,ou,l,n,IntKind.i64.wrap (i+1),b,fc,ch,wd,nb,by_,lg,ot,()))) (Sum.inl (fa,ru,ou,b,fc,ch,wd,nb,by_,lg,ot,())))=lp (fa,ru,ou,l,n,i,b,fc,ch,wd,nb,by_,lg,ot,()));intro r1
 clear_value (hr1:r1=_)
 obtain ⟨⟨h1,h1b⟩,h2,h3⟩:=hi;have h1:n =(l.length:Int):=h1;have h1b:l.length<=4000:=h1b;have h2:0<=i:=h2;have h3:i<=n:=h3;refine dP (fun h=>?_) (fun h=>?_)
 ·have e1:IntKind.i64.wrap (i+1)=i+1:=a7 (by omega) (by omega);have hd:l.drop i.toNat=l.getD i.toNat (af (Ty.int IntKind.i64))::l.drop (i+1).toNat:=aY h2 (by omega) _;generalize l.getD i.toNat (af (Ty.int IntKind.i64))=w at *;rw [e1];refine ⟨⟨⟨h2,by omega⟩,fun _=>trivial,fun _=>⟨⟨⟨h1,h1b⟩,?_,?_⟩,?_⟩⟩,?_⟩
  ·show 0<=i+1;omega
  ·show i+1<=n;omega
  ·show (n - (i+1)).toNat <(n - i).toNat;omega
  ·unfold lp;simp only;rw [hd,List.all_cons,hr1];show (bif w != 0 then _ else _) =(if (w==0&&_)=true then _ else _);rw [bne];cases w==0 <;> rfl
 ·unfold lp;simp only;rw [aN (l:=l) (by omega)];rfl
noncomputable def VP:aw:=aq L7 lp Ao
noncomputable def Vg:Nat:=fo (aC Tryz.f34 1)
theorem XP:aJ Tryz.prog 0 Tryz.f34.ntmps (aC Tryz.f34 1) (aq L7 lp Ao):=
 aD L7 (az (aZ.nil) _) mixed (fun b hb S hS=>by cases hS) lp Ao Pa (fun |⟨fa,ru,ou,l,n,i,b,fc,ch,wd,nb,by_,lg,ot,⟨⟩⟩,hi=>Zw fa ru ou l n i b fc ch wd nb by_ lg ot hi)
theorem GO (r:aj) (a:List ag) (b:aa.ay) (hd:ndR r a b) :(a8 (aI [AG] Tryz.f34) (find [(Ve,VN),(Vg,VP)]) Tryz.f34 Gz cO (r,a,b,())).sat fun z_=>z_ =(Qi (r,a,b,())).2:=by
 refine cast (by kernel_rfl) (?_:let r1:List Int:=dM (List.replicate (r.2.toNat +(1:Nat)) 0) b.2 (eY r b.2);let r2:List Int:=qq r1 (List.drop (Int.toNat 0) b.3);let r3:Int:=(↑r2.length:Int);let r4:Bool:=wV (lp (0+bt kV (List.drop (Int.toNat 0) b.3),0+bt rz (List.drop (Int.toNat 0) b.3),0+bt qi (List.drop (Int.toNat 0) b.3),r2,r3,0,b,au mb (aU (eY r b.2)),au gJ (aU (eY r b.2)),au mK (aU (eY r b.2)),au (mJ r.8) (aU (eY r b.2)),au n5 (aU (eY r b.2)),au n6 (aU (eY r b.2)),au lD (aU (eY r b.2)) - bt qj (List.drop (Int.toNat 0) b.3),()));let r5:Int×Int×Int×aa.ay×Int×Int×Int×Int×Int×Int×Int×PUnit:=mV (af (I.prod (I.prod (I.prod ((Ty.nm Nm.ay).prod (I.prod (I.prod (I.prod (I.prod (I.prod (I.prod (I.prod Ty.unit)))))))))))) (lp (0+bt kV (List.drop (Int.toNat 0) b.3),0+bt rz (List.drop (Int.toNat 0) b.3),0+bt qi (List.drop (Int.toNat 0) b.3),r2,r3,0,b,au mb (aU (eY r b.2)),au gJ (aU (eY r b.2)),au mK (aU (eY r b.2)),au (mJ r.8) (aU (eY r b.2)),au n5 (aU (eY r b.2)),au n6 (aU (eY r b.2)),au lD (aU (eY r b.2)) - bt qj (List.drop (Int.toNat 0) b.3),()));let r6:Bool:=r5.2.2.2.1.4.5.tmod (5:Int)==0;let r7:Bool:=r5.1==r5.2.2.2.2.1;let r8:Bool:=r5.2.2.2.1.6==r5.2.2.1;let r9:Bool:=r5.2.2.2.1.4.1==r5.2.2.2.2.2.2.1;let r10:Bool:=r5.2.2.2.1.4.2==r5.2.2.2.2.2.2.2.1;let r11:Bool:=r5.2.2.2.1.4.3==r5.2.2.2.2.2.2.2.2.1;let r12:Bool:=r5.2.2.2.1.4.4==r5.2.2.2.2.2.2.2.2.2.1;let r13:Bool:=r5.2.1==IntKind.i64.wrap (IntKind.i64.wrap (r5.2.2.2.2.2.1 - r5.2.2.2.1.4.1) - r5.2.2.2.1.4.2);let r14:Bool:=r5.2.2.2.1.5==IntKind.i64.wrap (IntKind.i64.wrap (IntKind.i64.wrap (r5.2.2.2.2.2.1+r5.2.2.2.1.4.3)+r5.2.2.2.1.4.4)+r5.2.2.2.1.4.5);vE r a/\sT r/\po b.2/\rdX r b.2/\((cq fun x=>none)/\((↑b.3.length:Int) =(↑b.3.length:Int)/\xY b.3/\T8 (↑r1.length:Int) b.3)/\((0:Int)<=0/\0<=(↑b.3.length:Int))/\(fU ((4000:Int)*0) 0/\fU ((64000:Int)*0) 0/\fU 0 0/\Re 0 300000000 (au lD (aU (eY r b.2))))/\rmP 0 r1)/\((cq fun x=>none)/\(r3 =(↑r2.length:Int)/\r2.length<=(4000:Nat))/\(0:Int)<=0/\0<=r3)/\(r4=true->((r7=true->(r13=true->(r9=true->(r10=true->(r11=true->(r12=true->(5:Int)≠0/\(r6=true->(r14=true->(r8=true->True)/\(r8=false->True))/\(r14=false->True))/\(r6=false->True))/\(r12=false->True))/\(r11=false->True))/\(r10=false->True))/\(r9=false->True))/\(r13=false->True))/\(r7=false->True))/\(true=true->(cond r7 (cond r13 (cond r9 (cond r10 (cond r11 (cond r12 (cond r6 (cond r14 (cond r8 (r5.2.2.2.2.2.2.2.2.2.2.1==0) false) false) false) false) false) false) false) false) false,()) =(n4 r b (rI r b),())))/\(r4=false->jL (af (Ty.bool.prod Ty.unit)) (lp (0+bt kV (List.drop (Int.toNat 0) b.3),0+bt rz (List.drop (Int.toNat 0) b.3),0+bt qi (List.drop (Int.toNat 0) b.3),r2,r3,0,b,au mb (aU (eY r b.2)),au gJ (aU (eY r b.2)),au mK (aU (eY r b.2)),au (mJ r.8) (aU (eY r b.2)),au n5 (aU (eY r b.2)),au n6 (aU (eY r b.2)),au lD (aU (eY r b.2)) - bt qj (List.drop (Int.toNat 0) b.3),())) =(n4 r b (rI r b),())));intro r1 r2 r3 r4 r5 r6 r7 r8 r9 r10 r11 r12 r13 r14
 clear_value (hr1:r1=_) (hr2:r2=_) (hr3:r3=_) (hr4:r4=_) (hr5:r5=_) (hr6:r6=_) (hr7:r7=_) (hr8:r8=_) (hr9:r9=_) (hr10:r10=_) (hr11:r11=_) (hr12:r12=_) (hr13:r13=_) (hr14:r14=_)
 obtain ⟨⟨ha,hg,hb1w⟩,⟨hbx,hby⟩,hrx,hst,hsum⟩:=hd;obtain ⟨hwn,⟨hb0,hb1⟩,hs0,hs1⟩:=id hg;have hE:rI r b=eY r b.Boxes:=EM fun x hx=>(hrx x hx).1
 have hes:wo (eY r b.Boxes):=fun ys hy=>by obtain ⟨x,hm,rfl⟩:=List.mem_map.1 hy;refine ⟨by rw [List.length_map];exact hbx.2 x hm,fun y hy=>?_⟩;obtain ⟨w,hw,rfl⟩:=List.mem_map.1 hy;exact wh hwn ((hrx x hm).1 w hw)
 have hel :(eY r b.Boxes).length<=4000:=by unfold eY;rw [List.length_map];exact hbx.1
 have l1 :(r1.length:Int)=r.Side+1:=by rw [hr1,mD,List.length_replicate];show ((r.Side.toNat+1:Nat):Int)=_;omega
 have l2 :(r2.length:Int)=r.Side+1:=by rw [hr2,Bo];exact l1
 have ho:=sV (f:=lD) (fun y _=>oC y) hes;have hc:=sV (f:=gJ) (fun y h=>oB h) hes
 have u1:rmP 0 r1:=fun v hv=>by
  rw [hr1] at hv;have u0:Q5 0 (List.replicate (r.2.toNat+1) 0):=fun v hv=>by rw [(List.mem_replicate.1 hv).2];exact ⟨Int.le_refl _,Int.le_refl _⟩
  obtain ⟨a,c⟩:=yk (Int.le_refl 0) u0 hes v hv;exact ⟨by omega,by omega⟩
 have w1:=gv hsum (v:=b.Total) (by unfold cZ;simp);have w2:=gv hsum (v:=b.an.Wides) (by unfold cZ;simp);have w3:=gv hsum (v:=b.an.NoBalls) (by unfold cZ;simp);have w4:=gv hsum (v:=b.an.Byes) (by unfold cZ;simp);have w5:=gv hsum (v:=b.an.LegByes) (by unfold cZ;simp);have w6:=gv hsum (v:=b.an.Penalties) (by unfold cZ;simp);have z0 :∀ u:Int,0<=u->fU u 0:=fun u h=>⟨Int.le_refl _,h⟩;refine ⟨ha,hg,hbx,hrx,⟨rfl,⟨rfl,hby,by rw [l1];exact hst⟩,⟨Int.le_refl _,by omega⟩,⟨z0 _ (by decide),z0 _ (by decide),z0 _ (by decide),by omega,by omega⟩,u1⟩,⟨rfl,⟨hr3,by omega⟩,Int.le_refl _,by omega⟩,?_⟩;have h1 :∀ x∈b.Boxes,0<=x.Bowler:=fun x hx=>(hrx x hx).2.1;have h2 :∀ x∈b.Strips,0<=x.Bowler:=fun x hx=>(hst x hx).1.1;have hag:=Jh (r:=r) (b:=b) (es:=eY r b.Boxes) h1 h2
 have hz :(List.drop (Int.toNat 0) r2).all (fun v=>v==0) =((ml (dM (List.replicate (r.Side.toNat+1) 0) b.Boxes (eY r b.Boxes)) b.Strips).drop 1).all (fun v=>v==0):=by rw [<-Nc hb1w h2,hr2,hr1];rfl
 rw [hE];rw [<-hz] at hag;unfold lp at hr4 hr5 ⊢;simp only at hr4 hr5 ⊢
 cases hA :(List.drop (Int.toNat 0) r2).all (fun v=>v==0) with
 | false=>
  rw [hA] at hr4 hag;refine ⟨fun h=>?_,fun _=>?_⟩
  ·rw [hr4] at h;cases h
  ·rw [hag];rfl
 | true=>
  rw [hA] at hr4 hr5 hag;have e4:r4=true:=hr4;rw [if_pos rfl] at hr5;refine ⟨fun _=>⟨⟨fun _=>⟨fun _=>⟨fun _=>⟨fun _=>⟨fun _=>⟨fun _=>⟨by decide,fun _=>⟨fun _=>⟨fun _=>trivial,fun _=>trivial⟩,fun _=>trivial⟩,fun _=>trivial⟩,fun _=>trivial⟩,fun _=>trivial⟩,fun _=>trivial⟩,fun _=>trivial⟩,fun _=>trivial⟩,fun _=>trivial⟩,fun _=>?_⟩,fun h=>by rw [e4] at h;cases h⟩;rw [hag];have x1:r5.1=bt kV b.Strips:=by rw [hr5];exact Int.zero_add _
  have x2:r5.2.1=bt rz b.Strips:=by rw [hr5];exact Int.zero_add _
  have x3:r5.2.2.1=bt qi b.Strips:=by rw [hr5];exact Int.zero_add _
  have x4:r5.2.2.2.1=b:=by rw [hr5];rfl
  have x5:r5.2.2.2.2.1=au mb (aU (eY r b.Boxes)):=by rw [hr5];rfl
  have x6:r5.2.2.2.2.2.1=au gJ (aU (eY r b.Boxes)):=by rw [hr5];rfl
  have x7:r5.2.2.2.2.2.2.1=au mK (aU (eY r b.Boxes)):=by rw [hr5];rfl
  have x8:r5.2.2.2.2.2.2.2.1=au (mJ r.NoBall) (aU (eY r b.Boxes)):=by rw [hr5];rfl
  have x9:r5.2.2.2.2.2.2.2.2.1=au n5 (aU (eY r b.Boxes)):=by rw [hr5];rfl
  have x10:r5.2.2.2.2.2.2.2.2.2.1=au n6 (aU (eY r b.Boxes)):=by rw [hr5];rfl
  have x11:r5.2.2.2.2.2.2.2.2.2.2.1=au lD (aU (eY r b.Boxes)) - bt qj b.Strips:=by rw [hr5];rfl
  clear hr5;rw [x4] at hr6;rw [x1,x5] at hr7;rw [x4,x3] at hr8;rw [x4,x7] at hr9;rw [x4,x8] at hr10;rw [x4,x9] at hr11;rw [x4,x10] at hr12;rw [x2,x6,x4] at hr13;rw [x4,x6] at hr14;rw [x11];unfold Rw;generalize aU (eY r b.Boxes)=E at *;have y1:IntKind.i64.wrap (au gJ E - b.an.Wides)=au gJ E - b.an.Wides:=bE (by omega) (by omega);have y2:IntKind.i64.wrap (au gJ E - b.an.Wides - b.an.NoBalls)=au gJ E - b.an.Wides - b.an.NoBalls:=bE (by omega) (by omega);have y3:IntKind.i64.wrap (au gJ E+b.an.Byes)=au gJ E+b.an.Byes:=bE (by omega) (by omega);have y4:IntKind.i64.wrap (au gJ E+b.an.Byes+b.an.LegByes)=au gJ E+b.an.Byes+b.an.LegByes:=bE (by omega) (by omega);have y5:IntKind.i64.wrap (au gJ E+b.an.Byes+b.an.LegByes+b.an.Penalties)=au gJ E+b.an.Byes+b.an.LegByes+b.an.Penalties:=bE (by omega) (by omega);rw [y1,y2] at hr13;rw [y3,y4,y5] at hr14;congr 1;rw [hr6,hr7,hr8,hr9,hr10,hr11,hr12,hr13,hr14,Bool.eq_iff_iff];simp only [Bool.cond_false_right,Bool.and_eq_true,beq_iff_eq,true_and,Bool.true_and];constructor
  ·rintro ⟨q1,q2,q3,q4,q5,q6,q7,q8,q9,q10⟩
   exact ⟨by omega,by omega,q2,q3,q4,q5,q6,q7,q8,q9⟩
  ·rintro ⟨q1,q2,q3,q4,q5,q6,q7,q8,q9,q10⟩
   exact ⟨by omega,q3,q4,q5,q6,q7,q8,q9,q10,by omega⟩
def AF:FuncId×dR:=(34,ax KE Gz cO Qi)
theorem Im:aR Tryz.prog KE 34 (ax KE Gz cO Qi):=by
 refine bh (C:=aI [AG] Tryz.f34) (az (.aP Ip rfl .nil) _) mixed (fn:=Tryz.f34) Tryz.func34 (by kernel_rfl) (by kernel_rfl) (by kernel_rfl) (by kernel_rfl) (by kernel_rfl) (by kernel_rfl) (Λ:=fun x=>find [(Ve,VN),(Vg,VP)]) ?_ ?_
 ·rintro ⟨r,a,b,⟨⟩⟩ hw hn
  exact aL.at (by kernel_rfl) (.cons (by kernel_rfl) (XN) (.cons (by kernel_rfl) (XP) .nil))
 ·rintro ⟨r,a,b,⟨⟩⟩ hw hn
  exact GO r a b (hn _ List.mem_cons_self)
def Cp (s:ByteArray):ByteArray:=s.extract 0 (min 20 s.size)
def Lg (l:List ByteArray):List ByteArray:=(l.take 12).map Cp
abbrev qSl:bl:=cQ [.slice .str]
abbrev Th:bl:=⟨[(0,.c (.osl 0 1))],[(0,.row 1 .str)],2⟩
def YL:Den (bj qSl)->List Prop×Den (bj Th):=fun x=>([],(Lg x.1,()))
abbrev qCu:bl:=⟨[(3,.c (.osl 0 1)),(10,.h (.slice .str)),(11,.h I),(12,.h I)],[(0,.row 1 .str)],2⟩
abbrev xCu:List (Lf×bl):= [(.ext 0,⟨[(3,.c (.osl 0 1))],[(0,.row 1 .str)],2⟩)]
abbrev TCu:Type:=List ByteArray×Int×Int×List ByteArray×Unit
def qv:TCu->List ByteArray×Unit
 |(l,_,i,o,_)=>(o ++(l.drop i.toNat).map Cp,())
def zX:TCu->Prop
 |(l,n,i,o,_)=>(n =(l.length:Int)/\l.length<=12)/\(0<=i/\i<=n)/\(o.length:Int)<=i
def OW:TCu->Nat
 |(_,n,i,_)=>(n - i).toNat
def Cq (x:aa.aH):aa.aH:=⟨x.Over,x.Bowler,Lg x.Symbols⟩
def wb (x:aa.ak):aa.ak:=⟨x.Player,Lg x.Symbols,x.How,x.Bowler⟩
def HL (b:aa.ay):aa.ay:=⟨b.Side,(b.Boxes.take 8).map Cq,(b.Strips.take 8).map wb,b.an,b.Total,b.Wickets⟩
def YP:Den (bj yz)->List Prop×Den (bj yz):=fun x=>([],(HL x.1,()))
abbrev aaw:PB:= .cells [.c .any,.c .any,.c .any,.c .any,.c .any,.c .any,.c .any,.c .any,.c .any,.c .any]
abbrev aa1:List (Nat×PB):= [(0,.dat (.nm .ay)),(1,.row 2 (.nm .aH)),(3,aaw)]
abbrev qF0:bl:=⟨[(1,.c (.ptr 0 0)),(2,.c (.ptr 3 0)),(3,.c (.osl 1 2)),(15,.h Bxs),(16,.h I),(17,.h I)],aa1,4⟩
abbrev xF0:List (Lf×bl):= [(.ext 0,⟨[(1,.c (.ptr 0 0)),(2,.c (.ptr 3 0)),(3,.c (.osl 1 2))],aa1,4⟩)]
abbrev TF0:Type:=List aa.aH×Int×Int×aa.ay×List aa.aH×Unit
def qx:TF0->aa.ay×List aa.aH×Unit
 |(l,_,i,b,o,_)=>(b,o ++(l.drop i.toNat).map Cq,())
def Aa:TF0->Prop
 |(l,n,i,_,o,_)=>(n =(l.length:Int)/\l.length<=8)/\(0<=i/\i<=n)/\(o.length:Int)<=i
def OZ:TF0->Nat
 |(_,n,i,_)=>(n - i).toNat
abbrev aa2:List (Nat×PB):= [(0,.dat (.nm .ay)),(1,.row 2 (.nm .aH)),(3,.row 4 (.nm .ak)),(5,aaw)]
abbrev qF1:bl:=⟨[(1,.c (.ptr 0 0)),(2,.c (.ptr 5 0)),(3,.c (.osl 1 2)),(6,.c (.osl 3 4)),(36,.h Sts),(37,.h I),(38,.h I)],aa2,6⟩
abbrev xF1:List (Lf×bl):= [(.ext 2,⟨[(1,.c (.ptr 0 0)),(2,.c (.ptr 5 0)),(3,.c (.osl 1 2)),(6,.c (.osl 3 4))],aa2,6⟩)]
abbrev TF1:Type:=List aa.ak×Int×Int×aa.ay×List aa.aH×List aa.ak×Unit
def qy:TF1->aa.ay×List aa.aH×List aa.ak×Unit
 |(l,_,i,b,a,o,_)=>(b,a,o ++(l.drop i.toNat).map wb,())
def Ab:TF1->Prop
 |(l,n,i,_,_,o,_)=>(n =(l.length:Int)/\l.length<=8)/\(0<=i/\i<=n)/\(o.length:Int)<=i
def O0:TF1->Nat
 |(_,n,i,_)=>(n - i).toNat
noncomputable def LL:Lp:=(⟨0,aI [] Tryz.f25,(fun _=>none),(aC Tryz.f25 0),qCu,xCu⟩:Lp)
theorem Zb (l:List ByteArray) (n:Int) (i:Int) (o:List ByteArray) (hi:zX (l,n,i,o,())) :(Go.aa.stepG LL qv (fun y:Den (bj LL.q)=>zX y/\OW y<OW (l,n,i,o,())) (l,n,i,o,())/\Go.aa.bB LL qv (l,n,i,o,())=qv (l,n,i,o,())):=by
 refine cast (by kernel_rfl) (?_:let r1:Int:=if 20 <(↑(ByteArray.size (l.getD i.toNat (af Ty.str))):Int) then 20 else (↑(ByteArray.size (l.getD i.toNat (af Ty.str))):Int);let r2:List ByteArray:= [ByteArray.extract (l.getD i.toNat (af Ty.str)) (Int.toNat 0) r1.toNat];((decide (i<n)=true->(0<=i/\i <(↑l.length:Int))/\((0:Int)<=0/\0<=r1/\r1<=(↑(ByteArray.size (l.getD i.toNat (af Ty.str))):Int))/\(o.length+r2.length) *(16:Nat)<=(70368744177664:Nat)/\zX (l,n,IntKind.i64.wrap (i+1),o++r2,())/\OW (l,n,IntKind.i64.wrap (i+1),o++r2,())<OW (l,n,i,o,()))/\(decide (i<n)=false->True))/\(cond (decide (i<n)) (qv (l,n,IntKind.i64.wrap (i+1),o++r2,())) (o,()))=qv (l,n,i,o,()));intro r1 r2
 clear_value (hr1:r1=_) (hr2:r2=_)
 obtain ⟨⟨h1,h1b⟩,⟨h2,h3⟩,h4⟩:=hi;have h1:n =(l.length:Int):=h1;have h1b:l.length<=12:=h1b;have h2:0<=i:=h2;have h3:i<=n:=h3;have h4 :(o.length:Int)<=i:=h4;by_cases h:i<n
 ·have e1:IntKind.i64.wrap (i+1)=i+1:=a7 (by omega) (by omega);have hd:l.drop i.toNat=l.getD i.toNat (af (Ty.str))::l.drop (i+1).toNat:=aY h2 (by omega) _;generalize l.getD i.toNat (af (Ty.str))=x at *;have e1r:r1.toNat=min 20 (ByteArray.size x):=by rw [hr1];split <;> omega
  have eR:r2=[Cp x]:=by rw [hr2,e1r];rfl
  have hl:r2.length=1:=by rw [eR];rfl
  have hr:0<=r1/\r1<=(ByteArray.size x:Int):=by rw [hr1];split <;> omega
  have key:qv (l,n,i,o,())=qv (l,n,i+1,o++r2,()):=by show (o ++(l.drop i.toNat).map Cp,()) =((o++r2) ++(l.drop (i+1).toNat).map Cp,());rw [hd,eR,List.map_cons,List.append_assoc];rfl
  rw [decide_eq_true h,e1,key];refine ⟨⟨fun _=>⟨⟨h2,by omega⟩,⟨Int.le_refl _,hr⟩,by omega,⟨⟨h1,h1b⟩,⟨?_,?_⟩,?_⟩,?_⟩,fun z=>Bool.noConfusion z⟩,rfl⟩
  ·show 0<=i+1;omega
  ·show i+1<=n;omega
  ·show ((o++r2).length:Int)<=i+1;rw [List.length_append];omega
  ·show (n - (i+1)).toNat <(n - i).toNat;omega
 ·rw [decide_eq_false h];refine ⟨⟨fun z=>Bool.noConfusion z,fun _=>trivial⟩,?_⟩;show _ =(o ++(l.drop i.toNat).map Cp,());rw [aN (l:=l) (by omega),List.map_nil,List.append_nil];rfl
noncomputable def Vy:aw:=aq LL qv zX
noncomputable def UY:Nat:=fo (aC Tryz.f25 0)
theorem Xt:aJ Tryz.prog 0 Tryz.f25.ntmps (aC Tryz.f25 0) (aq LL qv zX):=
 aD LL (az (aZ.nil) _) mixed (fun b hb S hS=>by cases hS) qv zX OW (fun |⟨l,n,i,o,⟨⟩⟩,hi=>Zb l n i o hi)
theorem ME (l:List ByteArray) :(a8 (aI [] Tryz.f25) (find [(UY,Vy)]) Tryz.f25 qSl Th (l,())).sat fun z_=>z_ =(YL (l,())).2:=by
 refine cast (by kernel_rfl) (?_:let r1:Int:=if 12 <(↑l.length:Int) then 12 else (↑l.length:Int);let r2:List ByteArray:=List.drop (Int.toNat 0) (List.take r1.toNat l);let r3:Int:=(↑r2.length:Int);((0:Int)<=0/\0<=r1/\r1<=(↑l.length:Int))/\((cq fun x=>none)/\(r3 =(↑r2.length:Int)/\r2.length<=(12:Nat))/\((0:Int)<=0/\0<=r3)/\(↑(0:Nat):Int)<=0)/\([]++List.map Cp (List.drop (Int.toNat 0) r2),()) =(Lg l,()));intro r1 r2 r3
 clear_value (hr1:r1=_) (hr2:r2=_) (hr3:r3=_)
 have e1:0<=r1/\r1<=(l.length:Int)/\r1.toNat=min 12 l.length:=by rw [hr1];split <;> omega
 have e2:r2=l.take 12:=by rw [hr2,e1.2.2];show l.take (min 12 l.length)=_;rw [List.take_eq_take_iff];omega
 have hl:r2.length<=12:=by rw [e2,List.length_take];omega
 refine ⟨⟨Int.le_refl _,e1.1,e1.2.1⟩,⟨rfl,⟨hr3,hl⟩,⟨Int.le_refl _,by omega⟩,Int.le_refl _⟩,?_⟩;rw [e2];rfl
def vG:FuncId×dR:=(25,ax KE qSl Th YL)
theorem xw:aR Tryz.prog KE 25 (ax KE qSl Th YL):=by
 refine bh (C:=aI [] Tryz.f25) (az (aZ.nil) _) mixed (fn:=Tryz.f25) Tryz.func25 (by kernel_rfl) (by kernel_rfl) (by kernel_rfl) (by kernel_rfl) (by kernel_rfl) (by kernel_rfl) (Λ:=fun x=>find [(UY,Vy)]) ?_ ?_
 ·rintro ⟨l,⟨⟩⟩ hw hn
  exact aL.at (by kernel_rfl) (.cons (by kernel_rfl) (Xt) .nil)
 ·rintro ⟨l,⟨⟩⟩ hw hn
  exact ME l
noncomputable def LP:Lp:=(⟨0,aI [vG] Tryz.f7,(fun _=>none),(aC Tryz.f7 0),qF0,xF0⟩:Lp)
theorem Zf (l:List aa.aH) (n:Int) (i:Int) (b:aa.ay) (o:List aa.aH) (hi:Aa (l,n,i,b,o,())) :(Go.aa.stepG LP qx (fun y:Den (bj LP.q)=>Aa y/\OZ y<OZ (l,n,i,b,o,())) (l,n,i,b,o,())/\Go.aa.bB LP qx (l,n,i,b,o,())=qx (l,n,i,b,o,())):=by
 refine cast (by kernel_rfl) (?_:let r1:List aa.aH:= [aa.aH.mk (l.getD i.toNat (af (Ty.nm Nm.aH))).1 (l.getD i.toNat (af (Ty.nm Nm.aH))).2 (Lg (l.getD i.toNat (af (Ty.nm Nm.aH))).3)];((decide (i<n)=true->(0<=i/\i <(↑l.length:Int))/\(o.length+r1.length) *(40:Nat)<=(70368744177664:Nat)/\Aa (l,n,IntKind.i64.wrap (i+1),b,o++r1,())/\OZ (l,n,IntKind.i64.wrap (i+1),b,o++r1,())<OZ (l,n,i,b,o,()))/\(decide (i<n)=false->True))/\(cond (decide (i<n)) (qx (l,n,IntKind.i64.wrap (i+1),b,o++r1,())) (b,o,()))=qx (l,n,i,b,o,()));intro r1
 clear_value (hr1:r1=_)
 obtain ⟨⟨h1,h1b⟩,⟨h2,h3⟩,h4⟩:=hi;have h1:n =(l.length:Int):=h1;have h1b:l.length<=8:=h1b;have h2:0<=i:=h2;have h3:i<=n:=h3;have h4 :(o.length:Int)<=i:=h4;by_cases h:i<n
 ·have e1:IntKind.i64.wrap (i+1)=i+1:=a7 (by omega) (by omega);have hd:l.drop i.toNat=l.getD i.toNat (af (Ty.nm Nm.aH))::l.drop (i+1).toNat:=aY h2 (by omega) _;generalize l.getD i.toNat (af (Ty.nm Nm.aH))=x at *;have eR:r1=[Cq x]:=hr1;have hl:r1.length=1:=by rw [eR];rfl
  have key:qx (l,n,i,b,o,())=qx (l,n,i+1,b,o++r1,()):=by show (b,o ++(l.drop i.toNat).map Cq,()) =(b,(o++r1) ++(l.drop (i+1).toNat).map Cq,());rw [hd,eR,List.map_cons,List.append_assoc];rfl
  rw [decide_eq_true h,e1,key];refine ⟨⟨fun _=>⟨⟨h2,by omega⟩,by omega,⟨⟨h1,h1b⟩,⟨?_,?_⟩,?_⟩,?_⟩,fun z=>Bool.noConfusion z⟩,rfl⟩
  ·show 0<=i+1;omega
  ·show i+1<=n;omega
  ·show ((o++r1).length:Int)<=i+1;rw [List.length_append];omega
  ·show (n - (i+1)).toNat <(n - i).toNat;omega
 ·rw [decide_eq_false h];refine ⟨⟨fun z=>Bool.noConfusion z,fun _=>trivial⟩,?_⟩;show _ =(b,o ++(l.drop i.toNat).map Cq,());rw [aN (l:=l) (by omega),List.map_nil,List.append_nil];rfl
noncomputable def VB:aw:=aq LP qx Aa
noncomputable def U1:Nat:=fo (aC Tryz.f7 0)
theorem Xx:aJ Tryz.prog 0 Tryz.f7.ntmps (aC Tryz.f7 0) (aq LP qx Aa):=
 aD LP (az (.aP xw rfl .nil) _) mixed (fun b hb S hS=>by cases hS) qx Aa OZ (fun |⟨l,n,i,b,o,⟨⟩⟩,hi=>Zf l n i b o hi)
noncomputable def LQ:Lp:=(⟨0,aI [vG] Tryz.f7,(fun _=>none),(aC Tryz.f7 1),qF1,xF1⟩:Lp)
theorem Zg (l:List aa.ak) (n:Int) (i:Int) (b:aa.ay) (a:List aa.aH) (o:List aa.ak) (hi:Ab (l,n,i,b,a,o,())) :(Go.aa.stepG LQ qy (fun y:Den (bj LQ.q)=>Ab y/\O0 y<O0 (l,n,i,b,a,o,())) (l,n,i,b,a,o,())/\Go.aa.bB LQ qy (l,n,i,b,a,o,())=qy (l,n,i,b,a,o,())):=by
 refine cast (by kernel_rfl) (?_:let r1:List aa.ak:= [aa.ak.mk (l.getD i.toNat (af (Ty.nm Nm.ak))).1 (Lg (l.getD i.toNat (af (Ty.nm Nm.ak))).2) (l.getD i.toNat (af (Ty.nm Nm.ak))).3 (l.getD i.toNat (af (Ty.nm Nm.ak))).4];((decide (i<n)=true->(0<=i/\i <(↑l.length:Int))/\(o.length+r1.length) *(48:Nat)<=(70368744177664:Nat)/\Ab (l,n,IntKind.i64.wrap (i+1),b,a,o++r1,())/\O0 (l,n,IntKind.i64.wrap (i+1),b,a,o++r1,())<O0 (l,n,i,b,a,o,()))/\(decide (i<n)=false->True))/\(cond (decide (i<n)) (qy (l,n,IntKind.i64.wrap (i+1),b,a,o++r1,())) (b,a,o,()))=qy (l,n,i,b,a,o,()));intro r1
 clear_value (hr1:r1=_)
 obtain ⟨⟨h1,h1b⟩,⟨h2,h3⟩,h4⟩:=hi;have h1:n =(l.length:Int):=h1;have h1b:l.length<=8:=h1b;have h2:0<=i:=h2;have h3:i<=n:=h3;have h4 :(o.length:Int)<=i:=h4;by_cases h:i<n
 ·have e1:IntKind.i64.wrap (i+1)=i+1:=a7 (by omega) (by omega);have hd:l.drop i.toNat=l.getD i.toNat (af (Ty.nm Nm.ak))::l.drop (i+1).toNat:=aY h2 (by omega) _;generalize l.getD i.toNat (af (Ty.nm Nm.ak))=x at *;have eR:r1=[wb x]:=hr1;have hl:r1.length=1:=by rw [eR];rfl
  have key:qy (l,n,i,b,a,o,())=qy (l,n,i+1,b,a,o++r1,()):=by show (b,a,o ++(l.drop i.toNat).map wb,()) =(b,a,(o++r1) ++(l.drop (i+1).toNat).map wb,());rw [hd,eR,List.map_cons,List.append_assoc];rfl
  rw [decide_eq_true h,e1,key];refine ⟨⟨fun _=>⟨⟨h2,by omega⟩,by omega,⟨⟨h1,h1b⟩,⟨?_,?_⟩,?_⟩,?_⟩,fun z=>Bool.noConfusion z⟩,rfl⟩
  ·show 0<=i+1;omega
  ·show i+1<=n;omega
  ·show ((o++r1).length:Int)<=i+1;rw [List.length_append];omega
  ·show (n - (i+1)).toNat <(n - i).toNat;omega
 ·rw [decide_eq_false h];refine ⟨⟨fun z=>Bool.noConfusion z,fun _=>trivial⟩,?_⟩;show _ =(b,a,o ++(l.drop i.toNat).map wb,());rw [aN (l:=l) (by omega),List.map_nil,List.append_nil];rfl
noncomputable def VC:aw:=aq LQ qy Ab
noncomputable def U2:Nat:=fo (aC Tryz.f7 1)
theorem Xy:aJ Tryz.prog 0 Tryz.f7.ntmps (aC Tryz.f7 1) (aq LQ qy Ab):=
 aD LQ (az (.aP xw rfl .nil) _) mixed (fun b hb S hS=>by cases hS) qy Ab O0 (fun |⟨l,n,i,b,a,o,⟨⟩⟩,hi=>Zg l n i b a o hi)
theorem MD (b:aa.ay) :(a8 (aI [vG] Tryz.f7) (find [(U1,VB),(U2,VC)]) Tryz.f7 yz yz (b,())).sat fun z_=>z_ =(YP (b,())).2:=by
 refine cast (by kernel_rfl) (?_:let r1:Int:=if 8 <(↑b.2.length:Int) then 8 else (↑b.2.length:Int);let r2:Int:=if 8 <(↑b.3.length:Int) then 8 else (↑b.3.length:Int);let r3:List aa.aH:=List.drop (Int.toNat 0) (List.take r1.toNat b.2);let r4:List aa.ak:=List.drop (Int.toNat 0) (List.take r2.toNat b.3);let r5:Int:=(↑r3.length:Int);let r6:Int:=(↑r4.length:Int);((0:Int)<=0/\0<=r1/\r1<=(↑b.2.length:Int))/\((cq fun x=>none)/\(r5 =(↑r3.length:Int)/\r3.length<=(8:Nat))/\((0:Int)<=0/\0<=r5)/\(↑(0:Nat):Int)<=0)/\((0:Int)<=0/\0<=r2/\r2<=(↑b.3.length:Int))/\((cq fun x=>none)/\(r6 =(↑r4.length:Int)/\r4.length<=(8:Nat))/\((0:Int)<=0/\0<=r6)/\(↑(0:Nat):Int)<=0)/\(aa.ay.mk b.1 ([]++List.map Cq (List.drop (Int.toNat 0) r3)) ([]++List.map wb (List.drop (Int.toNat 0) r4)) b.4 b.5 b.6,()) =(HL b,()));intro r1 r2 r3 r4 r5 r6
 clear_value (hr1:r1=_) (hr2:r2=_) (hr3:r3=_) (hr4:r4=_) (hr5:r5=_) (hr6:r6=_)
 have e1:0<=r1/\r1<=(b.Boxes.length:Int)/\r1.toNat=min 8 b.Boxes.length:=by rw [hr1];split <;> omega
 have e2:0<=r2/\r2<=(b.Strips.length:Int)/\r2.toNat=min 8 b.Strips.length:=by rw [hr2];split <;> omega
 have e3:r3=b.Boxes.take 8:=by rw [hr3,e1.2.2];show b.Boxes.take (min 8 b.Boxes.length)=_;rw [List.take_eq_take_iff];omega
 have e4:r4=b.Strips.take 8:=by rw [hr4,e2.2.2];show b.Strips.take (min 8 b.Strips.length)=_;rw [List.take_eq_take_iff];omega
 have l3:r3.length<=8:=by rw [e3,List.length_take];omega
 have l4:r4.length<=8:=by rw [e4,List.length_take];omega
 refine ⟨⟨Int.le_refl _,e1.1,e1.2.1⟩,⟨rfl,⟨hr5,l3⟩,⟨Int.le_refl _,by omega⟩,Int.le_refl _⟩,⟨Int.le_refl _,e2.1,e2.2.1⟩,⟨rfl,⟨hr6,l4⟩,⟨Int.le_refl _,by omega⟩,Int.le_refl _⟩,?_⟩;rw [e3,e4];rfl
def JQ:FuncId×dR:=(7,ax KE yz yz YP)
theorem Pt:aR Tryz.prog KE 7 (ax KE yz yz YP):=by
 refine bh (C:=aI [vG] Tryz.f7) (az (.aP xw rfl .nil) _) mixed (fn:=Tryz.f7) Tryz.func7 (by kernel_rfl) (by kernel_rfl) (by kernel_rfl) (by kernel_rfl) (by kernel_rfl) (by kernel_rfl) (Λ:=fun x=>find [(U1,VB),(U2,VC)]) ?_ ?_
 ·rintro ⟨b,⟨⟩⟩ hw hn
  exact aL.at (by kernel_rfl) (.cons (by kernel_rfl) (Xx) (.cons (by kernel_rfl) (Xy) .nil))
 ·rintro ⟨b,⟨⟩⟩ hw hn
  exact MD b
theorem aaS (b:aa.ay) :(HL b).Boxes.length<=8/\∀ x∈(HL b).Boxes,x.Symbols.length<=12:=by
 refine ⟨?_,fun x hx=>?_⟩
 ·show ((b.Boxes.take 8).map Cq).length<=8;rw [List.length_map,List.length_take];omega
 ·obtain ⟨y,_,rfl⟩:=List.mem_map.1 hx;show ((y.Symbols.take 12).map Cp).length<=12;rw [List.length_map,List.length_take];omega
theorem aaT (b:aa.ay) :(HL b).Strips.length<=8/\∀ x∈(HL b).Strips,x.Symbols.length<=12:=by
 refine ⟨?_,fun x hx=>?_⟩
 ·show ((b.Strips.take 8).map wb).length<=8;rw [List.length_map,List.length_take];omega
 ·obtain ⟨y,_,rfl⟩:=List.mem_map.1 hx;show ((y.Symbols.take 12).map Cp).length<=12;rw [List.length_map,List.length_take];omega
end
end Go.Proofs.YtjcbhomccohklaaGreatDoor
namespace Go.aa
section
open Go.RowKit
inductive Rn (γ:Type) where
 | ok (r:γ)
 | no (w:List Nat)
inductive Hc (α:Type) where
 | lf
 | nd (l:Hc α) (v:Option α) (r:Hc α)
def Hc.get {α:Type} (t:Hc α):Nat->Option α:=
 match t with
 | .lf=>fun _=>none
 | .nd l v r=>fun k=>Nat.casesOn (motive:=fun _=>Option α) k v fun k=>Bool.casesOn (motive:=fun _=>Option α) (Nat.beq (Nat.mod k 2) 0) (r.get (Nat.div k 2)) (l.get (Nat.div k 2))
def Hc.n8 {α γ:Type} (κ:Hc α->Rn γ) (w:Option α) (r l:Hc α):Rn γ:=κ (.nd l w r)
def IntKind.qP (a b:IntKind):Bool:=decide (a=b)
mutual
def V.qP:V->V->Bool
 | .any,.any=>true
 | .int k n,.int k' n'=>decide (k=k')&&decide (n=n')
 | .bool a,.bool b=>decide (a=b)
 | .kb a,.kb b=>decide (a=b)
 | .str s,.str t=>decide (s.data.toList=t.data.toList)
 | .nilptr,.nilptr=>true
 | .ptr h o,.ptr h' o'=>Nat.beq h h'&&Nat.beq o o'
 | .nilsl,.nilsl=>true
 | .esl,.esl=>true
 | .gsl h v e o l,.gsl h' v' e' o' l'=>Nat.beq h h'&&Nat.beq v v'&&Nat.beq e e'&&Nat.beq o o'&&Nat.beq l l'
 | .gp h v o,.gp h' v' o'=>Nat.beq h h'&&Nat.beq v v'&&Nat.beq o o'
 | .mpv h,.mpv h'=>Nat.beq h h'
 | .nilfn,.nilfn=>true
 | .nilmap,.nilmap=>true
 | .fn f cs,.fn f' cs'=>Nat.beq f f'&&ER cs cs'
 | .agg cs,.agg cs'=>ER cs cs'
 | .tup cs,.tup cs'=>ER cs cs'
 | _,_=>false
def ER:List V->List V->Bool
 | [],[]=>true
 | x::xs,y::ys=>V.qP x y&&ER xs ys
 | _,_=>false
end
mutual
theorem V.wi :∀ (x y:V),V.qP x y=true->x=y
 | .any,y,h=>by cases y <;> simp_all [V.qP]
 | .int k n,y,h=>by cases y <;> simp_all [V.qP]
 | .bool _,y,h=>by cases y <;> simp_all [V.qP]
 | .kb _,y,h=>by cases y <;> simp_all [V.qP]
 | .hint _ _,y,h=>by cases y <;> simp [V.qP] at h
 | .str s,y,h=>by
  cases y <;> simp only [V.qP,Bool.false_eq_true,decide_eq_true_eq] at h;rename_i t
  have:s=t:=ByteArray.ext (Array.toList_inj.1 h)
  rw [this]
 | .nilptr,y,h=>by cases y <;> simp_all [V.qP]
 | .ptr _ _,y,h=>by cases y <;> simp_all [V.qP]
 | .fp _ _ _ _,y,h=>by cases y <;> simp [V.qP] at h
 | .rp _ _ _ _,y,h=>by cases y <;> simp [V.qP] at h
 | .nilsl,y,h=>by cases y <;> simp_all [V.qP]
 | .esl,y,h=>by cases y <;> simp_all [V.qP]
 | .osl _ _,y,h=>by cases y <;> simp [V.qP] at h
 | .fsl _ _,y,h=>by cases y <;> simp [V.qP] at h
 | .gsl _ _ _ _ _,y,h=>by cases y <;> simp_all [V.qP]
 | .gp _ _ _,y,h=>by cases y <;> simp_all [V.qP]
 | .mpv _,y,h=>by cases y <;> simp_all [V.qP]
 | .av _ _,y,h=>by cases y <;> simp [V.qP] at h
 | .nilfn,y,h=>by cases y <;> simp_all [V.qP]
 | .nilmap,y,h=>by cases y <;> simp_all [V.qP]
 | .fn f cs,y,h=>by cases y <;> simp only [V.qP,Bool.false_eq_true,Bool.and_eq_true,Nat.beq_eq] at h;rw [h.1,vy _ _ h.2]
 | .agg cs,y,h=>by cases y <;> simp only [V.qP,Bool.false_eq_true] at h;rw [vy _ _ h]
 | .tup cs,y,h=>by cases y <;> simp only [V.qP,Bool.false_eq_true] at h;rw [vy _ _ h]
theorem vy :∀ (xs ys:List V),ER xs ys=true->xs=ys
 | [],[],_=>rfl
 | [],_::_,h=>by simp [ER] at h
 | _::_,[],h=>by simp [ER] at h
 | x::xs,y::ys,h=>by simp only [ER,Bool.and_eq_true] at h;rw [V.wi _ _ h.1,vy _ _ h.2]
end
def Ls:List (V×V)->List (V×V)->Bool
 | [],[]=>true
 |(a,b)::xs,(c,d)::ys=>V.qP a c&&V.qP b d&&Ls xs ys
 | _,_=>false
theorem Ju :∀ (xs ys:List (V×V)),Ls xs ys=true->xs=ys
 | [],[],_=>rfl
 | [],_::_,h=>by simp [Ls] at h
 | _::_,[],h=>by simp [Ls] at h
 |(a,b)::xs,(c,d)::ys,h=>by simp only [Ls,Bool.and_eq_true] at h;rw [V.wi _ _ h.1.1,V.wi _ _ h.1.2,Ju _ _ h.2]
end
section
open Go.RowKit
variable {P:Program}
def Ob.B7:Ob->Bool
 | .rng n len=>decide (0<=n)&&decide (n <(len:Int))
 | .sub l h len=>decide (0<=l)&&decide (l<=h)&&decide (h<=(len:Int))
 | .mk n c=>decide (0<=n)&&decide (c=n)&&decide (n<=17179869184)
 | .mkc n c=>decide (0<=n)&&decide (n<=c)&&decide (c<=17179869184)
 | .ne0 n=>!decide (n=0)
 | .leN a b=>Nat.ble a b
 | .prop _=>false
theorem Ob.s9 :∀ {p:Ob},p.B7=true->p.holds
 | .rng n len,h=>by simpa [Ob.B7,Ob.holds] using h
 | .sub l h len,hh=>by simp only [Ob.B7,Bool.and_eq_true,decide_eq_true_eq] at hh;exact ⟨hh.1.1,hh.1.2,hh.2⟩
 | .mk n c,h=>by simp only [Ob.B7,Bool.and_eq_true,decide_eq_true_eq] at h;exact ⟨h.1.1,h.1.2,h.2⟩
 | .mkc n c,h=>by simp only [Ob.B7,Bool.and_eq_true,decide_eq_true_eq] at h;exact ⟨h.1.1,h.1.2,h.2⟩
 | .ne0 n,h=>by simpa [Ob.B7,Ob.holds] using h
 | .leN a b,h=>Nat.le_of_ble_eq_true h
def oa:V->V
 | .bool b=> .kb b
 | v=>v
structure RS where
 tm:Hc V
 hp:Hc bd
 nx:Nat
abbrev M3:=FuncId->List V->Hc bd->Nat->Rn (V×Hc bd×Nat)
def pa (r:Res):Option (List Ob×V×List (Nat×bd)):=match r with
 | .val ps v dh=>some (ps,v,dh)
 | _=>none
abbrev R1:=Option (List Ob×V×List (Nat×bd))
def IM (tb:bG) (H:a6) (ev:Operand->V) (t:TypeId) (a x:Operand):R1:=match tb t with
 | some td=>match eJ td H (ev a) (ev x) with
  | .skip ps dh=>some (ps,.tup [],dh)
  | _=>none
 | none=>none
def Bv (ev:Operand->V) (x:Operand):R1:=some ([],ev x,[])
def UU (ev:Operand->V) (c a b:Operand):R1:=pa (tv (ev c) (ev a) (ev b))
def IH (tb:bG) (m:Nat) (t:TypeId):R1:=match tb t with|some td=>some ([],.ptr m 0,[(m,.cells td.zero)])|none=>none
def Yq (m:Nat) (ev:Operand->V) (x:Operand):R1:=match cellsOf (ev x) with|some cs=>some ([],.ptr m 0,[(m,.cells cs)])|none=>none
def II (tb:bG) (ev:Operand->V) (t:TypeId) (parts:Array (Nat×Operand)):R1:=match tb t with|some td=>pa (pE tb td (parts.toList.map fun p=>(p.1,ev p.2)))|none=>none
def o9 (tb:bG) (m:Nat) (H:a6) (ev:Operand->V) (t:TypeId) (n:Nat) (parts:Array (Nat×Operand)):R1:=match tb t with|some td=>pa (eM tb td H m n (parts.toList.map fun p=>(p.1,ev p.2)))|none=>none
def PQ (tb:bG) (H:a6) (ev:Operand->V) (t:TypeId) (a:Operand):R1:=match tb t with|some td=>pa (gY td H (ev a))|none=>none
def abw (ev:Operand->V) (x:Operand):R1:=pa (EV (ev x))
def Yp (tb:bG) (ev:Operand->V) (op:BinOp) (t:TypeId) (x y:Operand):R1:=match tb t with|some td=>pa (im td op (ev x) (ev y))|none=>none
def rUn (ev:Operand->V) (op:UnOp) (x:Operand):R1:=pa (NT op (ev x))
def PN (tb:bG) (m:Nat) (ev:Operand->V) (s d:TypeId) (x:Operand):R1:=match tb s,tb d with|some ts,some td=>pa (vA tb ts td m (ev x))|_,_=>none
def c8:List V->Bool
 | []=>true
 | .ptr _ _::_=>true
 | _=>false
theorem Iz {asz caps:List V} (h:c8 caps=true):tC asz caps=some (asz++caps):=by
 cases caps with
 | nil=>simp [tC]
 | cons c cs=>cases c <;> simp only [c8,Bool.false_eq_true] at h;rfl
theorem IA {f:FuncId} {caps:List V} (h:c8 caps=true):tu f [] caps = .val [] (.fn f caps) []:=by
 cases caps with
 | nil=>rfl
 | cons c cs=>cases c <;> simp only [c8,Bool.false_eq_true] at h;rfl
theorem PE {E:Env} {f:FuncId} {caps:List V} {l:Array Value} (h:c8 caps=true) (hl:ai E caps l.toList):fnV f l = .func (.func f) #[] l:=by
 obtain ⟨l⟩:=l
 cases caps with
 | nil=>cases l with
  | nil=>rfl
  | cons=>simp [ai] at hl
 | cons c cs=>
  cases c <;> simp only [c8,Bool.false_eq_true] at h
  cases l with
  | nil=>simp [ai] at hl
  | cons v vs=>simp only [ai,ae] at hl;obtain ⟨⟨_,⟨a,rfl⟩,_⟩,_⟩:=hl;rfl
def PO (ev:Operand->V) (fn:Fn) (first caps:Array Operand):R1:=match fn with
 | .func f=>pa (tu f (first.toList.map ev) (caps.toList.map ev))
 | _=>none
def PR (tb:bG) (m:Nat) (H:a6) (ev:Operand->V) (t:TypeId) (l c:Operand):R1:=match tb t with|some td=>pa (jJ tb td H m (ev l) (ev c))|none=>none
def IL (tb:bG) (H:a6) (ev:Operand->V) (t:TypeId) (x:Operand) (lo hi mx:Option Operand):R1:=match tb t with|some td=>pa (gZ tb td H (ev x) (lo.map ev) (hi.map ev) (mx.map ev))|none=>none
def IJ (tb:bG) (ev:Operand->V) (t:TypeId) (x:Operand) (f:Nat):R1:=match tb t with|some td=>pa (ma tb td (ev x) f)|none=>none
def Dt (tb:bG) (ev:Operand->V) (t:TypeId) (x:Operand) (f:Nat):R1:=match tb t with|some td=>pa (jY tb td (ev x) f)|none=>none
def IK (tb:bG) (H:a6) (ev:Operand->V) (t:TypeId) (x i:Operand):R1:=match tb t with|some td=>pa (fw tb td H (ev x) (ev i))|none=>none
def PP (tb:bG) (ev:Operand->V) (t:TypeId) (x i:Operand):R1:=match tb t with|some td=>pa (oy tb td (ev x) (ev i))|none=>none
def GA (ev:Operand->V) (t:Operand) (i:Nat):R1:=pa (pF (ev t) i)
theorem MG {td:TD} {H:a6} {a x:V} {ps:List Ob} {dh:List (Nat×bd)} (h:eJ td H a x = .skip ps dh):hJ td H a x = .skip ps dh:=by
 unfold hJ;split
 ·rw [h]
 ·exact h
def wq (tb:bG) (N m:Nat) (H:a6) (ev:Operand->V) (op:Op):R1:=match op with
 | .store t a x=>IM tb H ev t a x
 | .move x=>Bv ev x
 | .assign x=>Bv ev x
 | .pick c a b=>UU ev c a b
 | .alloc t=>IH tb m t
 | .box _ x=>Yq m ev x
 | .build t parts=>II tb ev t parts
 | .buildSlice t n parts=>o9 tb m H ev t n parts
 | .load t a=>PQ tb H ev t a
 | .nilCheck x=>abw ev x
 | .binOp op t x y _=>Yp tb ev op t x y
 | .unOp op _ x=>rUn ev op x
 | .convert s d x=>PN tb m ev s d x
 | .makeFunc fn first caps=>PO ev fn first caps
 | .makeSlice t l c=>PR tb m H ev t l c
 | .slice t x lo hi mx=>IL tb H ev t x lo hi mx
 | .fieldAddr t x f=>IJ tb ev t x f
 | .field t x f=>Dt tb ev t x f
 | .indexAddr t x i=>IK tb H ev t x i
 | .index t x i=>PP tb ev t x i
 | .extract t i=>GA ev t i
 | op=>bn ⟨tb,fun _=>none,1,N⟩ m H ev op
theorem tq (tb:bG) (N m:Nat) (H:a6) (ev:Operand->V) (op:Op) {q:List Ob×V×List (Nat×bd)} (h:wq tb N m H ev op=some q):bn ⟨tb,fun _=>none,1,N⟩ m H ev op=some q:=by
 have key :∀ {r:Res},pa r=some q->(match r with | .val ps v dh=>some (ps,v,dh)|_=>none:R1)=some q:=fun {r} h=>by cases r <;> first|exact h|cases h
 cases op <;> simp only [wq] at h <;> simp only [bn,du,c7]
 case store t a x=>simp only [IM] at h;cases ht:tb t <;> rw [ht] at h <;> simp only [reduceCtorEq] at h ⊢;cases hs:eJ _ H (ev a) (ev x) <;> rw [hs] at h <;> simp only [reduceCtorEq] at h ⊢;rw [MG hs];exact h
 case move=>simpa [Bv] using h
 case assign=>simpa [Bv] using h
 case pick=>exact key h
 case alloc t=>simp only [IH] at h;cases ht:tb t <;> rw [ht] at h <;> simp only [reduceCtorEq] at h ⊢;exact h
 case box t x=>simp only [Yq] at h;cases ht:cellsOf (ev x) <;> rw [ht] at h <;> simp only [reduceCtorEq] at h ⊢;exact h
 case build t parts=>simp only [II] at h;cases ht:tb t <;> rw [ht] at h <;> simp only [reduceCtorEq] at h ⊢;exact key h
 case buildSlice t n parts=>simp only [o9] at h;cases ht:tb t <;> rw [ht] at h <;> simp only [reduceCtorEq] at h ⊢;exact key h
 case load t a=>simp only [PQ] at h;cases ht:tb t <;> rw [ht] at h <;> simp only [reduceCtorEq] at h ⊢;exact key h
 case nilCheck=>exact key h
 case binOp o t x y t2=>simp only [Yp] at h;cases ht:tb t <;> rw [ht] at h <;> simp only [reduceCtorEq] at h ⊢;exact key h
 case unOp=>exact key h
 case convert s d x=>
  simp only [PN] at h
  cases ht:tb s with
  | none=>rw [ht] at h;cases h
  | some ts=>
   rw [ht] at h
   cases ht2:tb d with
   | none=>rw [ht2] at h;cases h
   | some td=>rw [ht2] at h;exact key h
 case makeFunc fn first caps=>
  cases fn <;> simp only [PO,reduceCtorEq] at h;exact key h
 case makeSlice t l c=>simp only [PR] at h;cases ht:tb t <;> rw [ht] at h <;> simp only [reduceCtorEq] at h ⊢;exact key h
 case slice t x lo hi mx=>simp only [IL] at h;cases ht:tb t <;> rw [ht] at h <;> simp only [reduceCtorEq] at h ⊢;exact key h
 case fieldAddr t x f=>simp only [IJ] at h;cases ht:tb t <;> rw [ht] at h <;> simp only [reduceCtorEq] at h ⊢;exact key h
 case field t x f=>simp only [Dt] at h;cases ht:tb t <;> rw [ht] at h <;> simp only [reduceCtorEq] at h ⊢;exact key h
 case indexAddr t x i=>simp only [IK] at h;cases ht:tb t <;> rw [ht] at h <;> simp only [reduceCtorEq] at h ⊢;exact key h
 case index t x i=>simp only [PP] at h;cases ht:tb t <;> rw [ht] at h <;> simp only [reduceCtorEq] at h ⊢;exact key h
 case extract=>exact key h
 all_goals (simp only [bn,du,c7] at h;exact h)
inductive Act1 where
 | plain (r:R1)
 | call (g:FuncId) (args:List V)
def Ny (tb:bG) (N m:Nat) (H:a6) (ev:Operand->V) (c:Call):Act1:=match c.callee with
 | .value f=>match ev f with
  | .fn g caps=>bif c8 caps then .call g (c.args.toList.map ev++caps) else .plain none
  | _=> .plain none
 | _=> .plain (bn ⟨tb,fun _=>none,1,N⟩ m H ev (.call c))
def evA (tb:bG) (N m:Nat) (H:a6) (ev:Operand->V) (op:Op):Act1:=match op with
 | .call c=>Ny tb N m H ev c
 | .store t a x=> .plain (IM tb H ev t a x)
 | .move x=> .plain (Bv ev x)
 | .assign x=> .plain (Bv ev x)
 | .pick c a b=> .plain (UU ev c a b)
 | .alloc t=> .plain (IH tb m t)
 | .box _ x=> .plain (Yq m ev x)
 | .build t parts=> .plain (II tb ev t parts)
 | .buildSlice t n parts=> .plain (o9 tb m H ev t n parts)
 | .load t a=> .plain (PQ tb H ev t a)
 | .nilCheck x=> .plain (abw ev x)
 | .binOp op t x y _=> .plain (Yp tb ev op t x y)
 | .unOp op _ x=> .plain (rUn ev op x)
 | .convert s d x=> .plain (PN tb m ev s d x)
 | .makeFunc fn first caps=> .plain (PO ev fn first caps)
 | .makeSlice t l c=> .plain (PR tb m H ev t l c)
 | .slice t x lo hi mx=> .plain (IL tb H ev t x lo hi mx)
 | .fieldAddr t x f=> .plain (IJ tb ev t x f)
 | .field t x f=> .plain (Dt tb ev t x f)
 | .indexAddr t x i=> .plain (IK tb H ev t x i)
 | .index t x i=> .plain (PP tb ev t x i)
 | .extract t i=> .plain (GA ev t i)
 | op=> .plain (bn ⟨tb,fun _=>none,1,N⟩ m H ev op)
theorem Lu (tb:bG) (N m:Nat) (H:a6) (ev:Operand->V) (op:Op) {q:List Ob×V×List (Nat×bd)} (h:evA tb N m H ev op = .plain (some q)):bn ⟨tb,fun _=>none,1,N⟩ m H ev op=some q:=by
 cases op
 case call c=>
  simp only [evA,Ny] at h;split at h
  ·split at h
   ·rename_i caps _
    cases hb:c8 caps with
    | true=>rw [hb] at h;cases h
    | false=>rw [hb] at h;cases h
   ·cases h
  ·exact Act1.plain.inj h
 all_goals (exact tq tb N m H ev _ (Act1.plain.inj h))
theorem NS (tb:bG) (N m:Nat) (H:a6) (ev:Operand->V) (op:Op) {g:FuncId} {args:List V} (h:evA tb N m H ev op = .call g args) :∃ c f caps,op = .call c/\c.callee = .value f/\ev f = .fn g caps/\args=c.args.toList.map ev++caps/\c8 caps=true:=by
 cases op
 case call c=>
  simp only [evA,Ny] at h;split at h
  ·rename_i f hf;split at h
   ·rename_i g' caps he
    cases hb:c8 caps with
    | false=>rw [hb] at h;cases h
    | true=>rw [hb] at h;cases h;exact ⟨c,f,caps,rfl,hf,he,rfl,hb⟩
   ·cases h
  ·cases h
 all_goals (cases h)
def UO (ps:List Ob):Bool:=List.casesOn (motive:=fun _=>Bool) ps true fun _ _=>ps.all Ob.B7
def NL (N:Nat) (ops:List Oper):Bool:=ops.all fun o=>dW N o.dst
end
section
open Go.RowKit
variable {P:Program}
inductive uw (C:Cfg) (alt:Option (Nat×(bd->Bool))) (all:List Oper) (tm:List (Nat×V)) (H:a6) (m:Nat) (o:Oper):Rec->Prop
 | old {r:Rec}:yA C true all tm H m o r->uw C alt all tm H m o r
 | dir {ps:List Ob} {v v':V} {dh:List (Nat×bd)} {R:List Nat}:dW C.N o.dst=true->hO all tm o=some true->bn C m H (bV (aV all o) tm) o.op=some (ps,v,dh)->
   (∀ H2:a6,(∀ h∈R,H2 h=H h)->(∀ h0 okB,alt=some (h0,okB)->H2 h0=H h0\/∃ b,H2 h0=some b/\okB b=true)->bn C m H2 (bV (aV all o) tm) o.op=bn C m H (bV (aV all o) tm) o.op)->(∀ p∈ps,p.holds)->
   (v'=v\/∃ b,v = .bool b/\v' = .kb b)->uw C alt all tm H m o ⟨o.dst,v',dh,R,aV all o⟩
theorem uw.dW {C:Cfg} {alt:Option (Nat×(bd->Bool))} {all:List Oper} {tm:List (Nat×V)} {H:a6} {m:Nat} {o:Oper} {r:Rec} (h:uw C alt all tm H m o r):dW C.N o.dst=true/\r.dst=o.dst/\r.rs=aV all o:=by
 cases h with
 | old h=>exact h.dW
 | dir h _ _ _ _ _=>exact ⟨h,rfl,rfl⟩
inductive RunV (Cf:Nat->Cfg) (lo:Nat->Nat) (al:Nat->Option (Nat×(bd->Bool))) (all:List Oper) (st:St):Nat->List Oper->Dl->List Rec->Dl->List Rec->Prop
 | nil {i:Nat} {d:Dl} {recs:List Rec}:RunV Cf lo al all st i [] d recs d recs
 | cons {i:Nat} {o:Oper} {rest:List Oper} {d:Dl} {recs:List Rec} {r:Rec} {df:Dl} {rf:List Rec}:uw (Cf i) (al i) all (d.tm++st.tm) (aQ st.H d.hp) (lo i) o r->
   RunV Cf lo al all st (i+1) rest ⟨dw r.dst r.v++d.tm,r.dh++d.hp⟩ (recs++[r]) df rf->RunV Cf lo al all st i (o::rest) d recs df rf
theorem Bz {Cf:Nat->Cfg} {lo:Nat->Nat} {al:Nat->Option (Nat×(bd->Bool))} {all:List Oper} {st:St} :∀ (rest:List Oper) (i:Nat) (d:Dl) (recs:List Rec) (df:Dl) (rf:List Rec),RunV Cf lo al all st i rest d recs df rf->recs.length=i->
  find (d.tm++st.tm) =(recs.map gm).foldl fb (find st.tm)->aQ st.H d.hp =(recs.map Rec.dh).foldl fb st.H->
  (∃ more,rf=recs++more/\more.length=rest.length)/\find (df.tm++st.tm) =(rf.map gm).foldl fb (find st.tm)/\aQ st.H df.hp =(rf.map Rec.dh).foldl fb st.H/\
  ∀ j o,rest[j]?=some o->∃ r tm H,rf[i+j]?=some r/\uw (Cf (i+j)) (al (i+j)) all tm H (lo (i+j)) o r/\find tm =((rf.take (i+j)).map gm).foldl fb (find st.tm)/\H =((rf.take (i+j)).map Rec.dh).foldl fb st.H
 | [],i,d,recs,df,rf,hr,hl,h1,h2=>by cases hr;exact ⟨⟨[],by simp,rfl⟩,h1,h2,fun j o h=>by simp at h⟩
 | o::rest,i,d,recs,df,rf,hr,hl,h1,h2=>by
  cases hr with
  | @cons _ _ _ _ _ r _ _ hdo hrun=>
   obtain ⟨⟨more,e1,e2⟩,g1,g2,g3⟩:=Bz rest (i+1) _ _ _ _ hrun (by simp [hl])
    (by rw [List.append_assoc,zM,h1];simp [gm]) (by rw [cY,h2];simp [pK])
   refine ⟨⟨r::more,by rw [e1];simp,by simp [e2]⟩,g1,g2,fun j o' hj=>?_⟩
   cases j with
   | zero=>
    simp only [List.getElem?_cons_zero,Option.some.injEq] at hj;subst hj;have et:rf.take i=recs:=by rw [e1,List.append_assoc,List.take_append_of_le_length (by omega),List.take_of_length_le (by omega)]
    refine ⟨r,_,_,?_,hdo,?_,?_⟩
    ·rw [e1,Nat.add_zero,List.append_assoc,List.getElem?_append_right (by omega)];simp [hl]
    ·rw [Nat.add_zero,et];exact h1
    ·rw [Nat.add_zero,et];exact h2
   | succ j=>obtain ⟨r',tm,H,k1,k2,k3,k4⟩:=g3 j o' (by simpa using hj);rw [show i+1+j=i +(j+1) by omega] at k1 k2 k3 k4;exact ⟨r',tm,H,k1,k2,k3,k4⟩
structure InvV (Cf:Nat->Cfg) (lo:Nat->Nat) (N:Nat) (B:aK) (E0:Env) (st:St) (rf:List Rec) (L:Nat->Bool) (a:Act) (w:World):Prop where
 ex :∃ E,aM B E/\E.w=w/\Ext E0 E/\E.H=cG L st.H 0 (rf.map Rec.dh)/\(∀ n,E.U n->E0.U n\/∃ i,i<rf.length/\L i=true/\lo i<=n/\n<lo i +(Cf i).K)/\gC E (cG L (find st.tm) 0 (rf.map gm)) a
 size:a.tmps.size=N
 defers:a.defers=[]
theorem GU {L L':Nat->Bool} {k:Nat} {okB:bd->Bool} :∀ (us:List (List (Nat×bd))) (i:Nat) (f f':Nat->Option bd),(f k=f' k\/∃ b,f k=some b/\okB b=true)->
  (∀ j u,us[j]?=some u->find u k≠none->L (i+j)=L' (i+j)\/(L' (i+j)=false/\∀ b,find u k=some b->okB b=true))->cG L f i us k=cG L' f' i us k\/∃ b,cG L f i us k=some b/\okB b=true
 | [],_,_,_,h,_=>h
 | u::us,i,f,f',h,hu=>by
  unfold cG
  refine GU us (i+1) _ _ ?_ (fun j u' hj hf=>by
   have:=hu (j+1) u' (by simpa using hj) hf
   rwa [show i +(j+1)=i+1+j by omega] at this)
  cases hf:find u k with
  | none=>
   have e1 :(if L i=true then fb f u else f) k=f k:=by split <;> simp [jU hf]
   have e2 :(if L' i=true then fb f' u else f') k=f' k:=by split <;> simp [jU hf]
   rw [e1,e2];exact h
  | some v=>
   rcases hu 0 u (by simp) (by rw [hf];simp) with h1 |⟨h1,h2⟩
   ·simp only [Nat.add_zero] at h1;rw [h1];split
    ·left;rw [iC hf,iC hf]
    ·exact h
   ·simp only [Nat.add_zero] at h1;rw [h1];simp only [Bool.false_eq_true,if_false];split
    ·right;exact ⟨v,iC hf,h2 v hf⟩
    ·exact h
theorem LB {Cf:Nat->Cfg} {lo:Nat->Nat} {al:Nat->Option (Nat×(bd->Bool))} {N:Nat} (hC :∀ i,CfgOK P (Cf i)) (hN :∀ i,(Cf i).N=N) {B:aK} {E0:Env} {all:List Oper} {st:St} {rf:List Rec} (hfr0 :∀ i,i<rf.length->∀ n,lo i<=n->n<lo i +(Cf i).K->¬ E0.U n) (hlo :∀ i j,i<j->j<rf.length->lo i +(Cf i).K<=lo j) {L L':Nat->Bool} {i:Nat} {o:Oper} {r:Rec} (ho:all[i]?=some o) (hr:rf[i]?=some r) (hLi:L i=false) (hL' :∀ j,L' j=if j=i then true else L j)
  {tm:List (Nat×V)} {H:a6} (hdo:uw (Cf i) (al i) all tm H (lo i) o r) (htm:find tm=cG (fun j=>Nat.blt j i) (find st.tm) 0 (rf.map gm)) (hH:H=cG (fun j=>Nat.blt j i) st.H 0 (rf.map Rec.dh))
  (hcomm :∀ j s,rf[j]?=some s->(j<i/\L j=false)\/(i<j/\L j=true)->Comm r s) (halt :∀ h0 okB,al i=some (h0,okB)->∀ j s b,rf[j]?=some s->find s.dh h0=some b->(j<i->L j=true)/\(i<j->L j=true->okB b=true)) {Q:Exit->Act->World->Prop} {a:Act} {w:World} (hI:InvV Cf lo N B E0 st rf L a w) {K:Act->World->Prop} (hK :∀ a w,InvV Cf lo N B E0 st rf L' a w->K a w) :
  wpOp P all.toArray Q i K a w:=by
 obtain ⟨⟨E,hE,rfl,hX,hEH,hU,hT⟩,hsz,hdf⟩:=hI;obtain ⟨hd,he,hrs⟩:=hdo.dW;have hiL:i<rf.length:=(List.getElem?_eq_some_iff.1 hr).1
 have hLsel :∀ {α:Type} (us:List (List (Nat×α))) (f:Nat->Option α) (k:Nat) (g:Rec->List (Nat×α)),us=rf.map g->(∀ j s,rf[j]?=some s->find (g s) k≠none->j≠i->Comm r s->False)->cG L f 0 us k=cG (fun j=>Nat.blt j i) f 0 us k:=by
  intro α us f k g hus hno;refine iJ us 0 f f rfl (fun j u hj hu=>?_);rw [Nat.zero_add];subst hus;rw [List.getElem?_map] at hj
  cases hs:rf[j]? with
  | none=>rw [hs] at hj;simp at hj
  | some s=>
   rw [hs] at hj;simp only [Option.map_some,Option.some.injEq] at hj;subst hj;by_cases hji:j=i
   ·subst hji;rw [hLi]
    cases hb:Nat.blt j j with
    | false=>rfl
    | true=>rw [Nat.blt_eq] at hb;omega
   ·rcases Nat.lt_or_gt_of_ne hji with hlt|hgt
    ·have hb:Nat.blt j i=true:=by rw [Nat.blt_eq];exact hlt
     rw [hb]
     cases hLj:L j with
     | true=>rfl
     | false=>exact (hno j s hs hu hji (hcomm j s hs (.inl ⟨hlt,hLj⟩))).elim
    ·have hb:Nat.blt j i=false:=by cases hb:Nat.blt j i with|false=>rfl|true=>rw [Nat.blt_eq] at hb;omega
     rw [hb]
     cases hLj:L j with
     | false=>rfl
     | true=>exact (hno j s hs hu hji (hcomm j s hs (.inr ⟨hgt,hLj⟩))).elim
 have hslot :∀ s∈aV all o,cG L (find st.tm) 0 (rf.map gm) s=find tm s:=fun s hs=>by rw [htm];refine hLsel _ _ s gm rfl (fun j s' hs' hne hji hc=>?_);exact hc.sd s (mH hne) (by rw [hrs];exact hs)
 have hlook :∀ s∈aV all o,ae E (dL tm s) (a.tmps.getD s undef):=fun s hs=>by
  unfold dL
  cases hf:find tm s with
  | none=>simp [ae]
  | some v=>exact hT s v (by rw [hslot s hs];exact hf)
 have hL0 :∀ {α:Type} (us:List (List (Nat×α))) (f:Nat->Option α) (g:Rec->List (Nat×α)),us=rf.map g->(∀ j s,i<j->rf[j]?=some s->Comm r s->∀ k,find (g r) k≠none->find (g s) k=none)->cG L' f 0 us=fb (cG L f 0 us) (g r):=by
  intro α us f g hus hno;subst hus;refine GT (rf.map g) f i (g r) (by rw [List.getElem?_map,hr];rfl) hL' (fun j u hj hu hLj k hk=>?_);rw [List.getElem?_map] at hu
  cases hs:rf[j]? with
  | none=>rw [hs] at hu;simp at hu
  | some s=>rw [hs] at hu;simp only [Option.map_some,Option.some.injEq] at hu;subst hu;exact hno j s hj hs (hcomm j s hs (.inr ⟨hj,hLj⟩)) k hk
 have none_of :∀ {α:Type} {l:List (Nat×α)} {k:Nat},(k∈l.map (·.1)->False)->find l k=none:=fun {α l k} h=>by
  cases hf:find l k with
  | none=>rfl
  | some v=>exact (h (gj (by rw [hf];simp))).elim
 have hT':cG L' (find st.tm) 0 (rf.map gm)=fb (cG L (find st.tm) 0 (rf.map gm)) (gm r):=hL0 _ _ gm rfl (fun j s _ _ hc k hk=>by
  cases hf:find (gm s) k with
  | none=>rfl
  | some v=>exact (hc.d k (mH hk) (mH (by rw [hf];simp))).elim)
 have hH':cG L' st.H 0 (rf.map Rec.dh)=fb (cG L st.H 0 (rf.map Rec.dh)) r.dh:=hL0 _ _ Rec.dh rfl (fun j s _ _ hc k hk=>none_of fun hm=>hc.k k (gj hk) hm)
 have after :∀ (E':Env) (v':Value),GoodK B E (lo i) (Cf i).K r.dh E'.w E'->ae E' r.v v'->InvV Cf lo N B E0 st rf L' (a.put o.dst v') E'.w:=fun E' v' G hv=>by
  refine ⟨⟨E',G.rel,rfl,hX.trans G.ext,by rw [G.h,hH',hEH,pK],fun n hn=>?_,?_⟩,by rw [oZ];exact hsz,by rw [ky];exact hdf⟩
  ·rcases G.u n hn with h|h
   ·rcases hU n h with h1 |⟨j,h1,h2,h3⟩
    ·exact .inl h1
    ·refine .inr ⟨j,h1,?_,h3⟩;rw [hL'];split
     ·rfl
     ·exact h2
   ·exact .inr ⟨i,hiL,by rw [hL',if_pos rfl],h.1,h.2⟩
  ·rw [hT']
   exact Dr G.ext hT hsz (by rw [<-hN i];exact hd) (v:=r.v) hv (fun s u hu=>by
    unfold fb gm at hu;rw [he] at hu
    cases hf:find (dw o.dst r.v) s with
    | some x=>rw [hf] at hu;exact .inl hu
    | none=>rw [hf] at hu;exact .inr ⟨rfl,hu⟩)
 unfold wpOp;simp only [List.getElem?_toArray,ho]
 have hfresh :∀ n,lo i<=n->n<lo i +(Cf i).K->¬ E.U n:=fun n h1 h2 hu=>by
  rcases hU n hu with h3 |⟨j,h3,h4,h5,h6⟩
  ·exact hfr0 i hiL n h1 h2 h3
  ·have hji:j≠i:=fun e=>by subst e;rw [hLi] at h4;cases h4
   rcases Nat.lt_or_gt_of_ne hji with hlt|hgt
   ·have:=hlo j i hlt hiL;omega
   ·have:=hlo i j hgt h3;omega
 cases hdo with
 | @dir ps v v' dh R _ hg hev hcg hps hv=>
  rw [dt hlook hg];simp only [if_true]
  left
  have hHR :∀ h∈R,E.H h=H h:=fun h hh=>by rw [hEH,hH];refine hLsel _ _ h Rec.dh rfl (fun j s hs hne hji hc=>?_);exact hc.sk h (gj hne) hh
  have hev2:=hcg E.H hHR (fun h0 okB hal=>by
   have hal:=halt h0 okB hal;rw [hEH,hH];refine GU (rf.map Rec.dh) 0 st.H st.H (.inl rfl) (fun j u hj hu=>?_);rw [Nat.zero_add];rw [List.getElem?_map] at hj
   cases hs:rf[j]? with
   | none=>rw [hs] at hj;simp at hj
   | some s=>
    rw [hs] at hj;simp only [Option.map_some,Option.some.injEq] at hj;subst hj;rcases Nat.lt_trichotomy j i with hlt|heq|hgt
    ·left
     obtain ⟨b,hb⟩ :∃ b,find s.dh h0=some b:=by
      cases hf:find s.dh h0 with
      | none=>exact absurd hf hu
      | some b=>exact ⟨b,rfl⟩
     rw [(hal j s b hs hb).1 hlt];exact (by rw [Nat.blt_eq];exact hlt:Nat.blt j i=true).symm
    ·left
     subst heq;rw [hLi]
     cases hb:Nat.blt j j with
     | false=>rfl
     | true=>rw [Nat.blt_eq] at hb;omega
    ·have hbf:Nat.blt j i=false:=by cases hb:Nat.blt j i with|false=>rfl|true=>rw [Nat.blt_eq] at hb;omega
     cases hLj:L j with
     | false=>exact .inl hbf.symm
     | true=>exact .inr ⟨hbf,fun b hb=>(hal j s b hs hb).2 hgt hLj⟩)
  rw [hev] at hev2
  have hevm :∀ x,ae E (bV (aV all o) tm x) (a.eval x):=fun x=>by
   cases x with
   | tmp t=>
    simp only [bV]
    cases hm:aX (aV all o) t with
    | false=>simp [ae]
    | true=>exact hlook t (bp.1 hm)
   | const v=>exact ja v
   | func f=>simp only [bV,ae,Act.eval];exact ⟨#[],rfl,by simp [ai]⟩
   | _=>simp [bV,ae]
  exact fv hE (hC i).tb (hC i).K (hC i).Γ hfresh hevm hev2 hps fun v'' E' G hv'=>by have hw:E'.w=E'.w:=rfl;exact hK _ _ (after E' _ G (MS hv hv'))
 | old hdo=>
 cases hdo with
 | skip _ hg=>rw [dt hlook hg];simp only [Bool.false_eq_true,if_false];exact hK _ _ (after E undef ⟨hE,Ext.refl E,rfl,rfl,fun n h=> .inl h⟩ (by simp [ae,undef,ai]))
 | @dir ps v v' dh _ _ hg hdr hev hps hv=>
  rw [dt hlook hg];simp only [if_true]
  left
  have hev2:=zE (C:=Cf i) (m:=lo i) (H1:=E.H) (H2:=H) hdr fun k hk=>by rw [hEH,hH];refine hLsel _ _ k Rec.dh rfl (fun j s hs hne hji hc=>?_);exact hc.sk k (gj hne) hk
  rw [hev] at hev2
  have hevm :∀ x,ae E (bV (aV all o) tm x) (a.eval x):=fun x=>by
   cases x with
   | tmp t=>
    simp only [bV]
    cases hm:aX (aV all o) t with
    | false=>simp [ae]
    | true=>exact hlook t (bp.1 hm)
   | const v=>exact ja v
   | func f=>simp only [bV,ae,Act.eval];exact ⟨#[],rfl,by simp [ai]⟩
   | _=>simp [bV,ae]
  exact fv hE (hC i).tb (hC i).K (hC i).Γ hfresh hevm hev2 hps fun v'' E' G hv'=>hK _ _ (after E' _ G (MS hv hv'))
 | @run ps v v' dh R _ hg hst hps hv=>
  rw [dt hlook hg];simp only [if_true]
  left
  simp only [py] at hst;split at hst
  case h_2=>cases hst
  rename_i ps' v2 dh' hev
  cases hfr:jK H (qu H 8 (o.op.operands.toList.flatMap fun x=>(bV (aV all o) tm x).hs) []) (lo i) (Cf i).K v2 dh' with
  | false=>rw [hfr] at hst;cases hst
  | true=>
   rw [hfr] at hst;simp only [cond_true,Option.some.injEq,Prod.mk.injEq] at hst;obtain ⟨rfl,rfl,rfl,hR⟩:=hst;rw [hR] at hfr hev
   have hHR :∀ h∈R,E.H h=H h:=fun h hh=>by rw [hEH,hH];refine hLsel _ _ h Rec.dh rfl (fun j s hs hne hji hc=>?_);exact hc.sk h (gj hne) hh
   have hrest:cg H R=cg E.H R:=by
    funext h;unfold cg
    cases hm:aX R h with
    | false=>rfl
    | true=>simp only [cond_true];exact (hHR h (bp.1 hm)).symm
   simp only [jK,Bool.and_eq_true] at hfr;obtain ⟨⟨f1,f2⟩,f3⟩:=hfr
   have fR :∀ h∈R,∃ b,H h=some b/\qa R (lo i) (Cf i).K b.hs=true:=fun h hh=>by
    have:=List.all_eq_true.1 f1 h hh
    split at this
    ·rename_i b hb;exact ⟨b,hb,this⟩
    ·cases this
   have hfresh :∀ n,lo i<=n->n<lo i +(Cf i).K->¬ E.U n:=fun n h1 h2 hu=>by
    rcases hU n hu with h3 |⟨j,h3,h4,h5,h6⟩
    ·exact hfr0 i hiL n h1 h2 h3
    ·have hji:j≠i:=fun e=>by subst e;rw [hLi] at h4;cases h4
     rcases Nat.lt_or_gt_of_ne hji with hlt|hgt
     ·have:=hlo j i hlt hiL;omega
     ·have:=hlo i j hgt h3;omega
   have hEs:=hE.cg R;have Xs:=Ext.cg E R;rw [hrest] at hev
   have hevm :∀ x,ae { E with H:=aa.cg E.H R } (bV (aV all o) tm x) (a.eval x):=fun x=>by
    cases x with
    | tmp t=>
     simp only [bV]
     cases hm:aX (aV all o) t with
     | false=>simp [ae]
     | true=>exact ca Xs _ _ (hlook t (bp.1 hm))
    | const v=>exact ja v
    | func f=>simp only [bV,ae,Act.eval];exact ⟨#[],rfl,by simp [ai]⟩
    | _=>simp [bV,ae]
   exact fv (E:={ E with H:=aa.cg E.H R }) hEs (hC i).tb (hC i).K (hC i).Γ hfresh hevm hev hps fun v'' Es G hv'=>by
    obtain ⟨E',G',tr⟩:=Uy hE hfresh G (fun h hh=>by obtain ⟨b,hb,_⟩:=fR h hh;exact ⟨b,by rw [hHR h hh];exact hb⟩)
     (fun h hh k hk x hx=>by
      obtain ⟨b,hb,hb2⟩:=fR h hh;rw [hHR h hh,hb] at hk;cases hk
      exact gM hb2 x hx)
     (fun h k hk=>by
      have hq:=aB hk
      have:=List.all_eq_true.1 f2 _ hq
      simp only [Bool.and_eq_true] at this
      exact ⟨gM this.1 h (by simp),gM this.2⟩)
    have hw:E'.w=Es.w:=G'.w;have hv2:ae E' v2 v'':=tr _ _ (gM f3) hv'
    have:=hK _ _ (after E' _ (by rw [hw];exact G') (MS hv hv2))
    rw [hw] at this;exact this
def vM (al:Nat->Option (Nat×(bd->Bool))) (ms:List Nat) (rf:List Rec):Prop:=∀ i h0 okB,al i=some (h0,okB)->∀ j s b,rf[j]?=some s->find s.dh h0=some b->j≠i->
 (j<i->((ms[i]?).getD 0).testBit j=true)/\(i<j->((ms[j]?).getD 0).testBit i=true\/okB b=true)
theorem vM.none {ms:List Nat} {rf:List Rec}:vM (fun _=>Option.none) ms rf:=fun i h0 okB h=>by cases h
theorem Ll {Cf:Nat->Cfg} {lo:Nat->Nat} {al:Nat->Option (Nat×(bd->Bool))} {N:Nat} (hC :∀ i,CfgOK P (Cf i)) (hN :∀ i,(Cf i).N=N) {B:aK} {E0:Env} {all:List Oper} {st:St} {df:Dl} {rf:List Rec} (hrun:RunV Cf lo al all st 0 all ⟨[],[]⟩ [] df rf) (hE:dT 0 all=true) (hck:fV (cM all []) 0 rf=true) (hal:vM al (cM all []) rf) {Q:Exit->Act->World->Prop}
  (hfr0 :∀ i,i<all.length->∀ n,lo i<=n->n<lo i +(Cf i).K->¬ E0.U n) (hlo :∀ i j,i<j->j<all.length->lo i +(Cf i).K<=lo j)
  (hQ :∀ E a,aM B E->Ext E0 E->E.H=aQ st.H df.hp->(∀ n,E.U n->E0.U n\/∃ i,i<all.length/\lo i<=n/\n<lo i +(Cf i).K)->gC E (find (df.tm++st.tm)) a->a.tmps.size=N->a.defers=[]->Q .normal a E.w) :
  ∀ (fuel:Nat) (listed:Array Bool) (a:Act) (w:World),listed.size=all.length->unl all.length listed=fuel->
   (∀ j oj,all[j]?=some oj->listed.getD j false=true->∀ e∈oj.after,Region.binds .any e=true->listed.getD e.on false=true)->
   InvV Cf lo N B E0 st rf (fun i=>listed.getD i false) a w->wpAny P .any all.toArray Q fuel listed a w:=by
 obtain ⟨⟨more,e1,e2⟩,g1,g2,g3⟩:=Bz all 0 ⟨[],[]⟩ [] df rf hrun rfl rfl rfl;have hlen:rf.length=all.length:=by rw [e1];simpa using e2
 have full :∀ (listed:Array Bool),listed.size=all.length->Region.ready .any all.toArray listed=[]->∀ i,i<all.length->listed.getD i false=true:=by
  intro listed hsz hrd i
  induction i using Nat.strongRecOn with
  | _ i ih=>
   intro hi
   cases hb:listed.getD i false with
   | true=>rfl
   | false=>
    have hun:listed.getD i true=false:=by
     have:i<listed.size:=by omega
     simp [this] at hb ⊢;exact hb
    have hoi:all[i]?=some all[i]:=List.getElem?_eq_getElem hi
    have:i∈Region.ready .any all.toArray listed:=mem_ready.2 ⟨hun,all[i],by simp,fun e he hbd=>by
     have:=gX all 0 hE i _ hoi e he hbd
     exact ih e.on (by omega) (by omega)⟩
    rw [hrd] at this;cases this
 have close :∀ (listed:Array Bool) (a:Act) (w:World),listed.size=all.length->(∀ i,i<all.length->listed.getD i false=true)->InvV Cf lo N B E0 st rf (fun i=>listed.getD i false) a w->Q .normal a w:=by
  intro listed a w hsz hall hI;obtain ⟨⟨E,hE',rfl,hX,hEH,hU,hT⟩,hs,hd⟩:=hI
  have hsel :∀ {α:Type} (us:List (List (Nat×α))) (f:Nat->Option α),us.length=all.length->cG (fun i=>listed.getD i false) f 0 us=us.foldl fb f:=fun us f hl=>by have h1:=nB us f 0 us.length;rw [List.take_of_length_le (Nat.le_refl _)] at h1;rw [<-h1];funext k;refine iJ us 0 f f rfl (fun j u hj _=>?_);have hjl:j<us.length:=(List.getElem?_eq_some_iff.1 hj).1;rw [Nat.zero_add,hall j (by omega)];exact (by rw [Nat.blt_eq];omega:Nat.blt j (0+us.length)=true).symm
  refine hQ E a hE' hX ?_ (fun n hn=>?_) (fun s v hv=>?_) hs hd
  ·rw [hEH,hsel _ _ (by simp [hlen]),g2]
  ·rcases hU n hn with h |⟨i,h1,_,h3,h4⟩
   ·exact .inl h
   ·exact .inr ⟨i,by omega,h3,h4⟩
  ·refine hT s v ?_;rw [hsel _ _ (by simp [hlen]),<-g1];exact hv
 intro fuel
 induction fuel with
 | zero=>
  intro listed a w hsz hun _ hI
  have hall :∀ i,i<all.length->listed.getD i false=true:=fun i hi=>by
   have h0 :(List.range all.length).filter (fun i=>!listed.getD i true)=[]:=List.eq_nil_of_length_eq_zero hun
   have:=List.filter_eq_nil_iff.1 h0 i (List.mem_range.2 hi)
   have hi':i<listed.size:=by omega
   simp [hi'] at this ⊢;exact this
  refine ⟨?_,close listed a w hsz hall hI⟩
  cases hr:Region.ready .any all.toArray listed with
  | nil=>rfl
  | cons i l=>
   have hm:i∈Region.ready .any all.toArray listed:=by rw [hr];exact List.mem_cons_self
   obtain ⟨h1,o,h2,_⟩:=mem_ready.1 hm
   have hi:i<all.length:=by
    have:=(Array.getElem?_eq_some_iff.1 h2).1
    simpa using this
   have h3:=hall i hi;have hi':i<listed.size:=by omega
   simp [hi'] at h1 h3;rw [h1] at h3;cases h3
 | succ fuel ih=>
  intro listed a w hsz hun hclosed hI;refine ⟨fun hr=>close listed a w hsz (full listed hsz hr) hI,fun i hi=>?_⟩;obtain ⟨h1,o,h2,hdir⟩:=mem_ready.1 hi;have ho:all[i]?=some o:=by simpa using h2
  have hil:i<all.length:=(List.getElem?_eq_some_iff.1 ho).1;have his:i<listed.size:=by omega
  have hLi:listed.getD i false=false:=by simp [his] at h1 ⊢;exact h1
  obtain ⟨r,tm,H,k1,k2,k3,k4⟩:=g3 i o ho;simp only [Nat.zero_add] at k1 k2 k3 k4
  have hget :∀ j,(listed.setIfInBounds i true).getD j false=if j=i then true else listed.getD j false:=fun j=>by
   by_cases e:j=i
   ·subst e;simp [his]
   ·simp [e,Array.getElem?_setIfInBounds_ne (Ne.symm e),Array.getD_eq_getD_getElem?]
  have hgetT :∀ j,j≠i->(listed.setIfInBounds i true).getD j true=listed.getD j true:=fun j e=>by simp [Array.getElem?_setIfInBounds_ne (Ne.symm e),Array.getD_eq_getD_getElem?]
  refine LB hC hN (E0:=E0) (by rw [hlen];exact hfr0) (by rw [hlen];exact hlo) (L:=fun i=>listed.getD i false) (L':=fun j=>(listed.setIfInBounds i true).getD j false) ho k1 hLi hget k2 ?_ ?_ (fun j s hs hor=>?_) (fun h0 okB ha j s b hs hb=>⟨fun hlt=>?_,fun hgt hLj=>?_⟩) hI (fun a w hI'=>ih _ a w (by simpa using hsz) ?_ ?_ hI')
  ·rw [k3]
   have:=nB (rf.map gm) (find st.tm) 0 i
   rw [<-List.map_take,] at this;simpa using this.symm
  ·rw [k4]
   have:=nB (rf.map Rec.dh) st.H 0 i
   rw [<-List.map_take] at this;simpa using this.symm
  ·rcases hor with ⟨hlt,hLj⟩ |⟨hgt,hLj⟩
   ·rcases iZ rf 0 hck j i s r hlt hs k1 with h|h
    ·simp only [Nat.zero_add] at h
     have:=eC hE hclosed i i (Nat.le_refl _) o ho hdir j h
     rw [this] at hLj;cases hLj
    ·exact h.symm
   ·rcases iZ rf 0 hck i j r s hgt k1 hs with h|h
    ·simp only [Nat.zero_add] at h;have hjl:j<all.length:=by rw [<-hlen];exact (List.getElem?_eq_some_iff.1 hs).1
     have hoj:all[j]?=some all[j]:=List.getElem?_eq_getElem hjl
     have:=eC hE hclosed j j (Nat.le_refl _) _ hoj (hclosed j _ hoj hLj) i h
     rw [this] at hLi;cases hLi
    ·exact h
  ·exact eC hE hclosed i i (Nat.le_refl _) o ho hdir j ((hal i h0 okB ha j s b hs hb (by omega)).1 hlt)
  ·rcases (hal i h0 okB ha j s b hs hb (by omega)).2 hgt with h|h
   ·have hjl:j<all.length:=by rw [<-hlen];exact (List.getElem?_eq_some_iff.1 hs).1
    have hoj:all[j]?=some all[j]:=List.getElem?_eq_getElem hjl
    have:=eC hE hclosed j j (Nat.le_refl _) _ hoj (hclosed j _ hoj hLj) i h
    rw [this] at hLi;cases hLi
   ·exact h
  ·have:=qS (p:=fun j=>!listed.getD j true) (q:=fun j=>!(listed.setIfInBounds i true).getD j true) (i:=i) (by simp [h1]) (by simp [his]) (fun j e=>by simp [hgetT j e]) (List.range all.length) List.nodup_range (List.mem_range.2 hil)
   unfold unl at hun ⊢;omega
  ·intro j oj hj hlj e he hb;rw [hget] at hlj ⊢;by_cases e1:e.on=i
   ·rw [if_pos e1]
   ·rw [if_neg e1];by_cases e2:j=i
    ·subst e2;rw [ho] at hj;cases hj;exact hdir e he hb
    ·rw [if_neg e2] at hlj;exact hclosed j oj hj hlj e he hb
theorem Ln {Cf:Nat->Cfg} {lo:Nat->Nat} {al:Nat->Option (Nat×(bd->Bool))} {N:Nat} (hC :∀ i,CfgOK P (Cf i)) (hN :∀ i,(Cf i).N=N) (hP:P.follows .mixedOrders=true) {B:aK} {all:List Oper} {st:St} {df:Dl} {rf:List Rec} (hrun:RunV Cf lo al all st 0 all ⟨[],[]⟩ [] df rf) (hE:dT 0 all=true) (hck:fV (cM all []) 0 rf=true) (hal:vM al (cM all []) rf) {Q:Exit->Act->World->Prop}
  {E:Env} (hE':aM B E) (hH:E.H=st.H) {a:Act} (hT:gC E (find st.tm) a) (hsz:a.tmps.size=N) (hdf:a.defers=[])
  (hfr0 :∀ i,i<all.length->∀ n,lo i<=n->n<lo i +(Cf i).K->¬ E.U n) (hlo :∀ i j,i<j->j<all.length->lo i +(Cf i).K<=lo j)
  (hQ :∀ E' a,aM B E'->Ext E E'->E'.H=aQ st.H df.hp->(∀ n,E'.U n->E.U n\/∃ i,i<all.length/\lo i<=n/\n<lo i +(Cf i).K)->gC E' (find (df.tm++st.tm)) a->a.tmps.size=N->a.defers=[]->Q .normal a E'.w) (id:Nat) :
  (Code.region id all.toArray true).wp P Q a E.w:=by
 refine wp_region_any hP ?_;obtain ⟨R,X⟩:=BH hE' { E.w with drawn:=E.w.drawn+1 } rfl rfl rfl rfl
 have hfalse :∀ i,(Array.replicate all.toArray.size false).getD i false=false:=fun i=>by
  rcases Nat.lt_or_ge i all.length with h|h
  ·simp [h]
  ·simp [h]
 have hno :∀ {α:Type} (us:List (List (Nat×α))) (f:Nat->Option α) (i:Nat),cG (fun i=>(Array.replicate all.toArray.size false).getD i false) f i us=f:=by
  intro α us
  induction us with
  | nil=>intro f i;rfl
  | cons u us ih=>intro f i;unfold cG;rw [hfalse];simp only [Bool.false_eq_true,if_false];exact ih f _
 refine Ll hC hN (E0:={ E with w:={ E.w with drawn:=E.w.drawn+1 } }) hrun hE hck hal hfr0 hlo (fun E1 a1 r1 x1 h1 u1 t1 s1 d1=>hQ E1 a1 r1 (X.trans x1) h1 u1 t1 s1 d1) _ _ a _ (by simp) ?_ (fun j oj hj hl=>by rw [hfalse] at hl;cases hl) ⟨⟨_,R,rfl,Ext.refl _,?_,fun n hn=> .inl hn,fun s v hv=>?_⟩,hsz,hdf⟩
 ·unfold unl
  have :(List.range all.length).filter (fun i=>!(Array.replicate all.toArray.size false).getD i true)=List.range all.length:=List.filter_eq_self.2 fun i hi=>by
   have:=List.mem_range.1 hi
   simp [this]
  rw [this];simp
 ·rw [hno _ _ _];exact hH
 ·rw [hno] at hv;exact ca X _ _ (hT s v hv)
end
section
open Go.RowKit
variable {P:Program}
theorem nH {E:Env} {v:V} {u:Value} (h:ae E v u):ae E (oa v) u:=by cases v <;> first|exact h|simpa [oa,ae] using h
theorem RJ {a:Act} {w:World} {c:Call} {o:Oper} (ho:o.op = .call c) {f:Operand} (hf:c.callee = .value f) {g:FuncId} {l:Array Value} (hfe:a.eval f = .func (.func g) #[] l)
  (hfn :∃ fn,P.funcs[g]?=some fn/\fn.body.isSome=true/\(fn.name == "runtime.NumGoroutine")=false) {R:Ending->World->Prop} (hcalls:Calls P g (c.args.toList.map a.eval++l.toList).toArray w R)
  {next:Act->World->Prop} {Q:Exit->Act->World->Prop} (hn :∀ e w',R e w'->∃ v',e = .returned v'/\next (a.put o.dst v') w'):o.wp P a w next Q:=by
 obtain ⟨fn,h1,h2,h3⟩:=hfn;have hb :¬ fn.body=none:=by cases hb:fn.body with|none=>rw [hb] at h2;cases h2|some _=>simp
 have h4 :¬ fn.name = "runtime.NumGoroutine":=by simpa using h3
 have hrun :(execOp a.eval o).run P w = .ok (.enter g (c.args.toList.map a.eval++l.toList).toArray) w:=by
  have e :(c.args.toList.map a.eval++l.toList).toArray=#[]++c.args.map a.eval++l:=by apply Array.ext';simp
  rw [e];simp [execOp,ho,resolve,hf,Deferred.ofValue,hfe,invoke,callFunc,h1,h4,hb]
 unfold Oper.wp;rw [hrun];simp only [Oper.upon];refine hcalls.mono fun e w' hh=>?_;obtain ⟨v',rfl,h⟩:=hn e w' hh;exact h
structure RR (B:aK) (E0:Env) (n0 N:Nat) (s:RS) (E:Env) (a:Act):Prop where
 rel:aM B E
 ext:Ext E0 E
 h:E.H=s.hp.get
 u :∀ n,E.U n->E0.U n\/(n0<=n/\n<s.nx)
 le:n0<=s.nx
 tm:gC E s.tm.get a
 size:a.tmps.size=N
 defers:a.defers=[]
structure Came (B:aK) (E:Env) (hp':a6) (nx nx':Nat) (v:V) (v':Value) (w':World) (E':Env):Prop where
 rel:aM B E'
 w:E'.w=w'
 h:E'.H=hp'
 ext:Ext E E'
 u :∀ n,E'.U n->E.U n\/(nx<=n/\n<nx')
 v:ae E' v v'
variable {tb:bG} {N:Nat} {call:M3} {all:List Oper} {B:aK} {E0:Env} {n0:Nat}
theorem RR.put {s:RS} {E:Env} {a:Act} (hR:RR B E0 n0 N s E a) {E':Env} {hp:Hc bd} {nx:Nat} (hrel:aM B E') (hext:Ext E E') (hh:E'.H=hp.get) (hu :∀ n,E'.U n->E.U n\/(s.nx<=n/\n<nx)) (hle:s.nx<=nx)
  {d:Option Nat} (hd:dW N d=true) {v:V} {v':Value} (hv:ae E' v v') {tm:Hc V} (htm :∀ k,tm.get k=match find (dw d (oa v)) k with|some u=>some u|none=>s.tm.get k):RR B E0 n0 N ⟨tm,hp,nx⟩ E' (a.put d v'):=by
 have hle0:=hR.le;refine ⟨hrel,hR.ext.trans hext,hh,fun n hn=>?_,Nat.le_trans hle0 hle,Dr hext hR.tm hR.size hd (nH hv) (fun k u hk=>?_),by rw [oZ];exact hR.size,by rw [ky];exact hR.defers⟩
 ·show E0.U n\/(n0<=n/\n<nx);rcases hu n hn with h|h
  ·rcases hR.u n h with h|h
   ·exact .inl h
   ·exact .inr ⟨h.1,by omega⟩
  ·exact .inr ⟨by omega,h.2⟩
 ·rw [htm] at hk
  cases hf:find (dw d (oa v)) k with
  | some x=>rw [hf] at hk;exact .inl hk
  | none=>rw [hf] at hk;exact .inr ⟨rfl,hk⟩
end
section
open Go.RowKit
variable {P:Program}
theorem CG {α:Type} {l:List (Nat×α)} {k:Nat} (h:aX (l.map (·.1)) k=true):find l k≠none:=by
 induction l with
 | nil=>simp [aX] at h
 | cons q l ih=>
  obtain ⟨a,b⟩:=q;simp only [List.map_cons,aX,Bool.or_eq_true] at h;simp only [find]
  cases hb:Nat.beq a k with
  | true=>simp
  | false=>
   simp only [cond_false];refine ih ?_;rcases h with h|h
   ·rw [hb] at h;cases h
   ·exact h
def rA:Nat->List (Nat×Cfg)->Nat->Prop
 | n,[],e=>n=e
 | n,q::r,e=>q.1=n/\∃ n2,n+q.2.K<=n2/\rA n2 r e
theorem rA.le :∀ {n:Nat} {l:List (Nat×Cfg)} {e:Nat},rA n l e->n<=e
 | n,[],e,h=>Nat.le_of_eq h
 | n,q::r,e,⟨_,n2,h1,h2⟩=>by have:=h2.le;omega
theorem rA.at :∀ {n:Nat} {l:List (Nat×Cfg)} {e:Nat},rA n l e->∀ (j:Nat) (q:Nat×Cfg),l[j]?=some q->n<=q.1/\q.1+q.2.K<=e
 | n,[],e,_,j,q,hq=>by simp at hq
 | n,p::r,e,⟨h0,n2,h1,h2⟩,j,q,hq=>by
  have hle:=h2.le
  cases j with
  | zero=>simp only [List.getElem?_cons_zero,Option.some.injEq] at hq;subst hq;omega
  | succ j=>
   have:=h2.at j q (by simpa using hq)
   omega
theorem rA.lt :∀ {n:Nat} {l:List (Nat×Cfg)} {e:Nat},rA n l e->∀ (i j:Nat) (p q:Nat×Cfg),i<j->l[i]?=some p->l[j]?=some q->p.1+p.2.K<=q.1
 | n,[],e,_,i,j,p,q,_,hp,_=>by simp at hp
 | n,x::r,e,⟨h0,n2,h1,h2⟩,i,j,p,q,hij,hp,hq=>by
  cases j with
  | zero=>omega
  | succ j=>
   cases i with
   | zero=>
    simp only [List.getElem?_cons_zero,Option.some.injEq] at hp;subst hp
    have:=(h2.at j q (by simpa using hq)).1
    omega
   | succ i=>exact h2.lt i j p q (by omega) (by simpa using hp) (by simpa using hq)
variable {tb:bG} {N:Nat} {call:M3} {all:List Oper}
end
section
open Go.RowKit
variable {P:Program}
def Hc.ga {α:Type}:Hc α->List (Nat×α)
 | .lf=> []
 | .nd l v r=>(match v with|some x=> [(0,x)]|none=> []) ++((l.ga.map fun p=>(2*p.1+1,p.2)) ++(r.ga.map fun p=>(2*p.1+2,p.2)))
variable {tb:bG} {N:Nat} {call:M3} {B:aK} {E0:Env} {n0:Nat}
def aez (td:TD):TD:=⟨td.kind,td.size,td.bytes,td.zero,none⟩
def MP (tb:bG):bG:=fun t=>match tb t with
 | some td=>some (aez td)
 | none=>none
theorem Ud {tb:bG} (h:cn P tb):cn P (MP tb):=fun t td ht=>by
 unfold MP at ht;split at ht
 case h_2=>cases ht
 rename_i td0 h0;cases ht
 have:=h _ _ h0
 exact ⟨fun hp=>this.eqk hp,this.info,this.kind,this.zagg⟩
def J0 (P:Program):Bool:=P.funcs.toList.all fun fn=>!(fn.name == "runtime.NumGoroutine")
theorem FS (h:J0 P=true) (f:FuncId) (fn:Func) (hf:P.funcs[f]?=some fn) :(fn.name == "runtime.NumGoroutine")=false:=by
 have:=List.all_eq_true.1 h fn (by
  obtain ⟨hl,he⟩:=Array.getElem?_eq_some_iff.1 hf;rw [<-he]
  exact Array.mem_toList_iff.2 (Array.getElem_mem hl))
 simpa using this
def gn (r:Rn (V×Hc bd×Nat)):V:=match r with
 | .ok (v,_,_)=>v
 | .no _=> .any
end
section
open Go.RowKit
noncomputable section
structure N8 (α:Type) where
 a:α
 b:α
 c:α
 d:α
 e:α
 f:α
 g:α
 h:α
structure Ac (σ α:Type) where
 get:σ->α
 put:α->σ->σ
def Ac.da {α:Type}:Ac (N8 α) α:=⟨N8.a,fun x n=>N8.rec (motive:=fun _=>N8 α) (fun _ b c d e f g h=>⟨x,b,c,d,e,f,g,h⟩) n⟩
def Ac.db {α:Type}:Ac (N8 α) α:=⟨N8.b,fun x n=>N8.rec (motive:=fun _=>N8 α) (fun a _ c d e f g h=>⟨a,x,c,d,e,f,g,h⟩) n⟩
def Ac.dc {α:Type}:Ac (N8 α) α:=⟨N8.c,fun x n=>N8.rec (motive:=fun _=>N8 α) (fun a b _ d e f g h=>⟨a,b,x,d,e,f,g,h⟩) n⟩
def Ac.dd {α:Type}:Ac (N8 α) α:=⟨N8.d,fun x n=>N8.rec (motive:=fun _=>N8 α) (fun a b c _ e f g h=>⟨a,b,c,x,e,f,g,h⟩) n⟩
def Ac.de {α:Type}:Ac (N8 α) α:=⟨N8.e,fun x n=>N8.rec (motive:=fun _=>N8 α) (fun a b c d _ f g h=>⟨a,b,c,d,x,f,g,h⟩) n⟩
def Ac.df {α:Type}:Ac (N8 α) α:=⟨N8.f,fun x n=>N8.rec (motive:=fun _=>N8 α) (fun a b c d e _ g h=>⟨a,b,c,d,e,x,g,h⟩) n⟩
def Ac.dg {α:Type}:Ac (N8 α) α:=⟨N8.g,fun x n=>N8.rec (motive:=fun _=>N8 α) (fun a b c d e f _ h=>⟨a,b,c,d,e,f,x,h⟩) n⟩
def Ac.dh {α:Type}:Ac (N8 α) α:=⟨N8.h,fun x n=>N8.rec (motive:=fun _=>N8 α) (fun a b c d e f g _=>⟨a,b,c,d,e,f,g,x⟩) n⟩
def d8 {α:Type} (r:Nat):Ac (N8 α) α:=Bool.rec (motive:=fun _=>Ac (N8 α) α) (Bool.rec (motive:=fun _=>Ac (N8 α) α) (Bool.rec (motive:=fun _=>Ac (N8 α) α) (Bool.rec (motive:=fun _=>Ac (N8 α) α) (Bool.rec (motive:=fun _=>Ac (N8 α) α) (Bool.rec (motive:=fun _=>Ac (N8 α) α) (Bool.rec (motive:=fun _=>Ac (N8 α) α) (Ac.dh) Ac.dg (Nat.beq r 6)) Ac.df (Nat.beq r 5)) Ac.de (Nat.beq r 4)) Ac.dd (Nat.beq r 3)) Ac.dc (Nat.beq r 2)) Ac.db (Nat.beq r 1)) Ac.da (Nat.beq r 0)
def Ac.rG {s0 s1 s2 s3:Type} (f1:Ac s0 s1) (f2:Ac s1 s2) (f3:Ac s2 s3):Ac s0 s3:=
 Ac.rec (motive:=fun _=>Ac s0 s3) (fun g1 p1=>Ac.rec (motive:=fun _=>Ac s0 s3) (fun g2 p2=>Ac.rec (motive:=fun _=>Ac s0 s3) (fun g3 p3=>⟨fun s=>(g3 (g2 (g1 s))),fun x s=>(p1 (p2 (p3 x (g2 (g1 s))) (g1 s)) s)⟩) f3) f2) f1
def Ac.oh {s0 s1 s2 s3 s4:Type} (f1:Ac s0 s1) (f2:Ac s1 s2) (f3:Ac s2 s3) (f4:Ac s3 s4):Ac s0 s4:=
 Ac.rec (motive:=fun _=>Ac s0 s4) (fun g1 p1=>Ac.rec (motive:=fun _=>Ac s0 s4) (fun g2 p2=>Ac.rec (motive:=fun _=>Ac s0 s4) (fun g3 p3=>Ac.rec (motive:=fun _=>Ac s0 s4) (fun g4 p4=>⟨fun s=>(g4 (g3 (g2 (g1 s)))),fun x s=>(p1 (p2 (p3 (p4 x (g3 (g2 (g1 s)))) (g2 (g1 s))) (g1 s)) s)⟩) f4) f3) f2) f1
def Ac.jW {s0 s1 s2 s3 s4 s5 s6:Type} (f1:Ac s0 s1) (f2:Ac s1 s2) (f3:Ac s2 s3) (f4:Ac s3 s4) (f5:Ac s4 s5) (f6:Ac s5 s6):Ac s0 s6:=
 Ac.rec (motive:=fun _=>Ac s0 s6) (fun g1 p1=>Ac.rec (motive:=fun _=>Ac s0 s6) (fun g2 p2=>Ac.rec (motive:=fun _=>Ac s0 s6) (fun g3 p3=>Ac.rec (motive:=fun _=>Ac s0 s6) (fun g4 p4=>Ac.rec (motive:=fun _=>Ac s0 s6) (fun g5 p5=>Ac.rec (motive:=fun _=>Ac s0 s6) (fun g6 p6=>⟨fun s=>(g6 (g5 (g4 (g3 (g2 (g1 s)))))),fun x s=>(p1 (p2 (p3 (p4 (p5 (p6 x (g5 (g4 (g3 (g2 (g1 s)))))) (g4 (g3 (g2 (g1 s))))) (g3 (g2 (g1 s)))) (g2 (g1 s))) (g1 s)) s)⟩) f6) f5) f4) f3) f2) f1
def mQ (i k:Nat):Nat:=Nat.mod (Nat.div i k) 8
abbrev T3 (α:Type):=N8 (N8 (N8 α))
abbrev T4 (α:Type):=N8 (T3 α)
abbrev T6 (α:Type):=N8 (N8 (T4 α))
def dN {α:Type} (i:Nat):Ac (T3 α) α:=Ac.rG (d8 (mQ i 64)) (d8 (mQ i 8)) (d8 (mQ i 1))
def yC {α:Type} (i:Nat):Ac (T4 α) α:=Ac.oh (d8 (mQ i 512)) (d8 (mQ i 64)) (d8 (mQ i 8)) (d8 (mQ i 1))
def BZ {α:Type} (i:Nat):Ac (T6 α) α:=Ac.jW (d8 (mQ i 32768)) (d8 (mQ i 4096)) (d8 (mQ i 512)) (d8 (mQ i 64)) (d8 (mQ i 8)) (d8 (mQ i 1))
def IQ {α:Type} (x:α):N8 α:=⟨x,x,x,x,x,x,x,x⟩
def Mx {α:Type} (x:α):T3 α:=IQ (IQ (IQ x))
def Yv {α:Type} (x:α):T4 α:=IQ (Mx x)
def Tx {α:Type} (x:α):T6 α:=IQ (IQ (Yv x))
structure Ac.Law {σ α:Type} (f:Ac σ α):Prop where
 same :∀ x s,f.get (f.put x s)=x
structure Ac.Apart {σ α:Type} (f g:Ac σ α):Prop where
 l :∀ x s,g.get (f.put x s)=g.get s
theorem bO {α:Type} (r:Nat) :(d8 r:Ac (N8 α) α).Law:=by
 constructor;intro x s;unfold d8;cases Nat.beq r 0
 case true=>rfl
 cases Nat.beq r 1
 case true=>rfl
 cases Nat.beq r 2
 case true=>rfl
 cases Nat.beq r 3
 case true=>rfl
 cases Nat.beq r 4
 case true=>rfl
 cases Nat.beq r 5
 case true=>rfl
 cases Nat.beq r 6
 case true=>rfl
 rfl
theorem dV {α:Type} :∀ {r s:Nat},r<8->s<8->r≠s->(d8 r:Ac (N8 α) α).Apart (d8 s):=by
 intro r s hr hs h;constructor;intro x n
 match r,s,hr,hs,h with
 | 0,0,_,_,h=>exact absurd rfl h
 | 0,1,_,_,h=>rfl
 | 0,2,_,_,h=>rfl
 | 0,3,_,_,h=>rfl
 | 0,4,_,_,h=>rfl
 | 0,5,_,_,h=>rfl
 | 0,6,_,_,h=>rfl
 | 0,7,_,_,h=>rfl
 | 1,0,_,_,h=>rfl
 | 1,1,_,_,h=>exact absurd rfl h
 | 1,2,_,_,h=>rfl
 | 1,3,_,_,h=>rfl
 | 1,4,_,_,h=>rfl
 | 1,5,_,_,h=>rfl
 | 1,6,_,_,h=>rfl
 | 1,7,_,_,h=>rfl
 | 2,0,_,_,h=>rfl
 | 2,1,_,_,h=>rfl
 | 2,2,_,_,h=>exact absurd rfl h
 | 2,3,_,_,h=>rfl
 | 2,4,_,_,h=>rfl
 | 2,5,_,_,h=>rfl
 | 2,6,_,_,h=>rfl
 | 2,7,_,_,h=>rfl
 | 3,0,_,_,h=>rfl
 | 3,1,_,_,h=>rfl
 | 3,2,_,_,h=>rfl
 | 3,3,_,_,h=>exact absurd rfl h
 | 3,4,_,_,h=>rfl
 | 3,5,_,_,h=>rfl
 | 3,6,_,_,h=>rfl
 | 3,7,_,_,h=>rfl
 | 4,0,_,_,h=>rfl
 | 4,1,_,_,h=>rfl
 | 4,2,_,_,h=>rfl
 | 4,3,_,_,h=>rfl
 | 4,4,_,_,h=>exact absurd rfl h
 | 4,5,_,_,h=>rfl
 | 4,6,_,_,h=>rfl
 | 4,7,_,_,h=>rfl
 | 5,0,_,_,h=>rfl
 | 5,1,_,_,h=>rfl
 | 5,2,_,_,h=>rfl
 | 5,3,_,_,h=>rfl
 | 5,4,_,_,h=>rfl
 | 5,5,_,_,h=>exact absurd rfl h
 | 5,6,_,_,h=>rfl
 | 5,7,_,_,h=>rfl
 | 6,0,_,_,h=>rfl
 | 6,1,_,_,h=>rfl
 | 6,2,_,_,h=>rfl
 | 6,3,_,_,h=>rfl
 | 6,4,_,_,h=>rfl
 | 6,5,_,_,h=>rfl
 | 6,6,_,_,h=>exact absurd rfl h
 | 6,7,_,_,h=>rfl
 | 7,0,_,_,h=>rfl
 | 7,1,_,_,h=>rfl
 | 7,2,_,_,h=>rfl
 | 7,3,_,_,h=>rfl
 | 7,4,_,_,h=>rfl
 | 7,5,_,_,h=>rfl
 | 7,6,_,_,h=>rfl
 | 7,7,_,_,h=>exact absurd rfl h
theorem K9 {s0 s1 s2 s3:Type} {f1:Ac s0 s1} {f2:Ac s1 s2} {f3:Ac s2 s3} (h1:f1.Law) (h2:f2.Law) (h3:f3.Law) :(Ac.rG f1 f2 f3).Law:=by constructor;intro x s;show f3.get (f2.get (f1.get ((Ac.rG f1 f2 f3).put x s)))=x;show f3.get (f2.get (f1.get ((f1.put (f2.put (f3.put x (f2.get (f1.get s))) (f1.get s)) s))))=x;rw [h1.same,h2.same,h3.same]
theorem Ca {s0 s1 s2 s3:Type} {f1:Ac s0 s1} {f2:Ac s1 s2} {f3:Ac s2 s3} {g1:Ac s0 s1} {g2:Ac s1 s2} {g3:Ac s2 s3} (h:f1.Apart g1) :(Ac.rG f1 f2 f3).Apart (Ac.rG g1 g2 g3):=by constructor;intro x s;show g3.get (g2.get (g1.get ((f1.put (f2.put (f3.put x (f2.get (f1.get s))) (f1.get s)) s))))=g3.get (g2.get (g1.get (s)));rw [h.l]
theorem Cb {s0 s1 s2 s3:Type} {f1:Ac s0 s1} {f2:Ac s1 s2} {f3:Ac s2 s3} {g2:Ac s1 s2} {g3:Ac s2 s3} (h1:f1.Law) (h:f2.Apart g2) :(Ac.rG f1 f2 f3).Apart (Ac.rG f1 g2 g3):=by constructor;intro x s;show g3.get (g2.get (f1.get ((f1.put (f2.put (f3.put x (f2.get (f1.get s))) (f1.get s)) s))))=g3.get (g2.get (f1.get (s)));rw [h1.same,h.l]
theorem Cc {s0 s1 s2 s3:Type} {f1:Ac s0 s1} {f2:Ac s1 s2} {f3:Ac s2 s3} {g3:Ac s2 s3} (h1:f1.Law) (h2:f2.Law) (h:f3.Apart g3) :(Ac.rG f1 f2 f3).Apart (Ac.rG f1 f2 g3):=by constructor;intro x s;show g3.get (f2.get (f1.get ((f1.put (f2.put (f3.put x (f2.get (f1.get s))) (f1.get s)) s))))=g3.get (f2.get (f1.get (s)));rw [h1.same,h2.same,h.l]
theorem La {s0 s1 s2 s3 s4:Type} {f1:Ac s0 s1} {f2:Ac s1 s2} {f3:Ac s2 s3} {f4:Ac s3 s4} (h1:f1.Law) (h2:f2.Law) (h3:f3.Law) (h4:f4.Law) :(Ac.oh f1 f2 f3 f4).Law:=by constructor;intro x s;show f4.get (f3.get (f2.get (f1.get ((Ac.oh f1 f2 f3 f4).put x s))))=x;show f4.get (f3.get (f2.get (f1.get ((f1.put (f2.put (f3.put (f4.put x (f3.get (f2.get (f1.get s)))) (f2.get (f1.get s))) (f1.get s)) s)))))=x;rw [h1.same,h2.same,h3.same,h4.same]
theorem Ce {s0 s1 s2 s3 s4:Type} {f1:Ac s0 s1} {f2:Ac s1 s2} {f3:Ac s2 s3} {f4:Ac s3 s4} {g1:Ac s0 s1} {g2:Ac s1 s2} {g3:Ac s2 s3} {g4:Ac s3 s4} (h:f1.Apart g1) :(Ac.oh f1 f2 f3 f4).Apart (Ac.oh g1 g2 g3 g4):=by constructor;intro x s;show g4.get (g3.get (g2.get (g1.get ((f1.put (f2.put (f3.put (f4.put x (f3.get (f2.get (f1.get s)))) (f2.get (f1.get s))) (f1.get s)) s)))))=g4.get (g3.get (g2.get (g1.get (s))));rw [h.l]
theorem Cg {s0 s1 s2 s3 s4:Type} {f1:Ac s0 s1} {f2:Ac s1 s2} {f3:Ac s2 s3} {f4:Ac s3 s4} {g2:Ac s1 s2} {g3:Ac s2 s3} {g4:Ac s3 s4} (h1:f1.Law) (h:f2.Apart g2) :(Ac.oh f1 f2 f3 f4).Apart (Ac.oh f1 g2 g3 g4):=by constructor;intro x s;show g4.get (g3.get (g2.get (f1.get ((f1.put (f2.put (f3.put (f4.put x (f3.get (f2.get (f1.get s)))) (f2.get (f1.get s))) (f1.get s)) s)))))=g4.get (g3.get (g2.get (f1.get (s))));rw [h1.same,h.l]
theorem Ch {s0 s1 s2 s3 s4:Type} {f1:Ac s0 s1} {f2:Ac s1 s2} {f3:Ac s2 s3} {f4:Ac s3 s4} {g3:Ac s2 s3} {g4:Ac s3 s4} (h1:f1.Law) (h2:f2.Law) (h:f3.Apart g3) :(Ac.oh f1 f2 f3 f4).Apart (Ac.oh f1 f2 g3 g4):=by constructor;intro x s;show g4.get (g3.get (f2.get (f1.get ((f1.put (f2.put (f3.put (f4.put x (f3.get (f2.get (f1.get s)))) (f2.get (f1.get s))) (f1.get s)) s)))))=g4.get (g3.get (f2.get (f1.get (s))));rw [h1.same,h2.same,h.l]
theorem Ci {s0 s1 s2 s3 s4:Type} {f1:Ac s0 s1} {f2:Ac s1 s2} {f3:Ac s2 s3} {f4:Ac s3 s4} {g4:Ac s3 s4} (h1:f1.Law) (h2:f2.Law) (h3:f3.Law) (h:f4.Apart g4) :(Ac.oh f1 f2 f3 f4).Apart (Ac.oh f1 f2 f3 g4):=by constructor;intro x s;show g4.get (f3.get (f2.get (f1.get ((f1.put (f2.put (f3.put (f4.put x (f3.get (f2.get (f1.get s)))) (f2.get (f1.get s))) (f1.get s)) s)))))=g4.get (f3.get (f2.get (f1.get (s))));rw [h1.same,h2.same,h3.same,h.l]
theorem Lb {s0 s1 s2 s3 s4 s5 s6:Type} {f1:Ac s0 s1} {f2:Ac s1 s2} {f3:Ac s2 s3} {f4:Ac s3 s4} {f5:Ac s4 s5} {f6:Ac s5 s6} (h1:f1.Law) (h2:f2.Law) (h3:f3.Law) (h4:f4.Law) (h5:f5.Law) (h6:f6.Law) :(Ac.jW f1 f2 f3 f4 f5 f6).Law:=by constructor;intro x s;show f6.get (f5.get (f4.get (f3.get (f2.get (f1.get ((Ac.jW f1 f2 f3 f4 f5 f6).put x s))))))=x;show f6.get (f5.get (f4.get (f3.get (f2.get (f1.get ((f1.put (f2.put (f3.put (f4.put (f5.put (f6.put x (f5.get (f4.get (f3.get (f2.get (f1.get s)))))) (f4.get (f3.get (f2.get (f1.get s))))) (f3.get (f2.get (f1.get s)))) (f2.get (f1.get s))) (f1.get s)) s)))))))=x;rw [h1.same,h2.same,h3.same,h4.same,h5.same,h6.same]
theorem Cj {s0 s1 s2 s3 s4 s5 s6:Type} {f1:Ac s0 s1} {f2:Ac s1 s2} {f3:Ac s2 s3} {f4:Ac s3 s4} {f5:Ac s4 s5} {f6:Ac s5 s6} {g1:Ac s0 s1} {g2:Ac s1 s2} {g3:Ac s2 s3} {g4:Ac s3 s4} {g5:Ac s4 s5} {g6:Ac s5 s6} (h:f1.Apart g1) :(Ac.jW f1 f2 f3 f4 f5 f6).Apart (Ac.jW g1 g2 g3 g4 g5 g6):=by constructor;intro x s;show g6.get (g5.get (g4.get (g3.get (g2.get (g1.get ((f1.put (f2.put (f3.put (f4.put (f5.put (f6.put x (f5.get (f4.get (f3.get (f2.get (f1.get s)))))) (f4.get (f3.get (f2.get (f1.get s))))) (f3.get (f2.get (f1.get s)))) (f2.get (f1.get s))) (f1.get s)) s)))))))=g6.get (g5.get (g4.get (g3.get (g2.get (g1.get (s))))));rw [h.l]
theorem Ck {s0 s1 s2 s3 s4 s5 s6:Type} {f1:Ac s0 s1} {f2:Ac s1 s2} {f3:Ac s2 s3} {f4:Ac s3 s4} {f5:Ac s4 s5} {f6:Ac s5 s6} {g2:Ac s1 s2} {g3:Ac s2 s3} {g4:Ac s3 s4} {g5:Ac s4 s5} {g6:Ac s5 s6} (h1:f1.Law) (h:f2.Apart g2) :(Ac.jW f1 f2 f3 f4 f5 f6).Apart (Ac.jW f1 g2 g3 g4 g5 g6):=by constructor;intro x s;show g6.get (g5.get (g4.get (g3.get (g2.get (f1.get ((f1.put (f2.put (f3.put (f4.put (f5.put (f6.put x (f5.get (f4.get (f3.get (f2.get (f1.get s)))))) (f4.get (f3.get (f2.get (f1.get s))))) (f3.get (f2.get (f1.get s)))) (f2.get (f1.get s))) (f1.get s)) s)))))))=g6.get (g5.get (g4.get (g3.get (g2.get (f1.get (s))))));rw [h1.same,h.l]
theorem Cl {s0 s1 s2 s3 s4 s5 s6:Type} {f1:Ac s0 s1} {f2:Ac s1 s2} {f3:Ac s2 s3} {f4:Ac s3 s4} {f5:Ac s4 s5} {f6:Ac s5 s6} {g3:Ac s2 s3} {g4:Ac s3 s4} {g5:Ac s4 s5} {g6:Ac s5 s6} (h1:f1.Law) (h2:f2.Law) (h:f3.Apart g3) :(Ac.jW f1 f2 f3 f4 f5 f6).Apart (Ac.jW f1 f2 g3 g4 g5 g6):=by constructor;intro x s;show g6.get (g5.get (g4.get (g3.get (f2.get (f1.get ((f1.put (f2.put (f3.put (f4.put (f5.put (f6.put x (f5.get (f4.get (f3.get (f2.get (f1.get s)))))) (f4.get (f3.get (f2.get (f1.get s))))) (f3.get (f2.get (f1.get s)))) (f2.get (f1.get s))) (f1.get s)) s)))))))=g6.get (g5.get (g4.get (g3.get (f2.get (f1.get (s))))));rw [h1.same,h2.same,h.l]
theorem Cm {s0 s1 s2 s3 s4 s5 s6:Type} {f1:Ac s0 s1} {f2:Ac s1 s2} {f3:Ac s2 s3} {f4:Ac s3 s4} {f5:Ac s4 s5} {f6:Ac s5 s6} {g4:Ac s3 s4} {g5:Ac s4 s5} {g6:Ac s5 s6} (h1:f1.Law) (h2:f2.Law) (h3:f3.Law) (h:f4.Apart g4) :(Ac.jW f1 f2 f3 f4 f5 f6).Apart (Ac.jW f1 f2 f3 g4 g5 g6):=by constructor;intro x s;show g6.get (g5.get (g4.get (f3.get (f2.get (f1.get ((f1.put (f2.put (f3.put (f4.put (f5.put (f6.put x (f5.get (f4.get (f3.get (f2.get (f1.get s)))))) (f4.get (f3.get (f2.get (f1.get s))))) (f3.get (f2.get (f1.get s)))) (f2.get (f1.get s))) (f1.get s)) s)))))))=g6.get (g5.get (g4.get (f3.get (f2.get (f1.get (s))))));rw [h1.same,h2.same,h3.same,h.l]
theorem Cn {s0 s1 s2 s3 s4 s5 s6:Type} {f1:Ac s0 s1} {f2:Ac s1 s2} {f3:Ac s2 s3} {f4:Ac s3 s4} {f5:Ac s4 s5} {f6:Ac s5 s6} {g5:Ac s4 s5} {g6:Ac s5 s6} (h1:f1.Law) (h2:f2.Law) (h3:f3.Law) (h4:f4.Law) (h:f5.Apart g5) :(Ac.jW f1 f2 f3 f4 f5 f6).Apart (Ac.jW f1 f2 f3 f4 g5 g6):=by constructor;intro x s;show g6.get (g5.get (f4.get (f3.get (f2.get (f1.get ((f1.put (f2.put (f3.put (f4.put (f5.put (f6.put x (f5.get (f4.get (f3.get (f2.get (f1.get s)))))) (f4.get (f3.get (f2.get (f1.get s))))) (f3.get (f2.get (f1.get s)))) (f2.get (f1.get s))) (f1.get s)) s)))))))=g6.get (g5.get (f4.get (f3.get (f2.get (f1.get (s))))));rw [h1.same,h2.same,h3.same,h4.same,h.l]
theorem Co {s0 s1 s2 s3 s4 s5 s6:Type} {f1:Ac s0 s1} {f2:Ac s1 s2} {f3:Ac s2 s3} {f4:Ac s3 s4} {f5:Ac s4 s5} {f6:Ac s5 s6} {g6:Ac s5 s6} (h1:f1.Law) (h2:f2.Law) (h3:f3.Law) (h4:f4.Law) (h5:f5.Law) (h:f6.Apart g6) :(Ac.jW f1 f2 f3 f4 f5 f6).Apart (Ac.jW f1 f2 f3 f4 f5 g6):=by constructor;intro x s;show g6.get (f5.get (f4.get (f3.get (f2.get (f1.get ((f1.put (f2.put (f3.put (f4.put (f5.put (f6.put x (f5.get (f4.get (f3.get (f2.get (f1.get s)))))) (f4.get (f3.get (f2.get (f1.get s))))) (f3.get (f2.get (f1.get s)))) (f2.get (f1.get s))) (f1.get s)) s)))))))=g6.get (f5.get (f4.get (f3.get (f2.get (f1.get (s))))));rw [h1.same,h2.same,h3.same,h4.same,h5.same,h.l]
theorem jQ {α:Type} (i:Nat) (x:α) (s:T3 α) :(dN i).get ((dN i).put x s)=x:=(K9 (bO _) (bO _) (bO _)).same x s
theorem Je {α:Type} {i j:Nat} (hi:i<512) (hj:j<512) (h:i≠j) (x:α) (s:T3 α) :(dN j).get ((dN i).put x s) =(dN j).get s:=by
 unfold dN;by_cases e1:mQ i 64=mQ j 64
 case neg=>exact (Ca (dV (Nat.mod_lt _ (by decide)) (Nat.mod_lt _ (by decide)) e1)).l x s
 by_cases e2:mQ i 8=mQ j 8
 case neg=>rw [<-e1];exact (Cb (bO _) (dV (Nat.mod_lt _ (by decide)) (Nat.mod_lt _ (by decide)) e2)).l x s
 by_cases e3:mQ i 1=mQ j 1
 case neg=>rw [<-e1,<-e2];exact (Cc (bO _) (bO _) (dV (Nat.mod_lt _ (by decide)) (Nat.mod_lt _ (by decide)) e3)).l x s
 exfalso;have q1:i / 64 % 8=j / 64 % 8:=e1;have q2:i / 8 % 8=j / 8 % 8:=e2;have q3:i / 1 % 8=j / 1 % 8:=e3;omega
theorem KP {α:Type} (i:Nat) (x:α) (s:T4 α) :(yC i).get ((yC i).put x s)=x:=(La (bO _) (bO _) (bO _) (bO _)).same x s
theorem Rs {α:Type} {i j:Nat} (hi:i<4096) (hj:j<4096) (h:i≠j) (x:α) (s:T4 α) :(yC j).get ((yC i).put x s) =(yC j).get s:=by
 unfold yC;by_cases e1:mQ i 512=mQ j 512
 case neg=>exact (Ce (dV (Nat.mod_lt _ (by decide)) (Nat.mod_lt _ (by decide)) e1)).l x s
 by_cases e2:mQ i 64=mQ j 64
 case neg=>rw [<-e1];exact (Cg (bO _) (dV (Nat.mod_lt _ (by decide)) (Nat.mod_lt _ (by decide)) e2)).l x s
 by_cases e3:mQ i 8=mQ j 8
 case neg=>rw [<-e1,<-e2];exact (Ch (bO _) (bO _) (dV (Nat.mod_lt _ (by decide)) (Nat.mod_lt _ (by decide)) e3)).l x s
 by_cases e4:mQ i 1=mQ j 1
 case neg=>rw [<-e1,<-e2,<-e3];exact (Ci (bO _) (bO _) (bO _) (dV (Nat.mod_lt _ (by decide)) (Nat.mod_lt _ (by decide)) e4)).l x s
 exfalso;have q1:i / 512 % 8=j / 512 % 8:=e1;have q2:i / 64 % 8=j / 64 % 8:=e2;have q3:i / 8 % 8=j / 8 % 8:=e3;have q4:i / 1 % 8=j / 1 % 8:=e4;omega
theorem KQ {α:Type} (i:Nat) (x:α) (s:T6 α) :(BZ i).get ((BZ i).put x s)=x:=(Lb (bO _) (bO _) (bO _) (bO _) (bO _) (bO _)).same x s
theorem Rt {α:Type} {i j:Nat} (hi:i<262144) (hj:j<262144) (h:i≠j) (x:α) (s:T6 α) :(BZ j).get ((BZ i).put x s) =(BZ j).get s:=by
 unfold BZ;by_cases e1:mQ i 32768=mQ j 32768
 case neg=>exact (Cj (dV (Nat.mod_lt _ (by decide)) (Nat.mod_lt _ (by decide)) e1)).l x s
 by_cases e2:mQ i 4096=mQ j 4096
 case neg=>rw [<-e1];exact (Ck (bO _) (dV (Nat.mod_lt _ (by decide)) (Nat.mod_lt _ (by decide)) e2)).l x s
 by_cases e3:mQ i 512=mQ j 512
 case neg=>rw [<-e1,<-e2];exact (Cl (bO _) (bO _) (dV (Nat.mod_lt _ (by decide)) (Nat.mod_lt _ (by decide)) e3)).l x s
 by_cases e4:mQ i 64=mQ j 64
 case neg=>rw [<-e1,<-e2,<-e3];exact (Cm (bO _) (bO _) (bO _) (dV (Nat.mod_lt _ (by decide)) (Nat.mod_lt _ (by decide)) e4)).l x s
 by_cases e5:mQ i 8=mQ j 8
 case neg=>rw [<-e1,<-e2,<-e3,<-e4];exact (Cn (bO _) (bO _) (bO _) (bO _) (dV (Nat.mod_lt _ (by decide)) (Nat.mod_lt _ (by decide)) e5)).l x s
 by_cases e6:mQ i 1=mQ j 1
 case neg=>rw [<-e1,<-e2,<-e3,<-e4,<-e5];exact (Co (bO _) (bO _) (bO _) (bO _) (bO _) (dV (Nat.mod_lt _ (by decide)) (Nat.mod_lt _ (by decide)) e6)).l x s
 exfalso;have q1:i / 32768 % 8=j / 32768 % 8:=e1;have q2:i / 4096 % 8=j / 4096 % 8:=e2;have q3:i / 512 % 8=j / 512 % 8:=e3;have q4:i / 64 % 8=j / 64 % 8:=e4;have q5:i / 8 % 8=j / 8 % 8:=e5;have q6:i / 1 % 8=j / 1 % 8:=e6;omega
theorem mO {α:Type} (r:Nat) (x:α) :(d8 r:Ac (N8 α) α).get (IQ x)=x:=by
 unfold d8;cases Nat.beq r 0
 case true=>rfl
 cases Nat.beq r 1
 case true=>rfl
 cases Nat.beq r 2
 case true=>rfl
 cases Nat.beq r 3
 case true=>rfl
 cases Nat.beq r 4
 case true=>rfl
 cases Nat.beq r 5
 case true=>rfl
 cases Nat.beq r 6
 case true=>rfl
 rfl
theorem M9 {α:Type} (i:Nat) (x:α) :(dN i).get (Mx x)=x:=by show (d8 _).get ((d8 _).get ((d8 _).get (Mx x)))=x;unfold Mx;rw [mO,mO,mO]
theorem Na {α:Type} (i:Nat) (x:α) :(BZ i).get (Tx x)=x:=by show (d8 _).get ((d8 _).get ((d8 _).get ((d8 _).get ((d8 _).get ((d8 _).get (Tx x))))))=x;unfold Tx Yv Mx;rw [mO,mO,mO,mO,mO,mO]
end
end
section
open Go.RowKit
noncomputable section
inductive C where
 | int (k:IntKind) (n:Int)
 | kb (b:Bool)
 | ptr (h o:Nat)
 | gp (h v o:Nat)
 | gsl (h v e o l:Nat)
 | oth (v:V)
abbrev CT:=T4 C
inductive W where
 | c (x:C)
 | agg (t:CT) (n:Nat)
inductive U where
 | int (k:IntKind) (n:Int)
 | kb (b:Bool)
 | ptr (h o:Nat)
 | gp (h v o:Nat)
 | gsl (h v e o l:Nat)
 | oth (v:V)
 | agg (t:CT) (n:Nat)
 | tup (l:List W)
inductive Bk where
 | none
 | cells (t:CT) (n:Nat)
 | grow (ver esz:Nat) (t:CT) (n:Nat)
 | mp (es:List (V×V))
abbrev TM:=T3 U
abbrev HP:=T6 Bk
def I8:TM:=Mx (.oth .any)
def jN:HP:=Tx .none
def Jp:CT:=Yv (.oth .any)
inductive Rv where
 | go (e:Lf) (tm:TM) (hp:HP) (nx:Nat)
 | no (w:List Nat)
inductive Rf where
 | ok (u:U) (hp:HP) (nx:Nat)
 | ex (u:U) (hp:HP) (nx:Nat)
 | no (w:List Nat)
abbrev KR:=TM->HP->Nat->Rv
abbrev gE:=FuncId->List U->HP->Nat->Rf
def C.bK:C->V
 | .int k n=> .int k n
 | .kb b=> .kb b
 | .ptr h o=> .ptr h o
 | .gp h v o=> .gp h v o
 | .gsl h v e o l=> .gsl h v e o l
 | .oth v=>v
def dv (t:CT) (i:Nat):C:=Ac.rec (motive:=fun _=>CT->C) (fun g _=>g) (yC i) t
def fK (t:CT) (i:Nat) (x:C):CT:=Ac.rec (motive:=fun _=>C->CT->CT) (fun _ p=>p) (yC i) x t
def SJ:Nat:=4096
def SI:Nat:=262144
def El (h:Nat):Ac HP Bk:=Bool.rec (motive:=fun _=>Ac HP Bk) ⟨fun _=> .none,fun _ s=>s⟩ (BZ h) (Nat.ble (Nat.succ h) 262144)
def bZ (hp:HP) (h:Nat):Bk:=Ac.rec (motive:=fun _=>HP->Bk) (fun g _=>g) (El h) hp
def eV (hp:HP) (h:Nat) (b:Bk):HP:=Ac.rec (motive:=fun _=>Bk->HP->HP) (fun _ p=>p) (El h) b hp
def yn (t:CT):Nat->Nat->List V
 | 0,_=> []
 | n+1,i=>(dv t i).bK::yn t n (i+1)
def ga (t:CT) (n:Nat):List V:=yn t n 0
def K4 (v:V):C:=match v with
 | .int k n=> .int k n
 | .kb b=> .kb b
 | .ptr h o=> .ptr h o
 | .gp h v o=> .gp h v o
 | .gsl h v e o l=> .gsl h v e o l
 | v=> .oth v
def X9:List V->Nat->CT->CT:=List.rec (motive:=fun _=>Nat->CT->CT) (fun _ t=>t) (fun v _ ih i t=>ih (Nat.succ i) (fK t i (K4 v)))
def su (l:List V):CT:=X9 l 0 Jp
def W.bK:W->V
 | .c x=>x.bK
 | .agg t n=> .agg (ga t n)
def U.bK:U->V
 | .int k n=> .int k n
 | .kb b=> .kb b
 | .ptr h o=> .ptr h o
 | .gp h v o=> .gp h v o
 | .gsl h v e o l=> .gsl h v e o l
 | .oth v=>v
 | .agg t n=> .agg (ga t n)
 | .tup l=> .tup (l.map W.bK)
def Bk.vd:Bk->Option bd
 | .none=>Option.none
 | .cells t n=>some (.cells (ga t n))
 | .grow v e t n=>some (.grow v e (ga t n))
 | .mp es=>some (.mp es)
def V.JK (v:V):Bool:=
 V.rec (motive_1:=fun _=>Bool) (motive_2:=fun _=>Unit) false (fun _ _=>true) (fun _=>true) (fun _=>true) (fun _ _=>false) (fun _=>true) true (fun _ _=>true) (fun _ _ _ _=>true) (fun _ _ _ _=>true) true true (fun _ _=>true) (fun _ _=>true) (fun _ _ _ _ _=>true) (fun _ _ _=>true) (fun _=>true) (fun _ _=>true) true true (fun _ _ _=>true) (fun _cs _ih=>false) (fun _cs _ih=>false) () (fun _ _ _ _=>()) v
def Hi (l:List V):Bool:=List.rec (motive:=fun _=>Bool) true (fun v _ ih=>Bool.rec false ih v.JK) l
def je (l:List V):Bool:=Bool.rec false (Nat.ble l.length SJ) (Hi l)
def mG (v:V):U:=match v with
 | .int k n=> .int k n
 | .kb b=> .kb b
 | .bool b=> .kb b
 | .ptr h o=> .ptr h o
 | .gp h v o=> .gp h v o
 | .gsl h v e o l=> .gsl h v e o l
 | .agg cs=>Bool.rec (.oth .any) (.agg (su cs) cs.length) (je cs)
 | .tup vs=> .tup (vs.map fun v=>match v with
  | .agg cs=>Bool.rec (.c (.oth .any)) (.agg (su cs) cs.length) (je cs)
  | .bool b=> .c (.kb b)
  | v=> .c (K4 v))
 | v=> .oth v
def cU:C->U:=C.rec (motive:=fun _=>U) .int .kb .ptr .gp .gsl .oth
def wU:W->U:=W.rec (motive:=fun _=>U) cU .agg
def G5:U->(IntKind->Int->Rv)->Rv->Rv:=U.rec (motive:=fun _=>(IntKind->Int->Rv)->Rv->Rv) (fun k n f _sl=>f k n) (fun _ _ sl=>sl) (fun _ _ _ sl=>sl) (fun _ _ _ _ sl=>sl) (fun _ _ _ _ _ _ sl=>sl) (fun _ _ sl=>sl) (fun _ _ _ sl=>sl) (fun _ _ sl=>sl)
def ZZ:U->(Bool->Rv)->Rv->Rv:=U.rec (motive:=fun _=>(Bool->Rv)->Rv->Rv) (fun _ _ _ sl=>sl) (fun b f _sl=>f b) (fun _ _ _ sl=>sl) (fun _ _ _ _ sl=>sl) (fun _ _ _ _ _ _ sl=>sl) (fun _ _ sl=>sl) (fun _ _ _ sl=>sl) (fun _ _ sl=>sl)
def Jc:U->(Nat->Nat->Rv)->(Nat->Nat->Nat->Rv)->Rv->Rv:=U.rec (motive:=fun _=>(Nat->Nat->Rv)->(Nat->Nat->Nat->Rv)->Rv->Rv) (fun _ _ _ _ sl=>sl) (fun _ _ _ sl=>sl) (fun h o f _ _sl=>f h o) (fun h v o _ g _sl=>g h v o) (fun _ _ _ _ _ _ _ sl=>sl) (fun _ _ _ sl=>sl) (fun _ _ _ _ sl=>sl) (fun _ _ _ sl=>sl)
def ZY:U->(Nat->Nat->Nat->Nat->Nat->Rv)->Rv->Rv:=U.rec (motive:=fun _=>(Nat->Nat->Nat->Nat->Nat->Rv)->Rv->Rv) (fun _ _ _ sl=>sl) (fun _ _ sl=>sl) (fun _ _ _ sl=>sl) (fun _ _ _ _ sl=>sl) (fun h v e o l f _sl=>f h v e o l) (fun _ _ sl=>sl) (fun _ _ _ sl=>sl) (fun _ _ sl=>sl)
def afe (v:V) (a b sl:Rv):Rv:=match v with
 | .nilsl=>a
 | .esl=>b
 | _=>sl
def uSl:U->Rv->Rv->(Nat->Nat->Nat->Nat->Nat->Rv)->Rv->Rv:=U.rec (motive:=fun _=>Rv->Rv->(Nat->Nat->Nat->Nat->Nat->Rv)->Rv->Rv) (fun _ _ _ _ _ sl=>sl) (fun _ _ _ _ sl=>sl) (fun _ _ _ _ _ sl=>sl) (fun _ _ _ _ _ _ sl=>sl) (fun h v e o l _ _ f _sl=>f h v e o l) (fun v a b _ sl=>afe v a b sl) (fun _ _ _ _ _ sl=>sl) (fun _ _ _ _ sl=>sl)
def vFn (v:V) (k:FuncId->List V->Rv) (sl:Rv):Rv:=match v with
 | .fn f cs=>k f cs
 | _=>sl
def uFn:U->(FuncId->List V->Rv)->Rv->Rv:=U.rec (motive:=fun _=>(FuncId->List V->Rv)->Rv->Rv) (fun _ _ _ sl=>sl) (fun _ _ sl=>sl) (fun _ _ _ sl=>sl) (fun _ _ _ _ sl=>sl) (fun _ _ _ _ _ _ sl=>sl) (fun v f sl=>vFn v f sl) (fun _ _ _ sl=>sl) (fun _ _ sl=>sl)
def Un (v:V) (k sl:Rv):Rv:=Bool.rec (motive:=fun _=>Rv) sl k v.JK
def uC:U->(C->Rv)->Rv->Rv:=U.rec (motive:=fun _=>(C->Rv)->Rv->Rv) (fun k n f _sl=>f (.int k n)) (fun b f _sl=>f (.kb b)) (fun h o f _sl=>f (.ptr h o)) (fun h v o f _sl=>f (.gp h v o)) (fun h v e o l f _sl=>f (.gsl h v e o l)) (fun v f sl=>Un v (f (.oth v)) sl) (fun _ _ _ sl=>sl) (fun _ _ sl=>sl)
def Uk:U->(CT->Nat->Rv)->Rv->Rv:=U.rec (motive:=fun _=>(CT->Nat->Rv)->Rv->Rv) (fun _ _ _ sl=>sl) (fun _ _ sl=>sl) (fun _ _ _ sl=>sl) (fun _ _ _ _ sl=>sl) (fun _ _ _ _ _ _ sl=>sl) (fun _ _ sl=>sl) (fun t n f _sl=>f t n) (fun _ _ sl=>sl)
def acg:U->(List W->Rv)->Rv->Rv:=U.rec (motive:=fun _=>(List W->Rv)->Rv->Rv) (fun _ _ _ sl=>sl) (fun _ _ sl=>sl) (fun _ _ _ sl=>sl) (fun _ _ _ _ sl=>sl) (fun _ _ _ _ _ _ sl=>sl) (fun _ _ sl=>sl) (fun _ _ _ sl=>sl) (fun l f _sl=>f l)
def uCA:U->(C->Rv)->(CT->Nat->Rv)->Rv->Rv:=U.rec (motive:=fun _=>(C->Rv)->(CT->Nat->Rv)->Rv->Rv) (fun k n f _ _sl=>f (.int k n)) (fun b f _ _sl=>f (.kb b)) (fun h o f _ _sl=>f (.ptr h o)) (fun h v o f _ _sl=>f (.gp h v o)) (fun h v e o l f _ _sl=>f (.gsl h v e o l)) (fun v f _ sl=>Un v (f (.oth v)) sl) (fun t n _ g _sl=>g t n) (fun _ _ _ sl=>sl)
def acb:U->Rv->Rv->Rv->Rv:=U.rec (motive:=fun _=>Rv->Rv->Rv->Rv) (fun _ _ _ _ sl=>sl) (fun b y n _=>Bool.rec (motive:=fun _=>Rv) n y b) (fun _ _ _ _ sl=>sl) (fun _ _ _ _ _ sl=>sl) (fun _ _ _ _ _ _ _ sl=>sl) (fun _ _ _ sl=>sl) (fun _ _ _ _ sl=>sl) (fun l _ n sl=>List.rec (motive:=fun _=>Rv) n (fun _ _ _=>sl) l)
def aca:U->Rv->Rv->Rv->Rv:=U.rec (motive:=fun _=>Rv->Rv->Rv->Rv) (fun _ _ _ _ sl=>sl) (fun b y n _=>Bool.rec (motive:=fun _=>Rv) y n b) (fun _ _ _ _ sl=>sl) (fun _ _ _ _ _ sl=>sl) (fun _ _ _ _ _ _ _ sl=>sl) (fun _ _ _ sl=>sl) (fun _ _ _ _ sl=>sl) (fun l _ n sl=>List.rec (motive:=fun _=>Rv) n (fun _ _ _=>sl) l)
def kM (b:Bool) (r sl:Rv):Rv:=Bool.rec (motive:=fun _=>Rv) sl r b
def bkC:Bk->(CT->Nat->Rv)->Rv->Rv:=Bk.rec (motive:=fun _=>(CT->Nat->Rv)->Rv->Rv) (fun _ sl=>sl) (fun t n k _=>k t n) (fun _ _ _ _ _ sl=>sl) (fun _ _ sl=>sl)
def RA:Bk->(Nat->Nat->CT->Nat->Rv)->Rv->Rv:=Bk.rec (motive:=fun _=>(Nat->Nat->CT->Nat->Rv)->Rv->Rv) (fun _ sl=>sl) (fun _ _ _ sl=>sl) (fun v e t n k _=>k v e t n) (fun _ _ sl=>sl)
def gB (n:Nat) :(Nat->Rv)->Rv:=Nat.rec (motive:=fun _=>(Nat->Rv)->Rv) (fun k=>k 0) (fun n _ k=>k (Nat.succ n)) n
def PH:Int->(Nat->Rv)->Rv->Rv:=Int.rec (motive:=fun _=>(Nat->Rv)->Rv->Rv) (fun n k _=>k n) (fun _ _ sl=>sl)
def tc (dst:CT) (d:Nat) (src:CT) (s n:Nat):CT:=Nat.rec (motive:=fun _=>CT) dst (fun i acc=>fK acc (Nat.add d i) (dv src (Nat.add s i))) n
inductive TI where
 | no
 | one
 | agg (n:Nat)
def Jb (tb:bG) (t:TypeId):TI:=match tb t with
 | some td=>if td.kind.agg then .agg td.size else if td.size=1 then .one else .no
 | none=> .no
def RZ (tb:bG) (t:TypeId) (f:Nat):Option Nat:=match tb t with
 | some td=>match td.kind with
  | .struct fs=>match fs[f]? with
   | some (o,ft)=>match tb ft with
    | some tf=>if tf.size=0 then none else some o
    | none=>none
   | none=>none
  | _=>none
 | none=>none
inductive FVI where
 | no
 | at (o:Nat) (i:TI)
def WV (tb:bG) (t:TypeId) (f:Nat):FVI:=match tb t with
 | some td=>match td.kind with
  | .struct fs=>match fs[f]? with
   | some (o,ft)=> .at o (Jb tb ft)
   | none=> .no
  | _=> .no
 | none=> .no
inductive IXI where
 | no
 | sl (esz:Nat)
 | ar (len esz:Nat)
def Sc (tb:bG) (t:TypeId):IXI:=match tb t with
 | some td=>match td.kind with
  | .slice e=>match tb e with|some te=> .sl te.size|none=> .no
  | .arr len e=>match tb e with|some te=> .ar len te.size|none=> .no
  | _=> .no
 | none=> .no
inductive IVI where
 | no
 | at (len esz:Nat) (i:TI)
def Xc (tb:bG) (t:TypeId):IVI:=match tb t with
 | some td=>match td.kind with
  | .arr len e=>match tb e with|some te=> .at len te.size (Jb tb e)|none=> .no
  | _=> .no
 | none=> .no
inductive ZTI where
 | no
 | at (t:CT) (n:Nat)
def BQ (tb:bG) (t:TypeId):ZTI:=match tb t with
 | some td=>bif je td.zero then .at (su td.zero) td.zero.length else .no
 | none=> .no
def cvI (tb:bG) (s d:TypeId):Option IntKind:=match tb s,tb d with
 | some ts,some td=>match ts.kind,td.kind with
  | .int _,.int k=>some k
  | _,_=>none
 | _,_=>none
inductive PI where
 | no
 | at (o size:Nat)
def PA (tb:bG) (t:TypeId) (i:Nat):PI:=match tb t with
 | some td=>match td.kind with
  | .struct fs=>match fs[i]? with
   | some (o,ft)=>match tb ft with
    | some tf=> .at o tf.size
    | none=> .no
   | none=> .no
  | .arr _ e=>match tb e with
   | some te=> .at (i*te.size) te.size
   | none=> .no
  | _=> .no
 | none=> .no
def B3 (tb:bG) (t:TypeId):Bool:=match tb t with
 | some td=>match td.kind with
  | .struct fs=>fs.all fun q=>(tb q.2).isSome
  | .arr _ e=>(tb e).isSome
  | _=>false
 | none=>false
inductive SLI where
 | no
 | at (esz:Nat) (t:CT) (n:Nat)
def Wu (tb:bG) (t:TypeId) (n:Nat):SLI:=match tb t with
 | some td=>match td.kind with
  | .slice e=>match tb e with
   | some te=>if te.ty.isNone=true/\n<=1000/\te.size<=1000/\te.zero.length=te.size/\je (qd te.zero n)=true then .at te.size (su (qd te.zero n)) (n*te.size) else .no
   | none=> .no
  | _=> .no
 | none=> .no
inductive API where
 | no
 | at (esz bytes:Nat)
def Wn (tb:bG) (c:Call):API:=match c.argTypes.toList with
 | [t,t2]=>match tb t,tb t2 with
  | some td,some td2=>match td.kind with
   | .slice e=>match tb e with
    | some te=>if (lB tb td2).isSome=true/\te.ty.isNone=true/\0<te.bytes/\te.bytes<=1000/\te.zero.length=te.size then .at te.size te.bytes else .no
    | none=> .no
   | _=> .no
  | _,_=> .no
 | _=> .no
def Ot (tb:bG) (c:Call):Bool:=match c.argTypes.toList with
 | [t]=>match tb t with
  | some td=>Oq td.kind
  | none=>false
 | _=>false
def ZW (tb:bG) (t:TypeId):Bool:=match tb t with
 | some _=>true
 | none=>false
def YX (tb:bG) (t:TypeId):Option Nat:=match tb t with
 | some td=>lB tb td
 | none=>none
def mxK (k:IntKind):Nat:=IntKind.rec (motive:=fun _=>Nat) 127 32767 2147483647 9223372036854775807 255 65535 4294967295 18446744073709551615 k
def ikN (k:IntKind):Nat:=IntKind.rec (motive:=fun _=>Nat) 0 1 2 3 4 5 6 7 k
def W6 (k k':IntKind):Bool:=Nat.beq (ikN k) (ikN k')
def X7 (a b:Int) (f:Nat->Nat->Int) (g:Int):Int:=Int.rec (motive:=fun _=>Int) (fun x=>Int.rec (motive:=fun _=>Int) (fun y=>f x y) (fun _=>g) b) (fun _=>g) a
def X6 (a b:Int) (f:Nat->Nat->Bool) (g:Bool):Bool:=Int.rec (motive:=fun _=>Bool) (fun x=>Int.rec (motive:=fun _=>Bool) (fun y=>f x y) (fun _=>g) b) (fun _=>g) a
def X8 (a b:Int) (f:Nat->Nat->Rv) (g:Rv):Rv:=Int.rec (motive:=fun _=>Rv) (fun x=>Int.rec (motive:=fun _=>Rv) (fun y=>f x y) (fun _=>g) b) (fun _=>g) a
def CI (k:IntKind) (n:Nat) (s:Int):Int:=Bool.rec (motive:=fun _=>Int) s (.ofNat n) (Nat.ble n (mxK k))
def Wj (k:IntKind) (a b:Int):Int:=X7 a b (fun x y=>CI k (Nat.add x y) (k.wrap (a+b))) (k.wrap (a+b))
def ZG (k:IntKind) (a b:Int):Int:=X7 a b (fun x y=>Bool.rec (motive:=fun _=>Int) (k.wrap (a - b)) (CI k (Nat.sub x y) (k.wrap (a - b))) (Nat.ble y x)) (k.wrap (a - b))
def X4 (k:IntKind) (a b:Int):Int:=X7 a b (fun x y=>CI k (Nat.mul x y) (k.wrap (a*b))) (k.wrap (a*b))
def cvS (k:IntKind) (a:Int):Int:=Int.rec (motive:=fun _=>Int) (fun x=>CI k x (k.wrap a)) (fun _=>k.wrap a) a
def WN (a b:Int):Bool:=X6 a b (fun x y=>Nat.beq x y) (a==b)
def ltS (a b:Int):Bool:=X6 a b (fun x y=>Nat.ble (Nat.succ x) y) (decide (a<b))
def leS (a b:Int):Bool:=X6 a b (fun x y=>Nat.ble x y) (decide (a<=b))
def kp (b:Bool):Bool:=Bool.rec (motive:=fun _=>Bool) true false b
def aaN (ik:IntKind) (a b:Int) (k:U->Rv) (_:Rv):Rv:=k (.int ik (Wj ik a b))
def aaR (ik:IntKind) (a b:Int) (k:U->Rv) (_:Rv):Rv:=k (.int ik (ZG ik a b))
def aaO (ik:IntKind) (a b:Int) (k:U->Rv) (_:Rv):Rv:=k (.int ik (X4 ik a b))
def aaP (ik:IntKind) (a b:Int) (k:U->Rv) (sl:Rv):Rv:=X8 a b (fun x y=>kM (Nat.ble 1 y) (k (.int ik (CI ik (Nat.div x y) (ik.wrap (a.tdiv b))))) sl) sl
def aaQ (ik:IntKind) (a b:Int) (k:U->Rv) (sl:Rv):Rv:=X8 a b (fun x y=>kM (Nat.ble 1 y) (k (.int ik (.ofNat (Nat.mod x y)))) sl) sl
def fEq (_:IntKind) (a b:Int) (k:U->Rv) (_:Rv):Rv:=k (.kb (WN a b))
def fNe (_:IntKind) (a b:Int) (k:U->Rv) (_:Rv):Rv:=k (.kb (kp (WN a b)))
def fLt (_:IntKind) (a b:Int) (k:U->Rv) (_:Rv):Rv:=k (.kb (ltS a b))
def fLe (_:IntKind) (a b:Int) (k:U->Rv) (_:Rv):Rv:=k (.kb (leS a b))
def fGt (_:IntKind) (a b:Int) (k:U->Rv) (_:Rv):Rv:=k (.kb (ltS b a))
def fGe (_:IntKind) (a b:Int) (k:U->Rv) (_:Rv):Rv:=k (.kb (leS b a))
def Mk (m:Nat) (hp:HP) (b:Bk) (u:U) (k:U->HP->Rv) (sl:Rv):Rv:=kM (Nat.ble (Nat.succ m) SI) (k u (eV hp m b)) sl
def ad3 (x:U) (hp:HP) (m:Nat) (k:U->HP->Rv) (sl:Rv):Rv:=uCA x (fun c=>Mk m hp (.cells (fK Jp 0 c) 1) (.ptr m 0) k sl) (fun t n=>Mk m hp (.cells t n) (.ptr m 0) k sl) sl
abbrev M4:=CT->Nat->Nat->(U->Rv)->Rv->Rv
def Fz:M4:=fun ct n off k sl=>kM (Nat.ble (Nat.succ off) n) (k (cU (dv ct off))) sl
def Fy (m:Nat):M4:=fun ct n off k sl=>kM (Nat.ble (Nat.add off m) n) (Bool.rec (motive:=fun _=>Rv) (k (.agg (tc Jp 0 ct off m) m)) (k (.agg ct n)) (Nat.beq m n)) sl
def ldG (ld:M4) (a:U) (hp:HP) (k:U->Rv) (sl:Rv):Rv:=Jc a (fun h o=>bkC (bZ hp h) (fun ct n=>ld ct n o k sl) sl) (fun h v o=>RA (bZ hp h) (fun v' _ ct n=>kM (Nat.beq v v') (ld ct n o k sl) sl) sl) sl
abbrev V5:=U->CT->Nat->Nat->(CT->Rv)->Rv->Rv
def Vt:V5:=fun x ct n off k sl=>kM (Nat.ble (Nat.succ off) n) (uC x (fun c=>k (fK ct off c)) sl) sl
def Vs (m:Nat):V5:=fun x ct n off k sl=>Uk x (fun xt m'=>kM (Nat.beq m m') (kM (Nat.ble (Nat.add off m) n) (Bool.rec (motive:=fun _=>Rv) (k (tc ct off xt 0 m)) (k xt) (Nat.beq m n)) sl) sl) sl
def stG (st:V5) (a x:U) (hp:HP) (k:U->HP->Rv) (sl:Rv):Rv:=Jc a (fun h o=>bkC (bZ hp h) (fun ct n=>st x ct n o (fun ct=>k (.tup []) (eV hp h (.cells ct n))) sl) sl) (fun h v o=>RA (bZ hp h) (fun v' e ct n=>kM (Nat.beq v v') (st x ct n o (fun ct=>k (.tup []) (eV hp h (.grow v e ct n))) sl) sl) sl) sl
def faG (d:Nat) (x:U) (k:U->Rv) (sl:Rv):Rv:=Jc x (fun h o=>k (.ptr h (Nat.add o d))) (fun h v o=>k (.gp h v (Nat.add o d))) sl
def fvG (o:Nat) (ld:M4) (x:U) (k:U->Rv) (sl:Rv):Rv:=Uk x (fun ct n=>ld ct n o k sl) sl
def aeo (esz:Nat) (x i:U) (hp:HP) (k:U->Rv) (sl:Rv):Rv:=G5 i (fun _ n=>PH n (fun m=>ZY x (fun h v e o l=>kM (Nat.ble (Nat.succ m) l) (RA (bZ hp h) (fun v' e' _ _=>kM (Nat.beq v v') (kM (Nat.beq esz e) (kM (Nat.beq e e') (k (.gp h v (Nat.mul (Nat.add o m) e))) sl) sl) sl) sl) sl) sl) sl) sl
def aen (l esz:Nat) (x i:U) (k:U->Rv) (sl:Rv):Rv:=G5 i (fun _ n=>PH n (fun m=>kM (Nat.ble (Nat.succ m) l) (Jc x (fun h o=>k (.ptr h (Nat.add o (Nat.mul m esz)))) (fun h v o=>k (.gp h v (Nat.add o (Nat.mul m esz)))) sl) sl) sl) sl
def ixV (l esz:Nat) (ld:M4) (x i:U) (k:U->Rv) (sl:Rv):Rv:=G5 i (fun _ n=>PH n (fun m=>kM (Nat.ble (Nat.succ m) l) (Uk x (fun ct n=>ld ct n (Nat.mul m esz) k sl) sl) sl) sl) sl
abbrev KO:=IntKind->Int->Int->(U->Rv)->Rv->Rv
def Rz (f:KO) (x y:U) (k:U->Rv) (sl:Rv):Rv:=G5 x (fun ik a=>G5 y (fun ik' b=>kM (W6 ik ik') (f ik a b k sl) sl) sl) sl
def aeA (x:U) (k:U->Rv) (sl:Rv):Rv:=ZZ x (fun b=>k (.kb (kp b))) sl
def cvG (ik:IntKind) (x:U) (k:U->Rv) (sl:Rv):Rv:=G5 x (fun _ n=>k (.int ik (cvS ik n))) sl
def abp (i:Nat):List W->(U->Rv)->Rv->Rv:=Nat.rec (motive:=fun _=>List W->(U->Rv)->Rv->Rv) (List.rec (motive:=fun _=>(U->Rv)->Rv->Rv) (fun _ sl=>sl) fun w _ _ k _=>k (wU w)) (fun _ ih=>List.rec (motive:=fun _=>(U->Rv)->Rv->Rv) (fun _ sl=>sl) fun _ r _=>ih r) i
def exG (i:Nat) (x:U) (k:U->Rv) (sl:Rv):Rv:=acg x (fun l=>abp i l k sl) sl
def aey (x:U) (k:U->Rv) (sl:Rv):Rv:=Jc x (fun h o=>k (.ptr h o)) (fun h v o=>k (.gp h v o)) sl
def abv (c a b:U) (k:U->Rv) (sl:Rv):Rv:=ZZ c (fun p=>k (Bool.rec (motive:=fun _=>U) b a p)) sl
def Ws (x:Option Operand) (d:Nat) (ev:Operand->U) (k:Nat->Rv) (sl:Rv):Rv:=Option.rec (motive:=fun _=>Rv) (k d) (fun x=>G5 (ev x) (fun _ n=>PH n k sl) sl) x
def ae4 (esz:Nat) (x:U) (lo hi:Option Operand) (ev:Operand->U) (hp:HP) (k:U->Rv) (sl:Rv):Rv:=ZY x (fun h v e o l=>RA (bZ hp h) (fun v' e' _ _=>kM (Nat.beq v v') (kM (Nat.beq esz e) (kM (Nat.beq e e') (Ws lo 0 ev (fun a=>Ws hi l ev (fun b=>kM (Nat.ble b l) (kM (Nat.ble (Nat.succ a) b) (k (.gsl h v e (Nat.add o a) (Nat.sub b a))) sl) sl) sl) sl) sl) sl) sl) sl) sl
def aet (x:U) (hp:HP) (k:U->Rv) (sl:Rv):Rv:=uSl x (k (.int .i64 (.ofNat 0))) (k (.int .i64 (.ofNat 0))) (fun h v e _ l=>RA (bZ hp h) (fun v' e' _ _=>kM (Nat.beq v v') (kM (Nat.beq e e') (kM (Nat.ble l aW) (k (.int .i64 (.ofNat l))) sl) sl) sl) sl) sl
def gcG (hp:HP) (esz:Nat) (u:U) (k:Nat->CT->Nat->Rv) (sl:Rv):Rv:=uSl u (k 0 Jp 0) (k 0 Jp 0) (fun h v e o l=>RA (bZ hp h) (fun v' e' t n=>kM (Nat.beq v v') (kM (Nat.beq e esz) (kM (Nat.beq e' esz) (kM (Nat.ble (Nat.mul (Nat.add o l) esz) n) (k l t (Nat.mul o esz)) sl) sl) sl) sl) sl) sl
def Nf (esz bytes:Nat) (hp:HP) (m n:Nat) (xt:CT) (xo:Nat) (k:U->HP->Rv) (sl:Rv):Rv:=kM (Nat.ble (Nat.mul n bytes) 70368744177664) (kM (Nat.ble (Nat.mul n esz) SJ) (Mk m hp (.grow m esz (tc Jp 0 xt xo (Nat.mul n esz)) (Nat.mul n esz)) (.gsl m m esz 0 n) k sl) sl) sl
def apX (esz bytes:Nat) (hp:HP) (m:Nat) (s:U) (c:Nat) (xt:CT) (xo:Nat) (k:U->HP->Rv) (sl:Rv):Rv:=
 Nat.rec (motive:=fun _=>Rv) (uSl s (k s hp) (k s hp) (fun h v e _ _=>RA (bZ hp h) (fun v' e' _ _=>kM (Nat.beq v v') (kM (Nat.beq e e') (k s hp) sl) sl) sl) sl)
  (fun c _=>uSl s (Nf esz bytes hp m (Nat.succ c) xt xo k sl) (Nf esz bytes hp m (Nat.succ c) xt xo k sl)
   (fun h v e o l=>RA (bZ hp h) (fun v' e' t n=>kM (Nat.beq v v') (kM (Nat.beq e esz) (kM (Nat.beq e' esz) (kM (Nat.beq o 0) (kM (Nat.beq (Nat.mul l esz) n) (kM (Nat.ble (Nat.mul (Nat.add l (Nat.succ c)) bytes) 70368744177664) (kM (Nat.ble (Nat.add n (Nat.mul (Nat.succ c) esz)) SJ)
    (k (.gsl h m esz 0 (Nat.add l (Nat.succ c))) (eV hp h (.grow m esz (tc t n xt xo (Nat.mul (Nat.succ c) esz)) (Nat.add n (Nat.mul (Nat.succ c) esz))))) sl) sl) sl) sl) sl) sl) sl) sl) sl)
  c
def apG (esz bytes:Nat) (s x:U) (hp:HP) (nx:Nat) (k:U->HP->Rv) (sl:Rv):Rv:=gcG hp esz x (fun c xt xo=>gB nx fun m=>apX esz bytes hp m s c xt xo k sl) sl
def Jl (l:List Operand) (ev:Operand->U):List V:=List.rec (motive:=fun _=>List V) [] (fun x _ ih=>(ev x).bK::ih) l
structure En where
 e0:Nat
 e1:Nat
 e2:Nat
 e3:Nat
def yE:En:=⟨0,0,0,0⟩
abbrev Gt:=U->U->U->U->TM->U
def jD (K i:Nat):Bool:=Bool.rec (motive:=fun _=>Bool) false (Nat.beq (Nat.mod (Nat.shiftRight K i) 2) 1) (Nat.ble (Nat.succ i) 512)
def u0:U:= .oth .any
def eZ (K:Nat) (e:En) (i:Nat):Gt:=
 Bool.rec (motive:=fun _=>Gt) (Bool.rec (motive:=fun _=>Gt) (Bool.rec (motive:=fun _=>Gt) (Bool.rec (motive:=fun _=>Gt) (Bool.rec (motive:=fun _=>Gt) (fun _ _ _ _ _=>u0) (Ac.rec (motive:=fun _=>Gt) (fun g _=>fun _ _ _ _ tm=>g tm) (dN i)) (jD K i))
  (fun _ _ _ r _=>r) (Nat.beq e.e3 (Nat.succ i))) (fun _ _ r _ _=>r) (Nat.beq e.e2 (Nat.succ i))) (fun _ r _ _ _=>r) (Nat.beq e.e1 (Nat.succ i))) (fun r _ _ _ _=>r) (Nat.beq e.e0 (Nat.succ i))
def nv (K:Nat) (e:En) (x:Operand):Gt:=Operand.rec (motive:=fun _=>Gt) (fun i=>eZ K e i) (fun v _ _ _ _ _=>mG (cv v)) (fun _ _ _ _ _ _=>u0) (fun f _ _ _ _ _=> .oth (.fn f [])) x
def Nh (l:List Gt):U->U->U->U->TM->List V->List U:=List.rec (motive:=fun _=>U->U->U->U->TM->List V->List U) (fun _ _ _ _ _ cs=>cs.map mG) (fun g _ ih a b c d tm cs=>g a b c d tm::ih a b c d tm cs) l
def aea (l:List Gt) (f a b c d:U) (tm:TM) (k:FuncId->List U->Rv) (sl:Rv):Rv:=uFn f (fun g cs=>kM (c8 cs) (k g (Nh l a b c d tm cs)) sl) sl
inductive PG where
 | at (o s:Nat) (g:Gt)
def NY (a b c d:U) (tm:TM) (n:Nat) (l:List PG):CT->(CT->Rv)->Rv->Rv:=List.rec (motive:=fun _=>CT->(CT->Rv)->Rv->Rv) (fun t k _=>k t)
 (fun q _ ih t k sl=>PG.rec (motive:=fun _=>Rv) (fun o s g=>kM (Nat.ble (Nat.add o s) n) (uCA (g a b c d tm) (fun x=>kM (Nat.beq s 1) (ih (fK t o x) k sl) sl) (fun xt m=>kM (Nat.beq s m) (ih (tc t o xt 0 m) k sl) sl) sl) sl) q) l
def ad4 (esz n:Nat) (z:CT) (len:Nat) (a b c d:U) (tm:TM) (l:List PG) (hp:HP) (nx:Nat) (k:U->HP->Rv) (sl:Rv):Rv:=NY a b c d tm len l z (fun t=>gB nx fun m=>Mk m hp (.grow m esz t len) (.gsl m m esz 0 n) k sl) sl
abbrev VaF:=U->U->U->U->TM->HP->Nat->(U->Rv)->Rv->Rv
abbrev MeF:=U->U->U->U->TM->HP->Nat->(U->HP->Rv)->Rv->Rv
abbrev CaF:=U->U->U->U->TM->(FuncId->List U->Rv)->Rv->Rv
inductive Stp where
 | slow
 | val (f:VaF)
 | mem (f:MeF)
 | cal (f:CaF)
def Od (K:Nat) (e:En) (i:Nat) (k:Gt->Stp):Stp:=
 Bool.rec (motive:=fun _=>Stp) (Bool.rec (motive:=fun _=>Stp) (Bool.rec (motive:=fun _=>Stp) (Bool.rec (motive:=fun _=>Stp) (Bool.rec (motive:=fun _=>Stp) (k fun _ _ _ _ _=>u0) (Ac.rec (motive:=fun _=>Stp) (fun g _=>k fun _ _ _ _ tm=>g tm) (dN i)) (jD K i))
  (k fun _ _ _ r _=>r) (Nat.beq e.e3 (Nat.succ i))) (k fun _ _ r _ _=>r) (Nat.beq e.e2 (Nat.succ i))) (k fun _ r _ _ _=>r) (Nat.beq e.e1 (Nat.succ i))) (k fun r _ _ _ _=>r) (Nat.beq e.e0 (Nat.succ i))
def fe (K:Nat) (e:En) (x:Operand) (k:Gt->Stp):Stp:=Operand.rec (motive:=fun _=>Stp) (fun i=>Od K e i k) (fun v=>U.rec (motive:=fun _=>Stp) (fun ik n=>k fun _ _ _ _ _=> .int ik n) (fun b=>k fun _ _ _ _ _=> .kb b) (fun h o=>k fun _ _ _ _ _=> .ptr h o) (fun h v o=>k fun _ _ _ _ _=> .gp h v o) (fun h v e o l=>k fun _ _ _ _ _=> .gsl h v e o l) (fun v=>k fun _ _ _ _ _=> .oth v) (fun t n=>k fun _ _ _ _ _=> .agg t n) (fun l=>k fun _ _ _ _ _=> .tup l) (mG (cv v))) (fun _=>k fun _ _ _ _ _=>u0) (fun f=>k fun _ _ _ _ _=> .oth (.fn f [])) x
def UQ (K:Nat) (e:En) (l:List Operand) :(List Gt->Stp)->Stp:=List.rec (motive:=fun _=>(List Gt->Stp)->Stp) (fun k=>k []) (fun x _ ih k=>fe K e x fun g=>ih fun gs=>k (g::gs)) l
def Dn (K:Nat) (e:En) (pi:Nat->PI) (l:List (Nat×Operand)) :(List PG->Stp)->Stp:=List.rec (motive:=fun _=>(List PG->Stp)->Stp) (fun k=>k []) (fun q _ ih k=>PI.rec (motive:=fun _=>Stp) .slow (fun o s=>fe K e q.2 fun g=>ih fun gs=>k (.at o s g::gs)) (pi q.1)) l
def Jk (x:Operand) (K:Nat) (e:En) (_:bG):Stp:=fe K e x fun gx=> .val fun a b c d tm _ _ k _=>k (gx a b c d tm)
def Ux (p x y:Operand) (K:Nat) (e:En) (_:bG):Stp:=fe K e p fun gp=>fe K e x fun gx=>fe K e y fun gy=> .val fun a b c d tm _ _=>abv (gp a b c d tm) (gx a b c d tm) (gy a b c d tm)
def Hp (t:TypeId) (_:Nat) (_:En) (tb:bG):Stp:=ZTI.rec (motive:=fun _=>Stp) .slow (fun z n=> .mem fun _ _ _ _ _ hp nx k sl=>gB nx fun m=>Mk m hp (.cells z n) (.ptr m 0) k sl) (BQ tb t)
def aaA (_:TypeId) (x:Operand) (K:Nat) (e:En) (_:bG):Stp:=fe K e x fun gx=> .mem fun a b c d tm hp nx k sl=>gB nx fun m=>ad3 (gx a b c d tm) hp m k sl
def ldS (i:TI) :(M4->Stp)->Stp:=TI.rec (motive:=fun _=>(M4->Stp)->Stp) (fun _=> .slow) (fun k=>k Fz) (fun n k=>k (Fy n)) i
def Uw (t:TypeId) (x:Operand) (K:Nat) (e:En) (tb:bG):Stp:=ldS (Jb tb t) fun ld=>fe K e x fun gx=> .val fun a b c d tm hp _=>ldG ld (gx a b c d tm) hp
def stS (i:TI) :(V5->Stp)->Stp:=TI.rec (motive:=fun _=>(V5->Stp)->Stp) (fun _=> .slow) (fun k=>k Vt) (fun n k=>k (Vs n)) i
def Nw (t:TypeId) (x y:Operand) (K:Nat) (e:En) (tb:bG):Stp:=stS (Jb tb t) fun st=>fe K e x fun gx=>fe K e y fun gy=> .mem fun a b c d tm hp _=>stG st (gx a b c d tm) (gy a b c d tm) hp
def cFA (t:TypeId) (x:Operand) (f:Nat) (K:Nat) (e:En) (tb:bG):Stp:=Option.rec (motive:=fun _=>Stp) .slow (fun o=>fe K e x fun gx=> .val fun a b c d tm _ _=>faG o (gx a b c d tm)) (RZ tb t f)
def cFV (t:TypeId) (x:Operand) (f:Nat) (K:Nat) (e:En) (tb:bG):Stp:=FVI.rec (motive:=fun _=>Stp) .slow (fun o i=>ldS i fun ld=>fe K e x fun gx=> .val fun a b c d tm _ _=>fvG o ld (gx a b c d tm)) (WV tb t f)
def cIA (t:TypeId) (x i:Operand) (K:Nat) (e:En) (tb:bG):Stp:=IXI.rec (motive:=fun _=>Stp) .slow
 (fun esz=>fe K e x fun gx=>fe K e i fun gi=> .val fun a b c d tm hp _=>aeo esz (gx a b c d tm) (gi a b c d tm) hp)
 (fun l esz=>fe K e x fun gx=>fe K e i fun gi=> .val fun a b c d tm _ _=>aen l esz (gx a b c d tm) (gi a b c d tm)) (Sc tb t)
def WC (t:TypeId) (x i:Operand) (K:Nat) (e:En) (tb:bG):Stp:=IVI.rec (motive:=fun _=>Stp) .slow (fun l esz ti=>ldS ti fun ld=>fe K e x fun gx=>fe K e i fun gi=> .val fun a b c d tm _ _=>ixV l esz ld (gx a b c d tm) (gi a b c d tm)) (Xc tb t)
def ad1 (op:BinOp) :(KO->Stp)->Stp:=BinOp.rec (motive:=fun _=>(KO->Stp)->Stp)
 (fun k=>k aaN) (fun k=>k aaR) (fun k=>k aaO) (fun k=>k aaP) (fun k=>k aaQ) (fun _=> .slow) (fun _=> .slow) (fun _=> .slow) (fun _=> .slow) (fun _=> .slow) (fun _=> .slow)
 (fun k=>k fEq) (fun k=>k fNe) (fun k=>k fLt) (fun k=>k fLe) (fun k=>k fGt) (fun k=>k fGe) op
def Wy (op:BinOp) (t:TypeId) (x y:Operand) (_:TypeId) (K:Nat) (e:En) (tb:bG):Stp:=Bool.rec (motive:=fun _=>Stp) .slow (ad1 op fun f=>fe K e x fun gx=>fe K e y fun gy=> .val fun a b c d tm _ _=>Rz f (gx a b c d tm) (gy a b c d tm)) (ZW tb t)
def cUn (op:UnOp) (_:TypeId) (x:Operand) (K:Nat) (e:En) (_:bG):Stp:=UnOp.rec (motive:=fun _=>Stp) .slow .slow (fe K e x fun gx=> .val fun a b c d tm _ _=>aeA (gx a b c d tm)) .slow op
def Ns (s t:TypeId) (x:Operand) (K:Nat) (e:En) (tb:bG):Stp:=Option.rec (motive:=fun _=>Stp) .slow (fun ik=>fe K e x fun gx=> .val fun a b c d tm _ _=>cvG ik (gx a b c d tm)) (cvI tb s t)
def cMF (fn:Fn) (first caps:Array Operand) (K:Nat) (e:En) (_:bG):Stp:=match fn with
 | .func f=>Bool.rec (motive:=fun _=>Stp) .slow (.val fun a b c d tm _ _ k sl=>kM (c8 (Jl caps.toList fun x=>nv K e x a b c d tm)) (k (.oth (.fn f (Jl caps.toList fun x=>nv K e x a b c d tm)))) sl) (Nat.beq first.size 0)
 | _=> .slow
def aaC (x:Operand) (i:Nat) (K:Nat) (e:En) (_:bG):Stp:=fe K e x fun gx=> .val fun a b c d tm _ _=>exG i (gx a b c d tm)
def aaD (x:Operand) (K:Nat) (e:En) (_:bG):Stp:=fe K e x fun gx=> .val fun a b c d tm _ _=>aey (gx a b c d tm)
def Hq (t:TypeId) (parts:Array (Nat×Operand)) (K:Nat) (e:En) (tb:bG):Stp:=Bool.rec (motive:=fun _=>Stp) .slow (ZTI.rec (motive:=fun _=>Stp) .slow (fun z n=>Dn K e (PA tb t) parts.toList fun gs=> .val fun a b c d tm _ _ k sl=>NY a b c d tm n gs z (fun t=>k (.agg t n)) sl) (BQ tb t)) (B3 tb t)
def Wx (t:TypeId) (n:Nat) (parts:Array (Nat×Operand)) (K:Nat) (e:En) (tb:bG):Stp:=SLI.rec (motive:=fun _=>Stp) .slow (fun esz z len=>Dn K e (fun i=> .at (Nat.mul i esz) esz) parts.toList fun gs=> .mem fun a b c d tm hp nx=>ad4 esz n z len a b c d tm gs hp nx) (Wu tb t n)
def Hr (t:TypeId) (x:Operand) (lo hi mx:Option Operand) (K:Nat) (e:En) (tb:bG):Stp:=Option.rec (motive:=fun _=>Stp) (Option.rec (motive:=fun _=>Stp) .slow (fun esz=>fe K e x fun gx=> .val fun a b c d tm hp _=>ae4 esz (gx a b c d tm) lo hi (fun x=>nv K e x a b c d tm) hp) (YX tb t)) (fun _=> .slow) mx
def Iv (l:List Operand) (k:Operand->Stp):Stp:=List.rec (motive:=fun _=>Stp) .slow (fun x r _=>List.rec (motive:=fun _=>Stp) (k x) (fun _ _ _=> .slow) r) l
def Q3 (l:List Operand) (k:Operand->Operand->Stp):Stp:=List.rec (motive:=fun _=>Stp) .slow (fun x r _=>Iv r (k x)) l
def WD (q:Call) (K:Nat) (e:En) (tb:bG):Stp:=Bool.rec (motive:=fun _=>Stp) .slow (Iv q.args.toList fun x=>fe K e x fun gx=> .val fun a b c d tm hp _=>aet (gx a b c d tm) hp) (Ot tb q)
def Ww (q:Call) (K:Nat) (e:En) (tb:bG):Stp:=API.rec (motive:=fun _=>Stp) .slow (fun esz bytes=>Q3 q.args.toList fun s x=>fe K e s fun gs=>fe K e x fun gx=> .mem fun a b c d tm hp nx=>apG esz bytes (gs a b c d tm) (gx a b c d tm) hp nx) (Wn tb q)
def jI (_:Call) (_:Nat) (_:En) (_:bG):Stp:= .slow
def aaB (b:Builtin):Call->Nat->En->bG->Stp:=Builtin.rec (motive:=fun _=>Call->Nat->En->bG->Stp) Ww jI jI jI jI jI jI jI WD jI jI jI jI jI jI jI jI jI jI jI jI jI jI jI jI jI b
def Nq (q:Call) (K:Nat) (e:En) (tb:bG):Stp:=Callee.rec (motive:=fun _=>Stp) (fun f=>fe K e f fun gf=>UQ K e q.args.toList fun gs=> .cal fun a b c d tm=>aea gs (gf a b c d tm) a b c d tm) (fun _ _=> .slow) (fun b=>aaB b q K e tb) q.callee
def cmp (K:Nat) (e:En) (tb:bG) (op:Op):Stp:=Op.rec (motive:=fun _=>Nat->En->bG->Stp)
 Jk
 Jk
 Ux
 Hp
 aaA
 Hq
 Wx
 (fun _ _ _ _ _ _ _=> .slow)
 Uw
 Nw
 (fun _ _ _ _=> .slow)
 (fun _ _ _ _=> .slow)
 aaD
 Wy
 cUn
 Ns
 (fun _ _ _ _ _=> .slow)
 (fun _ _ _ _ _=> .slow)
 cMF
 (fun _ _ _ _ _=> .slow)
 (fun _ _ _ _ _=> .slow)
 (fun _ _ _ _ _ _=> .slow)
 Hr
 cFA
 cFV
 cIA
 WC
 (fun _ _ _ _ _ _ _=> .slow)
 (fun _ _ _ _ _ _ _=> .slow)
 (fun _ _ _ _ _ _=> .slow)
 (fun _ _ _ _ _ _ _=> .slow)
 (fun _ _ _ _ _=> .slow)
 (fun _ _ _ _ _=> .slow)
 (fun _ _ _ _=> .slow)
 (fun _ _ _ _ _ _ _=> .slow)
 aaC
 Nq
 (fun _ _ _ _=> .slow)
 (fun _ _ _ _=> .slow)
 (fun _ _ _ _=> .slow)
 (fun _ _ _ _ _=> .slow)
 (fun _ _ _ _ _ _=> .slow)
 (fun _ _ _ _ _=> .slow) op K e tb
def fi (hp:HP):a6:=fun h=>(bZ hp h).vd
def xT:List (Nat×bd)->HP->Option HP
 | [],hp=>some hp
 |(h,b)::r,hp=>match xT r hp with
  | some hp=>bif Nat.ble (Nat.succ h) SI then match b with
   | .cells cs=>bif je cs then some (eV hp h (.cells (su cs) cs.length)) else none
   | .grow v e cs=>bif je cs then some (eV hp h (.grow v e (su cs) cs.length)) else none
   | .mp es=>some (eV hp h (.mp es))
   | .row _ _ _ _=>none
   | .abs _ _ _=>none
   else none
  | none=>none
def Xe:V->V
 | .agg cs=> .agg (cs.map oa)
 | .tup vs=> .tup (vs.map fun v=>match v with
  | .agg cs=> .agg (cs.map oa)
  | v=>oa v)
 | v=>oa v
def Vr (tb:bG) (N:Nat) (op:Op) (ev:Operand->U) (hp:HP) (nx:Nat) (k:U->HP->Rv):Rv:=gB nx fun nx=>
 match wq tb N nx (fi hp) (fun x=>(ev x).bK) op with
 | some (ps,v,dh)=>match UO ps with
  | true=>match xT dh hp with
   | some hp=>k (mG (Xe v)) hp
   | none=> .no [104]
  | false=> .no [100]
 | none=> .no [101]
abbrev RgF:=U->U->U->U->gE->TM->HP->Nat->Rv
structure Cds where
 run:RgF
abbrev adj:=U->TM->TM
inductive DK where
 | none
 | drop
 | keep (p:adj)
def we (K:Nat) (d:Option Nat):DK:=Option.rec (motive:=fun _=>DK) .none (fun i=>Bool.rec (motive:=fun _=>DK) .drop (Ac.rec (motive:=fun _=>DK) (fun _ p=> .keep p) (dN i)) (jD K i)) d
def Z4 (e:En) (d:Option Nat):En:=Option.rec (motive:=fun _=>En) e (fun i=>⟨Nat.succ i,e.e0,e.e1,e.e2⟩) d
def mo (dk:DK) (nxt:Cds):U->U->U->U->U->gE->TM->HP->Nat->Rv:=DK.rec (motive:=fun _=>U->U->U->U->U->gE->TM->HP->Nat->Rv)
 (fun _ a b c d call tm hp nx=>Cds.run nxt a b c d call tm hp nx)
 (fun u a b c _ call tm hp nx=>Cds.run nxt u a b c call tm hp nx)
 (fun p u a b c _ call tm hp nx=>Cds.run nxt u a b c call (p u tm) hp nx) dk
def aaF (r:Rf):FuncId->(U->HP->Nat->Rv)->Rv:=Rf.rec (motive:=fun _=>FuncId->(U->HP->Nat->Rv)->Rv) (fun v hp nx _ k=>k v hp nx) (fun v hp nx _ k=>k v hp nx) (fun w g _=> .no (g::w)) r
def sN (tb:bG) (N K:Nat) (e:En) (op:Op) (dk:DK) (nxt:Cds) (a b c d:U) (call:gE) (tm:TM) (hp:HP) (nx:Nat):Rv:=Vr tb N op (fun x=>nv K e x a b c d tm) hp nx fun u hp=>mo dk nxt u a b c d call tm hp (Nat.succ nx)
def DZ (tb:bG) (N K:Nat) (e:En) (op:Op) (dk:DK) (nxt:Cds) (s:Stp):Cds:=Stp.rec (motive:=fun _=>Cds)
 ⟨sN tb N K e op dk nxt⟩
 (fun f=>DK.rec (motive:=fun _=>Cds)
  ⟨fun a b c d call tm hp nx=>f a b c d tm hp nx (fun _=>Cds.run nxt a b c d call tm hp (Nat.succ nx)) (sN tb N K e op dk nxt a b c d call tm hp nx)⟩
  ⟨fun a b c d call tm hp nx=>f a b c d tm hp nx (fun u=>Cds.run nxt u a b c call tm hp (Nat.succ nx)) (sN tb N K e op dk nxt a b c d call tm hp nx)⟩
  (fun p=>⟨fun a b c d call tm hp nx=>f a b c d tm hp nx (fun u=>Cds.run nxt u a b c call (p u tm) hp (Nat.succ nx)) (sN tb N K e op dk nxt a b c d call tm hp nx)⟩) dk)
 (fun f=>⟨fun a b c d call tm hp nx=>f a b c d tm hp nx (fun u hp=>mo dk nxt u a b c d call tm hp (Nat.succ nx)) (sN tb N K e op dk nxt a b c d call tm hp nx)⟩)
 (fun f=>⟨fun a b c d call tm hp nx=>f a b c d tm (fun g args=>aaF (call g args hp nx) g fun u hp nx=>mo dk nxt u a b c d call tm hp nx) (sN tb N K e op dk nxt a b c d call tm hp nx)⟩) s
def N1 (all:List Oper) (j:Nat):Option Nat:=match all[j]? with
 | some oj=>oj.dst
 | none=>none
def aaz:Cds:=⟨fun _ _ _ _ _ _ _ _=> .no [102]⟩
def N9 (K:Nat) (e:En) (i:Nat) (k:Gt->Cds):Cds:=
 Bool.rec (motive:=fun _=>Cds) (Bool.rec (motive:=fun _=>Cds) (Bool.rec (motive:=fun _=>Cds) (Bool.rec (motive:=fun _=>Cds) (Bool.rec (motive:=fun _=>Cds) (k fun _ _ _ _ _=>u0) (Ac.rec (motive:=fun _=>Cds) (fun g _=>k fun _ _ _ _ tm=>g tm) (dN i)) (jD K i))
  (k fun _ _ _ r _=>r) (Nat.beq e.e3 (Nat.succ i))) (k fun _ _ r _ _=>r) (Nat.beq e.e2 (Nat.succ i))) (k fun _ r _ _ _=>r) (Nat.beq e.e1 (Nat.succ i))) (k fun r _ _ _ _=>r) (Nat.beq e.e0 (Nat.succ i))
def gdC (K:Nat) (e:En) (dj:Nat) (want:Bool) (dk:DK) (nxt un:Cds):Cds:=N9 K e dj fun g=>Bool.rec (motive:=fun _=>Cds)
 ⟨fun a b c d call tm hp nx=>aca (g a b c d tm) (Cds.run un a b c d call tm hp nx) (mo dk nxt (.tup []) a b c d call tm hp nx) (.no [105])⟩
 ⟨fun a b c d call tm hp nx=>acb (g a b c d tm) (Cds.run un a b c d call tm hp nx) (mo dk nxt (.tup []) a b c d call tm hp nx) (.no [105])⟩ want
def Yi (tb:bG) (N K:Nat) (all:List Oper) (e:En) (o:Oper) (dk:DK) (nxt:Cds):Cds:=Option.rec (motive:=fun _=>Cds) (DZ tb N K e o.op dk nxt (cmp K e tb o.op))
 (fun q=>Option.rec (motive:=fun _=>Cds) aaz (fun dj=>gdC K e dj q.2 dk nxt (DZ tb N K e o.op dk nxt (cmp K e tb o.op))) (N1 all q.1)) o.guard
def abu (tb:bG) (N K:Nat) (all l:List Oper):En->Cds:=List.rec (motive:=fun _=>En->Cds) (fun _=>⟨fun _ _ _ _ _ tm hp nx=> .go .nrm tm hp nx⟩) (fun o _ ih e=>Yi tb N K all e o (we K o.dst) (ih (Z4 e o.dst))) l
def ym (tm:TM) (i:Nat) (u:U):TM:=Ac.rec (motive:=fun _=>U->TM->TM) (fun _ p=>p) (dN i) u tm
def wEx (v:V):Option W:=match v with
 | .agg cs=>Bool.rec (motive:=fun _=>Option W) none (some (.agg (su cs) cs.length)) (je cs)
 | .tup _=>none
 | v=>some (.c (K4 v))
def Q9:List V->Option (List W)
 | []=>some []
 | v::r=>match wEx v with
  | some w=>match Q9 r with
   | some l=>some (w::l)
   | none=>none
  | none=>none
def uEx (v:V):Option U:=match v with
 | .agg cs=>Bool.rec (motive:=fun _=>Option U) none (some (.agg (su cs) cs.length)) (je cs)
 | .tup vs=>match Q9 vs with
  | some l=>some (.tup l)
  | none=>none
 | .bool b=>some (.kb b)
 | .int k n=>some (.int k n)
 | .kb b=>some (.kb b)
 | .ptr h o=>some (.ptr h o)
 | .gp h v o=>some (.gp h v o)
 | .gsl h v e o l=>some (.gsl h v e o l)
 | v=>some (.oth v)
def AL (K:Nat) (tm:TM) (i:Nat):V:=(eZ K yE i u0 u0 u0 u0 tm).bK
def HO (K:Nat) (all:List Oper) (tm:TM) (o:Oper):Option Bool:=
 match o.guard with
 | none=>some true
 | some (j,want)=>match all[j]? with
  | some oj=>match oj.dst with
   | some dj=>match AL K tm dj with
    | .kb b=>some (b==want)
    | .tup []=>some false
    | _=>none
   | none=>none
  | none=>none
def la (K:Nat) (rs:List Nat) (tm:TM):Operand->V
 | .tmp t=>bif aX rs t then AL K tm t else .any
 | .const v=>cv v
 | .func f=> .fn f []
 | .global _=> .any
def EJ (N K:Nat) (d:Option Nat):Bool:=match d with
 | some d=>Nat.blt d N&&jD K d
 | none=>true
def qt (d:Option Nat) (u:U) (tm:TM):TM:=match d with
 | some d=>ym tm d u
 | none=>tm
def W0 (c:C) (r:List Nat):List Nat:=C.rec (motive:=fun _=>List Nat) (fun _ _=>r) (fun _=>r) (fun h _=>h::r) (fun h _ _=>h::r) (fun h _ _ _ _=>h::r) (fun v=>v.hs++r) c
def hsT (t:CT) (n:Nat):Nat->List Nat:=Nat.rec (motive:=fun _=>Nat->List Nat) (fun _=> []) (fun _ ih i=>W0 (dv t i) (ih (Nat.succ i))) n
def CU (b:Bk):List Nat:=Bk.rec (motive:=fun _=>List Nat) [] (fun t n=>hsT t n 0) (fun _ _ t n=>hsT t n 0) (fun es=>W5 es) b
def abc (b:Bk):Bool:=Bk.rec (motive:=fun _=>Bool) false (fun _ _=>true) (fun _ _ _ _=>true) (fun _=>true) b
def uq (hp:HP):Nat->List Nat->List Nat->List Nat
 | 0,_,acc=>acc
 | n+1,new,acc=>
  let add:=new.filter fun h=>!aX acc h
  let nxt:=add.flatMap fun h=>CU (bZ hp h)
  match add with
  | []=>acc
  | _=>uq hp n nxt (add++acc)
def CM (hp:HP) (R:List Nat) (m K:Nat) (v:V) (dh:List (Nat×bd)):Bool:=
 (R.all fun h=>bif abc (bZ hp h) then qa R m K (CU (bZ hp h)) else false)&&(dh.all fun q=>qa R m K [q.1]&&qa R m K q.2.hs)&&qa R m K v.hs
def eqC (c d:C):Bool:=C.rec (motive:=fun _=>Bool)
 (fun k n=>C.rec (motive:=fun _=>Bool) (fun k' n'=>Bool.rec (motive:=fun _=>Bool) false (WN n n') (W6 k k')) (fun _=>false) (fun _ _=>false) (fun _ _ _=>false) (fun _ _ _ _ _=>false) (fun _=>false) d)
 (fun b=>C.rec (motive:=fun _=>Bool) (fun _ _=>false) (fun b'=>Bool.rec (motive:=fun _=>Bool) (kp b') b' b) (fun _ _=>false) (fun _ _ _=>false) (fun _ _ _ _ _=>false) (fun _=>false) d)
 (fun h o=>C.rec (motive:=fun _=>Bool) (fun _ _=>false) (fun _=>false) (fun h' o'=>Bool.rec (motive:=fun _=>Bool) false (Nat.beq o o') (Nat.beq h h')) (fun _ _ _=>false) (fun _ _ _ _ _=>false) (fun _=>false) d)
 (fun h v o=>C.rec (motive:=fun _=>Bool) (fun _ _=>false) (fun _=>false) (fun _ _=>false) (fun h' v' o'=>Bool.rec (motive:=fun _=>Bool) false (Bool.rec (motive:=fun _=>Bool) false (Nat.beq o o') (Nat.beq v v')) (Nat.beq h h')) (fun _ _ _ _ _=>false) (fun _=>false) d)
 (fun h v e o l=>C.rec (motive:=fun _=>Bool) (fun _ _=>false) (fun _=>false) (fun _ _=>false) (fun _ _ _=>false) (fun h' v' e' o' l'=>Bool.rec (motive:=fun _=>Bool) false (Bool.rec (motive:=fun _=>Bool) false (Bool.rec (motive:=fun _=>Bool) false (Bool.rec (motive:=fun _=>Bool) false (Nat.beq l l') (Nat.beq o o')) (Nat.beq e e')) (Nat.beq v v')) (Nat.beq h h')) (fun _=>false) d)
 (fun v=>C.rec (motive:=fun _=>Bool) (fun _ _=>false) (fun _=>false) (fun _ _=>false) (fun _ _ _=>false) (fun _ _ _ _ _=>false) (fun v'=>V.qP v v') d) c
def eqT (t t':CT) (n:Nat):Nat->Bool:=Nat.rec (motive:=fun _=>Nat->Bool) (fun _=>true) (fun _ ih i=>Bool.rec (motive:=fun _=>Bool) false (ih (Nat.succ i)) (eqC (dv t i) (dv t' i))) n
def Lr (b d:Bk):Bool:=Bk.rec (motive:=fun _=>Bool) (Bk.rec (motive:=fun _=>Bool) true (fun _ _=>false) (fun _ _ _ _=>false) (fun _=>false) d)
 (fun t n=>Bk.rec (motive:=fun _=>Bool) false (fun t' n'=>Bool.rec (motive:=fun _=>Bool) false (eqT t t' n 0) (Nat.beq n n')) (fun _ _ _ _=>false) (fun _=>false) d)
 (fun v e t n=>Bk.rec (motive:=fun _=>Bool) false (fun _ _=>false) (fun v' e' t' n'=>Bool.rec (motive:=fun _=>Bool) false (Bool.rec (motive:=fun _=>Bool) false (Bool.rec (motive:=fun _=>Bool) false (eqT t t' n 0) (Nat.beq n n')) (Nat.beq e e')) (Nat.beq v v')) (fun _=>false) d)
 (fun es=>Bk.rec (motive:=fun _=>Bool) false (fun _ _=>false) (fun _ _ _ _=>false) (fun es'=>Ls es es') d) b
def kU:List Nat->(List Nat->Rv)->Rv
 | [],k=>k []
 | n::r,k=>gB n fun n=>kU r fun r=>k (n::r)
def xC (hp:HP):List Nat->HP->HP
 | [],t=>t
 | h::r,t=>xC hp r (eV t h (bZ hp h))
def Mh (hp':HP):List Nat->HP->Option (HP×List (Nat×bd))
 | [],hp=>some (hp,[])
 | h::r,hp=>match (bZ hp' h).vd with
  | some b=>match Mh hp' r hp with
   | some (hp,dh)=>some (eV hp h (bZ hp' h),(h,b)::dh)
   | none=>none
  | none=>none
def Hx (call:gE) (g:FuncId) (args:List U) (hp:HP) (R:List Nat) (m:Nat) (k:U->HP->List (Nat×bd)->Nat->Rv):Rv:=
 match call g args (xC hp R jN) m with
 | .ok u hp' nx=>kU (R.filter fun h=>!Lr (bZ hp h) (bZ hp' h)) fun chg=>kU ((uq hp' 64 (u.bK.hs++chg) []).filter fun h=>!(aX R h&&!aX chg h)) fun keys=>
   bif chg.all (fun h=>aX keys h) then match Mh hp' keys hp with
    | some (hp,dh)=>k u hp dh nx
    | none=> .no [23]
   else .no [22]
 | .ex _ _ _=> .no [24]
 | .no w=> .no (g::w)
def Kv (all:List Oper) (o o':Oper):Bool:=vh o.dst.toList o'.dst.toList&&vh o.dst.toList (aV all o')&&vh o'.dst.toList (aV all o)
def Kw (ms:List Nat) (all:List Oper) (i:Nat) (o:Oper):Nat->List Oper->Bool
 | _,[]=>true
 | j,o'::os=>(((ms[j]?).getD 0).testBit i||Kv all o o')&&Kw ms all i o (j+1) os
def Kt (ms:List Nat) (all:List Oper):Nat->List Oper->Bool
 | _,[]=>true
 | i,o::os=>Kw ms all i o (i+1) os&&Kt ms all (i+1) os
def Ku (all:List Oper):Bool:=dT 0 all&&Kt (cM all []) all 0 all
def NM (r s:Rec):Bool:=vh (r.dh.map (·.1)) (s.dh.map (·.1))&&vh (r.dh.map (·.1)) s.R
def Mu (ms:List Nat) (i j:Nat):Bool:=Nat.beq i j ||(bif Nat.blt i j then ((ms[j]?).getD 0).testBit i else ((ms[i]?).getD 0).testBit j)
def NN (ms:List Nat) (i:Nat) (r:Rec):Nat->List Rec->Bool
 | _,[]=>true
 | j,s::ss=>(Mu ms i j||NM r s)&&NN ms i r (j+1) ss
def Lo (ms:List Nat) (recs:List Rec):Nat->List Rec->Bool
 | _,[]=>true
 | i,r::rs=>(match r.dh with
  | []=>true
  | _::_=>NN ms i r 0 recs)&&Lo ms recs (i+1) rs
abbrev Alt:=Option (Nat×(bd->Bool))
def Nd (ms:List Nat) (i h0:Nat) (okB:bd->Bool):Nat->List Rec->Bool
 | _,[]=>true
 | j,s::ss=>(match find s.dh h0 with
  | none=>true
  | some b=>Nat.beq i j ||(bif Nat.blt j i then ((ms[i]?).getD 0).testBit j else ((ms[j]?).getD 0).testBit i||okB b))&&Nd ms i h0 okB (j+1) ss
def B1 (ms:List Nat) (recs:List Rec):Nat->List Alt->Bool
 | _,[]=>true
 | i,none::r=>B1 ms recs (i+1) r
 | i,some (h0,okB)::r=>Nd ms i h0 okB 0 recs&&B1 ms recs (i+1) r
def oq (tb:bG) (N K:Nat) (call:gE) (all:List Oper):List Oper->TM->HP->Nat->List (Rec×Alt)->Rv
 | [],tm,hp,nx,recs=>bif Ku all&&(Lo (cM all []) (recs.reverse.map (·.1)) 0 (recs.reverse.map (·.1))&&B1 (cM all []) (recs.reverse.map (·.1)) 0 (recs.reverse.map (·.2))) then .go .nrm tm hp nx else .no [30]
 | o::rest,tm,hp,nx,recs=>bif EJ N K o.dst then
   match HO K all tm o with
   | some false=>gB (nx+1) fun nx=>oq tb N K call all rest (qt o.dst (.tup []) tm) hp nx ((⟨o.dst,.tup [],[],[],aV all o⟩,none)::recs)
   | some true=>kU (aV all o) fun rs=>
    bif rH (la K rs tm) o.op then kU (o.op.operands.toList.flatMap fun x=>(la K rs tm x).hs) fun R=>
     match wq tb N nx (fi hp) (la K rs tm) o.op with
     | none=> .no [37,rest.length]
     | some (ps,v,dh)=>bif ps.all Ob.B7 then match uEx v,xT dh hp with
       | some u,some hp'=>gB (nx+1) fun nx=>oq tb N K call all rest (qt o.dst u tm) hp' nx ((⟨o.dst,oa v,dh,R,rs⟩,none)::recs)
       | _,_=> .no [36,rest.length]
      else .no [38,rest.length]
    else kU (uq hp 8 (o.op.operands.toList.flatMap fun x=>(la K rs tm x).hs) []) fun R=>
    match evA tb N nx (cg (fi hp) R) (la K rs tm) o.op with
    | .call g args=>Hx call g (args.map mG) hp R nx fun u hp' dh nx2=>
      bif CM hp R nx (nx2+1 - nx) u.bK dh then
       gB (nx2+1) fun nx=>oq tb N K call all rest (qt o.dst u tm) hp' nx ((⟨o.dst,u.bK,dh,R,rs⟩,none)::recs)
      else .no [31,rest.length]
    | .plain none=> .no [33,rest.length]
    | .plain (some (ps,v,dh))=>bif ps.all Ob.B7&&CM hp R nx 1 v dh then match uEx v,xT dh hp with
      | some u,some hp'=>gB (nx+1) fun nx=>oq tb N K call all rest (qt o.dst u tm) hp' nx ((⟨o.dst,oa v,dh,R,rs⟩,none)::recs)
      | _,_=> .no [36,rest.length]
     else .no [32,rest.length]
   | none=> .no [34,rest.length]
  else .no [35,rest.length]
def TG (r:Rv):KR->Rv:=Rv.rec (motive:=fun _=>KR->Rv) (fun e tm hp nx k=>Lf.rec (motive:=fun _=>Rv) (k tm hp nx) (fun id=> .go (.ext id) tm hp nx) (.go .ret tm hp nx) e) (fun w _=> .no w) r
def Nn (id:Nat) (r:Rv):Rv:=Rv.rec (motive:=fun _=>Rv) (fun e tm hp nx=>Lf.rec (motive:=fun _=>Rv) (.go .nrm tm hp nx) (fun i=>Bool.rec (motive:=fun _=>Rv) (.go (.ext i) tm hp nx) (.go .nrm tm hp nx) (Nat.beq i id)) (.go .ret tm hp nx) e) .no r
def OI (f:KR) (n:Nat):KR:=Nat.rec (motive:=fun _=>KR) (fun _ _ _=> .no [3]) (fun _ ih tm hp nx=>gB nx fun nx=>TG (f tm hp nx) ih) n
structure Cd where
 run:gE->KR
def Yu (tb:bG) (N K:Nat) (ops:List Oper):Cd:=Bool.rec (motive:=fun _=>Cd) ⟨fun _ _ _ _=> .no [103]⟩ ⟨Cds.run (abu tb N K ops ops yE) u0 u0 u0 u0⟩ (NL N ops)
def JC (K:Nat) (e:En) (i:Nat) (k:Gt->Cd):Cd:=
 Bool.rec (motive:=fun _=>Cd) (Bool.rec (motive:=fun _=>Cd) (Bool.rec (motive:=fun _=>Cd) (Bool.rec (motive:=fun _=>Cd) (Bool.rec (motive:=fun _=>Cd) (k fun _ _ _ _ _=>u0) (Ac.rec (motive:=fun _=>Cd) (fun g _=>k fun _ _ _ _ tm=>g tm) (dN i)) (jD K i))
  (k fun _ _ _ r _=>r) (Nat.beq e.e3 (Nat.succ i))) (k fun _ _ r _ _=>r) (Nat.beq e.e2 (Nat.succ i))) (k fun _ r _ _ _=>r) (Nat.beq e.e1 (Nat.succ i))) (k fun r _ _ _ _=>r) (Nat.beq e.e0 (Nat.succ i))
def aaK (K:Nat) (c:Operand) (ix iy:Cd):Cd:=Operand.rec (motive:=fun _=>Cd) (fun i=>JC K yE i fun g=>⟨fun call tm hp nx=>ZZ (g u0 u0 u0 u0 tm) (fun b=>Bool.rec (motive:=fun _=>Rv) (Cd.run iy call tm hp nx) (Cd.run ix call tm hp nx) b) (.no [4])⟩) (fun v=>⟨fun call tm hp nx=>ZZ (mG (cv v)) (fun b=>Bool.rec (motive:=fun _=>Rv) (Cd.run iy call tm hp nx) (Cd.run ix call tm hp nx) b) (.no [4])⟩) (fun _=>⟨fun _ _ _ _=> .no [4]⟩) (fun _=>⟨fun _ _ _ _=> .no [4]⟩) c
def il (tb:bG) (N K:Nat) (c:Code):Cd:=Code.rec (motive:=fun _=>Cd)
 ⟨fun _ tm hp nx=> .go .nrm tm hp nx⟩
 (fun _ ops dr=>Bool.rec (motive:=fun _=>Cd) (Yu tb N K ops.toList) ⟨fun call tm hp nx=>oq tb N K call ops.toList ops.toList tm hp nx []⟩ dr)
 (fun _ _ ia ib=>⟨fun call tm hp nx=>TG (Cd.run ia call tm hp nx) (Cd.run ib call)⟩)
 (fun c _ _ ix iy=>aaK K c ix iy)
 (fun id _ ib=>⟨fun call tm hp nx=>Nn id (Cd.run ib call tm hp nx)⟩)
 (fun _ ib=>⟨fun call=>OI (Cd.run ib call) ly⟩)
 (fun _ _ _ _ _ _=>⟨fun _ _ _ _=> .no [6]⟩)
 (fun id=>⟨fun _ tm hp nx=> .go (.ext id) tm hp nx⟩)
 (fun _ _=>⟨fun _ _ _ _=> .no [6]⟩)
 (fun _=>⟨fun _ _ _ _=> .no [6]⟩)
 (fun _=>⟨fun _ _ _ _=> .no [6]⟩)
 ⟨fun _ tm hp nx=> .go .ret tm hp nx⟩
 (fun _=>⟨fun _ _ _ _=> .no [6]⟩) c
def kQ (l:List U):Nat->TM->TM:=List.rec (motive:=fun _=>Nat->TM->TM) (fun _ tm=>tm) (fun u _ ih i tm=>ih (Nat.succ i) (ym tm i u)) l
def ldP (ld:M4) (a:U) (hp:HP) (k:U->Rv) (sl:Rv):Rv:=Jc a (fun h o=>bkC (bZ hp h) (fun ct n=>ld ct n o k sl) sl) (fun _ _ _=>sl) sl
def Kn (tb:bG) (K:Nat) (r:ResultVar):TM->HP->(U->Rv)->Rv->Rv:=ResultVar.rec (motive:=fun _=>TM->HP->(U->Rv)->Rv->Rv) (fun t tm _ k _=>k (eZ K yE t u0 u0 u0 u0 tm))
 (fun a t=>TI.rec (motive:=fun _=>TM->HP->(U->Rv)->Rv->Rv) (fun _ _ _ sl=>sl) (fun tm hp=>ldP Fz (eZ K yE a u0 u0 u0 u0 tm) hp) (fun n tm hp=>ldP (Fy n) (eZ K yE a u0 u0 u0 u0 tm) hp) (Jb tb t)) r
def wOf (u:U) (k:W->Rv) (sl:Rv):Rv:=uCA u (fun c=>k (.c c)) (fun t n=>k (.agg t n)) sl
def PV (tb:bG) (K:Nat) (l:List ResultVar):TM->HP->(List W->Rv)->Rv->Rv:=List.rec (motive:=fun _=>TM->HP->(List W->Rv)->Rv->Rv) (fun _ _ k _=>k []) (fun r _ ih tm hp k sl=>Kn tb K r tm hp (fun u=>wOf u (fun w=>ih tm hp (fun l=>k (w::l)) sl) sl) sl) l
def abx (tb:bG) (K:Nat) (l:List ResultVar):TM->HP->(U->Rv)->Rv->Rv:=List.rec (motive:=fun _=>TM->HP->(U->Rv)->Rv->Rv) (fun _ _ k _=>k (.tup [])) (fun r rs _=>List.rec (motive:=fun _=>TM->HP->(U->Rv)->Rv->Rv) (Kn tb K r) (fun _ _ _ tm hp k sl=>PV tb K l tm hp (fun l=>k (.tup l)) sl) rs) l
def TA (tb:bG) (K:Nat) (rs:List ResultVar) (tm:TM) (hp:HP) (nx:Nat):Rv:=abx tb K rs tm hp (fun u=> .go .ret (ym I8 0 u) hp nx) (.no [8])
def PX (r:Rv):Rf:=Rv.rec (motive:=fun _=>Rf) (fun _ tm hp nx=> .ok (Ac.rec (motive:=fun _=>TM->U) (fun g _=>g) (dN 0) tm) hp nx) .no r
def Lq (tb:bG) (K:Nat) (rs:List ResultVar) (r:Rv):Rf:=Rv.rec (motive:=fun _=>Rf) (fun e tm hp nx=>Lf.rec (motive:=fun _=>Rf) (PX (TA tb K rs tm hp nx)) (fun _=> .no [7]) (PX (TA tb K rs tm hp nx)) e) .no r
structure Fc where
 run:gE->List U->HP->Nat->Rf
def CN (tb:bG) (K:Nat) (fn:Func):Fc:=Option.rec (motive:=fun _=>Fc) ⟨fun _ _ _ _=> .no [10]⟩ (fun c=>Bool.rec (motive:=fun _=>Fc) ⟨fun _ _ _ _=> .no [14]⟩
 ⟨fun call args hp nx=>Bool.rec (motive:=fun _=>Rf) (.no [9]) (Lq tb K fn.results.toList (gB nx fun nx=>Cd.run (il tb fn.ntmps K c) call (kQ args 0 I8) hp nx)) (Nat.ble args.length fn.ntmps)⟩ (Nat.ble fn.ntmps 512)) fn.body
abbrev BT:=FuncId->Option (List U->Option U)
def NU (r:Option U) (hp:HP) (nx:Nat):Rf:=Option.rec (motive:=fun _=>Rf) (.no [13]) (fun u=> .ex u hp nx) r
def vk (tb:bG) (P:FuncId->Option Func) (X:BT) (KK:FuncId->Nat) (f:FuncId):Fc:=Option.rec (motive:=fun _=>Fc) (Option.rec (motive:=fun _=>Fc) ⟨fun _ _ _ _=> .no [12]⟩ (CN tb (KK f)) (P f)) (fun x=>⟨fun _ args hp nx=>NU (x args) hp nx⟩) (X f)
def zx (tb:bG) (P:FuncId->Option Func) (X:BT) (KK:FuncId->Nat) (d:Nat):gE:=Nat.rec (motive:=fun _=>gE) (fun _ _ _ _=> .no [11]) (fun _ ih f args hp nx=>Fc.run (vk tb P X KK f) ih args hp nx) d
def Ou (l:List UInt8):Nat->Nat->Int:=List.rec (motive:=fun _=>Nat->Nat->Int) (fun _ _=> .negSucc 0) (fun b _ ih c i=>Bool.rec (motive:=fun _=>Int) (ih c (Nat.succ i)) (.ofNat i) (Nat.beq b.toNat c)) l
def ixB (l:List U):Option U:=match l with
 | [.oth (.str s),.int .u8 (.ofNat c)]=>some (.int .i64 (Ou s.data.toList c 0))
 | _=>none
end
end
section
open Go.RowKit
theorem Fk (v:V):v.JK=v.one:=by cases v <;> rfl
theorem zi :∀ l:List V,Hi l=l.all V.one
 | []=>rfl
 | v::l=>by show (Bool.rec (motive:=fun _=>Bool) false (Hi l) v.JK:Bool)=_;rw [Fk,zi l,List.all_cons];cases v.one <;> rfl
theorem bf {a b:Nat} (h:Nat.beq a b=true):a=b:=Nat.eq_of_beq_eq_true h
theorem Hl {a b:Nat} (h:a<=b):Nat.ble a b=true:=by rw [Nat.ble_eq];exact h
theorem cp {a b:Nat} (h:Nat.ble a b=true):a<=b:=Nat.le_of_ble_eq_true h
theorem Ye {l:List V} (h:je l=true):l.length<=4096/\∀ v∈l,v.one=true:=by
 unfold je at h;rw [zi] at h
 cases hb:l.all V.one with
 | false=>rw [hb] at h;cases h
 | true=>rw [hb] at h;have h:Nat.ble l.length SJ=true:=h;exact ⟨cp h,fun v hv=>List.all_eq_true.1 hb v hv⟩
theorem qN (t:CT) (i:Nat):dv t i =(yC i).get t:=rfl
theorem uz (t:CT) (i:Nat) (x:C):fK t i x =(yC i).put x t:=rfl
theorem lT (t:HP) (i:Nat):bZ t i =(El i).get t:=rfl
theorem qI (t:HP) (i:Nat) (x:Bk):eV t i x =(El i).put x t:=rfl
theorem rB {h:Nat} (hl:h<262144):El h=BZ h:=by
 unfold El
 have:Nat.ble (Nat.succ h) 262144=true:=Hl hl
 rw [this]
theorem Jf {h:Nat} (hl :¬ h<262144):El h =⟨fun _=> .none,fun _ s=>s⟩:=by
 unfold El
 cases hb:Nat.ble (Nat.succ h) 262144 with
 | true=>exact absurd (cp hb) hl
 | false=>rfl
theorem zz (t:CT) (i:Nat) (x:C):dv (fK t i x) i=x:=by rw [qN,uz,KP]
theorem Jm {i j:Nat} (hi:i<4096) (hj:j<4096) (h:i≠j) (t:CT) (x:C):dv (fK t i x) j=dv t j:=by rw [qN,uz,Rs hi hj h,qN]
theorem sX {hp:HP} {h:Nat} (hl :¬ h<262144):bZ hp h = .none:=by rw [lT,Jf hl]
theorem vT {hp:HP} {h:Nat} (hl:h<262144) (b:Bk):bZ (eV hp h b) h=b:=by rw [lT,qI,rB hl,KQ]
theorem Hn {hp:HP} {h j:Nat} (hl:h<262144) (hj:h≠j) (b:Bk):bZ (eV hp h b) j=bZ hp j:=by
 by_cases hjl:j<262144
 ·rw [lT,qI,rB hl,rB hjl,Rt hl hjl hj,lT,rB hjl]
 ·rw [sX hjl,sX hjl]
structure gW (t:CT) (n:Nat) (cs:List V):Prop where
 len:cs.length=n
 le:n<=4096
 get :∀ i,i<n->cs[i]?=some (dv t i).bK
 one :∀ v∈cs,v.one=true
theorem G1 (t:CT) :∀ n i,(yn t n i).length=n
 | 0,_=>rfl
 | n+1,i=>by simp only [yn,List.length_cons,G1 t n]
theorem G0 (t:CT) :∀ n i j,j<n->(yn t n i)[j]?=some (dv t (i+j)).bK
 | n+1,i,0,_=>by simp only [yn,List.getElem?_cons_zero];rfl
 | n+1,i,j+1,h=>by simp only [yn,List.getElem?_cons_succ];rw [G0 t n (i+1) j (by omega),show i+1+j=i +(j+1) by omega]
theorem gW.ga {t:CT} {n:Nat} {cs:List V} (h:gW t n cs):ga t n=cs:=by
 apply List.ext_getElem?;intro j;unfold aa.ga;rcases Nat.lt_or_ge j n with hj|hj
 ·rw [G0 t n 0 j hj,Nat.zero_add,h.get j hj]
 ·rw [List.getElem?_eq_none (by rw [G1];exact hj),List.getElem?_eq_none (by rw [h.len];exact hj)]
theorem gW.nil (t:CT):gW t 0 []:=⟨rfl,by omega,fun i h=>by omega,fun v hv=>by cases hv⟩
theorem gW.put {t:CT} {n:Nat} {cs:List V} (h:gW t n cs) {i:Nat} (hi:i<n) {x:C} (hv:x.bK.one=true):gW (fK t i x) n (cs.set i x.bK):=by
 have hle:=h.le;refine ⟨by rw [List.length_set,h.len],hle,fun j hj=>?_,fun x hx=>?_⟩
 ·rw [List.getElem?_set];by_cases e:i=j
  ·subst e;rw [if_pos rfl,if_pos (by rw [h.len];exact hi),zz]
  ·rw [if_neg e,h.get j hj,Jm (by omega) (by omega) e]
 ·rcases List.mem_or_eq_of_mem_set hx with h1|h1
  ·exact h.one x h1
  ·rw [h1];exact hv
theorem gW.push {t:CT} {n:Nat} {cs:List V} (h:gW t n cs) (hn:n<4096) {x:C} (hv:x.bK.one=true):gW (fK t n x) (n+1) (cs++[x.bK]):=by
 have hl:=h.len;refine ⟨by simp [h.len],by omega,fun j hj=>?_,fun x hx=>?_⟩
 ·by_cases e:n=j
  ·subst e;rw [zz,List.getElem?_append_right (by omega),hl,Nat.sub_self];rfl
  ·rw [List.getElem?_append_left (by omega),h.get j (by omega),Jm hn (by omega) e]
 ·rcases List.mem_append.1 hx with h1|h1
  ·exact h.one x h1
  ·rw [List.mem_singleton.1 h1];exact hv
theorem Ey (v:V) :(K4 v).bK=v:=by cases v <;> rfl
theorem FZ :∀ (l:List V) (i:Nat) (t:CT) (n:Nat) (cs:List V),gW t n cs->n=i->n+l.length<=4096->(∀ v∈l,v.one=true)->gW (X9 l i t) (n+l.length) (cs++l)
 | [],i,t,n,cs,h,_,_,_=>by simpa [X9] using h
 | v::l,i,t,n,cs,h,e,hle,hl=>by
  subst e;simp only [List.length_cons] at hle;have h1:=h.push (by omega) (x:=K4 v) (by rw [Ey];exact hl v List.mem_cons_self);rw [Ey] at h1
  have:=FZ l (n+1) (fK t n (K4 v)) (n+1) (cs++[v]) h1 rfl (by omega) (fun x hx=>hl x (List.mem_cons_of_mem _ hx))
  rw [List.append_assoc,show n+1+l.length=n +(v::l).length by simp;omega] at this;exact this
theorem gW.su {l:List V} (h:je l=true):gW (su l) l.length l:=by
 obtain ⟨h1,h2⟩:=Ye h
 have:=FZ l 0 Jp 0 [] (.nil _) rfl (by omega) h2
 simpa [aa.su] using this
theorem Lc (dst:CT) (d:Nat) (src:CT) (s n:Nat):tc dst d src s (n+1)=fK (tc dst d src s n) (d+n) (dv src (s+n)):=rfl
def Gk (cs:List V) (d:Nat) (xs:List V):List V:=cs.take d++xs++cs.drop (d+xs.length)
theorem xz {cs:List V} {d:Nat} {xs:List V} (hd:d<=cs.length) (j:Nat) :(Gk cs d xs)[j]?=if d<=j/\j<d+xs.length then xs[j - d]? else cs[j]?:=by
 unfold Gk;rcases Nat.lt_or_ge j d with h|h
 ·rw [if_neg (by omega),List.append_assoc,List.getElem?_append_left (by rw [List.length_take];omega),List.getElem?_take_of_lt h]
 ·rcases Nat.lt_or_ge j (d+xs.length) with h2|h2
  ·rw [if_pos ⟨h,h2⟩,List.append_assoc,List.getElem?_append_right (by rw [List.length_take];omega),List.length_take,Nat.min_eq_left hd,List.getElem?_append_left (by omega)]
  ·rw [if_neg (by omega),List.getElem?_append_right (by rw [List.length_append,List.length_take];omega),List.length_append,List.length_take,Nat.min_eq_left hd,List.getElem?_drop];congr 1;omega
theorem gW.cpy {dst src:CT} {n m:Nat} {cs xs:List V} (hd:gW dst n cs) (hs:gW src m xs) {d s:Nat} (h1:d<=n) :∀ k,s+k<=m->d+k<=4096->∃ r,r=Gk cs d ((xs.drop s).take k)/\gW (tc dst d src s k) (max n (d+k)) r
 | 0,_,_=>by
  refine ⟨_,rfl,?_⟩
  have:Gk cs d ((xs.drop s).take 0)=cs:=by simp [Gk]
  rw [this,Nat.max_eq_left (by omega)];exact hd
 | k+1,h2,h3=>by
  obtain ⟨r,hr,hk⟩:=gW.cpy (dst:=dst) (src:=src) (n:=n) (m:=m) (cs:=cs) (xs:=xs) (d:=d) (s:=s) hd hs h1 k (by omega) (by omega);refine ⟨_,rfl,?_⟩;rw [Lc];have hsl:=hs.len;have hdl:=hd.len;have hc:=hs.get (s+k) (by omega);have hone :(dv src (s+k)).bK.one=true:=hs.one _ (List.mem_of_getElem? hc);have hlk :((xs.drop s).take k).length=k:=by rw [List.length_take,List.length_drop,hs.len];omega
  have hlk1 :((xs.drop s).take (k+1)).length=k+1:=by rw [List.length_take,List.length_drop,hs.len];omega
  have hl:r.length=max n (d+k):=hk.len
  have key:Gk cs d ((xs.drop s).take (k+1))=if d+k<r.length then r.set (d+k) (dv src (s+k)).bK else r++[(dv src (s+k)).bK]:=by
   have hj :∀ j,r[j]?=if d<=j/\j<d+k then ((xs.drop s).take k)[j - d]? else cs[j]?:=fun j=>by rw [hr,xz (by rw [hd.len];exact h1),hlk]
   have hnew :((xs.drop s).take (k+1))[k]?=some (dv src (s+k)).bK:=by rw [List.getElem?_take_of_lt (by omega),List.getElem?_drop];exact hc
   have hold :∀ i,i<k->((xs.drop s).take (k+1))[i]? =((xs.drop s).take k)[i]?:=fun i hi=>by rw [List.getElem?_take_of_lt (by omega),List.getElem?_take_of_lt hi]
   split
   ·rename_i hlt;apply List.ext_getElem?;intro j;rw [xz (by rw [hd.len];exact h1),hlk1,List.getElem?_set];by_cases e:d+k=j
    ·subst e;rw [if_pos (by omega),if_pos rfl,if_pos hlt,show d+k - d=k by omega];exact hnew
    ·rw [if_neg e,hj];by_cases e2:d<=j/\j<d+k
     ·rw [if_pos (by omega),if_pos e2,hold _ (by omega)]
     ·rw [if_neg (by omega),if_neg e2]
   ·rename_i hge;have hrl:r.length=d+k:=by omega
    apply List.ext_getElem?;intro j;rw [xz (by rw [hd.len];exact h1),hlk1];rcases Nat.lt_or_ge j (d+k) with h|h
    ·rw [List.getElem?_append_left (by omega),hj];by_cases e2:d<=j
     ·rw [if_pos (by omega),if_pos ⟨e2,h⟩,hold _ (by omega)]
     ·rw [if_neg (by omega),if_neg (by omega)]
    ·rw [List.getElem?_append_right (by omega),hrl];by_cases e:j=d+k
     ·subst e;rw [if_pos (by omega),show d+k - d=k by omega,hnew,Nat.sub_self];rfl
     ·rw [if_neg (by omega),List.getElem?_eq_none (by rw [hd.len];omega),List.getElem?_eq_none (by simp;omega)]
  rw [key];split
  ·rename_i hlt;rw [show max n (d +(k+1))=max n (d+k) by omega];exact hk.put (by rw [<-hl];exact hlt) hone
  ·rename_i hge;have e:max n (d+k)=d+k:=by omega
   rw [e] at hk;rw [show max n (d +(k+1))=d+k+1 by omega];exact hk.push (by omega) hone
theorem gW.sub {src:CT} {m:Nat} {xs:List V} (hs:gW src m xs) {s k:Nat} (h:s+k<=m):gW (tc Jp 0 src s k) k ((xs.drop s).take k):=by
 have hle:=hs.le;obtain ⟨r,hr,h1⟩:=gW.cpy (.nil Jp) hs (d:=0) (Nat.le_refl 0) k h (by omega);have e:r =(xs.drop s).take k:=by rw [hr];simp [Gk]
 rw [e,Nat.zero_add,Nat.max_eq_right (Nat.zero_le k)] at h1;exact h1
theorem gW.cJ {dst src:CT} {n m:Nat} {cs xs:List V} (hd:gW dst n cs) (hs:gW src m xs) {d k:Nat} (h1:d+k<=n) (h2:k=m):gW (tc dst d src 0 k) n (cJ cs d xs):=by
 have hle:=hd.le;obtain ⟨r,hr,h3⟩:=gW.cpy hd hs (d:=d) (s:=0) (by omega) k (by omega) (by omega)
 have e:r=aa.cJ cs d xs:=by rw [hr,List.drop_zero,List.take_of_length_le (by rw [hs.len];omega)];rfl
 rw [e,Nat.max_eq_left h1] at h3;exact h3
theorem gW.app {dst src:CT} {n m:Nat} {cs xs:List V} (hd:gW dst n cs) (hs:gW src m xs) {s k:Nat} (h:s+k<=m) (h4:n+k<=4096):gW (tc dst n src s k) (n+k) (cs ++(xs.drop s).take k):=by
 obtain ⟨r,hr,h3⟩:=gW.cpy hd hs (d:=n) (s:=s) (Nat.le_refl n) k h h4
 have e:r=cs ++(xs.drop s).take k:=by
  rw [hr];unfold Gk;have h5:=hd.len
  have:cs.drop (n +((xs.drop s).take k).length)=[]:=List.drop_eq_nil_of_le (by omega)
  rw [List.take_of_length_le (by omega),this,List.append_nil]
 rw [e,Nat.max_eq_right (by omega)] at h3;exact h3
theorem xS {cs:List V} {i:Nat} {v:V} (h:i<cs.length):cs.set i v=cJ cs i [v]:=by unfold cJ;rw [List.set_eq_take_append_cons_drop,if_pos h];simp
def W.wf:W->Prop
 | .c _=>True
 | .agg t n=>∃ cs,gW t n cs
def U.wf:U->Prop
 | .agg t n=>∃ cs,gW t n cs
 | .tup l=>∀ w∈l,w.wf
 | _=>True
def Bk.wf:Bk->Prop
 | .cells t n=>∃ cs,gW t n cs
 | .grow _ _ t n=>∃ cs,gW t n cs
 | _=>True
def mX (hp:HP):Prop:=∀ h,(bZ hp h).wf
theorem iU {hp:HP} {h:Nat} (hl:h<262144) {b:Bk} {B:bd} (hb:b.vd=some B):fi (eV hp h b)=aQ (fi hp) [(h,B)]:=by
 funext k;unfold fi aQ;simp only [find];by_cases e:h=k
 ·subst e;rw [vT hl,Nat.beq_refl,hb];rfl
 ·rw [Hn hl e]
  have:Nat.beq h k=false:=by
   cases hb:Nat.beq h k with
   | false=>rfl
   | true=>exact absurd (bf hb) e
  rw [this];rfl
theorem iV {hp:HP} (h:mX hp) {k:Nat} (hl:k<262144) {b:Bk} (hb:b.wf):mX (eV hp k b):=fun j=>by
 by_cases e:k=j
 ·subst e;rw [vT hl];exact hb
 ·rw [Hn hl e];exact h j
theorem CS (h:Nat):bZ jN h = .none:=by
 by_cases hl:h<262144
 ·rw [lT,rB hl];exact Na _ _
 ·exact sX hl
theorem Oi:mX jN:=fun h=>by rw [CS];trivial
theorem UE:fi jN=fun _=>none:=by funext h;unfold fi;rw [CS];rfl
theorem Hm {hp:HP} {h:Nat} (hb:bZ hp h≠ .none):h<262144:=by
 by_cases hl:h<262144
 ·exact hl
 ·exact absurd (sX hl) hb
def fg (v w:V):Prop:=∀ (E:Env) (x:Value),ae E v x->ae E w x
theorem fg.refl (v:V):fg v v:=fun _ _ h=>h
theorem fg.of_eq {v w:V} (h:v=w):fg v w:=h▸fg.refl v
theorem fg.trans {u v w:V} (h:fg u v) (k:fg v w):fg u w:=fun E x q=>k E x (h E x q)
theorem fg.any (v:V):fg v .any:=fun _ _ _=>by simp [ae]
theorem Oy (b:Bool):fg (.bool b) (.kb b):=fun E x h=>by simpa [ae] using h
theorem Wl (cs:List V) :(Bool.rec (motive:=fun _=>U) (.oth .any) (.agg (su cs) cs.length) (je cs):U).wf:=by
 cases h:je cs with
 | false=>trivial
 | true=>exact ⟨cs,gW.su h⟩
theorem Uq (cs:List V) :(Bool.rec (motive:=fun _=>W) (.c (.oth .any)) (.agg (su cs) cs.length) (je cs):W).wf:=by
 cases h:je cs with
 | false=>trivial
 | true=>exact ⟨cs,gW.su h⟩
theorem nJ (v:V) :(mG v).wf:=by
 cases v <;> first|exact trivial|exact Wl _|skip
 rename_i vs;intro w hw;obtain ⟨v,_,rfl⟩:=List.mem_map.1 hw;cases v <;> first|exact trivial|exact Uq _
theorem Wk (cs:List V):fg (.agg cs) (Bool.rec (motive:=fun _=>U) (.oth .any) (.agg (su cs) cs.length) (je cs):U).bK:=by
 cases h:je cs with
 | false=>exact fg.any _
 | true=>
  show fg _ (V.agg (ga (su cs) cs.length));rw [(gW.su h).ga];exact fg.refl _
theorem Up (cs:List V):fg (.agg cs) (Bool.rec (motive:=fun _=>W) (.c (.oth .any)) (.agg (su cs) cs.length) (je cs):W).bK:=by
 cases h:je cs with
 | false=>exact fg.any _
 | true=>
  show fg _ (V.agg (ga (su cs) cs.length));rw [(gW.su h).ga];exact fg.refl _
theorem sQ {E:Env} {α:Type} (f g:α->V) (h :∀ v,fg (f v) (g v)) :∀ (vs:List α) (l:List Value),ai E (vs.map f) l->ai E (vs.map g) l
 | [],l,hl=>hl
 | v::vs,[],hl=>by simp [ai] at hl
 | v::vs,x::l,hl=>by simp only [List.map_cons,ai] at hl ⊢;exact ⟨h v E x hl.1,sQ f g h vs l hl.2⟩
theorem nI (v:V):fg v (mG v).bK:=by
 cases v <;> first|exact fg.refl _|exact Oy _|exact Wk _|skip
 rename_i vs;intro E x hx;simp only [mG,U.bK,ae] at hx ⊢;obtain ⟨l,rfl,hl⟩:=hx;refine ⟨l,rfl,?_⟩;rw [List.map_map];have hl:ai E (vs.map fun v=>v) l.toList:=by simpa using hl
 refine sQ _ _ (fun v=>?_) vs l.toList hl;cases v <;> first|exact fg.refl _|exact Oy _|exact Up _
section views
variable {G:Rv->Prop} {sl:Rv} (h0:G sl)
include h0
theorem qU {u:U} {f:IntKind->Int->Rv} (h :∀ k n,u = .int k n->G (f k n)):G (G5 u f sl):=by cases u <;> first|exact h0|exact h _ _ rfl
theorem UD {u:U} {f:Bool->Rv} (h :∀ b,u = .kb b->G (f b)):G (ZZ u f sl):=by cases u <;> first|exact h0|exact h _ rfl
theorem tE {u:U} {f:Nat->Nat->Rv} {g:Nat->Nat->Nat->Rv} (h :∀ a o,u = .ptr a o->G (f a o)) (h' :∀ a v o,u = .gp a v o->G (g a v o)):G (Jc u f g sl):=by cases u <;> first|exact h0|exact h _ _ rfl|exact h' _ _ _ rfl
theorem N4 {u:U} {k:Nat->Nat->Nat->Nat->Nat->Rv} (h :∀ a v e o l,u = .gsl a v e o l->G (k a v e o l)):G (ZY u k sl):=by cases u <;> first|exact h0|exact h _ _ _ _ _ rfl
theorem JA {u:U} {a b:Rv} {k:Nat->Nat->Nat->Nat->Nat->Rv} (h:u = .oth .nilsl->G a) (h':u = .oth .esl->G b) (h2 :∀ a v e o l,u = .gsl a v e o l->G (k a v e o l)):G (uSl u a b k sl):=by
 cases u with
 | oth v=>cases v <;> first|exact h0|exact h rfl|exact h' rfl
 | gsl=>exact h2 _ _ _ _ _ rfl
 | _=>exact h0
theorem aaU {u:U} {k:FuncId->List V->Rv} (h :∀ f cs,u = .oth (.fn f cs)->G (k f cs)):G (uFn u k sl):=by
 cases u with
 | oth v=>cases v <;> first|exact h0|exact h _ _ rfl
 | _=>exact h0
theorem dq {b:Bool} {r:Rv} (h:b=true->G r):G (kM b r sl):=by
 cases b with
 | true=>exact h rfl
 | false=>exact h0
theorem N5 {v:V} {r:Rv} (h:v.one=true->G r):G (Un v r sl):=by
 unfold Un;rw [Fk]
 cases hv:v.one with
 | true=>exact h hv
 | false=>exact h0
theorem aej {u:U} {k:C->Rv} (h :∀ c,c.bK=u.bK->c.bK.one=true->G (k c)):G (uC u k sl):=by
 cases u with
 | oth v=>exact N5 h0 fun hv=>h _ rfl hv
 | agg=>exact h0
 | tup=>exact h0
 | _=>exact h _ rfl rfl
theorem HM {u:U} {k:CT->Nat->Rv} (h :∀ t n,u = .agg t n->G (k t n)):G (Uk u k sl):=by cases u <;> first|exact h0|exact h _ _ rfl
theorem WW {u:U} {k:List W->Rv} (h :∀ l,u = .tup l->G (k l)):G (acg u k sl):=by cases u <;> first|exact h0|exact h _ rfl
theorem N3 {u:U} {k:C->Rv} {k2:CT->Nat->Rv} (h :∀ c,c.bK=u.bK->c.bK.one=true->G (k c)) (h' :∀ t n,u = .agg t n->G (k2 t n)):G (uCA u k k2 sl):=by
 cases u with
 | oth v=>exact N5 h0 fun hv=>h _ rfl hv
 | agg=>exact h' _ _ rfl
 | tup=>exact h0
 | _=>exact h _ rfl rfl
theorem N2 {b:Bk} {k:CT->Nat->Rv} (h :∀ t n,b = .cells t n->G (k t n)):G (bkC b k sl):=by cases b <;> first|exact h0|exact h _ _ rfl
theorem uH {b:Bk} {k:Nat->Nat->CT->Nat->Rv} (h :∀ v e t n,b = .grow v e t n->G (k v e t n)):G (RA b k sl):=by cases b <;> first|exact h0|exact h _ _ _ _ rfl
theorem Jz {n:Int} {k:Nat->Rv} (h :∀ m:Nat,n = .ofNat m->G (k m)):G (PH n k sl):=by
 cases n with
 | ofNat m=>exact h m rfl
 | negSucc m=>exact h0
theorem UB {a b:Int} {f:Nat->Nat->Rv} (h :∀ x y:Nat,a = .ofNat x->b = .ofNat y->G (f x y)):G (X8 a b f sl):=by cases a <;> cases b <;> first|exact h0|exact h _ _ rfl rfl
end views
theorem fj {n:Nat} {k:Nat->Rv}:gB n k=k n:=by cases n <;> rfl
theorem X5 (k:IntKind) :(mxK k:Int)=k.max:=by cases k <;> decide
theorem Us {k:IntKind} {n:Int} (h1:0<=n) (h2:n<=k.max):k.wrap n=n:=by cases k <;> simp only [IntKind.wrap,IntKind.bits,IntKind.signed,IntKind.max] at h2 ⊢ <;> simp at h2 ⊢ <;> omega
theorem rR {k:IntKind} {n:Nat} {m:Int} (h:m =(n:Int)):CI k n (k.wrap m)=k.wrap m:=by
 unfold CI
 cases hb:Nat.ble n (mxK k) with
 | false=>rfl
 | true=>
  have:=cp hb
  rw [h,Us (by omega) (by rw [<-X5];omega)];rfl
theorem Ru (k:IntKind) (a b:Int):Wj k a b=k.wrap (a+b):=by cases a <;> cases b <;> first|rfl|exact rR rfl
theorem T9 (k:IntKind) (a b:Int):ZG k a b=k.wrap (a - b):=by
 cases a <;> cases b <;> first|rfl|skip
 rename_i x y;show Bool.rec (motive:=fun _=>Int) _ _ (Nat.ble y x)=_
 cases hb:Nat.ble y x with
 | false=>rfl
 | true=>
  have:=cp hb
  exact rR (by show (x:Int) - (y:Int) =((x - y:Nat):Int);omega)
theorem SM (k:IntKind) (a b:Int):X4 k a b=k.wrap (a*b):=by cases a <;> cases b <;> first|rfl|exact rR rfl
theorem WJ (k:IntKind) (a:Int):cvS k a=k.wrap a:=by cases a <;> first|rfl|exact rR rfl
theorem HB (a b:Int):WN a b =(a==b):=by
 cases a <;> cases b <;> first|rfl|skip
 rename_i x y;show Nat.beq x y =((x:Int) ==(y:Int))
 cases hb:Nat.beq x y with
 | true=>rw [bf hb];simp
 | false=>
  have :¬ x=y:=fun e=>by subst e;rw [Nat.beq_refl] at hb;cases hb
  symm;rw [beq_eq_false_iff_ne];intro e;exact this (by omega)
theorem OE (a b:Int):leS a b=decide (a<=b):=by
 cases a <;> cases b <;> first|rfl|skip
 rename_i x y;show Nat.ble x y=decide ((x:Int)<=(y:Int))
 cases hb:Nat.ble x y with
 | true=>have:=cp hb;symm;rw [decide_eq_true_eq];omega
 | false=>
  have :¬ x<=y:=fun e=>by rw [Hl e] at hb;cases hb
  symm;rw [decide_eq_false_iff_not];omega
theorem OJ (a b:Int):ltS a b=decide (a<b):=by
 cases a <;> cases b <;> first|rfl|skip
 rename_i x y;show Nat.ble (Nat.succ x) y=decide ((x:Int) <(y:Int))
 cases hb:Nat.ble (Nat.succ x) y with
 | true=>have:=cp hb;symm;rw [decide_eq_true_eq];omega
 | false=>
  have :¬ Nat.succ x<=y:=fun e=>by rw [Hl e] at hb;cases hb
  symm;rw [decide_eq_false_iff_not];omega
theorem JH {k k':IntKind} (h:W6 k k'=true):k=k':=by cases k <;> cases k' <;> first|rfl|cases h
theorem J1 (b:Bool):kp b=!b:=by cases b <;> rfl
end
end Go.aa
