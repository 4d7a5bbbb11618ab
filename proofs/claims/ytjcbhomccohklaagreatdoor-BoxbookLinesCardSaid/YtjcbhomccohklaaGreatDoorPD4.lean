/- Texts of the mirror and contracts, put together. -/
import Derived.Test.YtjcbhomccohklaaGreatDoorPD3
namespace Go.Proofs.YtjcbhomccohklaaGreatDoor
section
open Go Go.aa Go.RowKit
attribute [local irreducible] Go.aa.DT.sat Go.aa.a8 Go.aa.RT.sat Go.aa.dD
abbrev tXs:Ty:= .nm .an
abbrev Z9:List (Nat×PB):= [(0,.dat (.nm .aj)),(1,.dat (.nm .ay)),(2,.dat tXs),(3,.row 4 I)]
abbrev V0:List (Nat×PC):= [(3,.c (.ptr 0 0)),(4,.c (.ptr 1 0)),(7,.c (.ptr 2 0)),(8,.h I),(9,.h I),(10,.h I),(11,.c (.osl 3 4))]
abbrev ZO:List (Nat×PC):= [(31,.h yi),(32,.h I),(33,.h I)]
abbrev qA0:bl:=⟨V0++ZO++[(12,.h I),(38,.h vL),(39,.h I),(40,.h I)],Z9,5⟩
abbrev xA0:List (Lf×bl):= [(.ext 2,⟨V0++ZO,Z9,5⟩)]
abbrev TA1:Type:=Int×Int×Int×List (List ab)×Int×Int×aj×aa.ay×aa.an×List Int×Unit
abbrev TA0:Type:=Int×Int×Int×List (List ab)×Int×Int×Int×List ab×Int×Int×aj×aa.ay×aa.an×List Int×Unit
def Jg (r:aj) (x:aa.an) (es:List ab):aa.an:=⟨x.Wides+au mK es,x.NoBalls+au (mJ r.NoBall) es,x.Byes+au n5 es,x.LegByes+au n6 es,x.Penalties⟩
def ir (b:aa.ay) (k:Int):Int:=(b.Boxes.getD k.toNat aH.zero).Bowler
def pd:TA0->TA1
 |(c,ba,ro,l,n,i,k,s,_,j,r,b,x,t,_)=>(c+au gJ (s.drop j.toNat),ba+au mb (s.drop j.toNat),ro+au lD (s.drop j.toNat),l,n,i,r,b,Jg r x (s.drop j.toNat),bC t (ir b k) (au lN (s.drop j.toNat)),())
def fU (u v:Int):Prop:=0<=v/\v<=u
def Um (u:Int) (x:aa.an):Prop:=fU u x.Wides/\fU u x.NoBalls/\fU u x.Byes/\fU u x.LegByes
def Q5 (u:Int) (t:List Int):Prop:=∀ v∈t,fU u v
def Wv (r:aj) (b:aa.ay):Prop:=(∀ x∈b.Boxes,0<=x.Bowler/\x.Bowler<=r.Side)/\∀ x∈b.Strips,0<=x.Bowler/\x.Bowler<=r.Side
def wo (l:List (List ab)):Prop:=∀ ys∈l,ys.length<=4000/\rJ ys
def Z8 (r:aj) (b:aa.ay) (t:List Int):Prop:=sT r/\Wv r b/\(t.length:Int)=r.Side+1
def zR:TA0->Prop
 |(c,ba,ro,_,_,i,k,s,m,j,r,b,x,t,_)=>(m =(s.length:Int)/\s.length<=4000/\rJ s)/\(0<=j/\j<=m)/\(k=i/\0<=i/\i<=4000/\i <(b.Boxes.length:Int))/\Z8 r b t/\
  (fU (64000*i+16*j) c/\fU (64000*i+16*j) ba/\fU (64000*i+16*j) ro/\Um (64000*i+16*j) x/\Q5 (64000*i+16*j) t)
def OQ:TA0->Nat
 |(_,_,_,_,_,_,_,_,m,j,_)=>(m - j).toNat
abbrev qA1:bl:=⟨V0++ZO,Z9,5⟩
abbrev xA1:List (Lf×bl):= [(.ext 0,⟨V0,Z9,5⟩)]
abbrev TAo:Type:=Int×Int×Int×aj×aa.ay×aa.an×List Int×Unit
def pf:TA1->TAo
 |(c,ba,ro,l,_,i,r,b,x,t,_)=>(c+au gJ (aU (l.drop i.toNat)),ba+au mb (aU (l.drop i.toNat)),ro+au lD (aU (l.drop i.toNat)),r,b,Jg r x (aU (l.drop i.toNat)),dM t (b.Boxes.drop i.toNat) (l.drop i.toNat),())
def zS:TA1->Prop
 |(c,ba,ro,l,n,i,r,b,x,t,_)=>(n =(l.length:Int)/\l.length=b.Boxes.length/\l.length<=4000/\wo l)/\(0<=i/\i<=n)/\Z8 r b t/\
  (fU (64000*i) c/\fU (64000*i) ba/\fU (64000*i) ro/\Um (64000*i) x/\Q5 (64000*i) t)
def OR:TA1->Nat
 |(_,_,_,_,n,i,_)=>(n - i).toNat
abbrev tmB:List (Nat×PC):= [(16,.h I),(17,.h I)]
abbrev ZP:List (Nat×PC):= [(105,.h ze),(106,.h I),(107,.h I)]
abbrev aaY:List (Nat×PB):= [(0,.dat (.nm .aj)),(1,.dat (.nm .ay)),(2,.dat tXs),(3,.row 4 I),(5,.dat MZ)]
abbrev qB0:bl:=⟨V0++tmB++ZP++[(19,.c (.ptr 5 0)),(117,.h (.slice .str)),(118,.h I),(119,.h I)],aaY,6⟩
abbrev xB0:List (Lf×bl):= [(.ext 8,⟨V0++tmB++ZP++[(19,.c (.ptr 5 0))],aaY,6⟩)]
abbrev TB0:Type:=Int×Int×Int×Int×Int×List aa.ak×Int×Int×List ByteArray×Int×Int×aj×aa.ay×aa.an×List Int×aa.ak×Unit
abbrev adn:Type:=Int×Int×Int×Int×Int×List aa.ak×Int×Int×aj×aa.ay×aa.an×List Int×aa.ak×Unit
def sE:TB0->adn
 |(c,ba,ro,ru,wk,l,n,i,s,_,j,r,b,x,t,st,_)=>(c,ba,ro,ru+eb (s.drop j.toNat),wk,l,n,i,r,b,x,t,st,())
def zT:TB0->Prop
 |(_,_,_,ru,_,_,_,i,s,m,j,_)=>(m =(s.length:Int)/\s.length<=4000)/\(0<=j/\j<=m)/\(0<=i/\i<=4000)/\fU (64000*i+16*j) ru
def OS:TB0->Nat
 |(_,_,_,_,_,_,_,_,_,m,j,_)=>(m - j).toNat
abbrev qB1:bl:=⟨V0++tmB++ZP,Z9,5⟩
abbrev xB1:List (Lf×bl):= [(.ext 6,⟨V0++tmB,Z9,5⟩)]
abbrev TB1:Type:=Int×Int×Int×Int×Int×List aa.ak×Int×Int×aj×aa.ay×aa.an×List Int×Unit
abbrev TBo:Type:=Int×Int×Int×Int×Int×aj×aa.ay×aa.an×List Int×Unit
def pg:TB1->TBo
 |(c,ba,ro,ru,wk,l,_,i,r,b,x,t,_)=>(c,ba - bt kV (l.drop i.toNat),ro - bt qj (l.drop i.toNat),ru+bt rz (l.drop i.toNat),wk+bt qi (l.drop i.toNat),r,b,x,ml t (l.drop i.toNat),())
def Re (d u v:Int):Prop:= -d<=v/\v<=u
def zU:TB1->Prop
 |(_,ba,ro,ru,wk,l,n,i,r,b,_,t,_)=>(n =(l.length:Int)/\xY l/\b.Strips=l)/\(0<=i/\i<=n)/\Z8 r b t/\(Re (4000*i) 300000000 ba/\Re i 300000000 ro/\fU (64000*i) ru/\fU i wk/\∀ v∈t,Re i 300000000 v)
def OT:TB1->Nat
 |(_,_,_,_,_,_,n,i,_)=>(n - i).toNat
abbrev hpK:List (Nat×PB):= [(1,.dat (.nm .ay)),(2,.dat tXs)]
abbrev tmK:List (Nat×PC):= [(4,.c (.ptr 1 0)),(7,.c (.ptr 2 0)),(8,.h I),(9,.h I),(10,.h I),(16,.h I),(17,.h I)]
abbrev qK0:bl:=⟨tmK++[(154,.h (.slice I)),(155,.h I),(156,.h I)],hpK,3⟩
abbrev xK0:List (Lf×bl):= [(.ext 11,⟨tmK,hpK,3⟩),(.ret,⟨[(6,.h .bool)],[],0⟩)]
abbrev TK0:Type:=Int×Int×Int×Int×Int×List Int×Int×Int×aa.ay×aa.an×Unit
def ln:TK0->Sum (Int×Int×Int×Int×Int×aa.ay×aa.an×Unit) (Bool×Unit)
 |(c,ba,ro,ru,wk,l,_,i,b,x,_)=>if (l.drop i.toNat).all (fun v=>v==0) then .inl (c,ba,ro,ru,wk,b,x,()) else .inr (false,())
def Ai:TK0->Prop
 |(_,_,_,_,_,l,n,i,_)=>(n =(l.length:Int)/\l.length<=4000)/\0<=i/\i<=n
def O5:TK0->Nat
 |(_,_,_,_,_,_,n,i,_)=>(n - i).toNat
abbrev Tn:bl:=cQ [.nm .aj,.nm .ay,yi]
def rq (b:aa.ay):Prop:=(cZ b).all sw=true
def ndA (r:aj) (b:aa.ay) (l:List (List ab)):Prop:=(l.length=b.Boxes.length/\l.length<=4000/\wo l)/\(sT r/\Wv r b)/\xY b.Strips/\rq b
def YB:Den (bj Tn)->List Prop×Den (bj cO):=fun x=>([ndA x.1 x.2.1 x.2.2.1],(n4 x.1 x.2.1 x.2.2.1,()))
theorem kj {t:List Int} {i n v:Int} (h:v∈bC t i n):v∈t\/(v=t.getD i.toNat 0+n):=by unfold bC at h;exact (List.mem_or_eq_of_mem_set h)
theorem pH {p:Int->Prop} {t:List Int} (h :∀ v∈t,p v) {i:Int} (h0:0<=i) (h1:i <(t.length:Int)):p (t.getD i.toNat 0):=by
 have hi:i.toNat<t.length:=by omega
 rw [List.getD_eq_getElem?_getD,List.getElem?_eq_getElem hi];exact h _ (List.getElem_mem hi)
theorem No {r:aj} {b:aa.ay} (h:Wv r b) {i:Int} (h0:0<=i) (h1:i <(b.Boxes.length:Int)):0<=ir b i/\ir b i<=r.Side:=by
 have hi:i.toNat<b.Boxes.length:=by omega
 unfold ir;rw [List.getD_eq_getElem?_getD,List.getElem?_eq_getElem hi];exact h.1 _ (List.getElem_mem hi)
theorem sV {f:ab->Int} (hf :∀ y,EN y->0<=f y/\f y<=16) :∀ {es:List (List ab)},wo es->0<=au f (aU es)/\au f (aU es)<=64000 *(es.length:Int)
 | [],_=>⟨Int.le_refl _,Int.le_refl _⟩
 | ys::es,h=>by obtain ⟨h1,h2⟩:=h ys List.mem_cons_self;have ih:=sV hf (es:=es) fun z hz=>h z (List.mem_cons_of_mem _ hz);have hc:=B9 (f:=f) (l:=ys) fun y hy=>hf y (h2 y hy);show 0<=au f (ys++aU es)/\au f (ys++aU es)<=64000 *((ys::es).length:Int);rw [rF,List.length_cons];omega
theorem yk :∀ {t:List Int} {l:List aa.aH} {es:List (List ab)} {u:Int},0<=u->Q5 u t->wo es->Q5 (u+64000 *(es.length:Int)) (dM t l es)
 | t,[],es,u,h0,ht,_,v,hv=>by
  have e:dM t [] es=t:=by cases es <;> rfl
  rw [e] at hv;obtain ⟨a,b⟩:=ht v hv;exact ⟨a,by omega⟩
 | t,x::l,[],u,h0,ht,_,v,hv=>by obtain ⟨a,b⟩:=ht v hv;exact ⟨a,by omega⟩
 | t,x::l,ys::es,u,h0,ht,h,v,hv=>by
  obtain ⟨h1,h2⟩:=h ys List.mem_cons_self;have hc:=B9 (f:=lN) (l:=ys) fun y _=>mS y
  have hb:Q5 (u+64000) (bC t x.Bowler (au lN ys)):=fun w hw=>by
   rcases kj hw with hw|rfl
   ·obtain ⟨a,b⟩:=ht w hw;exact ⟨a,by omega⟩
   ·have:fU u (t.getD x.Bowler.toNat 0):=by
     by_cases hi:x.Bowler.toNat<t.length
     ·rw [List.getD_eq_getElem?_getD,List.getElem?_eq_getElem hi];exact ht _ (List.getElem_mem hi)
     ·rw [List.getD_eq_getElem?_getD,List.getElem?_eq_none (by omega)];exact ⟨Int.le_refl _,h0⟩
    obtain ⟨a,b⟩:=this;exact ⟨by omega,by omega⟩
  have:=yk (l:=l) (es:=es) (u:=u+64000) (by omega) hb (fun z hz=>h z (List.mem_cons_of_mem _ hz)) v hv
  obtain ⟨a,b⟩:=this;refine ⟨a,?_⟩;rw [List.length_cons];omega
theorem Yd {v:Int} (h:sw v=true):0<=v/\v<=1000000:=by unfold sw at h;simp only [Bool.not_eq_true',Bool.or_eq_false_iff,decide_eq_false_iff_not] at h;omega
theorem gv {b:aa.ay} (h:rq b) {v:Int} (hv:v∈cZ b):0<=v/\v<=1000000:=Yd (List.all_eq_true.1 h v hv)
noncomputable def LD:Lp:=(⟨0,aI [] Tryz.f70,(fun _=>none),(bA Tryz.f70 0 0),qA0,xA0⟩:Lp)
theorem Y4 (c:Int) (ba:Int) (ro:Int) (l:List (List ab)) (n:Int) (i:Int) (k:Int) (s:List ab) (m:Int) (j:Int) (r:aj) (b:aa.ay) (x:aa.an) (t:List Int) (hi:zR (c,ba,ro,l,n,i,k,s,m,j,r,b,x,t,())) :(Go.aa.stepG LD pd (fun y:Den (bj LD.q)=>zR y/\OQ y<OQ (c,ba,ro,l,n,i,k,s,m,j,r,b,x,t,())) (c,ba,ro,l,n,i,k,s,m,j,r,b,x,t,())/\Go.aa.bB LD pd (c,ba,ro,l,n,i,k,s,m,j,r,b,x,t,())=pd (c,ba,ro,l,n,i,k,s,m,j,r,b,x,t,())):=by
 refine cast (by kernel_rfl) (?_:let r1:Bool:=(s.getD j.toNat (af (Ty.nm Nm.ab))).5==87;let r2:Bool:=(s.getD j.toNat (af (Ty.nm Nm.ab))).5==82;let r3:Int:=IntKind.i64.wrap (c +(s.getD j.toNat (af (Ty.nm Nm.ab))).2);let r4:Bool:=(s.getD j.toNat (af (Ty.nm Nm.ab))).1==119;let r5:Bool:=(s.getD j.toNat (af (Ty.nm Nm.ab))).1==110;let r6:Int:=IntKind.i64.wrap (x.3 +(s.getD j.toNat (af (Ty.nm Nm.ab))).3);let r7:Int:=IntKind.i64.wrap (x.4 +(s.getD j.toNat (af (Ty.nm Nm.ab))).4);let r8:Int×Int×Int×List (List ab)×Int×Int×aj×aa.ay×aa.an×List Int×PUnit:=af (I.prod (I.prod (I.prod (yi.prod (I.prod (I.prod ((Ty.nm Nm.aj).prod ((Ty.nm Nm.ay).prod (tXs.prod (I.slice.prod Ty.unit))))))))));let r9:Int:=cond ((s.getD j.toNat (af (Ty.nm Nm.ab))).1 != 119) (IntKind.i64.wrap (ba+1)) ba;let r10:Int:=cond r4 x.5 (cond r5 x.5 x.5);let r11:Int:=cond r4 x.2 (cond r5 (IntKind.i64.wrap (x.2+r.8)) x.2);let r12:Int:=cond r4 (IntKind.i64.wrap (x.1 +(s.getD j.toNat (af (Ty.nm Nm.ab))).2)) (cond r5 x.1 x.1);let r13:Int:=cond r4 r6 (cond r5 r6 r6);let r14:Int:=cond r4 r7 (cond r5 r7 r7);((decide (j<m)=true->((0<=j/\j <(↑s.length:Int))/\(r1=true->(0<=k/\k <(↑b.2.length:Int))/\(0<=(b.2.getD k.toNat (af (Ty.nm Nm.aH))).2/\(b.2.getD k.toNat (af (Ty.nm Nm.aH))).2 <(↑t.length:Int))/\(0<=(b.2.getD k.toNat (af (Ty.nm Nm.aH))).2/\(b.2.getD k.toNat (af (Ty.nm Nm.aH))).2 <(↑t.length:Int))/\True)/\(r1=false->(r2=true->True)/\(r2=false->True)))/\(true=true->zR (cond r1 r3 (cond r2 r3 r3),cond r1 r9 (cond r2 r9 r9),cond r1 ro (cond r2 (IntKind.i64.wrap (ro+1)) ro),l,n,i,k,s,m,IntKind.i64.wrap (j+1),r,b,aa.an.mk (cond r1 r12 (cond r2 r12 r12)) (cond r1 r11 (cond r2 r11 r11)) (cond r1 r13 (cond r2 r13 r13)) (cond r1 r14 (cond r2 r14 r14)) (cond r1 r10 (cond r2 r10 r10)),cond r1 (t.set (b.2.getD k.toNat (af (Ty.nm Nm.aH))).2.toNat (IntKind.i64.wrap (t.getD (b.2.getD k.toNat (af (Ty.nm Nm.aH))).2.toNat (af (Ty.int IntKind.i64))+1))) t,())/\OQ (cond r1 r3 (cond r2 r3 r3),cond r1 r9 (cond r2 r9 r9),cond r1 ro (cond r2 (IntKind.i64.wrap (ro+1)) ro),l,n,i,k,s,m,IntKind.i64.wrap (j+1),r,b,aa.an.mk (cond r1 r12 (cond r2 r12 r12)) (cond r1 r11 (cond r2 r11 r11)) (cond r1 r13 (cond r2 r13 r13)) (cond r1 r14 (cond r2 r14 r14)) (cond r1 r10 (cond r2 r10 r10)),cond r1 (t.set (b.2.getD k.toNat (af (Ty.nm Nm.aH))).2.toNat (IntKind.i64.wrap (t.getD (b.2.getD k.toNat (af (Ty.nm Nm.aH))).2.toNat (af (Ty.int IntKind.i64))+1))) t,())<OQ (c,ba,ro,l,n,i,k,s,m,j,r,b,x,t,())))/\(decide (j<m)=false->True))/\(cond (decide (j<m)) (cond (true&&(true&&true)) (pd (cond r1 r3 (cond r2 r3 r3),cond r1 r9 (cond r2 r9 r9),cond r1 ro (cond r2 (IntKind.i64.wrap (ro+1)) ro),l,n,i,k,s,m,IntKind.i64.wrap (j+1),r,b,aa.an.mk (cond r1 r12 (cond r2 r12 r12)) (cond r1 r11 (cond r2 r11 r11)) (cond r1 r13 (cond r2 r13 r13)) (cond r1 r14 (cond r2 r14 r14)) (cond r1 r10 (cond r2 r10 r10)),cond r1 (t.set (b.2.getD k.toNat (af (Ty.nm Nm.aH))).2.toNat (IntKind.i64.wrap (t.getD (b.2.getD k.toNat (af (Ty.nm Nm.aH))).2.toNat (af (Ty.int IntKind.i64))+1))) t,())) (cond true (pd (cond r1 r3 (cond r2 r3 r3),cond r1 r9 (cond r2 r9 r9),cond r1 ro (cond r2 (IntKind.i64.wrap (ro+1)) ro),l,n,i,k,s,m,IntKind.i64.wrap (j+1),r,b,aa.an.mk (cond r1 r12 (cond r2 r12 r12)) (cond r1 r11 (cond r2 r11 r11)) (cond r1 r13 (cond r2 r13 r13)) (cond r1 r14 (cond r2 r14 r14)) (cond r1 r10 (cond r2 r10 r10)),cond r1 (t.set (b.2.getD k.toNat (af (Ty.nm Nm.aH))).2.toNat (IntKind.i64.wrap (t.getD (b.2.getD k.toNat (af (Ty.nm Nm.aH))).2.toNat (af (Ty.int IntKind.i64))+1))) t,())) (cond r1 r8 (cond r2 r8 r8)))) (c,ba,ro,l,n,i,r,b,x,t,()))=pd (c,ba,ro,l,n,i,k,s,m,j,r,b,x,t,()));intro r1 r2 r3 r4 r5 r6 r7 r8 r9 r10 r11 r12 r13 r14
 clear_value (hr1:r1=_) (hr2:r2=_) (hr3:r3=_) (hr4:r4=_) (hr5:r5=_) (hr6:r6=_) (hr7:r7=_) (hr8:r8=_) (hr9:r9=_) (hr10:r10=_) (hr11:r11=_) (hr12:r12=_) (hr13:r13=_) (hr14:r14=_)
 simp only [Bool.cond_self] at *;obtain ⟨⟨h1,h1a,h1b⟩,⟨h2,h3⟩,⟨hk,hi0,hi4,hib⟩,⟨hg,hbw,htl⟩,u1,u2,u3,⟨u4,u5,u6,u7⟩,u8⟩:=hi;have h1:m =(s.length:Int):=h1;have h1a:s.length<=4000:=h1a;have h2:0<=j:=h2;have h3:j<=m:=h3;have hk:k=i:=hk;have hi0:0<=i:=hi0;have hi4:i<=4000:=hi4;have hib:i <(b.Boxes.length:Int):=hib;have htl :(t.length:Int)=r.Side+1:=htl;have hnb:=hg.1.2;refine dP (fun h=>?_) (fun h=>?_)
 ·have e1:IntKind.i64.wrap (j+1)=j+1:=a7 (by omega) (by omega);have hd:s.drop j.toNat=s.getD j.toNat (af (Ty.nm Nm.ab))::s.drop (j+1).toNat:=aY h2 (by omega) _;have hm:s.getD j.toNat (af (Ty.nm Nm.ab))∈s:=List.mem_of_mem_drop (i:=j.toNat) (by rw [hd];exact List.mem_cons_self);have hw:=h1b _ hm;generalize s.getD j.toNat (af (Ty.nm Nm.ab))=w at *;obtain ⟨w1,w2,w3⟩:=hw;have hbk:0<=ir b k/\ir b k<=r.Side:=No hbw (by omega) (by omega);have hbe :(b.2.getD k.toNat (af (Ty.nm Nm.aH))).2=ir b k:=rfl;rw [hbe]
  have up :∀ {v d:Int},fU (64000*i+16*j) v->0<=d->d<=16->fU (64000*i+16 *(j+1)) (v+d)/\IntKind.i64.wrap (v+d)=v+d:=fun {v d} hv a b=>by obtain ⟨v0,v1⟩:=hv;exact ⟨⟨by omega,by omega⟩,bE (by omega) (by omega)⟩
  have q1:=up u1 (oB ⟨w1,w2,w3⟩).1 (oB ⟨w1,w2,w3⟩).2;have q2:=up u2 (qR w).1 (qR w).2;have q3:=up u3 (oC w).1 (oC w).2;have q4:=up u4 (tA ⟨w1,w2,w3⟩).1 (tA ⟨w1,w2,w3⟩).2;have q5:=up u5 (tz hnb w).1 (tz hnb w).2;have q6:=up u6 (tw ⟨w1,w2,w3⟩).1 (tw ⟨w1,w2,w3⟩).2;have q7:=up u7 (tx ⟨w1,w2,w3⟩).1 (tx ⟨w1,w2,w3⟩).2;have q8:=up (pH u8 hbk.1 (by omega)) (mS w).1 (mS w).2;have e3:r3=c+gJ w:=by rw [hr3];exact q1.2
  have e9:r9=ba+mb w:=by
   rw [hr9]
   have:=q2.2
   unfold mb at this ⊢;show (bif w.kind != 119 then IntKind.i64.wrap (ba+1) else ba)=_
   cases hz:w.kind==119 with
   | true=>rw [show (w.kind != 119)=false by rw [bne,hz];rfl];show ba=ba+0;omega
   | false=>rw [show (w.kind != 119)=true by rw [bne,hz];rfl];rw [hz] at this;exact this
  have e12:r12=x.Wides+mK w:=by
   rw [hr12,hr4]
   have:=q4.2
   unfold mK at this ⊢;show (bif w.kind==119 then _ else _)=_
   cases hz:w.kind==119 with
   | true=>rw [hz] at this;exact this
   | false=>show x.Wides=x.Wides+0;omega
  have e11:r11=x.NoBalls+mJ r.NoBall w:=by
   rw [hr11,hr4,hr5]
   have:=q5.2
   unfold mJ at this ⊢;show (bif w.kind==119 then _ else bif w.kind==110 then _ else _)=_
   cases hz:w.kind==119 with
   | true=>
    have hz:w.kind=119:=by simpa using hz
    rw [hz];show x.NoBalls=x.NoBalls+0;omega
   | false=>
    cases hy:w.kind==110 with
    | true=>rw [hy] at this;exact this
    | false=>show x.NoBalls=x.NoBalls+0;omega
  have e13:r13=x.Byes+n5 w:=by rw [hr13,hr6];exact q6.2
  have e14:r14=x.LegByes+n6 w:=by rw [hr14,hr7];exact q7.2
  have eR :(bif r1 then ro else bif r2 then IntKind.i64.wrap (ro+1) else ro)=ro+lD w:=by
   rw [hr1,hr2]
   have:=q3.2
   unfold lD at this ⊢;show (bif w.mark==87 then _ else bif w.mark==82 then _ else _)=_
   cases hz:w.mark==87 with
   | true=>
    have hz:w.mark=87:=by simpa using hz
    rw [hz];show ro=ro+0;omega
   | false=>
    cases hy:w.mark==82 with
    | true=>rw [hy] at this;exact this
    | false=>show ro=ro+0;omega
  have eT :(bif r1 then t.set (ir b k).toNat (IntKind.i64.wrap (t.getD (ir b k).toNat (af (Ty.int IntKind.i64))+1)) else t)=bC t (ir b k) (lN w):=by
   rw [hr1]
   have:=q8.2
   unfold lN at this ⊢;show (bif w.mark==87 then _ else _)=_
   cases hz:w.mark==87 with
   | true=>rw [hz] at this;show t.set (ir b k).toNat (IntKind.i64.wrap (t.getD (ir b k).toNat 0+1))=t.set (ir b k).toNat (t.getD (ir b k).toNat 0+1);rw [show IntKind.i64.wrap (t.getD (ir b k).toNat 0+1)=t.getD (ir b k).toNat 0+1 from this]
   | false=>exact (pD t (ir b k)).symm
  have e10:r10=x.Penalties:=hr10;rw [e3,e9,e12,e11,e13,e14,eR,eT,e10,e1];have hwk:=mS w;refine ⟨⟨⟨⟨h2,by omega⟩,fun _=>⟨⟨by omega,by show k <(b.Boxes.length:Int);omega⟩,⟨hbk.1,by omega⟩,⟨hbk.1,by omega⟩,trivial⟩,fun _=>⟨fun _=>trivial,fun _=>trivial⟩⟩,fun _=>⟨⟨⟨h1,h1a,h1b⟩,⟨?_,?_⟩,⟨hk,hi0,hi4,hib⟩,⟨hg,hbw,?_⟩,q1.1,q2.1,q3.1,⟨q4.1,q5.1,q6.1,q7.1⟩,?_⟩,?_⟩⟩,?_⟩
  ·show 0<=j+1;omega
  ·show j+1<=m;omega
  ·show ((bC t (ir b k) (lN w)).length:Int)=_;rw [fu];exact htl
  ·intro v hv;rcases kj hv with hv|rfl
   ·obtain ⟨v0,v1⟩:=u8 v hv;exact ⟨v0,by show v<=64000*i+16 *(j+1);omega⟩
   ·exact q8.1
  ·show (m - (j+1)).toNat <(m - j).toNat;omega
  ·have p :∀ (f:ab->Int) (v:Int),v+f w+au f (s.drop (j+1).toNat)=v+au f (s.drop j.toNat):=fun f v=>by rw [hd];show _=v +(f w+au f (s.drop (j+1).toNat));omega
   have p0:lN w+au lN (s.drop (j+1).toNat)=au lN (s.drop j.toNat):=by have:=p lN 0;omega
   show (c+gJ w+au gJ (s.drop (j+1).toNat),ba+mb w+au mb (s.drop (j+1).toNat),ro+lD w+au lD (s.drop (j+1).toNat),l,n,i,r,b,(⟨x.Wides+mK w+au mK (s.drop (j+1).toNat),x.NoBalls+mJ r.NoBall w+au (mJ r.NoBall) (s.drop (j+1).toNat),x.Byes+n5 w+au n5 (s.drop (j+1).toNat),x.LegByes+n6 w+au n6 (s.drop (j+1).toNat),x.Penalties⟩:aa.an),bC (bC t (ir b k) (lN w)) (ir b k) (au lN (s.drop (j+1).toNat)),())=_;rw [p gJ,p mb,p lD,p mK,p (mJ r.NoBall),p n5,p n6,zt,p0];rfl
 ·show (c,ba,ro,l,n,i,r,b,x,t,())=pd (c,ba,ro,l,n,i,k,s,m,j,r,b,x,t,());unfold pd Jg;simp only;rw [aN (l:=s) (by omega)];simp only [au,Int.add_zero,pD]
noncomputable def abX:aw:=aq LD pd zR
noncomputable def aby:Nat:=fo (bA Tryz.f70 0 0)
theorem Xl:aJ Tryz.prog 0 Tryz.f70.ntmps (bA Tryz.f70 0 0) (aq LD pd zR):=
 aD LD (az (aZ.nil) _) mixed (fun b hb S hS=>by cases hS) pd zR OQ (fun |⟨c,ba,ro,l,n,i,k,s,m,j,r,b,x,t,⟨⟩⟩,hi=>Y4 c ba ro l n i k s m j r b x t hi)
noncomputable def LF:Lp:=(⟨0,aI [] Tryz.f70,(find [(aby,abX)]),(aC Tryz.f70 0),qA1,xA1⟩:Lp)
theorem Y5 (c:Int) (ba:Int) (ro:Int) (l:List (List ab)) (n:Int) (i:Int) (r:aj) (b:aa.ay) (x:aa.an) (t:List Int) (hi:zS (c,ba,ro,l,n,i,r,b,x,t,())) :(Go.aa.stepG LF pf (fun y:Den (bj LF.q)=>zS y/\OR y<OR (c,ba,ro,l,n,i,r,b,x,t,())) (c,ba,ro,l,n,i,r,b,x,t,())/\Go.aa.bB LF pf (c,ba,ro,l,n,i,r,b,x,t,())=pf (c,ba,ro,l,n,i,r,b,x,t,())):=by
 refine cast (by kernel_rfl) (?_:let r1:Int:=(↑(List.length (l.getD i.toNat (af (Ty.nm Nm.ab).slice))):Int);let r2:List ab:=List.drop (Int.toNat 0) (l.getD i.toNat (af (Ty.nm Nm.ab).slice));let r3:Int:=64000*i +(16:Int)*0;((decide (i<n)=true->(0<=i/\i <(↑l.length:Int))/\((cq fun x=>none)/\(r1 =(↑(List.length (l.getD i.toNat (af (Ty.nm Nm.ab).slice))):Int)/\List.length (l.getD i.toNat (af (Ty.nm Nm.ab).slice))<=(4000:Nat)/\rJ (l.getD i.toNat (af (Ty.nm Nm.ab).slice)))/\((0:Int)<=0/\0<=r1)/\(i=i/\0<=i/\i<=4000/\i <(↑b.2.length:Int))/\Z8 r b t/\fU r3 c/\fU r3 ba/\fU r3 ro/\Um r3 x/\Q5 r3 t)/\zS (c+au gJ r2,ba+au mb r2,ro+au lD r2,l,n,IntKind.i64.wrap (i+1),r,b,aa.an.mk (x.1+au mK r2) (x.2+au (mJ r.8) r2) (x.3+au n5 r2) (x.4+au n6 r2) x.5,bC t (ir b i) (au lN r2),())/\OR (c+au gJ r2,ba+au mb r2,ro+au lD r2,l,n,IntKind.i64.wrap (i+1),r,b,aa.an.mk (x.1+au mK r2) (x.2+au (mJ r.8) r2) (x.3+au n5 r2) (x.4+au n6 r2) x.5,bC t (ir b i) (au lN r2),())<OR (c,ba,ro,l,n,i,r,b,x,t,()))/\(decide (i<n)=false->True))/\(cond (decide (i<n)) (pf (c+au gJ r2,ba+au mb r2,ro+au lD r2,l,n,IntKind.i64.wrap (i+1),r,b,aa.an.mk (x.1+au mK r2) (x.2+au (mJ r.8) r2) (x.3+au n5 r2) (x.4+au n6 r2) x.5,bC t (ir b i) (au lN r2),())) (c,ba,ro,r,b,x,t,()))=pf (c,ba,ro,l,n,i,r,b,x,t,()));intro r1 r2 r3
 clear_value (hr1:r1=_) (hr2:r2=_) (hr3:r3=_)
 obtain ⟨⟨h1,h1c,h1a,h1b⟩,⟨h2,h3⟩,⟨hg,hbw,htl⟩,u1,u2,u3,⟨u4,u5,u6,u7⟩,u8⟩:=hi;have h1:n =(l.length:Int):=h1;have h1c:l.length=b.Boxes.length:=h1c;have h1a:l.length<=4000:=h1a;have h2:0<=i:=h2;have h3:i<=n:=h3;have htl :(t.length:Int)=r.Side+1:=htl;have hnb:=hg.1.2;refine dP (fun h=>?_) (fun h=>?_)
 ·have e1:IntKind.i64.wrap (i+1)=i+1:=a7 (by omega) (by omega);have hd:l.drop i.toNat=l.getD i.toNat (af (Ty.nm Nm.ab).slice)::l.drop (i+1).toNat:=aY h2 (by omega) _;have hdb:b.Boxes.drop i.toNat=b.Boxes.getD i.toNat aH.zero::b.Boxes.drop (i+1).toNat:=aY h2 (by omega) _;have hm:l.getD i.toNat (af (Ty.nm Nm.ab).slice)∈l:=List.mem_of_mem_drop (i:=i.toNat) (by rw [hd];exact List.mem_cons_self);obtain ⟨hl4,hw⟩:=h1b _ hm;generalize l.getD i.toNat (af (Ty.nm Nm.ab).slice)=ys at *;have e2:r2=ys:=hr2;have e3:r3=64000*i:=by rw [hr3];omega
  have hbk:0<=ir b i/\ir b i<=r.Side:=No hbw h2 (by omega);rw [e1,e2,e3]
  have up :∀ {v:Int} {f:ab->Int},fU (64000*i) v->(∀ y∈ys,0<=f y/\f y<=16)->fU (64000 *(i+1)) (v+au f ys):=fun {v f} hv hf=>by obtain ⟨v0,v1⟩:=hv;obtain ⟨c0,c1⟩:=B9 hf;exact ⟨by omega,by omega⟩
  refine ⟨⟨⟨h2,by omega⟩,⟨rfl,⟨hr1,hl4,hw⟩,⟨Int.le_refl _,by omega⟩,⟨rfl,h2,by omega,by show i <(b.Boxes.length:Int);omega⟩,⟨hg,hbw,htl⟩,u1,u2,u3,⟨u4,u5,u6,u7⟩,u8⟩,⟨⟨h1,h1c,h1a,h1b⟩,⟨?_,?_⟩,⟨hg,hbw,?_⟩,up u1 fun y hy=>oB (hw y hy),up u2 fun y _=>qR y,up u3 fun y _=>oC y,⟨up u4 fun y hy=>tA (hw y hy),up u5 fun y _=>tz hnb y,up u6 fun y hy=>tw (hw y hy),up u7 fun y hy=>tx (hw y hy)⟩,?_⟩,?_⟩,?_⟩
  ·show 0<=i+1;omega
  ·show i+1<=n;omega
  ·show ((bC t (ir b i) (au lN ys)).length:Int)=_;rw [fu];exact htl
  ·intro v hv;rcases kj hv with hv|rfl
   ·obtain ⟨v0,v1⟩:=u8 v hv;exact ⟨v0,by show v<=64000 *(i+1);omega⟩
   ·exact up (pH u8 hbk.1 (by omega)) fun y _=>mS y
  ·show (n - (i+1)).toNat <(n - i).toNat;omega
  ·have p :∀ (f:ab->Int) (v:Int),v+au f ys+au f (aU (l.drop (i+1).toNat))=v+au f (aU (l.drop i.toNat)):=fun f v=>by rw [hd];show _=v+au f (ys++aU (l.drop (i+1).toNat));rw [rF];omega
   show (c+au gJ ys+au gJ (aU (l.drop (i+1).toNat)),ba+au mb ys+au mb (aU (l.drop (i+1).toNat)),ro+au lD ys+au lD (aU (l.drop (i+1).toNat)),r,b,(⟨x.Wides+au mK ys+au mK (aU (l.drop (i+1).toNat)),x.NoBalls+au (mJ r.NoBall) ys+au (mJ r.NoBall) (aU (l.drop (i+1).toNat)),x.Byes+au n5 ys+au n5 (aU (l.drop (i+1).toNat)),x.LegByes+au n6 ys+au n6 (aU (l.drop (i+1).toNat)),x.Penalties⟩:aa.an),dM (bC t (ir b i) (au lN ys)) (b.Boxes.drop (i+1).toNat) (l.drop (i+1).toNat),())=_;rw [p gJ,p mb,p lD,p mK,p (mJ r.NoBall),p n5,p n6];unfold pf;simp only;rw [hdb,hd];rfl
 ·show (c,ba,ro,r,b,x,t,())=pf (c,ba,ro,l,n,i,r,b,x,t,());unfold pf Jg;simp only;rw [aN (l:=l) (by omega),aN (l:=b.Boxes) (by omega)];simp only [aU,au,Int.add_zero];rfl
noncomputable def Vv:aw:=aq LF pf zS
noncomputable def UV:Nat:=fo (aC Tryz.f70 0)
theorem Xm:aJ Tryz.prog 0 Tryz.f70.ntmps (aC Tryz.f70 0) (aq LF pf zS):=
 aD LF (az (aZ.nil) _) mixed (aL.cons (by kernel_rfl) Xl .nil) pf zS OR (fun |⟨c,ba,ro,l,n,i,r,b,x,t,⟨⟩⟩,hi=>Y5 c ba ro l n i r b x t hi)
noncomputable def LG:Lp:=(⟨0,aI [mg] Tryz.f70,(fun _=>none),(bA Tryz.f70 1 0),qB0,xB0⟩:Lp)
theorem Y6 (c:Int) (ba:Int) (ro:Int) (ru:Int) (wk:Int) (l:List aa.ak) (n:Int) (i:Int) (s:List ByteArray) (m:Int) (j:Int) (r:aj) (b:aa.ay) (x:aa.an) (t:List Int) (st:aa.ak) (hi:zT (c,ba,ro,ru,wk,l,n,i,s,m,j,r,b,x,t,st,())) :(Go.aa.stepG LG sE (fun y:Den (bj LG.q)=>zT y/\OS y<OS (c,ba,ro,ru,wk,l,n,i,s,m,j,r,b,x,t,st,())) (c,ba,ro,ru,wk,l,n,i,s,m,j,r,b,x,t,st,())/\Go.aa.bB LG sE (c,ba,ro,ru,wk,l,n,i,s,m,j,r,b,x,t,st,())=sE (c,ba,ro,ru,wk,l,n,i,s,m,j,r,b,x,t,st,())):=by
 refine cast (by kernel_rfl) (?_ :((decide (j<m)=true->(0<=j/\j <(↑s.length:Int))/\zT (c,ba,ro,IntKind.i64.wrap (ru +(cd (s.getD j.toNat (af Ty.str))).1),wk,l,n,i,s,m,IntKind.i64.wrap (j+1),r,b,x,t,st,())/\OS (c,ba,ro,IntKind.i64.wrap (ru +(cd (s.getD j.toNat (af Ty.str))).1),wk,l,n,i,s,m,IntKind.i64.wrap (j+1),r,b,x,t,st,())<OS (c,ba,ro,ru,wk,l,n,i,s,m,j,r,b,x,t,st,()))/\(decide (j<m)=false->True))/\(cond (decide (j<m)) (sE (c,ba,ro,IntKind.i64.wrap (ru +(cd (s.getD j.toNat (af Ty.str))).1),wk,l,n,i,s,m,IntKind.i64.wrap (j+1),r,b,x,t,st,())) (c,ba,ro,ru,wk,l,n,i,r,b,x,t,st,()))=sE (c,ba,ro,ru,wk,l,n,i,s,m,j,r,b,x,t,st,()));obtain ⟨⟨h1,h1b⟩,⟨h2,h3⟩,⟨hi0,hi4⟩,u0,u1⟩:=hi;have h1:m =(s.length:Int):=h1;have h1b:s.length<=4000:=h1b;have h2:0<=j:=h2;have h3:j<=m:=h3;have hi0:0<=i:=hi0;have hi4:i<=4000:=hi4;have u0:0<=ru:=u0;have u1:ru<=64000*i+16*j:=u1;refine dP (fun h=>?_) (fun h=>?_)
 ·have e1:IntKind.i64.wrap (j+1)=j+1:=a7 (by omega) (by omega);have hd:s.drop j.toNat=s.getD j.toNat (af Ty.str)::s.drop (j+1).toNat:=aY h2 (by omega) _;generalize s.getD j.toNat (af Ty.str)=w at *;have hf:=wH w;have e2:IntKind.i64.wrap (ru +(cd w).1)=ru +(cd w).1:=bE (by omega) (by omega);rw [e1,e2];refine ⟨⟨⟨h2,by omega⟩,⟨⟨h1,h1b⟩,⟨?_,?_⟩,⟨hi0,hi4⟩,?_,?_⟩,?_⟩,?_⟩
  ·show 0<=j+1;omega
  ·show j+1<=m;omega
  ·show 0<=ru +(cd w).1;omega
  ·show ru +(cd w).1<=64000*i+16 *(j+1);omega
  ·show (m - (j+1)).toNat <(m - j).toNat;omega
  ·have p:ru +(cd w).1+eb (s.drop (j+1).toNat)=ru+eb (s.drop j.toNat):=by rw [hd];show _=ru +((cd w).1+eb (s.drop (j+1).toNat));omega
   show (c,ba,ro,ru +(cd w).1+eb (s.drop (j+1).toNat),wk,l,n,i,r,b,x,t,st,())=_;rw [p];rfl
 ·unfold sE;simp only;rw [aN (l:=s) (by omega)];show _ =(c,ba,ro,ru+0,wk,l,n,i,r,b,x,t,st,());rw [Int.add_zero]
noncomputable def abY:aw:=aq LG sE zT
noncomputable def abz:Nat:=fo (bA Tryz.f70 1 0)
theorem Xn:aJ Tryz.prog 0 Tryz.f70.ntmps (bA Tryz.f70 1 0) (aq LG sE zT):=
 aD LG (az (.aP jV rfl .nil) _) mixed (fun b hb S hS=>by cases hS) sE zT OS (fun |⟨c,ba,ro,ru,wk,l,n,i,s,m,j,r,b,x,t,st,⟨⟩⟩,hi=>Y6 c ba ro ru wk l n i s m j r b x t st hi)
noncomputable def LH:Lp:=(⟨0,aI [mg] Tryz.f70,(find [(abz,abY)]),(aC Tryz.f70 1),qB1,xB1⟩:Lp)
theorem Y7 (c:Int) (ba:Int) (ro:Int) (ru:Int) (wk:Int) (l:List aa.ak) (n:Int) (i:Int) (r:aj) (b:aa.ay) (x:aa.an) (t:List Int) (hi:zU (c,ba,ro,ru,wk,l,n,i,r,b,x,t,())) :(Go.aa.stepG LH pg (fun y:Den (bj LH.q)=>zU y/\OT y<OT (c,ba,ro,ru,wk,l,n,i,r,b,x,t,())) (c,ba,ro,ru,wk,l,n,i,r,b,x,t,())/\Go.aa.bB LH pg (c,ba,ro,ru,wk,l,n,i,r,b,x,t,())=pg (c,ba,ro,ru,wk,l,n,i,r,b,x,t,())):=by
 refine cast (by kernel_rfl) (?_:let r1:Int:=(↑(l.getD i.toNat (af (Ty.nm Nm.ak))).2.length:Int);let r2:Bool:=(l.getD i.toNat (af (Ty.nm Nm.ak))).3==6;let r3:Bool:=(l.getD i.toNat (af (Ty.nm Nm.ak))).3==7;let r4:Int×Int×Int×Int×Int×aj×aa.ay×aa.an×List Int×PUnit:=af (I.prod (I.prod (I.prod (I.prod (I.prod ((Ty.nm Nm.aj).prod ((Ty.nm Nm.ay).prod (tXs.prod (I.slice.prod Ty.unit)))))))));let r5:Int:=IntKind.i64.wrap (ba - r1);let r6:Int:=ru+eb (List.drop (Int.toNat 0) (l.getD i.toNat (af (Ty.nm Nm.ak))).2);let r7:Int:=cond ((l.getD i.toNat (af (Ty.nm Nm.ak))).3 != 0) (IntKind.i64.wrap (wk+1)) wk;let r8:List Int:=t.set (l.getD i.toNat (af (Ty.nm Nm.ak))).4.toNat (IntKind.i64.wrap (t.getD (l.getD i.toNat (af (Ty.nm Nm.ak))).4.toNat (af (Ty.int IntKind.i64)) - 1));let r9:Bool:=cond r2 r2 (cond r3 r3 ((l.getD i.toNat (af (Ty.nm Nm.ak))).3==8));((decide (i<n)=true->((0<=i/\i <(↑l.length:Int))/\((cq fun x=>none)/\(r1 =(↑(l.getD i.toNat (af (Ty.nm Nm.ak))).2.length:Int)/\(l.getD i.toNat (af (Ty.nm Nm.ak))).2.length<=(4000:Nat))/\((0:Int)<=0/\0<=r1)/\(0<=i/\i<=4000)/\fU (64000*i +(16:Int)*0) ru)/\(0<=(l.getD i.toNat (af (Ty.nm Nm.ak))).4/\(l.getD i.toNat (af (Ty.nm Nm.ak))).4 <(↑t.length:Int))/\(0<=(l.getD i.toNat (af (Ty.nm Nm.ak))).4/\(l.getD i.toNat (af (Ty.nm Nm.ak))).4 <(↑t.length:Int))/\(r9=true->True)/\(r9=false->True))/\(true=true->zU (cond r9 c c,cond r9 r5 r5,cond r9 (IntKind.i64.wrap (ro - 1)) ro,cond r9 r6 r6,cond r9 r7 r7,cond r9 l l,cond r9 n n,IntKind.i64.wrap ((cond r9 i i)+1),aj.mk (cond r9 r.1 r.1) (cond r9 r.2 r.2) (cond r9 r.3 r.3) (cond r9 r.4 r.4) (cond r9 r.5 r.5) (cond r9 r.6 r.6) (cond r9 r.7 r.7) (cond r9 r.8 r.8) (cond r9 r.9 r.9) (cond r9 r.10 r.10) (cond r9 r.11 r.11) (cond r9 r.12 r.12) (cond r9 r.13 r.13) (cond r9 r.14 r.14),aa.ay.mk (cond r9 b.1 b.1) (cond r9 b.2 b.2) (cond r9 b.3 b.3) (aa.an.mk (cond r9 b.4.1 b.4.1) (cond r9 b.4.2 b.4.2) (cond r9 b.4.3 b.4.3) (cond r9 b.4.4 b.4.4) (cond r9 b.4.5 b.4.5)) (cond r9 b.5 b.5) (cond r9 b.6 b.6),aa.an.mk (cond r9 x.1 x.1) (cond r9 x.2 x.2) (cond r9 x.3 x.3) (cond r9 x.4 x.4) (cond r9 x.5 x.5),cond r9 r8 r8,())/\OT (cond r9 c c,cond r9 r5 r5,cond r9 (IntKind.i64.wrap (ro - 1)) ro,cond r9 r6 r6,cond r9 r7 r7,cond r9 l l,cond r9 n n,IntKind.i64.wrap ((cond r9 i i)+1),aj.mk (cond r9 r.1 r.1) (cond r9 r.2 r.2) (cond r9 r.3 r.3) (cond r9 r.4 r.4) (cond r9 r.5 r.5) (cond r9 r.6 r.6) (cond r9 r.7 r.7) (cond r9 r.8 r.8) (cond r9 r.9 r.9) (cond r9 r.10 r.10) (cond r9 r.11 r.11) (cond r9 r.12 r.12) (cond r9 r.13 r.13) (cond r9 r.14 r.14),aa.ay.mk (cond r9 b.1 b.1) (cond r9 b.2 b.2) (cond r9 b.3 b.3) (aa.an.mk (cond r9 b.4.1 b.4.1) (cond r9 b.4.2 b.4.2) (cond r9 b.4.3 b.4.3) (cond r9 b.4.4 b.4.4) (cond r9 b.4.5 b.4.5)) (cond r9 b.5 b.5) (cond r9 b.6 b.6),aa.an.mk (cond r9 x.1 x.1) (cond r9 x.2 x.2) (cond r9 x.3 x.3) (cond r9 x.4 x.4) (cond r9 x.5 x.5),cond r9 r8 r8,())<OT (c,ba,ro,ru,wk,l,n,i,r,b,x,t,())))/\(decide (i<n)=false->True))/\(cond (decide (i<n)) (cond (true&&true) (pg (cond r9 c c,cond r9 r5 r5,cond r9 (IntKind.i64.wrap (ro - 1)) ro,cond r9 r6 r6,cond r9 r7 r7,cond r9 l l,cond r9 n n,IntKind.i64.wrap ((cond r9 i i)+1),aj.mk (cond r9 r.1 r.1) (cond r9 r.2 r.2) (cond r9 r.3 r.3) (cond r9 r.4 r.4) (cond r9 r.5 r.5) (cond r9 r.6 r.6) (cond r9 r.7 r.7) (cond r9 r.8 r.8) (cond r9 r.9 r.9) (cond r9 r.10 r.10) (cond r9 r.11 r.11) (cond r9 r.12 r.12) (cond r9 r.13 r.13) (cond r9 r.14 r.14),aa.ay.mk (cond r9 b.1 b.1) (cond r9 b.2 b.2) (cond r9 b.3 b.3) (aa.an.mk (cond r9 b.4.1 b.4.1) (cond r9 b.4.2 b.4.2) (cond r9 b.4.3 b.4.3) (cond r9 b.4.4 b.4.4) (cond r9 b.4.5 b.4.5)) (cond r9 b.5 b.5) (cond r9 b.6 b.6),aa.an.mk (cond r9 x.1 x.1) (cond r9 x.2 x.2) (cond r9 x.3 x.3) (cond r9 x.4 x.4) (cond r9 x.5 x.5),cond r9 r8 r8,())) (cond true (pg (cond r9 c c,cond r9 r5 r5,cond r9 (IntKind.i64.wrap (ro - 1)) ro,cond r9 r6 r6,cond r9 r7 r7,cond r9 l l,cond r9 n n,IntKind.i64.wrap ((cond r9 i i)+1),aj.mk (cond r9 r.1 r.1) (cond r9 r.2 r.2) (cond r9 r.3 r.3) (cond r9 r.4 r.4) (cond r9 r.5 r.5) (cond r9 r.6 r.6) (cond r9 r.7 r.7) (cond r9 r.8 r.8) (cond r9 r.9 r.9) (cond r9 r.10 r.10) (cond r9 r.11 r.11) (cond r9 r.12 r.12) (cond r9 r.13 r.13) (cond r9 r.14 r.14),aa.ay.mk (cond r9 b.1 b.1) (cond r9 b.2 b.2) (cond r9 b.3 b.3) (aa.an.mk (cond r9 b.4.1 b.4.1) (cond r9 b.4.2 b.4.2) (cond r9 b.4.3 b.4.3) (cond r9 b.4.4 b.4.4) (cond r9 b.4.5 b.4.5)) (cond r9 b.5 b.5) (cond r9 b.6 b.6),aa.an.mk (cond r9 x.1 x.1) (cond r9 x.2 x.2) (cond r9 x.3 x.3) (cond r9 x.4 x.4) (cond r9 x.5 x.5),cond r9 r8 r8,())) (cond r9 r4 r4))) (c,ba,ro,ru,wk,r,b,x,t,()))=pg (c,ba,ro,ru,wk,l,n,i,r,b,x,t,()));intro r1 r2 r3 r4 r5 r6 r7 r8 r9
 clear_value (hr1:r1=_) (hr2:r2=_) (hr3:r3=_) (hr4:r4=_) (hr5:r5=_) (hr6:r6=_) (hr7:r7=_) (hr8:r8=_) (hr9:r9=_)
 simp only [Bool.cond_self] at *;obtain ⟨⟨h1,⟨h1a,h1b⟩,hbl⟩,⟨h2,h3⟩,⟨hg,hbw,htl⟩,⟨u1,v1⟩,⟨u2,v2⟩,⟨u3,v3⟩,⟨u4,v4⟩,u8⟩:=hi;have h1:n =(l.length:Int):=h1;have h1a:l.length<=4000:=h1a;have hbl:b.Strips=l:=hbl;have h2:0<=i:=h2;have h3:i<=n:=h3;have htl :(t.length:Int)=r.Side+1:=htl;have u1:-(4000*i)<=ba:=u1;have v1:ba<=300000000:=v1;have u2:-i<=ro:=u2;have v2:ro<=300000000:=v2;have u3:0<=ru:=u3;have v3:ru<=64000*i:=v3;have u4:0<=wk:=u4;have v4:wk<=i:=v4;refine dP (fun h=>?_) (fun h=>?_)
 ·have e1:IntKind.i64.wrap (i+1)=i+1:=a7 (by omega) (by omega);have hd:l.drop i.toNat=l.getD i.toNat (af (Ty.nm Nm.ak))::l.drop (i+1).toNat:=aY h2 (by omega) _;have hm:l.getD i.toNat (af (Ty.nm Nm.ak))∈l:=List.mem_of_mem_drop (i:=i.toNat) (by rw [hd];exact List.mem_cons_self);have hx:=h1b _ hm;have hbx:=hbw.2 _ (by rw [hbl];exact hm);generalize l.getD i.toNat (af (Ty.nm Nm.ak))=y at *;have hrb:=IV y.Symbols;have hy0:0<=y.Bowler:=hbx.1;have hyl:y.Bowler <(t.length:Int):=by omega
  obtain ⟨g0,g1⟩:=pH u8 hy0 hyl
  have e5:r5=ba - kV y:=by rw [hr5,hr1];exact bE (by omega) (by omega)
  have e6:r6=ru+rz y:=hr6;have hgo:0<=qi y/\qi y<=1:=by unfold qi;split <;> decide
  have hgr:0<=qj y/\qj y<=1:=by unfold qj;split <;> decide
  have e7:r7=wk+qi y:=by
   rw [hr7];unfold qi;show (bif y.How != 0 then IntKind.i64.wrap (wk+1) else wk)=wk+if y.How==0 then 0 else 1
   cases hz:y.How==0 with
   | true=>rw [show (y.How != 0)=false by rw [bne,hz];rfl];show wk=wk+0;omega
   | false=>rw [show (y.How != 0)=true by rw [bne,hz];rfl];exact bE (by omega) (by omega)
  have e9 :(bif r9 then IntKind.i64.wrap (ro - 1) else ro)=ro - qj y:=by
   have:r9 =(y.How==6 ||(y.How==7||y.How==8)):=by rw [hr9,hr2,hr3];cases hz:y.How==6 <;> cases hq:y.How==7 <;> rfl
   rw [this];unfold qj
   cases (y.How==6 ||(y.How==7||y.How==8)) with
   | true=>exact bE (by omega) (by omega)
   | false=>show ro=ro - 0;omega
  have e8:r8=bC t y.Bowler (-1):=by rw [hr8];show t.set y.Bowler.toNat (IntKind.i64.wrap (t.getD y.Bowler.toNat 0 - 1))=t.set y.Bowler.toNat (t.getD y.Bowler.toNat 0 + -1);rw [show IntKind.i64.wrap (t.getD y.Bowler.toNat 0 - 1)=t.getD y.Bowler.toNat 0 + -1 from bE (by omega) (by omega)]
  rw [e5,e6,e7,e8,e9,e1];have hgl:0<=kV y/\kV y<=4000:=by unfold kV;omega
  have hgn:0<=rz y/\rz y<=44000:=by unfold rz;omega
  refine ⟨⟨⟨⟨h2,by omega⟩,⟨rfl,⟨hr1,hx⟩,⟨Int.le_refl _,by omega⟩,⟨h2,by omega⟩,u3,by omega⟩,⟨hy0,hyl⟩,⟨hy0,hyl⟩,fun _=>trivial,fun _=>trivial⟩,fun _=>⟨⟨⟨h1,⟨h1a,h1b⟩,hbl⟩,⟨?_,?_⟩,⟨hg,hbw,?_⟩,⟨?_,?_⟩,⟨?_,?_⟩,⟨?_,?_⟩,⟨?_,?_⟩,?_⟩,?_⟩⟩,?_⟩
  ·show 0<=i+1;omega
  ·show i+1<=n;omega
  ·show ((bC t y.Bowler (-1)).length:Int)=_;rw [fu];exact htl
  ·show -(4000 *(i+1))<=ba - kV y;omega
  ·show ba - kV y<=300000000;omega
  ·show -(i+1)<=ro - qj y;omega
  ·show ro - qj y<=300000000;omega
  ·show 0<=ru+rz y;omega
  ·show ru+rz y<=64000 *(i+1);omega
  ·show 0<=wk+qi y;omega
  ·show wk+qi y<=i+1;omega
  ·intro v hv;rcases kj hv with hv|rfl
   ·obtain ⟨v0,v1⟩:=u8 v hv;exact ⟨by show -(i+1)<=v;omega,v1⟩
   ·exact ⟨by show -(i+1)<=_;omega,by omega⟩
  ·show (n - (i+1)).toNat <(n - i).toNat;omega
  ·have p :∀ (f:aa.ak->Int) (v:Int),v+f y+bt f (l.drop (i+1).toNat)=v+bt f (l.drop i.toNat):=fun f v=>by rw [hd];show _=v +(f y+bt f (l.drop (i+1).toNat));omega
   have pm :∀ (f:aa.ak->Int) (v:Int),v - f y - bt f (l.drop (i+1).toNat)=v - bt f (l.drop i.toNat):=fun f v=>by rw [hd];show _=v - (f y+bt f (l.drop (i+1).toNat));omega
   show (c,ba - kV y - bt kV (l.drop (i+1).toNat),ro - qj y - bt qj (l.drop (i+1).toNat),ru+rz y+bt rz (l.drop (i+1).toNat),wk+qi y+bt qi (l.drop (i+1).toNat),r,b,x,ml (bC t y.Bowler (-1)) (l.drop (i+1).toNat),())=_;rw [pm kV,pm qj,p rz,p qi];unfold pg;simp only;rw [hd];rfl
 ·unfold pg;simp only;rw [aN (l:=l) (by omega)];show _ =(c,ba - 0,ro - 0,ru+0,wk+0,r,b,x,t,());simp only [Int.add_zero,Int.sub_zero]
noncomputable def Vw:aw:=aq LH pg zU
noncomputable def UW:Nat:=fo (aC Tryz.f70 1)
theorem Xo:aJ Tryz.prog 0 Tryz.f70.ntmps (aC Tryz.f70 1) (aq LH pg zU):=
 aD LH (az (.aP jV rfl .nil) _) mixed (aL.cons (by kernel_rfl) Xn .nil) pg zU OT (fun |⟨c,ba,ro,ru,wk,l,n,i,r,b,x,t,⟨⟩⟩,hi=>Y7 c ba ro ru wk l n i r b x t hi)
noncomputable def LW:Lp:=(⟨0,aI [] Tryz.f70,(fun _=>none),(aC Tryz.f70 2),qK0,xK0⟩:Lp)
theorem Zl (c:Int) (ba:Int) (ro:Int) (ru:Int) (wk:Int) (l:List Int) (n:Int) (i:Int) (b:aa.ay) (x:aa.an) (hi:Ai (c,ba,ro,ru,wk,l,n,i,b,x,())) :(Go.aa.stepG LW ln (fun y:Den (bj LW.q)=>Ai y/\O5 y<O5 (c,ba,ro,ru,wk,l,n,i,b,x,())) (c,ba,ro,ru,wk,l,n,i,b,x,())/\Go.aa.bB LW ln (c,ba,ro,ru,wk,l,n,i,b,x,())=ln (c,ba,ro,ru,wk,l,n,i,b,x,())):=by
 refine cast (by kernel_rfl) (?_:let r1:Bool:=l.getD i.toNat (af (Ty.int IntKind.i64)) != 0;((decide (i<n)=true->(0<=i/\i <(↑l.length:Int))/\(r1=true->True)/\(r1=false->Ai (c,ba,ro,ru,wk,l,n,IntKind.i64.wrap (i+1),b,x,())/\O5 (c,ba,ro,ru,wk,l,n,IntKind.i64.wrap (i+1),b,x,())<O5 (c,ba,ro,ru,wk,l,n,i,b,x,())))/\(decide (i<n)=false->True))/\(cond (decide (i<n)) (cond r1 (Sum.inr (false,())) (ln (c,ba,ro,ru,wk,l,n,IntKind.i64.wrap (i+1),b,x,()))) (Sum.inl (c,ba,ro,ru,wk,b,x,())))=ln (c,ba,ro,ru,wk,l,n,i,b,x,()));intro r1
 clear_value (hr1:r1=_)
 obtain ⟨⟨h1,h1b⟩,h2,h3⟩:=hi;have h1:n =(l.length:Int):=h1;have h1b:l.length<=4000:=h1b;have h2:0<=i:=h2;have h3:i<=n:=h3;refine dP (fun h=>?_) (fun h=>?_)
 ·have e1:IntKind.i64.wrap (i+1)=i+1:=a7 (by omega) (by omega);have hd:l.drop i.toNat=l.getD i.toNat (af (Ty.int IntKind.i64))::l.drop (i+1).toNat:=aY h2 (by omega) _;generalize l.getD i.toNat (af (Ty.int IntKind.i64))=w at *;rw [e1];refine ⟨⟨⟨h2,by omega⟩,fun _=>trivial,fun _=>⟨⟨⟨h1,h1b⟩,?_,?_⟩,?_⟩⟩,?_⟩
  ·show 0<=i+1;omega
  ·show i+1<=n;omega
  ·show (n - (i+1)).toNat <(n - i).toNat;omega
  ·unfold ln;simp only;rw [hd,List.all_cons,hr1];show (bif w != 0 then _ else _) =(if (w==0&&_)=true then _ else _);rw [bne];cases w==0 <;> rfl
 ·unfold ln;simp only;rw [aN (l:=l) (by omega)];rfl
noncomputable def VG:aw:=aq LW ln Ai
noncomputable def U6:Nat:=fo (aC Tryz.f70 2)
theorem XD:aJ Tryz.prog 0 Tryz.f70.ntmps (aC Tryz.f70 2) (aq LW ln Ai):=
 aD LW (az (aZ.nil) _) mixed (fun b hb S hS=>by cases hS) ln Ai O5 (fun |⟨c,ba,ro,ru,wk,l,n,i,b,x,⟨⟩⟩,hi=>Zl c ba ro ru wk l n i b x hi)
theorem GG (r:aj) (b:aa.ay) (es:List (List ab)) (hd:ndA r b es) :(a8 (aI [] Tryz.f70) (find [(UV,Vv),(UW,Vw),(U6,VG)]) Tryz.f70 Tn cO (r,b,es,())).sat fun z_=>z_ =(YB (r,b,es,())).2:=by
 refine cast (by kernel_rfl) (?_:let r1:Int:=IntKind.i64.wrap (r.2+1);let r2:Int:=(64000:Int)*0;let r3:Int:=0+au mb (aU (List.drop (Int.toNat 0) es));let r4:Int:=0+au lD (aU (List.drop (Int.toNat 0) es));let r5:List Int:=List.replicate r1.toNat 0;let r6:List Int:=dM r5 (List.drop (Int.toNat 0) b.2) (List.drop (Int.toNat 0) es);let r7:List Int:=ml r6 (List.drop (Int.toNat 0) b.3);let r8:Int:=(↑r7.length:Int);let r9:List Int:=List.drop (Int.toNat 1) (List.take r8.toNat r7);let r10:Int:=(↑r9.length:Int);let r11:Bool:=wV (ln (0+au gJ (aU (List.drop (Int.toNat 0) es)),r3 - bt kV (List.drop (Int.toNat 0) b.3),r4 - bt qj (List.drop (Int.toNat 0) b.3),0+bt rz (List.drop (Int.toNat 0) b.3),0+bt qi (List.drop (Int.toNat 0) b.3),r9,r10,0,b,aa.an.mk (0+au mK (aU (List.drop (Int.toNat 0) es))) (0+au (mJ r.8) (aU (List.drop (Int.toNat 0) es))) (0+au n5 (aU (List.drop (Int.toNat 0) es))) (0+au n6 (aU (List.drop (Int.toNat 0) es))) 0,()));let r12:Int×Int×Int×Int×Int×aa.ay×aa.an×PUnit:=mV (af (I.prod (I.prod (I.prod (I.prod (I.prod ((Ty.nm Nm.ay).prod (tXs.prod Ty.unit)))))))) (ln (0+au gJ (aU (List.drop (Int.toNat 0) es)),r3 - bt kV (List.drop (Int.toNat 0) b.3),r4 - bt qj (List.drop (Int.toNat 0) b.3),0+bt rz (List.drop (Int.toNat 0) b.3),0+bt qi (List.drop (Int.toNat 0) b.3),r9,r10,0,b,aa.an.mk (0+au mK (aU (List.drop (Int.toNat 0) es))) (0+au (mJ r.8) (aU (List.drop (Int.toNat 0) es))) (0+au n5 (aU (List.drop (Int.toNat 0) es))) (0+au n6 (aU (List.drop (Int.toNat 0) es))) 0,()));let r13:Bool:=r12.2.1==0;let r14:Bool:=r12.2.2.1==0;let r15:Bool:=r12.2.2.2.2.2.1.4.5.tmod (5:Int)==0;let r16:Bool:=r12.2.2.2.1==IntKind.i64.wrap (IntKind.i64.wrap (r12.1 - r12.2.2.2.2.2.1.4.1) - r12.2.2.2.2.2.1.4.2);let r17:Bool:=r12.2.2.2.2.2.1.5==IntKind.i64.wrap (IntKind.i64.wrap (IntKind.i64.wrap (r12.1+r12.2.2.2.2.2.1.4.3)+r12.2.2.2.2.2.1.4.4)+r12.2.2.2.2.2.1.4.5);let r18:Bool:=r12.2.2.2.2.2.1.4.1==r12.2.2.2.2.2.2.1.1&&(r12.2.2.2.2.2.1.4.2==r12.2.2.2.2.2.2.1.2&&(r12.2.2.2.2.2.1.4.3==r12.2.2.2.2.2.2.1.3&&(r12.2.2.2.2.2.1.4.4==r12.2.2.2.2.2.2.1.4&&(r12.2.2.2.2.2.1.4.5==r12.2.2.2.2.2.1.4.5&&true))));(0<=r1/\r1=r1/\r1<=17179869184)/\((cq fun x=>none)/\((↑es.length:Int) =(↑es.length:Int)/\es.length=b.2.length/\es.length<=(4000:Nat)/\wo es)/\((0:Int)<=0/\0<=(↑es.length:Int))/\Z8 r b r5/\fU r2 0/\fU r2 0/\fU r2 0/\Um r2 (aa.an.mk 0 0 0 0 0)/\Q5 r2 r5)/\((cq fun x=>none)/\((↑b.3.length:Int) =(↑b.3.length:Int)/\xY b.3/\b.3=b.3)/\((0:Int)<=0/\0<=(↑b.3.length:Int))/\Z8 r b r6/\Re ((4000:Int)*0) 300000000 r3/\Re 0 300000000 r4/\fU r2 0/\fU 0 0/\∀ (v:Int),v∈r6->Re 0 300000000 v)/\((0:Int)<=1/\1<=r8/\r8<=r8)/\((cq fun x=>none)/\(r10 =(↑r9.length:Int)/\r9.length<=(4000:Nat))/\(0:Int)<=0/\0<=r10)/\(r11=true->((r13=true->(r14=true->(r16=true->(r18=true->(5:Int)≠0/\(r15=true->(r17=true->True)/\(r17=false->True))/\(r15=false->True))/\(r18=false->True))/\(r16=false->True))/\(r14=false->True))/\(r13=false->True))/\(true=true->(cond r13 (cond r14 (cond r16 (cond r18 (cond r15 (cond r17 (r12.2.2.2.2.2.1.6==r12.2.2.2.2.1) false) false) false) false) false) false,()) =(n4 r b es,())))/\(r11=false->jL (af (Ty.bool.prod Ty.unit)) (ln (0+au gJ (aU (List.drop (Int.toNat 0) es)),r3 - bt kV (List.drop (Int.toNat 0) b.3),r4 - bt qj (List.drop (Int.toNat 0) b.3),0+bt rz (List.drop (Int.toNat 0) b.3),0+bt qi (List.drop (Int.toNat 0) b.3),r9,r10,0,b,aa.an.mk (0+au mK (aU (List.drop (Int.toNat 0) es))) (0+au (mJ r.8) (aU (List.drop (Int.toNat 0) es))) (0+au n5 (aU (List.drop (Int.toNat 0) es))) (0+au n6 (aU (List.drop (Int.toNat 0) es))) 0,())) =(n4 r b es,())));intro r1 r2 r3 r4 r5 r6 r7 r8 r9 r10 r11 r12 r13 r14 r15 r16 r17 r18
 clear_value (hr1:r1=_) (hr2:r2=_) (hr3:r3=_) (hr4:r4=_) (hr5:r5=_) (hr6:r6=_) (hr7:r7=_) (hr8:r8=_) (hr9:r9=_) (hr10:r10=_) (hr11:r11=_) (hr12:r12=_) (hr13:r13=_) (hr14:r14=_) (hr15:r15=_) (hr16:r16=_) (hr17:r17=_) (hr18:r18=_)
 obtain ⟨⟨hl,hl4,hes⟩,⟨hg,hbw⟩,hst,hsum⟩:=hd;obtain ⟨hwn,⟨hb0,hb1⟩,hs0,hs1⟩:=id hg;have e1:r1=r.Side+1:=by rw [hr1];exact bE (by omega) (by omega)
 have e5:r5=List.replicate (r.Side.toNat+1) 0:=by rw [hr5,e1];congr 1;omega
 have e6:r6=dM r5 b.Boxes es:=hr6;have e7:r7=ml r6 b.Strips:=hr7;have l5 :(r5.length:Int)=r.Side+1:=by rw [e5,List.length_replicate];omega
 have l6 :(r6.length:Int)=r.Side+1:=by rw [e6,mD];exact l5
 have l7 :(r7.length:Int)=r.Side+1:=by rw [e7,xy];exact l6
 have e9:r9=r7.drop 1:=by rw [hr9,hr8];show List.drop 1 (List.take ((r7.length:Int)).toNat r7)=_;rw [Int.toNat_natCast,List.take_length]
 have l9:r9.length<=4000:=by rw [e9,List.length_drop];omega
 have hc:=sV (f:=gJ) (fun y h=>oB h) hes;have hf:=sV (f:=mb) (fun y _=>qR y) hes;have ho:=sV (f:=lD) (fun y _=>oC y) hes;have e3:r3=au mb (aU es):=by rw [hr3];exact Int.zero_add _
 have e4:r4=au lD (aU es):=by rw [hr4];exact Int.zero_add _
 have u5:Q5 0 r5:=fun v hv=>by
  rw [e5] at hv
  have:=(List.mem_replicate.1 hv).2
  rw [this];exact ⟨Int.le_refl _,Int.le_refl _⟩
 have u6 :∀ v∈r6,Re 0 300000000 v:=fun v hv=>by rw [e6] at hv;obtain ⟨a,c⟩:=yk (Int.le_refl 0) u5 hes v hv;exact ⟨by omega,by omega⟩
 have e2:r2=0:=by rw [hr2];rfl
 have z0:fU r2 0:=by rw [e2];exact ⟨Int.le_refl _,Int.le_refl _⟩
 have w1:=gv hsum (v:=b.Total) (by unfold cZ;simp);have w2:=gv hsum (v:=b.an.Wides) (by unfold cZ;simp);have w3:=gv hsum (v:=b.an.NoBalls) (by unfold cZ;simp);have w4:=gv hsum (v:=b.an.Byes) (by unfold cZ;simp);have w5:=gv hsum (v:=b.an.LegByes) (by unfold cZ;simp);have w6:=gv hsum (v:=b.an.Penalties) (by unfold cZ;simp);refine ⟨⟨by omega,rfl,by omega⟩,⟨rfl,⟨rfl,hl,hl4,hes⟩,⟨Int.le_refl _,by omega⟩,⟨hg,hbw,l5⟩,z0,z0,z0,⟨z0,z0,z0,z0⟩,by rw [e2];exact u5⟩,⟨rfl,⟨rfl,hst,rfl⟩,⟨Int.le_refl _,by omega⟩,⟨hg,hbw,l6⟩,⟨by rw [e3];show -(4000*0)<=_;omega,by rw [e3];omega⟩,⟨by rw [e4];omega,by rw [e4];omega⟩,z0,⟨Int.le_refl _,Int.le_refl _⟩,u6⟩,⟨by decide,by rw [hr8];omega,Int.le_refl _⟩,⟨rfl,⟨hr10,l9⟩,Int.le_refl _,by rw [hr10];omega⟩,?_⟩;have hag:=Jh (r:=r) (b:=b) (es:=es) (fun x hx=>(hbw.1 x hx).1) (fun x hx=>(hbw.2 x hx).1)
 have hz :(List.drop (Int.toNat 0) r9).all (fun v=>v==0) =((ml (dM (List.replicate (r.Side.toNat+1) 0) b.Boxes es) b.Strips).drop 1).all (fun v=>v==0):=by rw [e9,e7,e6,e5];rfl
 rw [<-hz] at hag;unfold ln at hr11 hr12 ⊢;simp only at hr11 hr12 ⊢
 cases hA :(List.drop (Int.toNat 0) r9).all (fun v=>v==0) with
 | false=>
  rw [hA] at hr11 hag;refine ⟨fun h=>?_,fun _=>?_⟩
  ·rw [hr11] at h;cases h
  ·rw [hag];rfl
 | true=>
  rw [hA] at hr11 hr12 hag;have e11:r11=true:=hr11;rw [if_pos rfl] at hr12;have hr12:r12=_:=hr12;refine ⟨fun _=>⟨⟨fun _=>⟨fun _=>⟨fun _=>⟨fun _=>⟨by decide,fun _=>⟨fun _=>trivial,fun _=>trivial⟩,fun _=>trivial⟩,fun _=>trivial⟩,fun _=>trivial⟩,fun _=>trivial⟩,fun _=>trivial⟩,fun _=>?_⟩,fun h=>by rw [e11] at h;cases h⟩;rw [hag];have x1:r12.1=au gJ (aU es):=by rw [hr12];exact Int.zero_add _
  have x2:r12.2.1=au mb (aU es) - bt kV b.Strips:=by rw [hr12];show r3 - _=_;rw [e3];rfl
  have x3:r12.2.2.1=au lD (aU es) - bt qj b.Strips:=by rw [hr12];show r4 - _=_;rw [e4];rfl
  have x4:r12.2.2.2.1=bt rz b.Strips:=by rw [hr12];exact Int.zero_add _
  have x5:r12.2.2.2.2.1=bt qi b.Strips:=by rw [hr12];exact Int.zero_add _
  have x6:r12.2.2.2.2.2.1=b:=by rw [hr12];rfl
  have x7:r12.2.2.2.2.2.2.1 =⟨au mK (aU es),au (mJ r.NoBall) (aU es),au n5 (aU es),au n6 (aU es),0⟩:=by rw [hr12];show (⟨0+_,0+_,0+_,0+_,0⟩:aa.an)=_;simp only [Int.zero_add];rfl
  rw [x2] at hr13;rw [x3] at hr14;rw [x6] at hr15;rw [x4,x1,x6] at hr16;rw [x6,x1] at hr17;rw [x6,x7] at hr18;rw [x6,x5];have y1:IntKind.i64.wrap (au gJ (aU es) - b.an.Wides)=au gJ (aU es) - b.an.Wides:=bE (by omega) (by omega);have y2:IntKind.i64.wrap (au gJ (aU es) - b.an.Wides - b.an.NoBalls)=au gJ (aU es) - b.an.Wides - b.an.NoBalls:=bE (by omega) (by omega);have y3:IntKind.i64.wrap (au gJ (aU es)+b.an.Byes)=au gJ (aU es)+b.an.Byes:=bE (by omega) (by omega);have y4:IntKind.i64.wrap (au gJ (aU es)+b.an.Byes+b.an.LegByes)=au gJ (aU es)+b.an.Byes+b.an.LegByes:=bE (by omega) (by omega);have y5:IntKind.i64.wrap (au gJ (aU es)+b.an.Byes+b.an.LegByes+b.an.Penalties)=au gJ (aU es)+b.an.Byes+b.an.LegByes+b.an.Penalties:=bE (by omega) (by omega);rw [y1,y2] at hr16;rw [y3,y4,y5] at hr17;congr 1;rw [hr13,hr14,hr15,hr16,hr17,hr18,Bool.eq_iff_iff];unfold Rw;simp only [Bool.cond_false_right,Bool.and_eq_true,beq_iff_eq,true_and,and_true,Bool.true_and];constructor
  ·rintro ⟨q1,q2,q3,⟨q4,q5,q6,q7⟩,q8,q9,q10⟩
   exact ⟨by omega,by omega,q3,q4,q5,q6,q7,q8,q9,q10⟩
  ·rintro ⟨q1,q2,q3,q4,q5,q6,q7,q8,q9,q10⟩
   exact ⟨by omega,by omega,q3,⟨q4,q5,q6,q7⟩,q8,q9,q10⟩
def AB:FuncId×dR:=(70,ax KE Tn cO YB)
theorem Ih:aR Tryz.prog KE 70 (ax KE Tn cO YB):=by
 refine bh (C:=aI [] Tryz.f70) (az (aZ.nil) _) mixed (fn:=Tryz.f70) Tryz.func70 (by kernel_rfl) (by kernel_rfl) (by kernel_rfl) (by kernel_rfl) (by kernel_rfl) (by kernel_rfl) (Λ:=fun x=>find [(UV,Vv),(UW,Vw),(U6,VG)]) ?_ ?_
 ·rintro ⟨r,b,es,⟨⟩⟩ hw hn
  exact aL.at (by kernel_rfl) (.cons (by kernel_rfl) (Xm) (.cons (by kernel_rfl) (Xo) (.cons (by kernel_rfl) (XD) .nil)))
 ·rintro ⟨r,b,es,⟨⟩⟩ hw hn
  exact GG r b es (hn _ List.mem_cons_self)
end
section
open Go Go.aa
def J92 (s:ByteArray) (i:Nat):St:=⟨[(0,.str s),(7,.osl 16 16),(8,.int .i64 (bm s).length),(9,.int .i64 i)],[(16,.row 16 true (.int .u8) (bm s))],fun _=>none,40⟩
def T92 (s:ByteArray):Tr:= .br (fx s s.size) (.leaf (.ext 0) ⟨[(0,.str s)],[]⟩ 40) (.leaf .ret ⟨[(2,.kb false)],[]⟩ 40)
def Λ92 (s:ByteArray):Nat->Option aw:=find [(2,gr ⟨[],[],40⟩ (J92 s 0) (T92 s))]
end
section
open Go Go.aa
attribute [local irreducible] Go.aa.RT.sat Go.aa.dD Go.aa.bT
theorem aci {n:Nm} {x:n.T} (h:zg (.nm n) x):zg n.n7 (n.to x):=by obtain ⟨S,w,cs,h⟩:=h;cases h with|nm h=>exact ⟨_,_,_,h⟩
theorem sS {r:aj} (h:zg (.nm .aj) r):r.Power.length<=aW:=
 mI (gD (iQ (iQ (iQ (iQ (iQ (iQ (iQ (iQ (iQ (iQ (iQ (iQ (iQ (aci h)))))))))))))))
theorem abT (n:Int) (lo:Int) (hi:Int) :(dD (zB [] Tryz.f148) (fun _=>none) Tryz.f148 (fq IC (n,lo,hi,()))).sat fun v' rows=>hZ v' (px (n,lo,hi,())).v/\rows =(px (n,lo,hi,())).rows:=by refine cast (by kernel_rfl) (?_ :(cond (decide (n>=lo)) (decide (n<=hi)) false)=aA n lo hi/\([]:List RowD)=[]);simp only [aA];grind
theorem Ya:aR Tryz.prog K8 148 (bq K8 IC px):=by
 refine ie (C:=zB [] Tryz.f148) (jr (aZ.nil) _) mixed (fn:=Tryz.f148) Tryz.func148 (by kernel_rfl) (by kernel_rfl) (by kernel_rfl) (Λ:=fun _ _=>none) ?_ ?_ ?_
 ·exact fun _ _ _ _ _ _ _ _ h=>by cases h
 ·rintro ⟨n,lo,hi,⟨⟩⟩
  exact of_decide_eq_true (by kernel_rfl)
 ·rintro ⟨n,lo,hi,⟨⟩⟩ hw hn
  exact abT n lo hi
theorem abS (n:Int) (lo:Int) (hi:Int) :(dD (zB [] Tryz.f72) (fun _=>none) Tryz.f72 (fq IC (n,lo,hi,()))).sat fun v' rows=>hZ v' (px (n,lo,hi,())).v/\rows =(px (n,lo,hi,())).rows:=by refine cast (by kernel_rfl) (?_ :(cond (decide (n>=lo)) (decide (n<=hi)) false)=aA n lo hi/\([]:List RowD)=[]);simp only [aA];grind
theorem abt:aR Tryz.prog K8 72 (bq K8 IC px):=by
 refine ie (C:=zB [] Tryz.f72) (jr (aZ.nil) _) mixed (fn:=Tryz.f72) Tryz.func72 (by kernel_rfl) (by kernel_rfl) (by kernel_rfl) (Λ:=fun _ _=>none) ?_ ?_ ?_
 ·exact fun _ _ _ _ _ _ _ _ h=>by cases h
 ·rintro ⟨n,lo,hi,⟨⟩⟩
  exact of_decide_eq_true (by kernel_rfl)
 ·rintro ⟨n,lo,hi,⟨⟩⟩ hw hn
  exact abS n lo hi
theorem abP (r:aj) :(dD (zB [k97] Tryz.f113) (fun _=>none) Tryz.f113 (fq rl (r,()))).sat fun v' rows=>hZ v' (DU (r,())).v/\rows =(DU (r,())).rows:=by refine cast (by kernel_rfl) (?_ :(cond (aA r.2 2 11) (cond (aA r.3 1 2) (cond (aA r.4 0 90) (cond (aA r.5 4 8) (cond (aA r.6 0 90) (cond (aA r.7 1 5) (cond (aA r.8 1 5) (cond (aA r.10 0 200) (cond (aA r.11 0 1000) (cond (aA r.12 0 9) (aA r.13 0 11) false) false) false) false) false) false) false) false) false) false)=fy r/\([]:List RowD)=[]);simp only [fy,Bool.cond_false_right,and_self]
theorem aeI:aR Tryz.prog K8 113 (bq K8 rl DU):=by
 refine ie (C:=zB [k97] Tryz.f113) (jr (.cons Ya .nil) _) mixed (fn:=Tryz.f113) Tryz.func113 (by kernel_rfl) (by kernel_rfl) (by kernel_rfl) (Λ:=fun _ _=>none) ?_ ?_ ?_
 ·exact fun _ _ _ _ _ _ _ _ h=>by cases h
 ·rintro ⟨r,⟨⟩⟩
  exact of_decide_eq_true (by kernel_rfl)
 ·rintro ⟨r,⟨⟩⟩ hw hn
  exact abP r
theorem xP (r:aj) (i n:Nat):cz r i (n+1)=if jE r i != 0 then jE r i else cz r (i+1) n:=rfl
theorem Ee {s:ByteArray} (h:zg .str s):s.size<=aW:=by obtain ⟨S,w,cs,h⟩:=h;cases h with|str h=>exact h
theorem Y2 (r:aj) (hx:r.Power.length<=aW) (i:Nat) (hi:uJ r i) :(bT (J94 r) (uJ r) (fun i=>r.Power.length - i) i (Ut r) (cw (zB [k97] Tryz.f114) (fun _=>none) (aC Tryz.f114 0) (J94 r i)) (L94 i)).1:=by
 refine cast (by kernel_rfl) (?_ :(decide ((↑i:Int) <(↑r.14.length:Int))=true->(0<=(↑i:Int)/\(↑i:Int) <(↑r.14.length:Int))/\((cond (decide ((r.14.getD (↑i:Int).toNat (af (Ty.nm Nm.Phase))).1<1)) true (cond (decide ((r.14.getD (↑i:Int).toNat (af (Ty.nm Nm.Phase))).1 >(r.14.getD (↑i:Int).toNat (af (Ty.nm Nm.Phase))).2)) true (cond (decide ((r.14.getD (↑i:Int).toNat (af (Ty.nm Nm.Phase))).2>r.4)) true (!aA (r.14.getD (↑i:Int).toNat (af (Ty.nm Nm.Phase))).3 0 11))))=true->(cz r (0:Nat) r.14.length != 0)=true/\(2=cz r (0:Nat) r.14.length/\True)/\True)/\((cond (decide ((r.14.getD (↑i:Int).toNat (af (Ty.nm Nm.Phase))).1<1)) true (cond (decide ((r.14.getD (↑i:Int).toNat (af (Ty.nm Nm.Phase))).1 >(r.14.getD (↑i:Int).toNat (af (Ty.nm Nm.Phase))).2)) true (cond (decide ((r.14.getD (↑i:Int).toNat (af (Ty.nm Nm.Phase))).2>r.4)) true (!aA (r.14.getD (↑i:Int).toNat (af (Ty.nm Nm.Phase))).3 0 11))))=false->((decide ((↑i:Int)>0)=true->(0<=IntKind.i64.wrap ((↑i:Int) - 1)/\IntKind.i64.wrap ((↑i:Int) - 1) <(↑r.14.length:Int))/\True)/\(decide ((↑i:Int)>0)=false->True))/\(true=true->((cond (decide ((↑i:Int)>0)) (decide ((r.14.getD (↑i:Int).toNat (af (Ty.nm Nm.Phase))).1<=(r.14.getD (IntKind.i64.wrap ((↑i:Int) - 1)).toNat (af (Ty.nm Nm.Phase))).2)) false)=true->(cz r (0:Nat) r.14.length != 0)=true/\(8=cz r (0:Nat) r.14.length/\True)/\True)/\((cond (decide ((↑i:Int)>0)) (decide ((r.14.getD (↑i:Int).toNat (af (Ty.nm Nm.Phase))).1<=(r.14.getD (IntKind.i64.wrap ((↑i:Int) - 1)).toNat (af (Ty.nm Nm.Phase))).2)) false)=false->uJ r (i +(1:Nat))/\r.14.length - (i +(1:Nat))<r.14.length - i/\(True/\RowD.mk (Ty.nm Nm.Phase) r.14=RowD.mk (Ty.nm Nm.Phase) r.14/\(↑r.14.length:Int) =(↑r.14.length:Int)/\IntKind.i64.wrap ((↑i:Int)+1) =(↑(i +(1:Nat)):Int)/\True)/\(r.1=r.1/\r.2=r.2/\r.3=r.3/\r.4=r.4/\r.5=r.5/\r.6=r.6/\r.7=r.7/\r.8=r.8/\r.9=r.9/\r.10=r.10/\r.11=r.11/\r.12=r.12/\r.13=r.13/\RowD.mk (Ty.nm Nm.Phase) r.14=RowD.mk (Ty.nm Nm.Phase) r.14/\True)/\True))))/\(decide ((↑i:Int) <(↑r.14.length:Int))=false->(cz r (0:Nat) r.14.length != 0)=false/\True/\True));have e :(i:Int).toNat=i:=by simp
 rw [e];have hb:r.Power.length<=140737488355328:=hx;have hp:r.Power.getD i (af (Ty.nm Nm.Phase))=bP r i:=rfl;rw [hp]
 have hpb :(bif decide ((bP r i).From<1) then true else bif decide ((bP r i).From >(bP r i).To) then true else bif decide ((bP r i).To>r.Overs) then true else !aA (bP r i).Outside 0 11)=oV r (bP r i):=by simp only [oV,Bool.cond_true_left]
 rw [hpb];obtain ⟨hi1,hi2⟩:=hi;refine ⟨fun h1=>?_,fun h1=>?_⟩
 ·have h1:i<r.Power.length:=by simpa using h1
  have hn:r.Power.length - i =(r.Power.length - (i+1))+1:=by omega
  rw [hn,xP] at hi2;have hw1:0<i->IntKind.i64.wrap ((i:Int) - 1) =((i - 1:Nat):Int):=fun h=>by rw [a7 (by omega) (by omega)];omega
  refine ⟨⟨by omega,by omega⟩,fun h2=>?_,fun h2=>⟨⟨fun h3=>?_,fun _=>trivial⟩,fun _=>⟨fun h3=>?_,fun h3=>?_⟩⟩⟩
  ·have hE:jE r i=2:=by simp only [jE,h2];rfl
   rw [hE] at hi2;have hi2:cz r 0 r.Power.length=2:=hi2;rw [hi2];exact ⟨rfl,⟨rfl,trivial⟩,trivial⟩
  ·have h3:0<i:=by simpa using h3
   rw [hw1 h3];exact ⟨⟨by omega,by omega⟩,trivial⟩
  ·have h4:0<i:=by
    by_cases h4:0<i
    ·exact h4
    ·have:i=0:=by omega
     subst this;simp at h3
   rw [hw1 h4,Int.toNat_natCast] at h3;have hq:r.Power.getD (i - 1) (af (Ty.nm Nm.Phase))=bP r (i - 1):=rfl;rw [hq] at h3;have h5 :(decide ((i:Int)>0)&&decide ((bP r i).From<=(bP r (i - 1)).To))=true:=by rw [<-h3];cases decide ((i:Int)>0) <;> rfl
   have hE:jE r i=8:=by simp only [jE,h2,h5];rfl
   rw [hE] at hi2;have hi2:cz r 0 r.Power.length=8:=hi2;rw [hi2];exact ⟨rfl,⟨rfl,trivial⟩,trivial⟩
  ·have h5 :(decide ((i:Int)>0)&&decide ((bP r i).From<=(bP r (i - 1)).To))=false:=by
    by_cases h4:0<i
    ·rw [hw1 h4,Int.toNat_natCast] at h3;have hq:r.Power.getD (i - 1) (af (Ty.nm Nm.Phase))=bP r (i - 1):=rfl;rw [hq] at h3;rw [<-h3];cases decide ((i:Int)>0) <;> rfl
    ·have:i=0:=by omega
     subst this;rfl
   have hE:jE r i=0:=by simp only [jE,h2,h5];rfl
   rw [hE] at hi2;have hi2:cz r 0 r.Power.length=cz r (i+1) (r.Power.length - (i+1)):=hi2;exact ⟨⟨by omega,hi2⟩,by omega,⟨trivial,rfl,rfl,by rw [a7 (by omega) (by omega)];omega,trivial⟩,by simp⟩
 ·have h1:r.Power.length<=i:=by simpa using h1
  have h2:r.Power.length - i=0:=by omega
  rw [h2] at hi2;have hi2:cz r 0 r.Power.length=0:=hi2;rw [hi2];exact ⟨rfl,trivial,trivial⟩
theorem Xj (r:aj) (hx:r.Power.length<=aW):dU Tryz.prog Tryz.f114.ntmps (aC Tryz.f114 0) (gr ⟨[],[],8⟩ (J94 r 0) (Ut r)):=
 rX (jr (.cons Ya .nil) _) mixed (J94 r) (fun _=>rfl) (uJ r) (fun i=>r.Power.length - i) (fun _ _=>none) (fun _ _ _ _ _ h=>by cases h) (Ut r) [] [] 0 (⟨Nat.zero_le _,rfl⟩) L94 (fun i hi=>Y2 r hx i hi)
theorem abQ (r:aj) (_hx:r.Power.length<=aW) :(dD (zB [k97] Tryz.f114) (Λ94 r) Tryz.f114 (fq rl (r,()))).sat fun v' rows=>hZ v' (DV (r,())).v/\rows =(DV (r,())).rows:=by
 refine cast (by kernel_rfl) (?_ :(decide ((↑r.14.length:Int)>8)=true->9=fP r/\([]:List RowD)=[])/\(decide ((↑r.14.length:Int)>8)=false->((cq fun x=>none)/\(True/\RowD.mk (Ty.nm Nm.Phase) r.14=RowD.mk (Ty.nm Nm.Phase) r.14/\(↑r.14.length:Int) =(↑r.14.length:Int)/\0 =(↑(0:Nat):Int)/\True)/\(r.1=r.1/\r.2=r.2/\r.3=r.3/\r.4=r.4/\r.5=r.5/\r.6=r.6/\r.7=r.7/\r.8=r.8/\r.9=r.9/\r.10=r.10/\r.11=r.11/\r.12=r.12/\r.13=r.13/\RowD.mk (Ty.nm Nm.Phase) r.14=RowD.mk (Ty.nm Nm.Phase) r.14/\True)/\True)/\((cz r (0:Nat) r.14.length != 0)=true->cz r (0:Nat) r.14.length=fP r/\([]:List RowD)=[])/\((cz r (0:Nat) r.14.length != 0)=false->0=fP r/\([]:List RowD)=[])));refine ⟨fun h=>⟨?_,rfl⟩,fun h=>⟨⟨rfl,⟨trivial,rfl,rfl,rfl,trivial⟩,by simp⟩,fun h2=>⟨?_,rfl⟩,fun h2=>⟨?_,rfl⟩⟩⟩
 ·simp only [fP];rw [if_pos (of_decide_eq_true h)]
 ·simp only [fP];rw [if_neg (of_decide_eq_false h)]
 ·simp only [fP];rw [if_neg (of_decide_eq_false h)];have h2:cz r 0 r.Power.length=0:=by simpa using h2
  exact h2.symm
theorem aeJ:aR Tryz.prog K8 114 (bq K8 rl DV):=by
 refine ie (C:=zB [k97] Tryz.f114) (jr (.cons Ya .nil) _) mixed (fn:=Tryz.f114) Tryz.func114 (by kernel_rfl) (by kernel_rfl) (by kernel_rfl) (Λ:=fun x=>Λ94 x.1) ?_ ?_ ?_
 ·rintro ⟨r,⟨⟩⟩ hw hn
  exact dS.at (by kernel_rfl) (.cons (by kernel_rfl) (Xj r (sS (gD hw))) .nil)
 ·rintro ⟨r,⟨⟩⟩
  exact of_decide_eq_true (by kernel_rfl)
 ·rintro ⟨r,⟨⟩⟩ hw hn
  exact abQ r (sS (gD hw))
theorem Y3 (s:ByteArray) (hx:s.size<=aW) (i:Nat) (hi:uK s i) :(bT (J95 s) (uK s) (fun i=>s.size - i) i (T95 s) (cw (zB [] Tryz.f71) (fun _=>none) (aC Tryz.f71 0) (J95 s i)) (L95 i)).1:=by
 refine cast (by kernel_rfl) (?_ :(decide ((↑i:Int) <(↑s.size:Int))=true->((0<=(↑i:Int)/\(↑i:Int) <(↑s.size:Int))/\((cond (decide ((↑(s.1.getD (↑i:Int).toNat (0:UInt8)).toNat:Int)>=65)) (decide ((↑(s.1.getD (↑i:Int).toNat (0:UInt8)).toNat:Int)<=90)) false)=true->True)/\((cond (decide ((↑(s.1.getD (↑i:Int).toNat (0:UInt8)).toNat:Int)>=65)) (decide ((↑(s.1.getD (↑i:Int).toNat (0:UInt8)).toNat:Int)<=90)) false)=false->((cond ((↑i:Int)==0) true (cond ((↑(s.1.getD (↑i:Int).toNat (0:UInt8)).toNat:Int) != 95) (cond ((↑(s.1.getD (↑i:Int).toNat (0:UInt8)).toNat:Int) != 45) (cond (decide ((↑(s.1.getD (↑i:Int).toNat (0:UInt8)).toNat:Int)<48)) true (decide ((↑(s.1.getD (↑i:Int).toNat (0:UInt8)).toNat:Int)>57))) false) false))=true->fx s s.size=false/\(false=false/\True)/\True)/\((cond ((↑i:Int)==0) true (cond ((↑(s.1.getD (↑i:Int).toNat (0:UInt8)).toNat:Int) != 95) (cond ((↑(s.1.getD (↑i:Int).toNat (0:UInt8)).toNat:Int) != 45) (cond (decide ((↑(s.1.getD (↑i:Int).toNat (0:UInt8)).toNat:Int)<48)) true (decide ((↑(s.1.getD (↑i:Int).toNat (0:UInt8)).toNat:Int)>57))) false) false))=false->True)))/\((cond (cond (decide ((↑(s.1.getD (↑i:Int).toNat (0:UInt8)).toNat:Int)>=65)) (decide ((↑(s.1.getD (↑i:Int).toNat (0:UInt8)).toNat:Int)<=90)) false) true (!cond ((↑i:Int)==0) true (cond ((↑(s.1.getD (↑i:Int).toNat (0:UInt8)).toNat:Int) != 95) (cond ((↑(s.1.getD (↑i:Int).toNat (0:UInt8)).toNat:Int) != 45) (cond (decide ((↑(s.1.getD (↑i:Int).toNat (0:UInt8)).toNat:Int)<48)) true (decide ((↑(s.1.getD (↑i:Int).toNat (0:UInt8)).toNat:Int)>57))) false) false)))=true->uK s (i +(1:Nat))/\s.size - (i +(1:Nat))<s.size - i/\(s=s/\IntKind.i64.wrap ((↑i:Int)+1) =(↑(i +(1:Nat)):Int)/\True)/\True))/\(decide ((↑i:Int) <(↑s.size:Int))=false->fx s s.size=true/\True/\True));have e :(i:Int).toNat=i:=by simp
 rw [e];have hb:s.size<=140737488355328:=hx;have hby :(((s.data.getD i 0).toNat:Nat):Int)=mN s i:=rfl;rw [hby];generalize hc:mN s i=c;have hl :(bif decide (c>=65) then decide (c<=90) else false)=pN c:=by simp only [pN,Bool.cond_false_right]
 rw [hl]
 have hr :(bif (i:Int)==0 then true else bif c != 95 then bif c != 45 then bif decide (c<48) then true else decide (c>57) else false else false) =((i:Int)==0 ||(c != 95&&(c != 45&&(decide (c<48)||decide (c>57))))):=by simp only [Bool.cond_true_left,Bool.cond_false_right]
 rw [hr];have hbad:vS i c =(!pN c&&((i:Int)==0 ||(c != 95&&(c != 45&&(decide (c<48)||decide (c>57)))))):=rfl;generalize ((i:Int)==0 ||(c != 95&&(c != 45&&(decide (c<48)||decide (c>57)))))=q at hbad ⊢;obtain ⟨hi1,hi2⟩:=hi;refine ⟨fun h1=>?_,fun h1=>⟨?_,trivial,trivial⟩⟩
 ·have h1:i<s.size:=by simpa using h1
  refine ⟨⟨⟨by omega,by omega⟩,fun _=>trivial,fun h2=>⟨fun h3=>⟨?_,⟨rfl,trivial⟩,trivial⟩,fun _=>trivial⟩⟩,fun h2=>⟨⟨by omega,?_⟩,by omega,⟨rfl,by rw [a7 (by omega) (by omega)];omega,trivial⟩,trivial⟩⟩
  ·have hb2:vS i (mN s i)=true:=by rw [hc,hbad,h2,h3];rfl
   unfold fx;rw [List.all_eq_false];exact ⟨i,List.mem_range.2 h1,by rw [hb2];decide⟩
  ·have hb2:vS i (mN s i)=false:=by
    rw [hc,hbad]
    cases hL:pN c with
    | true=>rfl
    | false=>rw [hL] at h2;simpa using h2
   unfold fx at hi2 ⊢;rw [List.range_succ,List.all_append,hi2];simp [hb2]
 ·have h1:s.size<=i:=by simpa using h1
  have:i=s.size:=by omega
  rw [<-this];exact hi2
theorem Xk (s:ByteArray) (hx:s.size<=aW):dU Tryz.prog Tryz.f71.ntmps (aC Tryz.f71 0) (gr ⟨[],[],0⟩ (J95 s 0) (T95 s)):=
 rX (jr (aZ.nil) _) mixed (J95 s) (fun _=>rfl) (uK s) (fun i=>s.size - i) (fun _ _=>none) (fun _ _ _ _ _ h=>by cases h) (T95 s) [] [] 0 (⟨Nat.zero_le _,rfl⟩) L95 (fun i hi=>Y3 s hx i hi)
theorem abR (s:ByteArray) (_hx:s.size<=aW) :(dD (zB [] Tryz.f71) (Λ95 s) Tryz.f71 (fq ID (s,()))).sat fun v' rows=>hZ v' (pw (s,())).v/\rows =(pw (s,())).rows:=by
 refine cast (by kernel_rfl) (?_ :((cond (s.toList ==(ByteArray.mk #[]).toList) true (decide ((↑s.size:Int)>16)))=true->false=lh s/\([]:List RowD)=[])/\((cond (s.toList ==(ByteArray.mk #[]).toList) true (decide ((↑s.size:Int)>16)))=false->((cq fun x=>none)/\(s=s/\0 =(↑(0:Nat):Int)/\True)/\True)/\(fx s s.size=true->true=lh s/\([]:List RowD)=[])/\(fx s s.size=false->false=lh s/\([]:List RowD)=[])))
 have hz :(s.toList ==(ByteArray.mk #[]).toList)=decide ((s.size:Int)<1):=by
  rw [Bool.eq_iff_iff,beq_iff_eq,decide_eq_true_eq,ByteArray.toList_eq,ByteArray.toList_eq];constructor
  ·intro h
   have:=congrArg List.length h
   simp at this;have h2:s.size=0:=by rw [<-ByteArray.size_data];simp [this]
   omega
  ·intro h;have h2:s.data.size=0:=by rw [ByteArray.size_data];omega
   have h3:s.data=#[]:=Array.eq_empty_of_size_eq_zero h2;rw [h3]
 have hn:lh s =(fx s s.size&&(decide ((s.size:Int)>=1)&&decide ((s.size:Int)<=16))):=rfl;rw [hz,hn];refine ⟨fun h=>⟨?_,rfl⟩,fun h=>⟨⟨rfl,⟨rfl,rfl,trivial⟩,trivial⟩,fun h2=>⟨?_,rfl⟩,fun h2=>⟨?_,rfl⟩⟩⟩
 ·have :(decide ((s.size:Int)>=1)&&decide ((s.size:Int)<=16))=false:=by
   by_cases h1 :(s.size:Int)<1
   ·have :¬(s.size:Int)>=1:=by omega
    simp [this]
   ·rw [decide_eq_false h1] at h;have h :(s.size:Int)>16:=of_decide_eq_true h;have :¬(s.size:Int)<=16:=by omega
    simp [this]
  rw [this,Bool.and_false]
 ·have h1 :¬(s.size:Int)<1:=fun h1=>by rw [decide_eq_true h1] at h;cases h
  rw [decide_eq_false h1] at h;have h :¬(s.size:Int)>16:=of_decide_eq_false h;rw [h2,decide_eq_true (show (s.size:Int)>=1 by omega),decide_eq_true (show (s.size:Int)<=16 by omega)];rfl
 ·rw [h2];rfl
theorem abr:aR Tryz.prog K8 71 (bq K8 ID pw):=by
 refine ie (C:=zB [] Tryz.f71) (jr (aZ.nil) _) mixed (fn:=Tryz.f71) Tryz.func71 (by kernel_rfl) (by kernel_rfl) (by kernel_rfl) (Λ:=fun x=>Λ95 x.1) ?_ ?_ ?_
 ·rintro ⟨s,⟨⟩⟩ hw hn
  exact dS.at (by kernel_rfl) (.cons (by kernel_rfl) (Xk s (Ee (gD hw))) .nil)
 ·rintro ⟨s,⟨⟩⟩
  exact of_decide_eq_true (by kernel_rfl)
 ·rintro ⟨s,⟨⟩⟩ hw hn
  exact abR s (Ee (gD hw))
theorem K1 (s:ByteArray) :(bm s).length=s.size:=by
 have:s.data.size=s.size:=ByteArray.size_data
 simp [bm,this]
theorem Np (s:ByteArray) (i:Nat) (h:i<s.size) :(bm s).getD i (0:Int)=mN s i:=by
 have h1:i<s.data.size:=by rw [ByteArray.size_data];exact h
 simp [bm,mN,Array.getElem?_eq_getElem h1]
theorem Y1 (s:ByteArray) (hx:s.size<=aW) (i:Nat) (hi:uK s i) :(bT (J92 s) (uK s) (fun i=>s.size - i) i (T92 s) (cw (zB [] Tryz.f112) (fun _=>none) (aC Tryz.f112 0) (J92 s i)) (L95 i)).1:=by
 refine cast (by kernel_rfl) (?_ :(decide ((↑i:Int) <(↑(bm s).length:Int))=true->(0<=(↑i:Int)/\(↑i:Int) <(↑(bm s).length:Int))/\((cond (!cond (decide ((bm s).getD (↑i:Int).toNat (af (Ty.int IntKind.u8))>=65)) (decide ((bm s).getD (↑i:Int).toNat (af (Ty.int IntKind.u8))<=90)) false) (cond ((↑i:Int)==0) true (cond ((bm s).getD (↑i:Int).toNat (af (Ty.int IntKind.u8)) != 95) (cond ((bm s).getD (↑i:Int).toNat (af (Ty.int IntKind.u8)) != 45) (cond (decide ((bm s).getD (↑i:Int).toNat (af (Ty.int IntKind.u8))<48)) true (decide ((bm s).getD (↑i:Int).toNat (af (Ty.int IntKind.u8))>57))) false) false)) false)=true->fx s s.size=false/\(false=false/\True)/\True)/\((cond (!cond (decide ((bm s).getD (↑i:Int).toNat (af (Ty.int IntKind.u8))>=65)) (decide ((bm s).getD (↑i:Int).toNat (af (Ty.int IntKind.u8))<=90)) false) (cond ((↑i:Int)==0) true (cond ((bm s).getD (↑i:Int).toNat (af (Ty.int IntKind.u8)) != 95) (cond ((bm s).getD (↑i:Int).toNat (af (Ty.int IntKind.u8)) != 45) (cond (decide ((bm s).getD (↑i:Int).toNat (af (Ty.int IntKind.u8))<48)) true (decide ((bm s).getD (↑i:Int).toNat (af (Ty.int IntKind.u8))>57))) false) false)) false)=false->uK s (i +(1:Nat))/\s.size - (i +(1:Nat))<s.size - i/\(s=s/\True/\(↑(bm s).length:Int) =(↑(bm s).length:Int)/\IntKind.i64.wrap ((↑i:Int)+1) =(↑(i +(1:Nat)):Int)/\True)/\RowD.mk (Ty.int IntKind.u8) (bm s)=RowD.mk (Ty.int IntKind.u8) (bm s)/\True))/\(decide ((↑i:Int) <(↑(bm s).length:Int))=false->fx s s.size=true/\(s=s/\True)/\True));have e :(i:Int).toNat=i:=by simp
 rw [e];have hb:s.size<=140737488355328:=hx;have hlen:=K1 s;obtain ⟨hi1,hi2⟩:=hi
 have hbad :∀ c:Int,(bif !(bif decide (c>=65) then decide (c<=90) else false) then bif (i:Int)==0 then true else bif c != 95 then bif c != 45 then bif decide (c<48) then true else decide (c>57) else false else false else false)=vS i c:=fun c=>by simp only [vS,pN,Bool.cond_true_left,Bool.cond_false_right]
 rw [hbad];refine ⟨fun h1=>?_,fun h1=>⟨?_,⟨rfl,trivial⟩,trivial⟩⟩
 ·have h1:i <(bm s).length:=by simpa using h1
  have hat :(bm s).getD i (af (Ty.int IntKind.u8))=mN s i:=Np s i (by omega);rw [hat];refine ⟨⟨by omega,by omega⟩,fun h2=>⟨?_,⟨rfl,trivial⟩,trivial⟩,fun h2=>⟨⟨by omega,?_⟩,by omega,⟨rfl,trivial,rfl,by rw [a7 (by omega) (by omega)];omega,trivial⟩,rfl,trivial⟩⟩
  ·unfold fx;rw [List.all_eq_false];exact ⟨i,List.mem_range.2 (by omega),by rw [h2];decide⟩
  ·unfold fx at hi2 ⊢;rw [List.range_succ,List.all_append,hi2];simp [h2]
 ·have h1 :(bm s).length<=i:=by simpa using h1
  have:i=s.size:=by omega
  rw [<-this];exact hi2
theorem Xi (s:ByteArray) (hx:s.size<=aW):dU Tryz.prog Tryz.f112.ntmps (aC Tryz.f112 0) (gr ⟨[],[],40⟩ (J92 s 0) (T92 s)):=
 rX (jr (aZ.nil) _) mixed (J92 s) (fun _=>rfl) (uK s) (fun i=>s.size - i) (fun _ _=>none) (fun _ _ _ _ _ h=>by cases h) (T92 s) [] [] 0 (⟨Nat.zero_le _,rfl⟩) L95 (fun i hi=>Y1 s hx i hi)
theorem abO (s:ByteArray) (_hx:s.size<=aW) :(dD (zB [] Tryz.f112) (Λ92 s) Tryz.f112 (fq ID (s,()))).sat fun v' rows=>hZ v' (pw (s,())).v/\rows =(pw (s,())).rows:=by
 refine cast (by kernel_rfl) (?_ :((cq fun x=>none)/\(s=s/\True/\(↑(bm s).length:Int) =(↑(bm s).length:Int)/\0 =(↑(0:Nat):Int)/\True)/\RowD.mk (Ty.int IntKind.u8) (bm s)=RowD.mk (Ty.int IntKind.u8) (bm s)/\True)/\(fx s s.size=true->(cond (decide ((↑s.size:Int)>=1)) (decide ((↑s.size:Int)<=16)) false)=lh s/\([]:List RowD)=[])/\(fx s s.size=false->false=lh s/\([]:List RowD)=[]));have hn:lh s =(fx s s.size&&(decide ((s.size:Int)>=1)&&decide ((s.size:Int)<=16))):=rfl;refine ⟨⟨rfl,⟨rfl,trivial,rfl,rfl,trivial⟩,rfl,trivial⟩,fun h=>⟨?_,rfl⟩,fun h=>⟨?_,rfl⟩⟩
 ·rw [hn,h,Bool.true_and,Bool.cond_false_right]
 ·rw [hn,h,Bool.false_and]
theorem aeH:aR Tryz.prog K8 112 (bq K8 ID pw):=by
 refine ie (C:=zB [] Tryz.f112) (jr (aZ.nil) _) mixed (fn:=Tryz.f112) Tryz.func112 (by kernel_rfl) (by kernel_rfl) (by kernel_rfl) (Λ:=fun x=>Λ92 x.1) ?_ ?_ ?_
 ·rintro ⟨s,⟨⟩⟩ hw hn
  exact dS.at (by kernel_rfl) (.cons (by kernel_rfl) (Xi s (Ee (gD hw))) .nil)
 ·rintro ⟨s,⟨⟩⟩
  exact of_decide_eq_true (by kernel_rfl)
 ·rintro ⟨s,⟨⟩⟩ hw hn
  exact abO s (Ee (gD hw))
theorem Ng (r:aj) :(bif bif r.FollowOn != 0 then r.Innings==1 else false then bif r.FollowOn != 0 then r.Innings==1 else false else bif r.Quota != 0 then r.Overs==0 else bif decide ((r.Power.length:Int)>0) then r.Overs==0 else false)=vQ r:=by simp only [vQ];generalize (r.FollowOn != 0)=a;generalize (r.Innings==1)=b;generalize (r.Quota != 0)=c;generalize decide ((r.Power.length:Int)>0)=d;generalize (r.Overs==0)=e;cases a <;> cases b <;> cases c <;> cases d <;> cases e <;> rfl
theorem KT (r:aj) :(bif r.FollowOn != 0 then bif r.Innings==1 then true else bif r.Overs==0 then bif r.Quota != 0 then true else decide ((r.Power.length:Int)>0) else false else bif r.Overs==0 then bif r.Quota != 0 then true else decide ((r.Power.length:Int)>0) else false)=vQ r:=by simp only [vQ];generalize (r.FollowOn != 0)=a;generalize (r.Innings==1)=b;generalize (r.Quota != 0)=c;generalize decide ((r.Power.length:Int)>0)=d;generalize (r.Overs==0)=e;cases a <;> cases b <;> cases c <;> cases d <;> cases e <;> rfl
theorem wa (r:aj) :(bif r.Quota != 0 then decide (IntKind.i64.wrap (r.Quota*r.Side)<r.Overs) else false)=Hw r:=by simp only [Hw,Bool.cond_false_right]
theorem Y0 (r:aj) (hx:r.Power.length<=aW) (i:Nat) (hi:uJ r i) :(bT (J86 r) (uJ r) (fun i=>r.Power.length - i) i (Ut r) (cw (zB [k95,k96] Tryz.f27) (fun _=>none) (aC Tryz.f27 0) (J86 r i)) (L94 i)).1:=by
 refine cast (by kernel_rfl) (?_ :(decide ((↑i:Int) <(↑r.14.length:Int))=true->(0<=(↑i:Int)/\(↑i:Int) <(↑r.14.length:Int))/\((cond (decide ((r.14.getD (↑i:Int).toNat (af (Ty.nm Nm.Phase))).1<1)) true (cond (decide ((r.14.getD (↑i:Int).toNat (af (Ty.nm Nm.Phase))).2 <(r.14.getD (↑i:Int).toNat (af (Ty.nm Nm.Phase))).1)) true (cond (decide ((r.14.getD (↑i:Int).toNat (af (Ty.nm Nm.Phase))).2>r.4)) true (!aA (r.14.getD (↑i:Int).toNat (af (Ty.nm Nm.Phase))).3 0 11))))=true->(cz r (0:Nat) r.14.length != 0)=true/\(2=cz r (0:Nat) r.14.length/\True)/\True)/\((cond (decide ((r.14.getD (↑i:Int).toNat (af (Ty.nm Nm.Phase))).1<1)) true (cond (decide ((r.14.getD (↑i:Int).toNat (af (Ty.nm Nm.Phase))).2 <(r.14.getD (↑i:Int).toNat (af (Ty.nm Nm.Phase))).1)) true (cond (decide ((r.14.getD (↑i:Int).toNat (af (Ty.nm Nm.Phase))).2>r.4)) true (!aA (r.14.getD (↑i:Int).toNat (af (Ty.nm Nm.Phase))).3 0 11))))=false->((decide ((↑i:Int)>0)=true->(0<=IntKind.i64.wrap ((↑i:Int) - 1)/\IntKind.i64.wrap ((↑i:Int) - 1) <(↑r.14.length:Int))/\True)/\(decide ((↑i:Int)>0)=false->True))/\(true=true->((cond (decide ((↑i:Int)>0)) (decide ((r.14.getD (↑i:Int).toNat (af (Ty.nm Nm.Phase))).1<=(r.14.getD (IntKind.i64.wrap ((↑i:Int) - 1)).toNat (af (Ty.nm Nm.Phase))).2)) false)=true->(cz r (0:Nat) r.14.length != 0)=true/\(8=cz r (0:Nat) r.14.length/\True)/\True)/\((cond (decide ((↑i:Int)>0)) (decide ((r.14.getD (↑i:Int).toNat (af (Ty.nm Nm.Phase))).1<=(r.14.getD (IntKind.i64.wrap ((↑i:Int) - 1)).toNat (af (Ty.nm Nm.Phase))).2)) false)=false->uJ r (i +(1:Nat))/\r.14.length - (i +(1:Nat))<r.14.length - i/\(True/\RowD.mk (Ty.nm Nm.Phase) r.14=RowD.mk (Ty.nm Nm.Phase) r.14/\(↑r.14.length:Int) =(↑r.14.length:Int)/\IntKind.i64.wrap ((↑i:Int)+1) =(↑(i +(1:Nat)):Int)/\True)/\(r.1=r.1/\r.2=r.2/\r.3=r.3/\r.4=r.4/\r.5=r.5/\r.6=r.6/\r.7=r.7/\r.8=r.8/\r.9=r.9/\r.10=r.10/\r.11=r.11/\r.12=r.12/\r.13=r.13/\RowD.mk (Ty.nm Nm.Phase) r.14=RowD.mk (Ty.nm Nm.Phase) r.14/\True)/\True))))/\(decide ((↑i:Int) <(↑r.14.length:Int))=false->(cz r (0:Nat) r.14.length != 0)=false/\True/\True));have e :(i:Int).toNat=i:=by simp
 rw [e];have hb:r.Power.length<=140737488355328:=hx;have hp:r.Power.getD i (af (Ty.nm Nm.Phase))=bP r i:=rfl;rw [hp]
 have hpb :(bif decide ((bP r i).From<1) then true else bif decide ((bP r i).To <(bP r i).From) then true else bif decide ((bP r i).To>r.Overs) then true else !aA (bP r i).Outside 0 11)=oV r (bP r i):=by simp only [oV,Bool.cond_true_left,gt_iff_lt]
 rw [hpb];obtain ⟨hi1,hi2⟩:=hi;refine ⟨fun h1=>?_,fun h1=>?_⟩
 ·have h1:i<r.Power.length:=by simpa using h1
  have hn:r.Power.length - i =(r.Power.length - (i+1))+1:=by omega
  rw [hn,xP] at hi2;have hw1:0<i->IntKind.i64.wrap ((i:Int) - 1) =((i - 1:Nat):Int):=fun h=>by rw [a7 (by omega) (by omega)];omega
  refine ⟨⟨by omega,by omega⟩,fun h2=>?_,fun h2=>⟨⟨fun h3=>?_,fun _=>trivial⟩,fun _=>⟨fun h3=>?_,fun h3=>?_⟩⟩⟩
  ·have hE:jE r i=2:=by simp only [jE,h2];rfl
   rw [hE] at hi2;have hi2:cz r 0 r.Power.length=2:=hi2;rw [hi2];exact ⟨rfl,⟨rfl,trivial⟩,trivial⟩
  ·have h3:0<i:=by simpa using h3
   rw [hw1 h3];exact ⟨⟨by omega,by omega⟩,trivial⟩
  ·have h4:0<i:=by
    by_cases h4:0<i
    ·exact h4
    ·have:i=0:=by omega
     subst this;simp at h3
   rw [hw1 h4,Int.toNat_natCast] at h3;have hq:r.Power.getD (i - 1) (af (Ty.nm Nm.Phase))=bP r (i - 1):=rfl;rw [hq] at h3;have h5 :(decide ((i:Int)>0)&&decide ((bP r i).From<=(bP r (i - 1)).To))=true:=by rw [<-h3];cases decide ((i:Int)>0) <;> rfl
   have hE:jE r i=8:=by simp only [jE,h2,h5];rfl
   rw [hE] at hi2;have hi2:cz r 0 r.Power.length=8:=hi2;rw [hi2];exact ⟨rfl,⟨rfl,trivial⟩,trivial⟩
  ·have h5 :(decide ((i:Int)>0)&&decide ((bP r i).From<=(bP r (i - 1)).To))=false:=by
    by_cases h4:0<i
    ·rw [hw1 h4,Int.toNat_natCast] at h3;have hq:r.Power.getD (i - 1) (af (Ty.nm Nm.Phase))=bP r (i - 1):=rfl;rw [hq] at h3;rw [<-h3];cases decide ((i:Int)>0) <;> rfl
    ·have:i=0:=by omega
     subst this;rfl
   have hE:jE r i=0:=by simp only [jE,h2,h5];rfl
   rw [hE] at hi2;have hi2:cz r 0 r.Power.length=cz r (i+1) (r.Power.length - (i+1)):=hi2;exact ⟨⟨by omega,hi2⟩,by omega,⟨trivial,rfl,rfl,by rw [a7 (by omega) (by omega)];omega,trivial⟩,by simp⟩
 ·have h1:r.Power.length<=i:=by simpa using h1
  have h2:r.Power.length - i=0:=by omega
  rw [h2] at hi2;have hi2:cz r 0 r.Power.length=0:=hi2;rw [hi2];exact ⟨rfl,trivial,trivial⟩
theorem Xh (r:aj) (hx:r.Power.length<=aW):dU Tryz.prog Tryz.f27.ntmps (aC Tryz.f27 0) (gr ⟨[],[],8⟩ (J86 r 0) (Ut r)):=
 rX (jr (.cons abr (.cons abt .nil)) _) mixed (J86 r) (fun _=>rfl) (uJ r) (fun i=>r.Power.length - i) (fun _ _=>none) (fun _ _ _ _ _ h=>by cases h) (Ut r) [] [] 0 (⟨Nat.zero_le _,rfl⟩) L94 (fun i hi=>Y0 r hx i hi)
theorem abN (r:aj) (_hx:r.Power.length<=aW) :(dD (zB [k95,k96] Tryz.f27) (Λ86 r) Tryz.f27 (fq rl (r,()))).sat fun v' rows=>hZ v' (pq (r,())).v/\rows =(pq (r,())).rows:=by
 refine cast (by kernel_rfl) (?_ :((!lh r.1)=true->5=bI r/\([]:List RowD)=[])/\((!lh r.1)=false->((cond (!aA r.2 2 11) true (cond (!aA r.3 1 2) true (cond (!aA r.4 0 90) true (cond (!aA r.5 4 8) true (cond (!aA r.6 0 90) true (cond (!aA r.7 1 5) true (cond (!aA r.8 1 5) true (cond (!aA r.10 0 200) true (cond (!aA r.11 0 1000) true (cond (!aA r.12 0 9) true (!aA r.13 0 11)))))))))))=true->2=bI r/\([]:List RowD)=[])/\((cond (!aA r.2 2 11) true (cond (!aA r.3 1 2) true (cond (!aA r.4 0 90) true (cond (!aA r.5 4 8) true (cond (!aA r.6 0 90) true (cond (!aA r.7 1 5) true (cond (!aA r.8 1 5) true (cond (!aA r.10 0 200) true (cond (!aA r.11 0 1000) true (cond (!aA r.12 0 9) true (!aA r.13 0 11)))))))))))=false->((cond (r.11 != 0) (cond (r.3==1) true (cond (r.4==0) (cond (r.6 != 0) true (decide ((↑r.14.length:Int)>0))) false)) (cond (r.4==0) (cond (r.6 != 0) true (decide ((↑r.14.length:Int)>0))) false))=true->1=bI r/\([]:List RowD)=[])/\((cond (r.11 != 0) (cond (r.3==1) true (cond (r.4==0) (cond (r.6 != 0) true (decide ((↑r.14.length:Int)>0))) false)) (cond (r.4==0) (cond (r.6 != 0) true (decide ((↑r.14.length:Int)>0))) false))=false->((cond (r.6 != 0) (decide (IntKind.i64.wrap (r.6*r.2)<r.4)) false)=true->13=bI r/\([]:List RowD)=[])/\((cond (r.6 != 0) (decide (IntKind.i64.wrap (r.6*r.2)<r.4)) false)=false->(decide ((↑r.14.length:Int)>8)=true->9=bI r/\([]:List RowD)=[])/\(decide ((↑r.14.length:Int)>8)=false->((cq fun x=>none)/\(True/\RowD.mk (Ty.nm Nm.Phase) r.14=RowD.mk (Ty.nm Nm.Phase) r.14/\(↑r.14.length:Int) =(↑r.14.length:Int)/\0 =(↑(0:Nat):Int)/\True)/\(r.1=r.1/\r.2=r.2/\r.3=r.3/\r.4=r.4/\r.5=r.5/\r.6=r.6/\r.7=r.7/\r.8=r.8/\r.9=r.9/\r.10=r.10/\r.11=r.11/\r.12=r.12/\r.13=r.13/\RowD.mk (Ty.nm Nm.Phase) r.14=RowD.mk (Ty.nm Nm.Phase) r.14/\True)/\True)/\((cz r (0:Nat) r.14.length != 0)=true->cz r (0:Nat) r.14.length=bI r/\([]:List RowD)=[])/\((cz r (0:Nat) r.14.length != 0)=false->0=bI r/\([]:List RowD)=[])))))))
 have hR :(bif !aA r.Side 2 11 then true else bif !aA r.Innings 1 2 then true else bif !aA r.Overs 0 90 then true else bif !aA r.Balls 4 8 then true else bif !aA r.Quota 0 90 then true else bif !aA r.Wide 1 5 then true else bif !aA r.NoBall 1 5 then true else bif !aA r.NewBall 0 200 then true else bif !aA r.FollowOn 0 1000 then true else bif !aA r.Reviews 0 9 then true else !aA r.Outside 0 11)=!fy r:=by simp only [fy,Bool.cond_true_left,Bool.not_and]
 rw [hR,KT,wa];have hP1 :(r.Power.length:Int)>8->fP r=9:=fun h=>by simp only [fP];rw [if_pos h]
 have hP2 :¬(r.Power.length:Int)>8->fP r=cz r 0 r.Power.length:=fun h=>by simp only [fP];rw [if_neg h]
 refine ⟨fun h1=>⟨?_,rfl⟩,fun h1=>⟨fun h2=>⟨?_,rfl⟩,fun h2=>⟨fun h3=>⟨?_,rfl⟩,fun h3=>⟨fun h4=>⟨?_,rfl⟩,fun h4=>⟨fun h5=>⟨?_,rfl⟩,fun h5=>⟨⟨rfl,⟨trivial,rfl,rfl,rfl,trivial⟩,by simp⟩,fun h6=>⟨?_,rfl⟩,fun h6=>⟨?_,rfl⟩⟩⟩⟩⟩⟩⟩
 ·simp only [bI,h1,if_true]
 ·simp only [bI,h1,h2,if_true];rfl
 ·simp only [bI,h1,h2,h3,if_true];rfl
 ·simp only [bI,h1,h2,h3,h4,if_true];rfl
 ·simp only [bI,h1,h2,h3,h4];rw [hP1 (of_decide_eq_true h5)];rfl
 ·simp only [bI,h1,h2,h3,h4];rw [hP2 (of_decide_eq_false h5)];rfl
 ·simp only [bI,h1,h2,h3,h4];rw [hP2 (of_decide_eq_false h5)];have h6:cz r 0 r.Power.length=0:=by simpa using h6
  rw [h6];rfl
theorem aeG:aR Tryz.prog K8 27 (bq K8 rl pq):=by
 refine ie (C:=zB [k95,k96] Tryz.f27) (jr (.cons abr (.cons abt .nil)) _) mixed (fn:=Tryz.f27) Tryz.func27 (by kernel_rfl) (by kernel_rfl) (by kernel_rfl) (Λ:=fun x=>Λ86 x.1) ?_ ?_ ?_
 ·rintro ⟨r,⟨⟩⟩ hw hn
  exact dS.at (by kernel_rfl) (.cons (by kernel_rfl) (Xh r (sS (gD hw))) .nil)
 ·rintro ⟨r,⟨⟩⟩
  exact of_decide_eq_true (by kernel_rfl)
 ·rintro ⟨r,⟨⟩⟩ hw hn
  exact abN r (sS (gD hw))
theorem abM (r:aj) :(dD (zB [k92,k93,k94] Tryz.f64) (fun _=>none) Tryz.f64 (fq rl (r,()))).sat fun v' rows=>hZ v' (pq (r,())).v/\rows =(pq (r,())).rows:=by
 refine cast (by kernel_rfl) (?_ :((!lh r.1)=true->5=bI r/\([]:List RowD)=[])/\((!lh r.1)=false->((!fy r)=true->2=bI r/\([]:List RowD)=[])/\((!fy r)=false->((cond (cond (r.11 != 0) (r.3==1) false) (cond (r.11 != 0) (r.3==1) false) (cond (r.6 != 0) (r.4==0) (cond (decide ((↑r.14.length:Int)>0)) (r.4==0) false)))=true->1=bI r/\([]:List RowD)=[])/\((cond (cond (r.11 != 0) (r.3==1) false) (cond (r.11 != 0) (r.3==1) false) (cond (r.6 != 0) (r.4==0) (cond (decide ((↑r.14.length:Int)>0)) (r.4==0) false)))=false->((cond (r.6 != 0) (decide (IntKind.i64.wrap (r.6*r.2)<r.4)) false)=true->13=bI r/\([]:List RowD)=[])/\((cond (r.6 != 0) (decide (IntKind.i64.wrap (r.6*r.2)<r.4)) false)=false->fP r=bI r/\([]:List RowD)=[])))));rw [Ng,wa];simp only [bI]
 repeat' first|refine And.intro ?_ ?_|intro _
 all_goals first|rfl |(simp_all;done)|grind
theorem aeF:aR Tryz.prog K8 64 (bq K8 rl pq):=by
 refine ie (C:=zB [k92,k93,k94] Tryz.f64) (jr (.cons aeH (.cons aeI (.cons aeJ .nil))) _) mixed (fn:=Tryz.f64) Tryz.func64 (by kernel_rfl) (by kernel_rfl) (by kernel_rfl) (Λ:=fun _ _=>none) ?_ ?_ ?_
 ·exact fun _ _ _ _ _ _ _ _ h=>by cases h
 ·rintro ⟨r,⟨⟩⟩
  exact of_decide_eq_true (by kernel_rfl)
 ·rintro ⟨r,⟨⟩⟩ hw hn
  exact abM r
end
section
open Go Go.aa Go.RowKit
attribute [local irreducible] Go.aa.DT.sat Go.aa.a8 Go.aa.RT.sat Go.aa.dD
def fm (r:aj) (b:aa.ay):Sum Int (List (List ab)):=
 if bI r != 0 then .inl (bI r) else if qC b||!(cZ b).all sw then .inl 2 else if jd b then .inl 9
 else match pZ r b.Boxes none 0 [] with
  | .inl e=> .inl e
  | .inr es=>if bb r [] b.Strips != 0 then .inl (bb r [] b.Strips) else if n4 r b es then .inr es else .inl 12
def YH:Den (bj ns)->List Prop×Den (bj Gy):=fun x=>([qe x.2.1],fO (fm x.1 x.2.1))
def Qn:Den (bj ns)->List Prop×Den (bj vp):=fun x=>([qe x.2.1],(fL x.1 x.2.1,()))
theorem lV {r:aj} (h:bI r=0):sT r:=by
 have hr:fy r=true:=by
  cases hr:fy r with
  | true=>rfl
  | false=>unfold bI at h;cases hn:lh r.Name <;> simp [hn,hr] at h
 simp only [fy,aA,Bool.and_eq_true,decide_eq_true_eq] at hr;exact ⟨⟨⟨by omega,by omega⟩,by omega,by omega⟩,⟨by omega,by omega⟩,by omega,by omega⟩
theorem nF {r:aj} (hs:1<=r.Side) :∀ (l pre:List aa.ak),bb r pre l=0->∀ x∈l,0<=x.Bowler/\x.Bowler<=r.Side
 | [],_,_,x,hx=>by cases hx
 | y::l,pre,h,x,hx=>by
  unfold bb at h
  have h0:cW r pre y=0:=by
   by_cases hb:cW r pre y=0
   ·exact hb
   ·rw [if_pos (by simpa using hb)] at h;exact absurd h hb
  rw [if_neg (by rw [h0];decide)] at h;rcases List.mem_cons.1 hx with rfl|hx
  ·unfold cW at h0;split at h0
   ·cases h0
   ·split at h0
    ·cases h0
    ·split at h0
     ·cases h0
     ·split at h0
      ·cases h0
      ·split at h0
       ·cases h0
       ·rename_i hq;simp only [Bool.or_eq_true,Bool.and_eq_true,Bool.not_eq_true',decide_eq_true_eq,bne_iff_ne,ne_eq,not_or,not_and,Decidable.not_not] at hq
        cases hc:eI x.How with
        | true=>
         have:=hq.1 hc
         omega
        | false=>
         have:=hq.2 hc
         omega
  ·exact nF hs l _ h x hx
theorem Ol {r:aj} {b:aa.ay} {es:List (List ab)} (hb:b.Boxes.length<=4000) (h:pZ r b.Boxes none 0 [] = .inr es) :(∀ x∈b.Boxes,mw r x.Symbols/\(1<=x.Bowler/\x.Bowler<=r.Side))/\es=b.Boxes.map fun x=>x.Symbols.map (bu r):=by have ho:=ug (r:=r) b.Boxes [] none 0 [] (.inl ⟨rfl,rfl,rfl⟩) (by simpa using hb);rw [h] at ho;have hz:=vW b.Boxes [] ho.symm;refine ⟨hz,?_⟩;rw [B5 _ _ _ _ h,List.nil_append];exact EM fun x hx=>(hz x hx).1
theorem Pk {r:aj} {b:aa.ay} {es:List (List ab)} (hr:sT r) (hb:qe b) (hs:rq b) (h:pZ r b.Boxes none 0 [] = .inr es) (h2:bb r [] b.Strips=0):ndA r b es:=by
 obtain ⟨hx,he⟩:=Ol hb.1.1 h;have hl:es.length=b.Boxes.length:=by rw [he,List.length_map]
 refine ⟨⟨hl,by rw [hl];exact hb.1.1,?_⟩,⟨hr,fun x hm=>⟨by have:=(hx x hm).2;omega,(hx x hm).2.2⟩,nF hr.2.2.1 _ _ h2⟩,hb.2,hs⟩;intro ys hy;rw [he] at hy;obtain ⟨x,hm,rfl⟩:=List.mem_map.1 hy;refine ⟨by rw [List.length_map];exact hb.1.2 x hm,fun y hy=>?_⟩;obtain ⟨w,hw,rfl⟩:=List.mem_map.1 hy;exact wh hr.1 ((hx x hm).1 w hw)
theorem DC (r:aj) (b:aa.ay) (hb:qe b) :(a8 (aI [k85,w9,xa,JN,w7,uM,AB] Tryz.f26) (fun _=>none) Tryz.f26 ns Gy (r,b,())).sat fun z_=>z_ =(YH (r,b,())).2:=by
 refine cast (by kernel_rfl) (?_:let r1:Bool:=bb r [] b.3 != 0;let r2:List (List ab)×Int×Unit:=fO (pZ r b.2 none 0 []);let r3:Bool:=!n4 r b r2.1;let r4:Bool:=r2.2.1 != 0;let r5:Bool:=cond (b.1 != 1) (cond (b.1 != 2) true ((cZ b).any jv)) ((cZ b).any jv);((bI r != 0)=true->([],bI r,())=fO (fm r b))/\((bI r != 0)=false->(r5=true->([],2,())=fO (fm r b))/\(r5=false->qe b/\(jd b=true->([],9,())=fO (fm r b))/\(jd b=false->sT r/\po b.2/\(r4=true->([],r2.2)=fO (fm r b))/\(r4=false->xY b.3/\(r1=true->([],bb r [] b.3,())=fO (fm r b))/\(r1=false->ndA r b r2.1/\(r3=true->([],12,())=fO (fm r b))/\(r3=false->(r2.1,0,())=fO (fm r b))))))));intro r1 r2 r3 r4 r5
 clear_value (hr1:r1=_) (hr2:r2=_) (hr3:r3=_) (hr4:r4=_) (hr5:r5=_)
 have e5:r5 =(qC b||!(cZ b).all sw):=by
  rw [hr5]
  have ho :∀ l:List Int,l.any jv=!l.all sw:=fun l=>by
   induction l with
   | nil=>rfl
   | cons v l ih=>
    rw [List.any_cons,List.all_cons,ih]
    have:jv v=!sw v:=by unfold jv sw;cases decide (v<0) <;> cases decide (v>1000000) <;> rfl
    rw [this];cases sw v <;> rfl
  rw [ho];unfold qC;cases b.Side != 1 <;> cases b.Side != 2 <;> rfl
 refine ⟨fun h=>?_,fun h=>?_⟩
 ·unfold fm;rw [if_pos h];rfl
 have hc:bI r=0:=by simpa using h
 have hg:=lV hc
 have e0:fm r b=if qC b||!(cZ b).all sw then .inl 2 else if jd b then .inl 9
   else match pZ r b.Boxes none 0 [] with
    | .inl e=> .inl e
    | .inr es=>if bb r [] b.Strips != 0 then .inl (bb r [] b.Strips) else if n4 r b es then .inr es else .inl 12:=by
  rw [fm,if_neg (by rw [hc];decide)]
 rw [e0,<-e5];refine ⟨fun h5=>by rw [h5];rfl,fun h5=>⟨hb,fun hm=>by rw [h5,hm];rfl,fun hm=>⟨hg,hb.1,?_,?_⟩⟩⟩
 ·intro h4;rw [h5,hm];rw [hr4,hr2] at h4;rw [hr2]
  cases hp:pZ r b.Boxes none 0 [] with
  | inl e=>rfl
  | inr es=>rw [hp] at h4;cases h4
 ·intro h4;rw [hr4,hr2] at h4
  have hso:rq b:=by rw [e5] at h5;simp only [Bool.or_eq_false_iff,Bool.not_eq_false'] at h5;exact h5.2
  cases hp:pZ r b.Boxes none 0 [] with
  | inl e=>
   rw [hp] at h4
   have:=vv _ _ _ _ hp
   have h4 :(e != 0)=false:=h4;exact absurd (by simpa using h4) this
  | inr es=>
   have e2:r2 =(es,0,()):=by rw [hr2,hp];rfl
   rw [h5,hm];rw [e2] at hr3 ⊢;refine ⟨hb.2,fun h1=>?_,fun h1=>⟨?_,fun h3=>?_,fun h3=>?_⟩⟩
   ·rw [hr1] at h1;show _=fO (if bb r [] b.Strips != 0 then .inl (bb r [] b.Strips) else _);rw [if_pos h1];rfl
   ·exact Pk hg hb hso hp (by rw [hr1] at h1;simpa using h1)
   ·rw [hr1] at h1;show _=fO (if bb r [] b.Strips != 0 then .inl (bb r [] b.Strips) else if n4 r b es then .inr es else .inl 12);rw [if_neg (by rw [h1];exact Bool.false_ne_true),if_neg (by rw [hr3] at h3;simpa using h3)];rfl
   ·rw [hr1] at h1;show _=fO (if bb r [] b.Strips != 0 then .inl (bb r [] b.Strips) else if n4 r b es then .inr es else .inl 12);rw [if_neg (by rw [h1];exact Bool.false_ne_true),if_pos (by rw [hr3] at h3;simpa using h3)];rfl
def na:FuncId×dR:=(26,ax KE ns Gy YH)
theorem uQ:aR Tryz.prog KE 26 (ax KE ns Gy YH):=by
 refine bh (C:=aI [k85,w9,xa,JN,w7,uM,AB] Tryz.f26) (az (.aP aeF rfl (.aP F7 rfl (.aP F9 rfl (.aP Pr rfl (.aP F5 rfl (.aP Dd rfl (.aP Ih rfl .nil))))))) _) mixed (fn:=Tryz.f26) Tryz.func26 (by kernel_rfl) (by kernel_rfl) (by kernel_rfl) (by kernel_rfl) (by kernel_rfl) (by kernel_rfl) (Λ:=fun _ _=>none) ?_ ?_
 ·exact fun _ _ _ _ _ _ _ _ h=>by cases h
 ·rintro ⟨r,b,⟨⟩⟩ hw hn
  exact DC r b (hn _ List.mem_cons_self)
theorem B8 (r:aj) (b:aa.ay):Lt (fm r b)=fL r b:=by
 unfold fm fL
 cases h1:bI r != 0 with
 | true=>rfl
 | false=>
  simp only [Bool.false_eq_true,if_false]
  cases (qC b||!(cZ b).all sw) with
  | true=>rfl
  | false=>
   simp only [Bool.false_eq_true,if_false]
   cases jd b with
   | true=>rfl
   | false=>
    simp only [Bool.false_eq_true,if_false]
    cases pZ r b.Boxes none 0 [] with
    | inl e=>rfl
    | inr es=>
     simp only;unfold yF
     cases h2:bb r [] b.Strips != 0 with
     | true=>rfl
     | false=>simp only [Bool.false_eq_true,if_false];cases n4 r b es <;> rfl
theorem Pv (z:Sum Int (List (List ab))) :(fO z).2.1=Lt z:=by cases z <;> rfl
theorem GH (r:aj) (b:aa.ay) (hb:qe b) :(a8 (aI [na] Tryz.f8) (fun _=>none) Tryz.f8 ns vp (r,b,())).sat fun z_=>z_ =(Qn (r,b,())).2:=by refine cast (by kernel_rfl) (?_:qe b/\(fO (fm r b)).2 =(fL r b,()));refine ⟨hb,?_⟩;rw [<-B8,<-Pv]
def AC:FuncId×dR:=(8,ax KE ns vp Qn)
theorem Ii:aR Tryz.prog KE 8 (ax KE ns vp Qn):=by
 refine bh (C:=aI [na] Tryz.f8) (az (.aP uQ rfl .nil) _) mixed (fn:=Tryz.f8) Tryz.func8 (by kernel_rfl) (by kernel_rfl) (by kernel_rfl) (by kernel_rfl) (by kernel_rfl) (by kernel_rfl) (Λ:=fun _ _=>none) ?_ ?_
 ·exact fun _ _ _ _ _ _ _ _ h=>by cases h
 ·rintro ⟨r,b,⟨⟩⟩ hw hn
  exact GH r b (hn _ List.mem_cons_self)
abbrev Uc:Ty:= .nm .ag
abbrev kP:Ty:= .slice Uc
def Qm:Den (bj MY)->List Prop×Den (bj mr):=fun x=>([b9 x.1],(dp x.1,()))
abbrev qOf:bl:=cQ [U8,I,I,I,.bool,.bool]
abbrev Ti:bl:=cQ [Uc]
def kp (w o:Bool):Prop:=(w&&o)=false
def sOf:Den (bj qOf)->List Prop×Den (bj Ti):=fun x=>([b9 x.2.1,b9 x.2.2.1,b9 x.2.2.2.1,kp x.2.2.2.2.1 x.2.2.2.2.2.1],(Eh x.1 x.2.1 x.2.2.1 x.2.2.2.1 x.2.2.2.2.1 x.2.2.2.2.2.1,()))
abbrev qFd:bl:=⟨[(1,.h .str),(4,.c (.ptr 0 0)),(8,.h kP),(9,.h I),(10,.h I)],[(0,.dat Uc)],1⟩
abbrev xFd:List (Lf×bl):= [(.ext 0,⟨[(4,.c (.ptr 0 0))],[(0,.dat Uc)],1⟩),(.ret,⟨[(4,.c (.ptr 0 0)),(5,.h .bool)],[(0,.dat Uc)],1⟩)]
abbrev TFd:Type:=ByteArray×List ag×Int×Int×ag×Unit
def Pw (z:ag) (x:ag×Bool):Sum (ag×Unit) (Bool×ag×Unit):=bif x.2 then .inr (true,x.1,()) else .inl (z,())
def my:TFd->Sum (ag×Unit) (Bool×ag×Unit)
 |(s,l,_,i,z,_)=>Pw z (aO (l.drop i.toNat) s)
def Ad:TFd->Prop
 |(_,l,n,i,_)=>(n =(l.length:Int)/\l.length<=aW)/\0<=i/\i<=n
def O1:TFd->Nat
 |(_,_,n,i,_)=>(n - i).toNat
abbrev Tv:bl:=cQ [kP,.str]
abbrev Ki:bl:=cQ [Uc,.bool]
def Qp:Den (bj Tv)->List Prop×Den (bj Ki):=fun x=>([x.1.length<=aW],((aO x.1 x.2.1).1,(aO x.1 x.2.1).2,()))
abbrev qVa:bl:=⟨[(0,.h .str),(3,.h I)],[],0⟩
abbrev xVa:List (Lf×bl):= [(.ext 0,⟨[],[],0⟩),(.ret,⟨[(2,.h I)],[],0⟩)]
abbrev TVa:Type:=ByteArray×Int×Unit
def Bp (v:Int):Sum Unit (Int×Unit):=if v == -1 then .inl () else .inr (v,())
def nW:TVa->Sum Unit (Int×Unit)
 |(s,n,_)=>Bp (D7 s (12 - n).toNat n)
def Ar:TVa->Prop
 |(_,n,_)=>0<=n/\n<=12
def Pb:TVa->Nat
 |(_,n,_)=>(12 - n).toNat
abbrev qc:bl:=cQ [I]
def YV:Den (bj MX)->List Prop×Den (bj qc):=fun x=>([],(gn x.1,()))
def sj (o:Bool):Int:=if o then 82 else 0
def uP (o:Bool):Int:=if o then 7 else 11
abbrev hpY:List (Nat×PB):= [(0,.dat (.nm .aj)),(1,.row 2 Uc)]
abbrev tmY:List (Nat×PC):= [(1,.c (.ptr 0 0)),(3,.c (.osl 1 2)),(13,.h (.slice .bool)),(14,.h I),(15,.h I)]
abbrev qY0:bl:=⟨tmY++[(5,.h .bool),(6,.h I),(7,.h I)],hpY,3⟩
abbrev xY0:List (Lf×bl):= [(.ext 2,⟨tmY,hpY,3⟩)]
abbrev TY0:Type:=List Bool×Int×Int×Bool×Int×Int×aj×List ag×Unit
abbrev TY1:Type:=List Bool×Int×Int×aj×List ag×Unit
def u9:TY0->TY1
 |(l,n,i,o,m,k,r,u,_)=>(l,n,i,r,u ++(MR (sj o) (m+1 - k).toNat k).map (ej r),())
def Aw:TY0->Prop
 |(_,_,i,_,m,k,r,u,_)=>(0<=i/\i<=2)/\(1<=k/\k<=m+1/\m<=11)/\kq r/\(u.length:Int)<=5000+10000*i+7*k
def Pe:TY0->Nat
 |(_,_,_,_,m,k,_)=>(m+1 - k).toNat
abbrev qY1:bl:=⟨tmY,hpY,3⟩
abbrev xY1:List (Lf×bl):= [(.ext 0,⟨[(3,.c (.osl 1 2))],[(1,.row 2 Uc)],3⟩)]
def oY (o:Bool):List Sx:=oX (sj o) (uP o).toNat
def sJ:TY1->List ag×Unit
 |(l,_,i,r,u,_)=>(u ++((l.drop i.toNat).flatMap oY).map (ej r),())
def Ax:TY1->Prop
 |(l,n,i,r,u,_)=>(n =(l.length:Int)/\l.length<=2)/\(0<=i/\i<=n)/\kq r/\(u.length:Int)<=100+10000*i
def Pg:TY1->Nat
 |(_,n,i,_)=>(n - i).toNat
abbrev Tq:bl:=cQ [.nm .aj]
abbrev Kj:bl:=cQ [kP]
def Qx:Den (bj Tq)->List Prop×Den (bj Kj):=fun x=>([kq x.1],(bQ x.1,()))
theorem RM (x:ByteArray) :(⟨#[]⟩:ByteArray)++x=x:=by apply ByteArray.ext;rw [ByteArray.data_append];simp
theorem Jo {n:Int} (h:0<n):dp n=gU n:=by unfold dp;rw [if_neg];simp;omega
theorem C7 {n:Int} (h:b9 n):C9 n:=⟨h.1,by have:=h.2;omega⟩
theorem E4 {s:ByteArray} :∀ {l:List ag},(aO l s).2=false->aO l s =(ag.zero,false)
 | [],_=>rfl
 | x::l,h=>by
  unfold aO at h ⊢;split at h
  ·cases h
  ·rename_i hx;rw [if_neg hx];exact E4 h
theorem KH (o:Int) :∀ (m:Nat) (k:Int),(MR o m k).length=7*m
 | 0,_=>rfl
 | m+1,k=>by show (kX o k++MR o m (k+1)).length=_;rw [List.length_append,KH o m];show 7+7*m=_;omega
theorem Ig {t c b l:Int} {w o:Bool}:ag.mk (jn (kN t c b l w o)) t c b l w o=Eh t c b l w o:=rfl
theorem abn (o:Bool) :(sj o==87)=false:=by cases o <;> rfl
theorem abm (o:Bool) :(sj o==82)=o:=by cases o <;> rfl
theorem Kz (r:aj) (k e b l:Int) (o:Bool):ej r (k,e,b,l,sj o)=Eh (vr k) (fB r.Wide r.NoBall k+e) b l false o:=by show Eh (vr k) (fB r.Wide r.NoBall k+e) b l (sj o==87) (sj o==82)=_;rw [abn,abm]
theorem y8 (n:Int) (hm:b9 n) :(a8 (aI [ng] Tryz.f79) (fun _=>none) Tryz.f79 MY mr (n,())).sat fun z_=>z_ =(Qm (n,())).2:=by refine cast (by kernel_rfl) (?_ :((n==0)=true->(ByteArray.mk #[46],()) =(dp n,()))/\((n==0)=false->C9 n/\(gU n,()) =(dp n,())));refine ⟨fun h=>?_,fun h=>⟨C7 hm,?_⟩⟩ <;> unfold dp <;> rw [h] <;> rfl
def oM:FuncId×dR:=(79,ax KE MY mr Qm)
theorem sA:aR Tryz.prog KE 79 (ax KE MY mr Qm):=by
 refine bh (C:=aI [ng] Tryz.f79) (az (.aP uR rfl .nil) _) mixed (fn:=Tryz.f79) Tryz.func79 (by kernel_rfl) (by kernel_rfl) (by kernel_rfl) (by kernel_rfl) (by kernel_rfl) (by kernel_rfl) (Λ:=fun _ _=>none) ?_ ?_
 ·exact fun _ _ _ _ _ _ _ _ h=>by cases h
 ·rintro ⟨n,⟨⟩⟩ hw hn
  exact y8 n (hn _ List.mem_cons_self)
theorem Qg (t:Int) (c:Int) (b:Int) (l:Int) (w:Bool) (o:Bool) (hc:b9 c) (hb:b9 b) (hl:b9 l) (hw:kp w o) :(a8 (aI [oM,ng] Tryz.f73) (fun _=>none) Tryz.f73 qOf Ti (t,c,b,l,w,o,())).sat fun z_=>z_ =(sOf (t,c,b,l,w,o,())).2:=by
 refine cast (by kernel_rfl) (?_:let r1:Bool:=decide (b>0);let r2:Bool:=decide (l>0);let r3:ByteArray:=ByteArray.mk #[98]++gU b;let r4:ByteArray:=ByteArray.mk #[108]++gU l;let r5:ByteArray:=cond (t==2) (ByteArray.mk #[119]) (cond (t==3) (ByteArray.mk #[110]) (ByteArray.mk #[]));let r6:ByteArray:=r5++dp c;let r7:ByteArray:=cond r1 (r6++r3) r6;let r8:ByteArray:=cond r2 (r7++r4) r7;let r9:ByteArray:=cond w (r8++ByteArray.mk #[87]) r8;b9 c/\r5.size +(dp c).size<=aW/\((r1=true->C9 b/\(ByteArray.mk #[98]).size +(gU b).size<=aW/\r6.size+r3.size<=aW/\True)/\(r1=false->True))/\(true=true->((r2=true->C9 l/\(ByteArray.mk #[108]).size +(gU l).size<=aW/\r7.size+r4.size<=aW/\True)/\(r2=false->True))/\(true=true->((w=true->r8.size +(ByteArray.mk #[87]).size<=aW/\True)/\(w=false->True))/\(true=true->((o=true->r9.size +(ByteArray.mk #[82]).size<=aW/\True)/\(o=false->True))/\(true=true->(ag.mk (cond o (r9++ByteArray.mk #[82]) r9) t c b l w o,()) =(Eh t c b l w o,()))))));intro r1 r2 r3 r4 r5 r6 r7 r8 r9
 clear_value (hr1:r1=_) (hr2:r2=_) (hr3:r3=_) (hr4:r4=_) (hr5:r5=_) (hr6:r6=_) (hr7:r7=_) (hr8:r8=_) (hr9:r9=_)
 have one :∀ c:UInt8,(ByteArray.mk #[c]).size=1:=fun _=>rfl;have hL :(1000:Nat)<=aW:=by decide
 have zc:=fM hc;have zb:=fM hb;have zl:=fM hl;have hb0:0<=b:=hb.1;have hl0:0<=l:=hl.1;have kb:b>0->dp b=gU b:=fun h=>Jo h;have kl:l>0->dp l=gU l:=fun h=>Jo h
 have z5:r5.size<=1:=by
  rw [hr5];cases t==2
  ·cases t==3
   ·exact Nat.zero_le _
   ·exact Nat.le_refl _
  ·exact Nat.le_refl _
 have z6:r6.size<=22:=by rw [hr6,ByteArray.size_append];omega
 have z3:b>0->r3.size<=22:=fun h=>by rw [hr3,ByteArray.size_append,one,<-kb h];omega
 have z4:l>0->r4.size<=22:=fun h=>by rw [hr4,ByteArray.size_append,one,<-kl h];omega
 have z7:r7.size<=44:=by
  rw [hr7,hr1];by_cases h:b>0
  ·rw [decide_eq_true h,cond_true,ByteArray.size_append];have:=z3 h;omega
  ·rw [decide_eq_false h];exact Nat.le_trans z6 (by decide)
 have z8:r8.size<=66:=by
  rw [hr8,hr2];by_cases h:l>0
  ·rw [decide_eq_true h,cond_true,ByteArray.size_append];have:=z4 h;omega
  ·rw [decide_eq_false h];exact Nat.le_trans z7 (by decide)
 have z9:r9.size<=67:=by
  rw [hr9];cases w
  ·exact Nat.le_trans z8 (by decide)
  ·rw [cond_true,ByteArray.size_append,one];omega
 refine ⟨hc,by omega,⟨fun h=>?_,fun _=>trivial⟩,fun _=>⟨⟨fun h=>?_,fun _=>trivial⟩,fun _=>⟨⟨fun _=>⟨by rw [one];omega,trivial⟩,fun _=>trivial⟩,fun _=>⟨⟨fun _=>⟨by rw [one];omega,trivial⟩,fun _=>trivial⟩,fun _=>?_⟩⟩⟩⟩
 ·have h:b>0:=of_decide_eq_true (hr1▸h)
  have:=z3 h
  exact ⟨C7 hb,by rw [one,<-kb h];omega,by omega,trivial⟩
 ·have h:l>0:=of_decide_eq_true (hr2▸h)
  have:=z4 h
  exact ⟨C7 hl,by rw [one,<-kl h];omega,by omega,trivial⟩
 ·have e6:r6=MN (kN t c b l w o):=by
   rw [hr6,hr5];unfold MN kN UK;simp only
   cases h2:t==2 with
   | true=>simp only [cond_true,if_true];rw [show ((119:Int) != 0)=true from rfl,if_pos rfl,ND]
   | false=>
    cases h3:t==3 with
    | true=>simp only [cond_true,cond_false,Bool.false_eq_true,if_true,if_false];rw [show ((110:Int) != 0)=true from rfl,if_pos rfl,NC]
    | false=>simp only [cond_false,Bool.false_eq_true,if_false];rw [show ((0:Int) != 0)=false from rfl,RM];rfl
  have e7:r7=MO (kN t c b l w o):=by
   rw [hr7,e6,hr1,hr3];unfold MO;show _=if decide (b>0)=true then _ ++(⟨#[98]⟩++dp b) else _;by_cases h:b>0
   ·rw [decide_eq_true h,if_pos rfl,kb h];rfl
   ·rw [decide_eq_false h];rfl
  have e8:r8=KA (kN t c b l w o):=by
   rw [hr8,e7,hr2,hr4];unfold KA;show _=if decide (l>0)=true then _ ++(⟨#[108]⟩++dp l) else _;by_cases h:l>0
   ·rw [decide_eq_true h,if_pos rfl,kl h];rfl
   ·rw [decide_eq_false h];rfl
  have e :(bif o then r9++ByteArray.mk #[82] else r9)=jn (kN t c b l w o):=by
   have hm :(kN t c b l w o).mark=UM w o:=rfl;rw [hr9,e8,jn,hm];cases w <;> cases o
   ·rfl
   ·show _++_=_++Hd 82;rw [NA];rfl
   ·show _++_=_++Hd 87;rw [NB]
   ·cases hw
  rw [e];rfl
def CX:FuncId×dR:=(73,ax KE qOf Ti sOf)
theorem Dh:aR Tryz.prog KE 73 (ax KE qOf Ti sOf):=by
 refine bh (C:=aI [oM,ng] Tryz.f73) (az (.aP sA rfl (.aP uR rfl .nil)) _) mixed (fn:=Tryz.f73) Tryz.func73 (by kernel_rfl) (by kernel_rfl) (by kernel_rfl) (by kernel_rfl) (by kernel_rfl) (by kernel_rfl) (Λ:=fun _ _=>none) ?_ ?_
 ·exact fun _ _ _ _ _ _ _ _ h=>by cases h
 ·rintro ⟨t,c,b,l,w,o,⟨⟩⟩ hw hn
  exact Qg t c b l w o (hn _ List.mem_cons_self) (hn _ (List.mem_cons_of_mem _ List.mem_cons_self)) (hn _ (List.mem_cons_of_mem _ (List.mem_cons_of_mem _ List.mem_cons_self))) (hn _ (List.mem_cons_of_mem _ (List.mem_cons_of_mem _ (List.mem_cons_of_mem _ List.mem_cons_self))))
noncomputable def LR:Lp:=(⟨0,aI [] Tryz.f38,(fun _=>none),(aC Tryz.f38 0),qFd,xFd⟩:Lp)
theorem Zh (s:ByteArray) (l:List ag) (n:Int) (i:Int) (z:ag) (hi:Ad (s,l,n,i,z,())) :(Go.aa.stepG LR my (fun y:Den (bj LR.q)=>Ad y/\O1 y<O1 (s,l,n,i,z,())) (s,l,n,i,z,())/\Go.aa.bB LR my (s,l,n,i,z,())=my (s,l,n,i,z,())):=by
 refine cast (by kernel_rfl) (?_:let r1:Bool:=(l.getD i.toNat (af (Ty.nm Nm.ag))).1.toList==s.toList;((decide (i<n)=true->(0<=i/\i <(↑l.length:Int))/\(r1=true->True)/\(r1=false->Ad (s,l,n,IntKind.i64.wrap (i+1),z,())/\O1 (s,l,n,IntKind.i64.wrap (i+1),z,())<O1 (s,l,n,i,z,())))/\(decide (i<n)=false->True))/\(cond (decide (i<n)) (cond r1 (Sum.inr (true,l.getD i.toNat (af (Ty.nm Nm.ag)),())) (my (s,l,n,IntKind.i64.wrap (i+1),z,()))) (Sum.inl (z,())))=my (s,l,n,i,z,()));intro r1
 clear_value (hr1:r1=_)
 obtain ⟨⟨h1,h1b⟩,h2,h3⟩:=hi;have h1:n =(l.length:Int):=h1;have h1b:l.length<=140737488355328:=h1b;have h2:0<=i:=h2;have h3:i<=n:=h3;refine dP (fun h=>?_) (fun h=>?_)
 ·have e1:IntKind.i64.wrap (i+1)=i+1:=a7 (by omega) (by omega);have hd:l.drop i.toNat=l.getD i.toNat (af (Ty.nm Nm.ag))::l.drop (i+1).toNat:=aY h2 (by omega) _;generalize l.getD i.toNat (af (Ty.nm Nm.ag))=w at *;rw [e1];refine ⟨⟨⟨h2,by omega⟩,fun _=>trivial,fun _=>⟨⟨⟨h1,h1b⟩,?_,?_⟩,?_⟩⟩,?_⟩
  ·show 0<=i+1;omega
  ·show i+1<=n;omega
  ·show (n - (i+1)).toNat <(n - i).toNat;omega
  ·unfold my;simp only;rw [hd,aO,hr1];show (bif w.Text.toList==s.toList then _ else _)=_;cases w.Text.toList==s.toList <;> rfl
 ·unfold my;simp only;rw [aN (l:=l) (by omega)];rfl
noncomputable def VD:aw:=aq LR my Ad
noncomputable def U3:Nat:=fo (aC Tryz.f38 0)
theorem Xz:aJ Tryz.prog 0 Tryz.f38.ntmps (aC Tryz.f38 0) (aq LR my Ad):=
 aD LR (az (aZ.nil) _) mixed (fun b hb S hS=>by cases hS) my Ad O1 (fun |⟨s,l,n,i,z,⟨⟩⟩,hi=>Zh s l n i z hi)
theorem IZ (l:List ag) (s:ByteArray) (hl:l.length<=aW) :(a8 (aI [] Tryz.f38) (find [(U3,VD)]) Tryz.f38 Tv Ki (l,s,())).sat fun z_=>z_ =(Qp (l,s,())).2:=by
 refine cast (by kernel_rfl) (?_:let r1:ag:=ag.mk ByteArray.empty 0 0 0 0 false false;let r2:Bool:=wV (my (s,l,(↑l.length:Int),0,r1,()));let r3:Bool×ag×PUnit:=jL (af (Ty.bool.prod (Uc.prod Ty.unit))) (my (s,l,(↑l.length:Int),0,r1,()));((cq fun x=>none)/\((↑l.length:Int) =(↑l.length:Int)/\l.length<=aW)/\(0:Int)<=0/\0<=(↑l.length:Int))/\(r2=true->(r1,false,()) =((aO l s).1,(aO l s).2,()))/\(r2=false->(r3.2.1,r3.1,()) =((aO l s).1,(aO l s).2,())));intro r1 r2 r3
 clear_value (hr1:r1=_) (hr2:r2=_) (hr3:r3=_)
 have e:my (s,l,(l.length:Int),0,r1,())=Pw r1 (aO l s):=rfl;rw [e] at hr2 hr3;refine ⟨⟨rfl,⟨rfl,hl⟩,Int.le_refl _,by omega⟩,fun h=>?_,fun h=>?_⟩
 ·rw [hr2] at h
  cases hf :(aO l s).2 with
  | true=>unfold Pw at h;rw [hf] at h;cases h
  | false=>rw [E4 hf,hr1];rfl
 ·rw [hr2] at h
  cases hf :(aO l s).2 with
  | true=>rw [hr3];unfold Pw;rw [hf];rfl
  | false=>unfold Pw at h;rw [hf] at h;cases h
def dF:FuncId×dR:=(38,ax KE Tv Ki Qp)
theorem dY:aR Tryz.prog KE 38 (ax KE Tv Ki Qp):=by
 refine bh (C:=aI [] Tryz.f38) (az (aZ.nil) _) mixed (fn:=Tryz.f38) Tryz.func38 (by kernel_rfl) (by kernel_rfl) (by kernel_rfl) (by kernel_rfl) (by kernel_rfl) (by kernel_rfl) (Λ:=fun x=>find [(U3,VD)]) ?_ ?_
 ·rintro ⟨l,s,⟨⟩⟩ hw hn
  exact aL.at (by kernel_rfl) (.cons (by kernel_rfl) (Xz) .nil)
 ·rintro ⟨l,s,⟨⟩⟩ hw hn
  exact IZ l s (hn _ List.mem_cons_self)
noncomputable def Ma:Lp:=(⟨0,aI [oM] Tryz.f41,(fun _=>none),(aC Tryz.f41 0),qVa,xVa⟩:Lp)
theorem Zz (s:ByteArray) (n:Int) (hi:Ar (s,n,())) :(Go.aa.stepG Ma nW (fun y:Den (bj Ma.q)=>Ar y/\Pb y<Pb (s,n,())) (s,n,())/\Go.aa.bB Ma nW (s,n,())=nW (s,n,())):=by
 refine cast (by kernel_rfl) (?_:let r1:Bool:=decide (n<=11);((r1=true->b9 n/\(((dp n).toList==s.toList)=true->True)/\(((dp n).toList==s.toList)=false->Ar (s,IntKind.i64.wrap (n+1),())/\Pb (s,IntKind.i64.wrap (n+1),())<Pb (s,n,())))/\(r1=false->True))/\(cond r1 (cond ((dp n).toList==s.toList) (Sum.inr (n,())) (nW (s,IntKind.i64.wrap (n+1),()))) (Sum.inl ()))=nW (s,n,()));intro r1
 clear_value (hr1:r1=_)
 obtain ⟨h0,h1⟩:=hi;have h0:0<=n:=h0;have h1:n<=12:=h1;by_cases h:n<=11
 ·have e1:IntKind.i64.wrap (n+1)=n+1:=a7 (by omega) (by omega);have ek :(12 - n).toNat =(12 - (n+1)).toNat+1:=by omega
  have er:r1=true:=by rw [hr1,decide_eq_true h]
  rw [er,e1];refine ⟨⟨fun _=>⟨⟨h0,by omega⟩,fun _=>trivial,fun _=>⟨⟨by show 0<=n+1;omega,by show n+1<=12;omega⟩,by show (12 - (n+1)).toNat <(12 - n).toNat;omega⟩⟩,fun _=>trivial⟩,?_⟩;unfold nW;simp only;rw [ek,D7]
  cases (dp n).toList==s.toList with
  | true=>
   show Sum.inr (n,())=Bp n;unfold Bp;rw [if_neg (by simp;omega)]
  | false=>rfl
 ·have er:r1=false:=by rw [hr1,decide_eq_false h]
  rw [er];refine ⟨⟨fun z=>Bool.noConfusion z,fun _=>trivial⟩,?_⟩
  have:n=12:=by omega
  subst this;rfl
noncomputable def VS:aw:=aq Ma nW Ar
noncomputable def Vj:Nat:=fo (aC Tryz.f41 0)
theorem XT:aJ Tryz.prog 0 Tryz.f41.ntmps (aC Tryz.f41 0) (aq Ma nW Ar):=
 aD Ma (az (.aP sA rfl .nil) _) mixed (fun b hb S hS=>by cases hS) nW Ar Pb (fun |⟨s,n,⟨⟩⟩,hi=>Zz s n hi)
theorem GN (s:ByteArray) :(a8 (aI [] Tryz.f41) (find [(Vj,VS)]) Tryz.f41 MX qc (s,())).sat fun z_=>z_ =(YV (s,())).2:=by
 refine cast (by kernel_rfl) (?_:let r1:Bool:=wV (nW (s,0,()));((cq fun x=>none)/\(0:Int)<=0/\(0:Int)<=12)/\(r1=true->((-1:Int),()) =(gn s,()))/\(r1=false->jL (af (I.prod Ty.unit)) (nW (s,0,())) =(gn s,())));intro r1
 clear_value (hr1:r1=_)
 have e:nW (s,0,())=Bp (gn s):=rfl;rw [e] at hr1 ⊢;refine ⟨⟨rfl,Int.le_refl _,by decide⟩,fun h=>?_,fun h=>?_⟩
 ·rw [hr1] at h;unfold Bp at h;by_cases hv:gn s = -1
  ·rw [hv]
  ·rw [if_neg (by simpa using hv)] at h;cases h
 ·rw [hr1] at h;unfold Bp at h ⊢;by_cases hv:gn s = -1
  ·rw [if_pos (by simpa using hv)] at h;cases h
  ·rw [if_neg (by simpa using hv)];rfl
def iD:FuncId×dR:=(41,ax KE MX qc YV)
theorem iH:aR Tryz.prog KE 41 (ax KE MX qc YV):=by
 refine bh (C:=aI [] Tryz.f41) (az (aZ.nil) _) mixed (fn:=Tryz.f41) Tryz.func41 (by kernel_rfl) (by kernel_rfl) (by kernel_rfl) (by kernel_rfl) (by kernel_rfl) (by kernel_rfl) (Λ:=fun x=>find [(Vj,VS)]) ?_ ?_
 ·rintro ⟨s,⟨⟩⟩ hw hn
  exact aL.at (by kernel_rfl) (.cons (by kernel_rfl) (XT) .nil)
 ·rintro ⟨s,⟨⟩⟩ hw hn
  exact GN s
noncomputable def Md:Lp:=(⟨0,aI [CX] Tryz.f31,(fun _=>none),(bA Tryz.f31 0 0),qY0,xY0⟩:Lp)
theorem ZC (l:List Bool) (n:Int) (i:Int) (o:Bool) (m:Int) (k:Int) (r:aj) (u:List ag) (hi:Aw (l,n,i,o,m,k,r,u,())) :(Go.aa.stepG Md u9 (fun y:Den (bj Md.q)=>Aw y/\Pe y<Pe (l,n,i,o,m,k,r,u,())) (l,n,i,o,m,k,r,u,())/\Go.aa.bB Md u9 (l,n,i,o,m,k,r,u,())=u9 (l,n,i,o,m,k,r,u,())):=by
 refine cast (by kernel_rfl) (?_:let r1:List ag:= [ag.mk (jn (kN 2 (IntKind.i64.wrap (r.7+k)) 0 0 false o)) 2 (IntKind.i64.wrap (r.7+k)) 0 0 false o];let r2:List ag:= [ag.mk (jn (kN 1 k 0 0 false o)) 1 k 0 0 false o,ag.mk (jn (kN 1 0 k 0 false o)) 1 0 k 0 false o,ag.mk (jn (kN 1 0 0 k false o)) 1 0 0 k false o];let r3:List ag:= [ag.mk (jn (kN 3 (IntKind.i64.wrap (r.8+k)) 0 0 false o)) 3 (IntKind.i64.wrap (r.8+k)) 0 0 false o,ag.mk (jn (kN 3 r.8 k 0 false o)) 3 r.8 k 0 false o,ag.mk (jn (kN 3 r.8 0 k false o)) 3 r.8 0 k false o];let r4:List ag:=u++r2;let r5:List ag:=r4++r1;((decide (k<=m)=true->b9 k/\b9 0/\b9 0/\kp false o/\b9 0/\b9 k/\b9 0/\kp false o/\b9 0/\b9 0/\b9 k/\kp false o/\(u.length+r2.length) *(56:Nat)<=(70368744177664:Nat)/\b9 (IntKind.i64.wrap (r.7+k))/\b9 0/\b9 0/\kp false o/\(r4.length+r1.length) *(56:Nat)<=(70368744177664:Nat)/\b9 (IntKind.i64.wrap (r.8+k))/\b9 0/\b9 0/\kp false o/\b9 r.8/\b9 k/\b9 0/\kp false o/\b9 r.8/\b9 0/\b9 k/\kp false o/\(r5.length+r3.length) *(56:Nat)<=(70368744177664:Nat)/\Aw (l,n,i,o,m,IntKind.i64.wrap (k+1),r,r5++r3,())/\Pe (l,n,i,o,m,IntKind.i64.wrap (k+1),r,r5++r3,())<Pe (l,n,i,o,m,k,r,u,()))/\(decide (k<=m)=false->True))/\(cond (decide (k<=m)) (u9 (l,n,i,o,m,IntKind.i64.wrap (k+1),r,r5++r3,())) (l,n,i,r,u,()))=u9 (l,n,i,o,m,k,r,u,()));intro r1 r2 r3 r4 r5
 clear_value (hr1:r1=_) (hr2:r2=_) (hr3:r3=_) (hr4:r4=_) (hr5:r5=_)
 obtain ⟨⟨hi0,hi2⟩,⟨h1,h2,h3⟩,hr,h4⟩:=hi;have hi0:0<=i:=hi0;have hi2:i<=2:=hi2;have h1:1<=k:=h1;have h2:k<=m+1:=h2;have h3:m<=11:=h3;have h4 :(u.length:Int)<=5000+10000*i+7*k:=h4;obtain ⟨⟨w0,w1⟩,n0,n1⟩:=id hr;by_cases h:k<=m
 ·have e1:IntKind.i64.wrap (k+1)=k+1:=a7 (by omega) (by omega);have e7:IntKind.i64.wrap (r.7+k)=r.7+k:=bE (by show _<=r.Wide+k;omega) (by show r.Wide+k<=_;omega);have e8:IntKind.i64.wrap (r.8+k)=r.8+k:=bE (by show _<=r.NoBall+k;omega) (by show r.NoBall+k<=_;omega);have z0:b9 0:=⟨Int.le_refl _,by decide⟩;have zk:b9 k:=⟨by omega,by omega⟩;have z7:b9 (r.7+k):=⟨by show 0<=r.Wide+k;omega,by show r.Wide+k<=1000000;omega⟩;have z8:b9 (r.8+k):=⟨by show 0<=r.NoBall+k;omega,by show r.NoBall+k<=1000000;omega⟩;have z9:b9 r.8:=⟨by show 0<=r.NoBall;omega,by show r.NoBall<=1000000;omega⟩;have nb:kp false o:=rfl;have l1:r1.length=1:=by rw [hr1];rfl
  have l2:r2.length=3:=by rw [hr2];rfl
  have l3:r3.length=3:=by rw [hr3];rfl
  have l4:r4.length=u.length+3:=by rw [hr4,List.length_append,l2]
  have l5:r5.length=u.length+4:=by rw [hr5,List.length_append,l4,l1]
  have e53:r5++r3=u ++(kX (sj o) k).map (ej r):=by rw [hr5,hr4,hr1,hr2,hr3,e7,e8];show _=u++[ej r (0,k,0,0,sj o),ej r (0,0,k,0,sj o),ej r (0,0,0,k,sj o),ej r (119,k,0,0,sj o),ej r (110,k,0,0,sj o),ej r (110,0,k,0,sj o),ej r (110,0,0,k,sj o)];simp only [Kz,Ig,List.append_assoc,List.cons_append,List.nil_append];show _=u++[Eh 1 (0+k) 0 0 false o,Eh 1 (0+0) k 0 false o,Eh 1 (0+0) 0 k false o,Eh 2 (r.Wide+k) 0 0 false o,Eh 3 (r.NoBall+k) 0 0 false o,Eh 3 (r.NoBall+0) k 0 false o,Eh 3 (r.NoBall+0) 0 k false o];simp only [Int.zero_add,Int.add_zero]
  rw [e53,e1,e7,e8,decide_eq_true h];have ek :(m+1 - k).toNat =(m+1 - (k+1)).toNat+1:=by omega
  refine ⟨⟨fun _=>⟨zk,z0,z0,nb,z0,zk,z0,nb,z0,z0,zk,nb,by omega,z7,z0,z0,nb,by omega,z8,z0,z0,nb,z9,zk,z0,nb,z9,z0,zk,nb,by omega,⟨⟨hi0,hi2⟩,⟨?_,?_,h3⟩,hr,?_⟩,?_⟩,fun z=>Bool.noConfusion z⟩,?_⟩
  ·show 1<=k+1;omega
  ·show k+1<=m+1;omega
  ·show ((u ++(kX (sj o) k).map (ej r)).length:Int)<=5000+10000*i+7 *(k+1);rw [List.length_append,List.length_map];have :(kX (sj o) k).length=7:=rfl;omega
  ·show (m+1 - (k+1)).toNat <(m+1 - k).toNat;omega
  ·show (l,n,i,r,(u ++(kX (sj o) k).map (ej r)) ++(MR (sj o) (m+1 - (k+1)).toNat (k+1)).map (ej r),()) =(l,n,i,r,u ++(MR (sj o) (m+1 - k).toNat k).map (ej r),());rw [ek,MR,List.map_append,List.append_assoc]
 ·rw [decide_eq_false h];refine ⟨⟨fun z=>Bool.noConfusion z,fun _=>trivial⟩,?_⟩;have :(m+1 - k).toNat=0:=by omega
  show (l,n,i,r,u,()) =(l,n,i,r,u ++(MR (sj o) (m+1 - k).toNat k).map (ej r),());rw [this];show _ =(l,n,i,r,u++[],());rw [List.append_nil]
noncomputable def ab5:aw:=aq Md u9 Aw
noncomputable def abG:Nat:=fo (bA Tryz.f31 0 0)
theorem XW:aJ Tryz.prog 0 Tryz.f31.ntmps (bA Tryz.f31 0 0) (aq Md u9 Aw):=
 aD Md (az (.aP Dh rfl .nil) _) mixed (fun b hb S hS=>by cases hS) u9 Aw Pe (fun |⟨l,n,i,o,m,k,r,u,⟨⟩⟩,hi=>ZC l n i o m k r u hi)
noncomputable def Me:Lp:=(⟨0,aI [CX] Tryz.f31,(find [(abG,ab5)]),(aC Tryz.f31 0),qY1,xY1⟩:Lp)
theorem ZD (l:List Bool) (n:Int) (i:Int) (r:aj) (u:List ag) (hi:Ax (l,n,i,r,u,())) :(Go.aa.stepG Me sJ (fun y:Den (bj Me.q)=>Ax y/\Pg y<Pg (l,n,i,r,u,())) (l,n,i,r,u,())/\Go.aa.bB Me sJ (l,n,i,r,u,())=sJ (l,n,i,r,u,())):=by
 refine cast (by kernel_rfl) (?_:let r1:Int:=cond (l.getD i.toNat (af Ty.bool)) 7 11;let r2:Int:=r1+1;let r3:List ag:= [ag.mk (jn (kN 1 0 0 0 false (l.getD i.toNat (af Ty.bool)))) 1 0 0 0 false (l.getD i.toNat (af Ty.bool)),ag.mk (jn (kN 2 r.7 0 0 false (l.getD i.toNat (af Ty.bool)))) 2 r.7 0 0 false (l.getD i.toNat (af Ty.bool)),ag.mk (jn (kN 3 r.8 0 0 false (l.getD i.toNat (af Ty.bool)))) 3 r.8 0 0 false (l.getD i.toNat (af Ty.bool))];let r4:List ag:=u++r3;((decide (i<n)=true->(0<=i/\i <(↑l.length:Int))/\b9 0/\b9 0/\b9 0/\kp false (l.getD i.toNat (af Ty.bool))/\b9 r.7/\b9 0/\b9 0/\kp false (l.getD i.toNat (af Ty.bool))/\b9 r.8/\b9 0/\b9 0/\kp false (l.getD i.toNat (af Ty.bool))/\(u.length+r3.length) *(56:Nat)<=(70368744177664:Nat)/\((cq fun x=>none)/\(0<=i/\i<=2)/\((1:Int)<=1/\1<=r2/\r1<=11)/\kq r/\(↑r4.length:Int)<=(5000:Int)+10000*i +(7:Int)*1)/\Ax (l,n,IntKind.i64.wrap (i+1),r,r4++List.map (ej r) (MR (sj (l.getD i.toNat (af Ty.bool))) (r2 - 1).toNat 1),())/\Pg (l,n,IntKind.i64.wrap (i+1),r,r4++List.map (ej r) (MR (sj (l.getD i.toNat (af Ty.bool))) (r2 - 1).toNat 1),())<Pg (l,n,i,r,u,()))/\(decide (i<n)=false->True))/\(cond (decide (i<n)) (sJ (l,n,IntKind.i64.wrap (i+1),r,r4++List.map (ej r) (MR (sj (l.getD i.toNat (af Ty.bool))) (r2 - 1).toNat 1),())) (u,()))=sJ (l,n,i,r,u,()));intro r1 r2 r3 r4
 clear_value (hr1:r1=_) (hr2:r2=_) (hr3:r3=_) (hr4:r4=_)
 obtain ⟨⟨h1,h1b⟩,⟨h2,h3⟩,hr,h4⟩:=hi;have h1:n =(l.length:Int):=h1;have h1b:l.length<=2:=h1b;have h2:0<=i:=h2;have h3:i<=n:=h3;have h4 :(u.length:Int)<=100+10000*i:=h4;obtain ⟨⟨w0,w1⟩,n0,n1⟩:=id hr;refine dP (fun h=>?_) (fun h=>?_)
 ·have e1:IntKind.i64.wrap (i+1)=i+1:=a7 (by omega) (by omega);have hd:l.drop i.toNat=l.getD i.toNat (af Ty.bool)::l.drop (i+1).toNat:=aY h2 (by omega) _;generalize l.getD i.toNat (af Ty.bool)=o at *;have z0:b9 0:=⟨Int.le_refl _,by decide⟩;have z7:b9 r.7:=⟨by show 0<=r.Wide;omega,by show r.Wide<=1000000;omega⟩;have z8:b9 r.8:=⟨by show 0<=r.NoBall;omega,by show r.NoBall<=1000000;omega⟩;have nb:kp false o:=rfl;have em:r1=uP o:=by rw [hr1];cases o <;> rfl
  have hm:uP o=7\/uP o=11:=by cases o <;> simp [uP]
  have e2 :(r2 - 1).toNat =(uP o).toNat:=by rw [hr2,em];congr 1;omega
  have l3:r3.length=3:=by rw [hr3];rfl
  have l4:r4.length=u.length+3:=by rw [hr4,List.length_append,l3]
  have e4:r4 ++(MR (sj o) (uP o).toNat 1).map (ej r)=u ++(oY o).map (ej r):=by rw [hr4,hr3];unfold oY oX;rw [List.map_append];show (u++_)++_=u ++([ej r (0,0,0,0,sj o),ej r (119,0,0,0,sj o),ej r (110,0,0,0,sj o)]++_);simp only [Kz,Ig,List.append_assoc,List.cons_append,List.nil_append];show _=u ++(Eh 1 (0+0) 0 0 false o::Eh 2 (r.Wide+0) 0 0 false o::Eh 3 (r.NoBall+0) 0 0 false o::_);simp only [Int.add_zero]
  have ul:=KH (sj o) (uP o).toNat 1;rw [e2,e4,e1];refine ⟨⟨⟨h2,by omega⟩,z0,z0,z0,nb,z7,z0,z0,nb,z8,z0,z0,nb,by omega,⟨rfl,⟨h2,by omega⟩,⟨Int.le_refl _,by rw [hr2];omega,by omega⟩,hr,by omega⟩,⟨⟨h1,h1b⟩,⟨?_,?_⟩,hr,?_⟩,?_⟩,?_⟩
  ·show 0<=i+1;omega
  ·show i+1<=n;omega
  ·show ((u ++(oY o).map (ej r)).length:Int)<=100+10000 *(i+1);rw [<-e4,List.length_append,List.length_map,ul];omega
  ·show (n - (i+1)).toNat <(n - i).toNat;omega
  ·show ((u ++(oY o).map (ej r)) ++((l.drop (i+1).toNat).flatMap oY).map (ej r),()) =(u ++((l.drop i.toNat).flatMap oY).map (ej r),());rw [hd,List.flatMap_cons,List.map_append,List.append_assoc]
 ·unfold sJ;simp only;rw [aN (l:=l) (by omega)];show _ =(u++[],());rw [List.append_nil]
noncomputable def VV:aw:=aq Me sJ Ax
noncomputable def Vm:Nat:=fo (aC Tryz.f31 0)
theorem XX:aJ Tryz.prog 0 Tryz.f31.ntmps (aC Tryz.f31 0) (aq Me sJ Ax):=
 aD Me (az (.aP Dh rfl .nil) _) mixed (aL.cons (by kernel_rfl) XW .nil) sJ Ax Pg (fun |⟨l,n,i,r,u,⟨⟩⟩,hi=>ZD l n i r u hi)
theorem y7 (r:aj) (hr:kq r) :(a8 (aI [CX] Tryz.f31) (find [(Vm,VV)]) Tryz.f31 Tq Kj (r,())).sat fun z_=>z_ =(Qx (r,())).2:=by
 refine cast (by kernel_rfl) (?_:let r1:Int:=(↑[false,true].length:Int);let r2:List ag:= [ag.mk (jn (kN 1 0 0 0 true false)) 1 0 0 0 true false,ag.mk (jn (kN 2 r.7 0 0 true false)) 2 r.7 0 0 true false];b9 0/\b9 0/\b9 0/\kp true false/\b9 r.7/\b9 0/\b9 0/\kp true false/\((cq fun x=>none)/\(r1 =(↑[false,true].length:Int)/\ [false,true].length<=(2:Nat))/\((0:Int)<=0/\0<=r1)/\kq r/\(↑r2.length:Int)<=(100:Int) +(10000:Int)*0)/\(r2++List.map (ej r) (List.flatMap oY (List.drop (Int.toNat 0) [false,true])),()) =(bQ r,()));intro r1 r2
 clear_value (hr1:r1=_) (hr2:r2=_)
 have z0:b9 0:=⟨Int.le_refl _,by decide⟩;have z7:b9 r.7:=⟨by have:=hr.1.1;show 0<=r.Wide;omega,by have:=hr.1.2;show r.Wide<=1000000;omega⟩;have l2:r2.length=2:=by rw [hr2];rfl
 refine ⟨z0,z0,z0,rfl,z7,z0,z0,rfl,⟨rfl,⟨hr1,by decide⟩,⟨Int.le_refl _,by rw [hr1];decide⟩,hr,by rw [l2];decide⟩,?_⟩
 have e2:r2=[ej r (0,0,0,0,87),ej r (119,0,0,0,87)]:=by rw [hr2];show _=[Eh 1 (0+0) 0 0 true false,Eh 2 (r.Wide+0) 0 0 true false];simp only [Ig,Int.add_zero]
 rw [e2];show (_ ++(List.flatMap oY [false,true]).map (ej r),()) =(bQ r,())
 have e:List.flatMap oY [false,true]=oX 0 11++oX 82 7:=by rw [List.flatMap_cons,List.flatMap_cons,List.flatMap_nil,List.append_nil];rfl
 rw [e];rfl
def kZ:FuncId×dR:=(31,ax KE Tq Kj Qx)
theorem sy:aR Tryz.prog KE 31 (ax KE Tq Kj Qx):=by
 refine bh (C:=aI [CX] Tryz.f31) (az (.aP Dh rfl .nil) _) mixed (fn:=Tryz.f31) Tryz.func31 (by kernel_rfl) (by kernel_rfl) (by kernel_rfl) (by kernel_rfl) (by kernel_rfl) (by kernel_rfl) (Λ:=fun x=>find [(Vm,VV)]) ?_ ?_
 ·rintro ⟨r,⟨⟩⟩ hw hn
  exact aL.at (by kernel_rfl) (.cons (by kernel_rfl) (XX) .nil)
 ·rintro ⟨r,⟨⟩⟩ hw hn
  exact y7 r (hn _ List.mem_cons_self)
abbrev lM:Ty:= .slice (.nm .aH)
abbrev GZ:List (Nat×PC):= [(0,.h kP),(1,.h lM),(2,.h I),(7,.h I),(17,.h lM),(18,.h I),(19,.h I)]
abbrev qL0:bl:=⟨GZ++[(32,.h (.slice .str)),(33,.h I),(34,.h I)],[],0⟩
abbrev xL0:List (Lf×bl):= [(.ext 2,⟨GZ,[],0⟩)]
abbrev TL1:Type:=List ag×List aa.aH×Int×Int×List aa.aH×Int×Int×Unit
abbrev TL0:Type:=List ag×List aa.aH×Int×Int×List aa.aH×Int×Int×List ByteArray×Int×Int×Unit
def sG:TL0->TL1
 |(a,l,c,g,xs,n,j,s,_,k,_)=>(a,l,c,g+dx a (s.drop k.toNat),xs,n,j,())
def Aj:TL0->Prop
 |(a,_,_,g,_,_,j,s,m,k,_)=>(m =(s.length:Int)/\s.length<=4000)/\(0<=k/\k<=m)/\(0<=j/\j<=4000)/\(0<=g/\g<=4000*j+k)/\a.length<=aW
def O6:TL0->Nat
 |(_,_,_,_,_,_,_,_,m,k,_)=>(m - k).toNat
abbrev qL1:bl:=⟨GZ,[],0⟩
abbrev xL1:List (Lf×bl):= [(.ext 0,⟨[(7,.h I)],[],0⟩)]
def vo (l:List aa.aH) (c:Int):Int:=(l.getD c.toNat aH.zero).Over
def nV:TL1->Int×Unit
 |(a,l,c,g,xs,_,j,_)=>(g+vm a (vo l c) (xs.drop j.toNat),())
def uL:TL1->Prop
 |(a,l,c,g,xs,n,j,_)=>(n =(xs.length:Int)/\po xs)/\(0<=j/\j<=n)/\(0<=c/\c <(l.length:Int))/\(0<=g/\g<=4000*j)/\a.length<=aW
def C8:TL1->Nat
 |(_,_,_,_,_,n,j,_)=>(n - j).toNat
abbrev Tu:bl:=cQ [kP,lM,I]
def n8 (c:Int) (n:Nat):Prop:=0<=c/\c <(n:Int)
def OG (a:List ag) (l:List aa.aH) (c:Int):Int:=vm a (vo l c) (l.take (c+1).toNat)
def Qq:Den (bj Tu)->List Prop×Den (bj qc):=fun x=>([x.1.length<=aW,po x.2.1,n8 x.2.2.1 x.2.1.length],(OG x.1 x.2.1 x.2.2.1,()))
abbrev hpX:List (Nat×PB):= [(0,.dat (.nm .aj)),(1,.dat (.nm .aH))]
abbrev tmX:List (Nat×PC):= [(1,.h kP),(2,.h lM),(3,.h I),(4,.c (.ptr 0 0)),(9,.c (.ptr 1 0))]
abbrev afs:Lf×bl:=(.ret,⟨[(8,.h I)],[],0⟩)
abbrev qX0:bl:=⟨tmX++[(34,.h (.slice .str)),(35,.h I),(36,.h I)],hpX,2⟩
abbrev xX0:List (Lf×bl):= [(.ext 0,⟨tmX,hpX,2⟩),afs]
abbrev TX0:Type:=List ag×List aa.aH×Int×List ByteArray×Int×Int×aj×aa.aH×Unit
abbrev adS:Type:=List ag×List aa.aH×Int×aj×aa.aH×Unit
def lq:TX0->Sum adS (Int×Unit)
 |(a,l,c,s,_,k,r,x,_)=>if (s.drop k.toNat).all (fun w=>(aO a w).2) then .inl (a,l,c,r,x,()) else .inr (4,())
def Av:TX0->Prop
 |(a,_,_,s,m,k,_)=>(m =(s.length:Int)/\s.length<=4000)/\(0<=k/\k<=m)/\a.length<=aW
def Pd:TX0->Nat
 |(_,_,_,_,m,k,_)=>(m - k).toNat
abbrev uY:bl:=cQ [.nm .aj,kP,lM,I]
def vE (r:aj) (a:List ag):Prop:=a=bQ r
def ob (l:List aa.aH) (c:Int):aa.aH:=l.getD c.toNat aH.zero
def Qk:Den (bj uY)->List Prop×Den (bj qc):=fun x=>([vE x.1 x.2.1,sT x.1,po x.2.2.1,n8 x.2.2.2.1 x.2.2.1.length],(lz x.1 (x.2.2.1.take x.2.2.2.1.toNat) (ob x.2.2.1 x.2.2.2.1),()))
abbrev hpZ:List (Nat×PB):= [(0,.dat (.nm .aj)),(1,.dat MZ)]
abbrev tmZ:List (Nat×PC):= [(3,.c (.ptr 0 0)),(7,.c (.ptr 1 0))]
abbrev acr:Lf×bl:=(.ret,⟨[(6,.h I)],[],0⟩)
abbrev qZ0:bl:=⟨tmZ++[(29,.h ze),(30,.h I),(31,.h I)],hpZ,2⟩
abbrev xZ0:List (Lf×bl):= [(.ext 0,⟨tmZ,hpZ,2⟩),acr]
abbrev TZ0:Type:=List aa.ak×Int×Int×aj×aa.ak×Unit
def lr:TZ0->Sum (aj×aa.ak×Unit) (Int×Unit)
 |(l,_,i,r,x,_)=>if (l.drop i.toNat).any (cx x) then .inr (7,()) else .inl (r,x,())
def Ay:TZ0->Prop
 |(l,n,i,_)=>(n =(l.length:Int)/\l.length<=4000)/\0<=i/\i<=n
def Ph:TZ0->Nat
 |(_,n,i,_)=>(n - i).toNat
abbrev qZ1:bl:=⟨tmZ++[(42,.h (.slice .str)),(43,.h I),(44,.h I)],hpZ,2⟩
abbrev xZ1:List (Lf×bl):= [(.ext 2,⟨tmZ,hpZ,2⟩),acr]
abbrev TZ1:Type:=List ByteArray×Int×Int×aj×aa.ak×Unit
def lu:TZ1->Sum (aj×aa.ak×Unit) (Int×Unit)
 |(s,_,j,r,x,_)=>if (s.drop j.toNat).any (fun w=>decide (gn w<0)) then .inr (4,()) else .inl (r,x,())
def Az:TZ1->Prop
 |(s,m,j,_)=>(m =(s.length:Int)/\s.length<=4000)/\0<=j/\j<=m
def Pi:TZ1->Nat
 |(_,m,j,_)=>(m - j).toNat
abbrev Tp:bl:=cQ [.nm .aj,ze,I]
def Eg (l:List aa.ak) (c:Int):aa.ak:=l.getD c.toNat ak.zero
def DM:Den (bj Tp)->List Prop×Den (bj qc):=fun x=>([xY x.2.1,n8 x.2.2.1 x.2.1.length],(cW x.1 (x.2.1.take x.2.2.1.toNat) (Eg x.2.1 x.2.2.1),()))
theorem pA (r:aj) :(bQ r).length<=aW:=by
 have h1:fk.length=134:=by kernel_rfl
 have h2 :(1000:Nat)<=aW:=by decide
 unfold bQ;rw [List.length_map,h1];omega
noncomputable def LX:Lp:=(⟨0,aI [dF] Tryz.f74,(fun _=>none),(bA Tryz.f74 0 0),qL0,xL0⟩:Lp)
theorem Zm (a:List ag) (l:List aa.aH) (c:Int) (g:Int) (xs:List aa.aH) (n:Int) (j:Int) (s:List ByteArray) (m:Int) (k:Int) (hi:Aj (a,l,c,g,xs,n,j,s,m,k,())) :(Go.aa.stepG LX sG (fun y:Den (bj LX.q)=>Aj y/\O6 y<O6 (a,l,c,g,xs,n,j,s,m,k,())) (a,l,c,g,xs,n,j,s,m,k,())/\Go.aa.bB LX sG (a,l,c,g,xs,n,j,s,m,k,())=sG (a,l,c,g,xs,n,j,s,m,k,())):=by
 refine cast (by kernel_rfl) (?_:let r1:List ag×List aa.aH×Int×Int×List aa.aH×Int×Int×PUnit:=af (kP.prod (lM.prod (I.prod (I.prod (lM.prod (I.prod (I.prod Ty.unit)))))));let r2:Bool:=(aO a (s.getD k.toNat (af Ty.str))).1.2==1;((decide (k<m)=true->((0<=k/\k <(↑s.length:Int))/\a.length<=aW/\(r2=true->True)/\(r2=false->True))/\(true=true->Aj (a,l,c,cond r2 (IntKind.i64.wrap (g+1)) g,xs,n,j,s,m,IntKind.i64.wrap (k+1),())/\O6 (a,l,c,cond r2 (IntKind.i64.wrap (g+1)) g,xs,n,j,s,m,IntKind.i64.wrap (k+1),())<O6 (a,l,c,g,xs,n,j,s,m,k,())))/\(decide (k<m)=false->True))/\(cond (decide (k<m)) (cond (true&&true) (sG (a,l,c,cond r2 (IntKind.i64.wrap (g+1)) g,xs,n,j,s,m,IntKind.i64.wrap (k+1),())) (cond true (sG (a,l,c,cond r2 (IntKind.i64.wrap (g+1)) g,xs,n,j,s,m,IntKind.i64.wrap (k+1),())) (cond r2 r1 r1))) (a,l,c,g,xs,n,j,()))=sG (a,l,c,g,xs,n,j,s,m,k,()));intro r1 r2
 clear_value (hr1:r1=_) (hr2:r2=_)
 obtain ⟨⟨h1,h1b⟩,⟨h2,h3⟩,⟨hj0,hj4⟩,⟨g0,g1⟩,ha⟩:=hi;have h1:m =(s.length:Int):=h1;have h1b:s.length<=4000:=h1b;have h2:0<=k:=h2;have h3:k<=m:=h3;have hj0:0<=j:=hj0;have hj4:j<=4000:=hj4;have g0:0<=g:=g0;have g1:g<=4000*j+k:=g1;refine dP (fun h=>?_) (fun h=>?_)
 ·have e1:IntKind.i64.wrap (k+1)=k+1:=a7 (by omega) (by omega);have hd:s.drop k.toNat=s.getD k.toNat (af Ty.str)::s.drop (k+1).toNat:=aY h2 (by omega) _;generalize s.getD k.toNat (af Ty.str)=w at *
  have e2 :(bif r2 then IntKind.i64.wrap (g+1) else g)=g+jb a w:=by
   rw [hr2];unfold jb;show (bif (aO a w).1.Typ==1 then _ else _)=_
   cases (aO a w).1.Typ==1 with
   | true=>exact bE (by omega) (by omega)
   | false=>show g=g+0;omega
  have hf:0<=jb a w/\jb a w<=1:=by unfold jb;split <;> decide
  rw [e1,e2];refine ⟨⟨⟨⟨h2,by omega⟩,ha,fun _=>trivial,fun _=>trivial⟩,fun _=>⟨⟨⟨h1,h1b⟩,⟨?_,?_⟩,⟨hj0,hj4⟩,⟨?_,?_⟩,ha⟩,?_⟩⟩,?_⟩
  ·show 0<=k+1;omega
  ·show k+1<=m;omega
  ·show 0<=g+jb a w;omega
  ·show g+jb a w<=4000*j +(k+1);omega
  ·show (m - (k+1)).toNat <(m - k).toNat;omega
  ·show (a,l,c,g+jb a w+dx a (s.drop (k+1).toNat),xs,n,j,()) =(a,l,c,g+dx a (s.drop k.toNat),xs,n,j,());rw [hd];show _ =(a,l,c,g +(jb a w+dx a (s.drop (k+1).toNat)),xs,n,j,());rw [Int.add_assoc]
 ·show (a,l,c,g,xs,n,j,()) =(a,l,c,g+dx a (s.drop k.toNat),xs,n,j,());rw [aN (l:=s) (by omega)];show _ =(a,l,c,g+0,xs,n,j,());rw [Int.add_zero]
noncomputable def ab3:aw:=aq LX sG Aj
noncomputable def abE:Nat:=fo (bA Tryz.f74 0 0)
theorem XF:aJ Tryz.prog 0 Tryz.f74.ntmps (bA Tryz.f74 0 0) (aq LX sG Aj):=
 aD LX (az (.aP dY rfl .nil) _) mixed (fun b hb S hS=>by cases hS) sG Aj O6 (fun |⟨a,l,c,g,xs,n,j,s,m,k,⟨⟩⟩,hi=>Zm a l c g xs n j s m k hi)
noncomputable def LY:Lp:=(⟨0,aI [dF] Tryz.f74,(find [(abE,ab3)]),(aC Tryz.f74 0),qL1,xL1⟩:Lp)
theorem Zn (a:List ag) (l:List aa.aH) (c:Int) (g:Int) (xs:List aa.aH) (n:Int) (j:Int) (hi:uL (a,l,c,g,xs,n,j,())) :(Go.aa.stepG LY nV (fun y:Den (bj LY.q)=>uL y/\C8 y<C8 (a,l,c,g,xs,n,j,())) (a,l,c,g,xs,n,j,())/\Go.aa.bB LY nV (a,l,c,g,xs,n,j,())=nV (a,l,c,g,xs,n,j,())):=by
 refine cast (by kernel_rfl) (?_:let r1:Int:=(↑(xs.getD j.toNat (af (Ty.nm Nm.aH))).3.length:Int);let r2:Bool:=(xs.getD j.toNat (af (Ty.nm Nm.aH))).1 !=(l.getD c.toNat (af (Ty.nm Nm.aH))).1;((decide (j<n)=true->(0<=j/\j <(↑xs.length:Int))/\(0<=c/\c <(↑l.length:Int))/\(r2=true->uL (a,l,c,g,xs,n,IntKind.i64.wrap (j+1),())/\C8 (a,l,c,g,xs,n,IntKind.i64.wrap (j+1),())<C8 (a,l,c,g,xs,n,j,()))/\(r2=false->((cq fun x=>none)/\(r1 =(↑(xs.getD j.toNat (af (Ty.nm Nm.aH))).3.length:Int)/\(xs.getD j.toNat (af (Ty.nm Nm.aH))).3.length<=(4000:Nat))/\((0:Int)<=0/\0<=r1)/\(0<=j/\j<=4000)/\(0<=g/\g<=4000*j+0)/\a.length<=aW)/\uL (a,l,c,g+dx a (List.drop (Int.toNat 0) (xs.getD j.toNat (af (Ty.nm Nm.aH))).3),xs,n,IntKind.i64.wrap (j+1),())/\C8 (a,l,c,g+dx a (List.drop (Int.toNat 0) (xs.getD j.toNat (af (Ty.nm Nm.aH))).3),xs,n,IntKind.i64.wrap (j+1),())<C8 (a,l,c,g,xs,n,j,())))/\(decide (j<n)=false->True))/\(cond (decide (j<n)) (cond r2 (nV (a,l,c,g,xs,n,IntKind.i64.wrap (j+1),())) (nV (a,l,c,g+dx a (List.drop (Int.toNat 0) (xs.getD j.toNat (af (Ty.nm Nm.aH))).3),xs,n,IntKind.i64.wrap (j+1),()))) (g,()))=nV (a,l,c,g,xs,n,j,()));intro r1 r2
 clear_value (hr1:r1=_) (hr2:r2=_)
 obtain ⟨⟨h1,h1a,h1b⟩,⟨h2,h3⟩,⟨hc0,hc1⟩,⟨g0,g1⟩,ha⟩:=hi;have h1:n =(xs.length:Int):=h1;have h1a:xs.length<=4000:=h1a;have h2:0<=j:=h2;have h3:j<=n:=h3;have g0:0<=g:=g0;have g1:g<=4000*j:=g1;refine dP (fun h=>?_) (fun h=>?_)
 ·have e1:IntKind.i64.wrap (j+1)=j+1:=a7 (by omega) (by omega);have hd:xs.drop j.toNat=xs.getD j.toNat (af (Ty.nm Nm.aH))::xs.drop (j+1).toNat:=aY h2 (by omega) _;have hm:xs.getD j.toNat (af (Ty.nm Nm.aH))∈xs:=List.mem_of_mem_drop (i:=j.toNat) (by rw [hd];exact List.mem_cons_self);have hx:=h1b _ hm;generalize xs.getD j.toNat (af (Ty.nm Nm.aH))=w at *;have hf:=zJ a w.Symbols;have er:r2 =(w.Over != vo l c):=hr2
  have key:nV (a,l,c,g,xs,n,j,())=bif r2 then nV (a,l,c,g,xs,n,j+1,()) else nV (a,l,c,g+dx a w.Symbols,xs,n,j+1,()):=by
   show (g+vm a (vo l c) (xs.drop j.toNat),())=bif r2 then (g+vm a (vo l c) (xs.drop (j+1).toNat),()) else (g+dx a w.Symbols+vm a (vo l c) (xs.drop (j+1).toNat),());rw [hd,vm,er,bne]
   cases w.Over==vo l c with
   | true=>show (g +(dx a w.Symbols+_),())=_;rw [<-Int.add_assoc];rfl
   | false=>show (g +(0+_),())=_;rw [Int.zero_add];rfl
  rw [e1,key];have hmu :∀ v,C8 (a,l,c,v,xs,n,j+1,())<C8 (a,l,c,g,xs,n,j,()):=fun v=>by show (n - (j+1)).toNat <(n - j).toNat;omega
  have hin :∀ v,0<=v->v<=4000 *(j+1)->uL (a,l,c,v,xs,n,j+1,()):=fun v a b=>⟨⟨h1,h1a,h1b⟩,⟨by show 0<=j+1;omega,by show j+1<=n;omega⟩,⟨hc0,hc1⟩,⟨a,b⟩,ha⟩;refine ⟨⟨⟨h2,by omega⟩,⟨hc0,hc1⟩,fun _=>⟨hin _ g0 (by omega),hmu _⟩,fun _=>⟨⟨rfl,⟨hr1,hx⟩,⟨Int.le_refl _,by omega⟩,⟨h2,by omega⟩,⟨g0,by omega⟩,ha⟩,hin _ (by show 0<=g+dx a w.Symbols;omega) (by show g+dx a w.Symbols<=_;omega),hmu _⟩⟩,rfl⟩
 ·show (g,()) =(g+vm a (vo l c) (xs.drop j.toNat),());rw [aN (l:=xs) (by omega)];show _ =(g+0,());rw [Int.add_zero]
noncomputable def VH:aw:=aq LY nV uL
noncomputable def U7:Nat:=fo (aC Tryz.f74 0)
theorem XG:aJ Tryz.prog 0 Tryz.f74.ntmps (aC Tryz.f74 0) (aq LY nV uL):=
 aD LY (az (.aP dY rfl .nil) _) mixed (aL.cons (by kernel_rfl) XF .nil) nV uL C8 (fun |⟨a,l,c,g,xs,n,j,⟨⟩⟩,hi=>Zn a l c g xs n j hi)
theorem GQ (a:List ag) (l:List aa.aH) (c:Int) (ha:a.length<=aW) (hl:po l) (hc:n8 c l.length) :(a8 (aI [dF] Tryz.f74) (find [(U7,VH)]) Tryz.f74 Tu qc (a,l,c,())).sat fun z_=>z_ =(Qq (a,l,c,())).2:=by
 refine cast (by kernel_rfl) (?_:let r1:Int:=IntKind.i64.wrap (c+1);let r2:List aa.aH:=List.drop (Int.toNat 0) (List.take r1.toNat l);let r3:Int:=(↑r2.length:Int);((0:Int)<=0/\0<=r1/\r1<=(↑l.length:Int))/\((cq fun x=>none)/\(r3 =(↑r2.length:Int)/\po r2)/\((0:Int)<=0/\0<=r3)/\(0<=c/\c <(↑l.length:Int))/\((0:Int)<=0/\(0:Int)<=(4000:Int)*0)/\a.length<=aW)/\(0+vm a (vo l c) (List.drop (Int.toNat 0) r2),()) =(OG a l c,()));intro r1 r2 r3
 clear_value (hr1:r1=_) (hr2:r2=_) (hr3:r3=_)
 obtain ⟨c0,c1⟩:=id hc;have hl4:=hl.1;have e1:r1=c+1:=by rw [hr1];exact bE (by omega) (by omega)
 have e2:r2=l.take (c+1).toNat:=by rw [hr2,e1];rfl
 refine ⟨⟨Int.le_refl _,by omega,by omega⟩,⟨rfl,⟨hr3,?_,fun x hx=>?_⟩,⟨Int.le_refl _,by omega⟩,hc,⟨Int.le_refl _,by decide⟩,ha⟩,?_⟩
 ·rw [e2,List.length_take];omega
 ·rw [e2] at hx;exact hl.2 x (List.mem_of_mem_take hx)
 ·rw [e2];show (0+vm a (vo l c) (l.take (c+1).toNat),())=_;rw [Int.zero_add];rfl
def pM:FuncId×dR:=(74,ax KE Tu qc Qq)
theorem xu:aR Tryz.prog KE 74 (ax KE Tu qc Qq):=by
 refine bh (C:=aI [dF] Tryz.f74) (az (.aP dY rfl .nil) _) mixed (fn:=Tryz.f74) Tryz.func74 (by kernel_rfl) (by kernel_rfl) (by kernel_rfl) (by kernel_rfl) (by kernel_rfl) (by kernel_rfl) (Λ:=fun x=>find [(U7,VH)]) ?_ ?_
 ·rintro ⟨a,l,c,⟨⟩⟩ hw hn
  exact aL.at (by kernel_rfl) (.cons (by kernel_rfl) (XG) .nil)
 ·rintro ⟨a,l,c,⟨⟩⟩ hw hn
  exact GQ a l c (hn _ List.mem_cons_self) (hn _ (List.mem_cons_of_mem _ List.mem_cons_self)) (hn _ (List.mem_cons_of_mem _ (List.mem_cons_of_mem _ List.mem_cons_self)))
noncomputable def Mc:Lp:=(⟨0,aI [dF] Tryz.f32,(fun _=>none),(aC Tryz.f32 0),qX0,xX0⟩:Lp)
theorem ZB (a:List ag) (l:List aa.aH) (c:Int) (s:List ByteArray) (m:Int) (k:Int) (r:aj) (x:aa.aH) (hi:Av (a,l,c,s,m,k,r,x,())) :(Go.aa.stepG Mc lq (fun y:Den (bj Mc.q)=>Av y/\Pd y<Pd (a,l,c,s,m,k,r,x,())) (a,l,c,s,m,k,r,x,())/\Go.aa.bB Mc lq (a,l,c,s,m,k,r,x,())=lq (a,l,c,s,m,k,r,x,())):=by
 refine cast (by kernel_rfl) (?_ :((decide (k<m)=true->(0<=k/\k <(↑s.length:Int))/\a.length<=aW/\((!(aO a (s.getD k.toNat (af Ty.str))).2)=true->True)/\((!(aO a (s.getD k.toNat (af Ty.str))).2)=false->Av (a,l,c,s,m,IntKind.i64.wrap (k+1),r,x,())/\Pd (a,l,c,s,m,IntKind.i64.wrap (k+1),r,x,())<Pd (a,l,c,s,m,k,r,x,())))/\(decide (k<m)=false->True))/\(cond (decide (k<m)) (cond (!(aO a (s.getD k.toNat (af Ty.str))).2) (Sum.inr (4,())) (lq (a,l,c,s,m,IntKind.i64.wrap (k+1),r,x,()))) (Sum.inl (a,l,c,r,x,())))=lq (a,l,c,s,m,k,r,x,()));obtain ⟨⟨h1,h1b⟩,⟨h2,h3⟩,ha⟩:=hi;have h1:m =(s.length:Int):=h1;have h1b:s.length<=4000:=h1b;have h2:0<=k:=h2;have h3:k<=m:=h3;refine dP (fun h=>?_) (fun h=>?_)
 ·have e1:IntKind.i64.wrap (k+1)=k+1:=a7 (by omega) (by omega);have hd:s.drop k.toNat=s.getD k.toNat (af Ty.str)::s.drop (k+1).toNat:=aY h2 (by omega) _;generalize s.getD k.toNat (af Ty.str)=w at *;rw [e1];refine ⟨⟨⟨h2,by omega⟩,ha,fun _=>trivial,fun _=>⟨⟨⟨h1,h1b⟩,⟨?_,?_⟩,ha⟩,?_⟩⟩,?_⟩
  ·show 0<=k+1;omega
  ·show k+1<=m;omega
  ·show (m - (k+1)).toNat <(m - k).toNat;omega
  ·unfold lq;simp only;rw [hd,List.all_cons];cases (aO a w).2 <;> rfl
 ·unfold lq;simp only;rw [aN (l:=s) (by omega)];rfl
noncomputable def VU:aw:=aq Mc lq Av
noncomputable def Vl:Nat:=fo (aC Tryz.f32 0)
theorem XV:aJ Tryz.prog 0 Tryz.f32.ntmps (aC Tryz.f32 0) (aq Mc lq Av):=
 aD Mc (az (.aP dY rfl .nil) _) mixed (fun b hb S hS=>by cases hS) lq Av Pd (fun |⟨a,l,c,s,m,k,r,x,⟨⟩⟩,hi=>ZB a l c s m k r x hi)
theorem MC (r:aj) (a:List ag) (l:List aa.aH) (c:Int) (ha:vE r a) (hr:sT r) (hl:po l) (hc:n8 c l.length) :(a8 (aI [dF,pM] Tryz.f32) (find [(Vl,VU)]) Tryz.f32 uY qc (r,a,l,c,())).sat fun z_=>z_ =(Qk (r,a,l,c,())).2:=by
 refine cast (by kernel_rfl) (?_:let r1:Int:=(↑(l.getD c.toNat (af (Ty.nm Nm.aH))).3.length:Int);let r2:Bool:=r1==0;let r3:Bool:=cond (decide ((l.getD c.toNat (af (Ty.nm Nm.aH))).2<1)) true (decide ((l.getD c.toNat (af (Ty.nm Nm.aH))).2>r.2));let r4:Bool:=wV (lq (a,l,c,(l.getD c.toNat (af (Ty.nm Nm.aH))).3,r1,0,r,l.getD c.toNat (af (Ty.nm Nm.aH)),()));let r5:List ag×List aa.aH×Int×aj×aa.aH×PUnit:=mV (af (kP.prod (lM.prod (I.prod ((Ty.nm Nm.aj).prod ((Ty.nm Nm.aH).prod Ty.unit)))))) (lq (a,l,c,(l.getD c.toNat (af (Ty.nm Nm.aH))).3,r1,0,r,l.getD c.toNat (af (Ty.nm Nm.aH)),()));let r6:Int:=IntKind.i64.wrap (r5.2.2.1 - 1);let r7:Bool:=decide (r5.2.2.1>0);let r8:aH:=r5.2.1.getD r6.toNat (af (Ty.nm Nm.aH));let r9:Int:=OG r5.1 r5.2.1 r5.2.2.1;let r10:Bool:=r5.2.2.2.2.1.2==r8.2;let r11:Bool:=OG r5.1 r5.2.1 r6==r5.2.2.2.1.5;let r12:Bool:=decide (r9>r5.2.2.2.1.5);let r13:Bool:=r5.2.2.2.2.1.1 != cond r7 (cond r11 (IntKind.i64.wrap (r8.1+1)) r8.1) 0;(0<=c/\c <(↑l.length:Int))/\(r3=true->(2,()) =(lz r (List.take c.toNat l) (ob l c),()))/\(r3=false->(r2=true->(4,()) =(lz r (List.take c.toNat l) (ob l c),()))/\(r2=false->((cq fun x=>none)/\(r1 =(↑(l.getD c.toNat (af (Ty.nm Nm.aH))).3.length:Int)/\(l.getD c.toNat (af (Ty.nm Nm.aH))).3.length<=(4000:Nat))/\((0:Int)<=0/\0<=r1)/\a.length<=aW)/\(r4=true->((r7=true->(0<=r6/\r6 <(↑r5.2.1.length:Int))/\r5.1.length<=aW/\po r5.2.1/\n8 r6 r5.2.1.length/\(r11=true->True)/\(r11=false->(0<=r6/\r6 <(↑r5.2.1.length:Int))/\(r10=true->(8,()) =(lz r (List.take c.toNat l) (ob l c),()))/\(r10=false->True)))/\(r7=false->True))/\((cond r7 (cond r11 true (!r10)) true)=true->(r13=true->(8,()) =(lz r (List.take c.toNat l) (ob l c),()))/\(r13=false->r5.1.length<=aW/\po r5.2.1/\n8 r5.2.2.1 r5.2.1.length/\(r12=true->(9,()) =(lz r (List.take c.toNat l) (ob l c),()))/\(r12=false->(0,()) =(lz r (List.take c.toNat l) (ob l c),())))))/\(r4=false->jL (af (I.prod Ty.unit)) (lq (a,l,c,(l.getD c.toNat (af (Ty.nm Nm.aH))).3,r1,0,r,l.getD c.toNat (af (Ty.nm Nm.aH)),())) =(lz r (List.take c.toNat l) (ob l c),())))));intro r1 r2 r3 r4 r5 r6 r7 r8 r9 r10 r11 r12 r13
 clear_value (hr1:r1=_) (hr2:r2=_) (hr3:r3=_) (hr4:r4=_) (hr5:r5=_) (hr6:r6=_) (hr7:r7=_) (hr8:r8=_) (hr9:r9=_) (hr10:r10=_) (hr11:r11=_) (hr12:r12=_) (hr13:r13=_)
 subst ha;obtain ⟨c0,c1⟩:=id hc;have hl4:=hl.1;have hal:=pA r;have hx:l.getD c.toNat (af (Ty.nm Nm.aH))=ob l c:=rfl
 have hm:ob l c∈l:=by unfold ob;rw [List.getD_eq_getElem?_getD,List.getElem?_eq_getElem (by omega)];exact List.getElem_mem _
 have hs4:=hl.2 _ hm;have ht:l.take (c+1).toNat=l.take c.toNat++[ob l c]:=pV c0 (by omega) _
 have e9:OG (bQ r) l c=mh r (ob l c).Over (l.take c.toNat++[ob l c]):=by unfold OG;rw [vH,ht];rfl
 rw [hx] at hr1 hr3 hr4 hr5 ⊢;generalize hxx:ob l c=x at *;have e0:lq (bQ r,l,c,x.3,r1,0,r,x,())=if x.Symbols.all (fun w=>(aO (bQ r) w).2) then .inl (bQ r,l,c,r,x,()) else .inr (4,()):=rfl;rw [e0] at hr4 hr5 ⊢
 have ef:x.Symbols.all (fun w=>(aO (bQ r) w).2)=!x.Symbols.any (fun s=>(pb r s).isNone):=by rw [List.all_eq_not_any_not];congr 2;funext w;rw [CH];cases pb r w <;> rfl
 have e3:r3=yu r x:=by rw [hr3];unfold yu;cases decide (x.Bowler<1) <;> rfl
 have e2:r2=x.Symbols.isEmpty:=by
  rw [hr2,hr1]
  cases x.Symbols with
  | nil=>rfl
  | cons w l=>
   show (((w::l).length:Int)==0)=false;rw [List.length_cons];simp;omega
 have key:lz r (l.take c.toNat) x=bif r3 then 2 else bif r2 then 4 else bif x.Symbols.any (fun s=>(pb r s).isNone) then 4 else Iw r (l.take c.toNat) x:=by rw [e3,e2];unfold lz;cases yu r x <;> cases x.Symbols.isEmpty <;> cases x.Symbols.any (fun s=>(pb r s).isNone) <;> rfl
 rw [key];refine ⟨⟨c0,c1⟩,fun h3=>by rw [h3];rfl,fun h3=>⟨fun h2=>by rw [h3,h2];rfl,fun h2=>⟨⟨rfl,⟨hr1,hs4⟩,⟨Int.le_refl _,by omega⟩,hal⟩,fun h4=>?_,fun h4=>?_⟩⟩⟩
 ·cases hA:x.Symbols.all (fun w=>(aO (bQ r) w).2) with
  | false=>rw [hr4,hA] at h4;cases h4
  | true=>
   rw [hA] at ef hr5
   have hN:x.Symbols.any (fun s=>(pb r s).isNone)=false:=by
    cases hB:x.Symbols.any (fun s=>(pb r s).isNone) with
    | false=>rfl
    | true=>rw [hB] at ef;cases ef
   have e5:r5 =(bQ r,l,c,r,x,()):=hr5;subst e5;clear hr5;dsimp only at *;rw [h3,h2,hN];simp only [cond_false]
   have e6:c>0->r6=c - 1/\0<=r6/\r6 <(l.length:Int):=fun h=>by
    have:r6=c - 1:=by rw [hr6];exact bE (by omega) (by omega)
    exact ⟨this,by omega,by omega⟩
   have e12:r12=decide (mh r x.Over (l.take c.toNat++[x])>r.Balls):=by rw [hr12,hr9,e9]
   have eo:Iw r (l.take c.toNat) x=bif (r7&&(!r11&&r10)) then 8 else bif r13 then 8 else bif r12 then 9 else 0:=by
    have elim:FC r (l.take c.toNat) x=bif r12 then 9 else 0:=by unfold FC;rw [e12];cases decide (mh r x.Over (l.take c.toNat++[x])>r.Balls) <;> rfl
    by_cases h:c>0
    ·obtain ⟨q1,q2,q3⟩:=e6 h;have e7:r7=true:=by rw [hr7,decide_eq_true h]
     have tl:l.take c.toNat=l.take (c - 1).toNat++[r8]:=by
      have:=pV (l:=l) (i:=c - 1) (by omega) (by omega) (af (Ty.nm Nm.aH))
      rw [show c - 1+1=c by omega] at this;rw [this,hr8,q1]
     have eg :(l.take c.toNat).getLast?=some r8:=by rw [tl];exact Fs _ _
     have e11:r11 =(mh r r8.Over (l.take c.toNat)==r.Balls):=by
      rw [hr11];unfold OG;rw [vH,q1,show c - 1+1=c by omega]
      have:vo l (c - 1)=r8.Over:=by rw [hr8,q1];rfl
      rw [this]
     unfold Iw;rw [eg];simp only;rw [<-e11,elim,e7];rw [e7] at hr13
     cases h11:r11 with
     | true=>rw [h11] at hr13;have hr13:r13 =(x.Over != W (r8.Over+1)):=hr13;rw [<-hr13];cases r13 <;> rfl
     | false=>rw [h11] at hr13;have hr13:r13 =(x.Over != r8.Over):=hr13;have hr10:r10 =(x.Bowler==r8.Bowler):=hr10;rw [<-hr13,<-hr10];cases r10 <;> cases r13 <;> rfl
    ·have hc0:c=0:=by omega
     have e7:r7=false:=by rw [hr7,decide_eq_false h]
     have en :(l.take c.toNat).getLast?=none:=by rw [hc0];rfl
     unfold Iw;rw [en];simp only;rw [elim,e7];rw [e7] at hr13;have hr13:r13 =(x.Over != 0):=hr13;rw [<-hr13];cases r13 <;> rfl
   rw [eo];refine ⟨⟨fun h7=>?_,fun _=>trivial⟩,fun hb=>⟨fun h13=>?_,fun h13=>⟨hal,hl,hc,fun h12=>?_,fun h12=>?_⟩⟩⟩
   ·obtain ⟨q1,q2,q3⟩:=e6 (of_decide_eq_true (hr7▸h7));refine ⟨⟨q2,q3⟩,hal,hl,⟨q2,q3⟩,fun _=>trivial,fun h11=>⟨⟨q2,q3⟩,fun h10=>?_,fun _=>trivial⟩⟩;rw [h7,h11,h10];rfl
   ·rw [h13];cases r7&&(!r11&&r10) <;> rfl
   ·have :(r7&&(!r11&&r10))=false:=by revert hb;cases r7 <;> cases r11 <;> cases r10 <;> intro hb <;> first|rfl|cases hb
    rw [this,h13,h12];rfl
   ·have :(r7&&(!r11&&r10))=false:=by revert hb;cases r7 <;> cases r11 <;> cases r10 <;> intro hb <;> first|rfl|cases hb
    rw [this,h13,h12];rfl
 ·cases hA:x.Symbols.all (fun w=>(aO (bQ r) w).2) with
  | true=>rw [hr4,hA] at h4;cases h4
  | false=>
   rw [hA] at ef
   have hN:x.Symbols.any (fun s=>(pb r s).isNone)=true:=by
    cases hB:x.Symbols.any (fun s=>(pb r s).isNone) with
    | true=>rfl
    | false=>rw [hB] at ef;cases ef
   rw [h3,h2,hN];rfl
def Sh:FuncId×dR:=(32,ax KE uY qc Qk)
theorem Ps:aR Tryz.prog KE 32 (ax KE uY qc Qk):=by
 refine bh (C:=aI [dF,pM] Tryz.f32) (az (.aP dY rfl (.aP xu rfl .nil)) _) mixed (fn:=Tryz.f32) Tryz.func32 (by kernel_rfl) (by kernel_rfl) (by kernel_rfl) (by kernel_rfl) (by kernel_rfl) (by kernel_rfl) (Λ:=fun x=>find [(Vl,VU)]) ?_ ?_
 ·rintro ⟨r,a,l,c,⟨⟩⟩ hw hn
  exact aL.at (by kernel_rfl) (.cons (by kernel_rfl) (XV) .nil)
 ·rintro ⟨r,a,l,c,⟨⟩⟩ hw hn
  exact MC r a l c (hn _ List.mem_cons_self) (hn _ (List.mem_cons_of_mem _ List.mem_cons_self)) (hn _ (List.mem_cons_of_mem _ (List.mem_cons_of_mem _ List.mem_cons_self))) (hn _ (List.mem_cons_of_mem _ (List.mem_cons_of_mem _ (List.mem_cons_of_mem _ List.mem_cons_self))))
noncomputable def Mf:Lp:=(⟨0,aI [] Tryz.f33,(fun _=>none),(aC Tryz.f33 0),qZ0,xZ0⟩:Lp)
theorem ZE (l:List aa.ak) (n:Int) (i:Int) (r:aj) (x:aa.ak) (hi:Ay (l,n,i,r,x,())) :(Go.aa.stepG Mf lr (fun y:Den (bj Mf.q)=>Ay y/\Ph y<Ph (l,n,i,r,x,())) (l,n,i,r,x,())/\Go.aa.bB Mf lr (l,n,i,r,x,())=lr (l,n,i,r,x,())):=by
 refine cast (by kernel_rfl) (?_:let r1:Bool:=(l.getD i.toNat (af (Ty.nm Nm.ak))).1==x.1;((decide (i<n)=true->(0<=i/\i <(↑l.length:Int))/\(r1=true->True)/\(r1=false->Ay (l,n,IntKind.i64.wrap (i+1),r,x,())/\Ph (l,n,IntKind.i64.wrap (i+1),r,x,())<Ph (l,n,i,r,x,())))/\(decide (i<n)=false->True))/\(cond (decide (i<n)) (cond r1 (Sum.inr (7,())) (lr (l,n,IntKind.i64.wrap (i+1),r,x,()))) (Sum.inl (r,x,())))=lr (l,n,i,r,x,()));intro r1
 clear_value (hr1:r1=_)
 obtain ⟨⟨h1,h1b⟩,h2,h3⟩:=hi;have h1:n =(l.length:Int):=h1;have h1b:l.length<=4000:=h1b;have h2:0<=i:=h2;have h3:i<=n:=h3;refine dP (fun h=>?_) (fun h=>?_)
 ·have e1:IntKind.i64.wrap (i+1)=i+1:=a7 (by omega) (by omega);have hd:l.drop i.toNat=l.getD i.toNat (af (Ty.nm Nm.ak))::l.drop (i+1).toNat:=aY h2 (by omega) _;generalize l.getD i.toNat (af (Ty.nm Nm.ak))=w at *;rw [e1];refine ⟨⟨⟨h2,by omega⟩,fun _=>trivial,fun _=>⟨⟨⟨h1,h1b⟩,?_,?_⟩,?_⟩⟩,?_⟩
  ·show 0<=i+1;omega
  ·show i+1<=n;omega
  ·show (n - (i+1)).toNat <(n - i).toNat;omega
  ·unfold lr;simp only;rw [hd,List.any_cons,hr1];show (bif cx x w then _ else _)=_;cases cx x w <;> rfl
 ·unfold lr;simp only;rw [aN (l:=l) (by omega)];rfl
noncomputable def VW:aw:=aq Mf lr Ay
noncomputable def Vn:Nat:=fo (aC Tryz.f33 0)
theorem XY:aJ Tryz.prog 0 Tryz.f33.ntmps (aC Tryz.f33 0) (aq Mf lr Ay):=
 aD Mf (az (aZ.nil) _) mixed (fun b hb S hS=>by cases hS) lr Ay Ph (fun |⟨l,n,i,r,x,⟨⟩⟩,hi=>ZE l n i r x hi)
noncomputable def Mg:Lp:=(⟨0,aI [iD] Tryz.f33,(fun _=>none),(aC Tryz.f33 1),qZ1,xZ1⟩:Lp)
theorem ZF (s:List ByteArray) (m:Int) (j:Int) (r:aj) (x:aa.ak) (hi:Az (s,m,j,r,x,())) :(Go.aa.stepG Mg lu (fun y:Den (bj Mg.q)=>Az y/\Pi y<Pi (s,m,j,r,x,())) (s,m,j,r,x,())/\Go.aa.bB Mg lu (s,m,j,r,x,())=lu (s,m,j,r,x,())):=by
 refine cast (by kernel_rfl) (?_:let r1:Bool:=decide (gn (s.getD j.toNat (af Ty.str))<0);((decide (j<m)=true->(0<=j/\j <(↑s.length:Int))/\(r1=true->True)/\(r1=false->Az (s,m,IntKind.i64.wrap (j+1),r,x,())/\Pi (s,m,IntKind.i64.wrap (j+1),r,x,())<Pi (s,m,j,r,x,())))/\(decide (j<m)=false->True))/\(cond (decide (j<m)) (cond r1 (Sum.inr (4,())) (lu (s,m,IntKind.i64.wrap (j+1),r,x,()))) (Sum.inl (r,x,())))=lu (s,m,j,r,x,()));intro r1
 clear_value (hr1:r1=_)
 obtain ⟨⟨h1,h1b⟩,h2,h3⟩:=hi;have h1:m =(s.length:Int):=h1;have h1b:s.length<=4000:=h1b;have h2:0<=j:=h2;have h3:j<=m:=h3;refine dP (fun h=>?_) (fun h=>?_)
 ·have e1:IntKind.i64.wrap (j+1)=j+1:=a7 (by omega) (by omega);have hd:s.drop j.toNat=s.getD j.toNat (af Ty.str)::s.drop (j+1).toNat:=aY h2 (by omega) _;generalize s.getD j.toNat (af Ty.str)=w at *;rw [e1];refine ⟨⟨⟨h2,by omega⟩,fun _=>trivial,fun _=>⟨⟨⟨h1,h1b⟩,?_,?_⟩,?_⟩⟩,?_⟩
  ·show 0<=j+1;omega
  ·show j+1<=m;omega
  ·show (m - (j+1)).toNat <(m - j).toNat;omega
  ·unfold lu;simp only;rw [hd,List.any_cons,hr1];cases decide (gn w<0) <;> rfl
 ·unfold lu;simp only;rw [aN (l:=s) (by omega)];rfl
noncomputable def VX:aw:=aq Mg lu Az
noncomputable def Vo:Nat:=fo (aC Tryz.f33 1)
theorem XZ:aJ Tryz.prog 0 Tryz.f33.ntmps (aC Tryz.f33 1) (aq Mg lu Az):=
 aD Mg (az (.aP iH rfl .nil) _) mixed (fun b hb S hS=>by cases hS) lu Az Pi (fun |⟨s,m,j,r,x,⟨⟩⟩,hi=>ZF s m j r x hi)
theorem y9 (r:aj) (l:List aa.ak) (c:Int) (hl:xY l) (hc:n8 c l.length) :(a8 (aI [iD,k26,OB] Tryz.f33) (find [(Vn,VW),(Vo,VX)]) Tryz.f33 Tp qc (r,l,c,())).sat fun z_=>z_ =(DM (r,l,c,())).2:=by
 refine cast (by kernel_rfl) (?_:let r1:List aa.ak:=List.drop (Int.toNat 0) (List.take c.toNat l);let r2:Int:=(↑r1.length:Int);let r3:Bool:=cond (decide ((l.getD c.toNat (af (Ty.nm Nm.ak))).1<1)) true (decide ((l.getD c.toNat (af (Ty.nm Nm.ak))).1>r.2));let r4:Bool:=wV (lr (r1,r2,0,r,l.getD c.toNat (af (Ty.nm Nm.ak)),()));let r5:aj×aa.ak×PUnit:=mV (af ((Ty.nm Nm.aj).prod (MZ.prod Ty.unit))) (lr (r1,r2,0,r,l.getD c.toNat (af (Ty.nm Nm.ak)),()));let r6:Int:=(↑r5.2.1.2.length:Int);let r7:Bool:=wV (lu (r5.2.1.2,r6,0,r5));let r8:aj×aa.ak×PUnit:=mV (af ((Ty.nm Nm.aj).prod (MZ.prod Ty.unit))) (lu (r5.2.1.2,r6,0,r5));let r9:Bool:=eI r8.2.1.3;let r10:Bool:=(FR r8.2.1.3).toList ==(ByteArray.mk #[]).toList;let r11:Bool:=cond (!r9) (r8.2.1.4 != 0) false;let r12:Bool:=cond r9 (cond (decide (r8.2.1.4<1)) true (cond (decide (r8.2.1.4>r8.1.2)) true r11)) r11;(0<=c/\c <(↑l.length:Int))/\(r3=true->(2,()) =(cW r (List.take c.toNat l) (Eg l c),()))/\(r3=false->((0:Int)<=0/\0<=c/\c<=(↑l.length:Int))/\((cq fun x=>none)/\(r2 =(↑r1.length:Int)/\r1.length<=(4000:Nat))/\(0:Int)<=0/\0<=r2)/\(r4=true->((cq fun x=>none)/\(r6 =(↑r5.2.1.2.length:Int)/\r5.2.1.2.length<=(4000:Nat))/\(0:Int)<=0/\0<=r6)/\(r7=true->(r10=true->(3,()) =(cW r (List.take c.toNat l) (Eg l c),()))/\(r10=false->(r12=true->(1,()) =(cW r (List.take c.toNat l) (Eg l c),()))/\(r12=false->(0,()) =(cW r (List.take c.toNat l) (Eg l c),()))))/\(r7=false->jL (af (I.prod Ty.unit)) (lu (r5.2.1.2,r6,0,r5)) =(cW r (List.take c.toNat l) (Eg l c),())))/\(r4=false->jL (af (I.prod Ty.unit)) (lr (r1,r2,0,r,l.getD c.toNat (af (Ty.nm Nm.ak)),())) =(cW r (List.take c.toNat l) (Eg l c),()))));intro r1 r2 r3 r4 r5 r6 r7 r8 r9 r10 r11 r12
 clear_value (hr1:r1=_) (hr2:r2=_) (hr3:r3=_) (hr4:r4=_) (hr5:r5=_) (hr6:r6=_) (hr7:r7=_) (hr8:r8=_) (hr9:r9=_) (hr10:r10=_) (hr11:r11=_) (hr12:r12=_)
 obtain ⟨c0,c1⟩:=id hc;have hl4:=hl.1;have hx:l.getD c.toNat (af (Ty.nm Nm.ak))=Eg l c:=rfl
 have hm:Eg l c∈l:=by unfold Eg;rw [List.getD_eq_getElem?_getD,List.getElem?_eq_getElem (by omega)];exact List.getElem_mem _
 have hs4:=hl.2 _ hm;rw [hx] at hr3 hr4 hr5 ⊢;generalize hxx:Eg l c=x at *;have e1:r1=l.take c.toNat:=hr1;have l1:r1.length<=4000:=by rw [e1,List.length_take];omega
 have e3:r3 =(decide (x.Player<1)||decide (x.Player>r.Side)):=by rw [hr3];cases decide (x.Player<1) <;> rfl
 have key:cW r (l.take c.toNat) x=bif r3 then 2 else bif (l.take c.toNat).any (cx x) then 7 else bif x.Symbols.any (fun w=>decide (gn w<0)) then 4 else bif qZ x.How then 3 else bif (eI x.How&&(decide (x.Bowler<1)||decide (x.Bowler>r.Side))||!eI x.How&&x.Bowler != 0) then 1 else 0:=by
  have cf :∀ (c:Bool) (a b:Int),(if c then a else b)=bif c then a else b:=fun c a b=>by cases c <;> rfl
  unfold cW;rw [cf,cf,cf,cf,cf,e3,<-MH];rfl
 rw [key];have e0:lr (r1,r2,0,r,x,())=if (l.take c.toNat).any (cx x) then .inr (7,()) else .inl (r,x,()):=by rw [<-e1];rfl
 rw [e0] at hr4 hr5 ⊢;refine ⟨⟨c0,c1⟩,fun h3=>by rw [h3];rfl,fun h3=>⟨⟨Int.le_refl _,c0,by omega⟩,⟨rfl,⟨hr2,l1⟩,Int.le_refl _,by omega⟩,fun h4=>?_,fun h4=>?_⟩⟩
 ·cases hA :(l.take c.toNat).any (cx x) with
  | true=>rw [hr4,hA] at h4;cases h4
  | false=>
   rw [hA] at hr5;have e5:r5 =(r,x,()):=hr5;subst e5;clear hr5;dsimp only at *;have e0:lu (x.2,r6,0,r,x,())=if x.Symbols.any (fun w=>decide (gn w<0)) then .inr (4,()) else .inl (r,x,()):=rfl;rw [e0] at hr7 hr8 ⊢;rw [h3];refine ⟨⟨rfl,⟨hr6,hs4⟩,Int.le_refl _,by omega⟩,fun h7=>?_,fun h7=>?_⟩
   ·cases hB:x.Symbols.any (fun w=>decide (gn w<0)) with
    | true=>rw [hr7,hB] at h7;cases h7
    | false=>
     rw [hB] at hr8;have e8:r8 =(r,x,()):=hr8;subst e8;clear hr8;dsimp only at *;have e10:r10=qZ x.How:=hr10
     have e12:r12 =(eI x.How&&(decide (x.Bowler<1)||decide (x.Bowler>r.Side))||!eI x.How&&x.Bowler != 0):=by rw [hr12,hr11,hr9];cases eI x.How <;> cases decide (x.Bowler<1) <;> cases decide (x.Bowler>r.Side) <;> cases x.Bowler != 0 <;> rfl
     rw [<-e10,<-e12];exact ⟨fun h=>by rw [h];rfl,fun h=>⟨fun h'=>by rw [h,h'];rfl,fun h'=>by rw [h,h'];rfl⟩⟩
   ·cases hB:x.Symbols.any (fun w=>decide (gn w<0)) with
    | true=>rfl
    | false=>rw [hr7,hB] at h7;cases h7
 ·cases hA :(l.take c.toNat).any (cx x) with
  | true=>rw [h3];rfl
  | false=>rw [hr4,hA] at h4;cases h4
def Fo:FuncId×dR:=(33,ax KE Tp qc DM)
theorem Dg:aR Tryz.prog KE 33 (ax KE Tp qc DM):=by
 refine bh (C:=aI [iD,k26,OB] Tryz.f33) (az (.aP iH rfl (.aP aeC rfl (.aP S3 rfl .nil))) _) mixed (fn:=Tryz.f33) Tryz.func33 (by kernel_rfl) (by kernel_rfl) (by kernel_rfl) (by kernel_rfl) (by kernel_rfl) (by kernel_rfl) (Λ:=fun x=>find [(Vn,VW),(Vo,VX)]) ?_ ?_
 ·rintro ⟨r,l,c,⟨⟩⟩ hw hn
  exact aL.at (by kernel_rfl) (.cons (by kernel_rfl) (XY) (.cons (by kernel_rfl) (XZ) .nil))
 ·rintro ⟨r,l,c,⟨⟩⟩ hw hn
  exact y9 r l c (hn _ List.mem_cons_self) (hn _ (List.mem_cons_of_mem _ List.mem_cons_self))
abbrev Hf:Ty:= .nm .ah
def kE (i ov:Int):List aa.aH->Int->Bool
 | [],_=>true
 | x::l,k=>if k != i&&x.Over==ov then false else kE i ov l (k+1)
def FV (l:List ab):Bool:=l.all fun y=>!decide (y.charge>0)
abbrev aa4:List (Nat×PB):= [(0,.dat (.nm .aj)),(1,.dat (.nm .ay))]
abbrev ab8:List (Nat×PC):= [(2,.h yi),(3,.h I),(4,.c (.ptr 0 0)),(5,.c (.ptr 1 0)),(9,.h I)]
abbrev Rb:Lf×bl:=(.ret,⟨[(8,.h .bool)],[],0⟩)
abbrev aeW:bl:=⟨ab8++[(15,.h lM),(16,.h I),(17,.h I)],aa4,2⟩
abbrev afo:List (Lf×bl):= [(.ext 0,⟨ab8,aa4,2⟩),Rb]
abbrev Wd:Type:=List (List ab)×Int×Int×List aa.aH×Int×Int×aj×aa.ay×Unit
def ff:Wd->Sum (List (List ab)×Int×Int×aj×aa.ay×Unit) (Bool×Unit)
 |(l,i,z,xs,_,k,r,b,_)=>if kE i (vo b.Boxes i) (xs.drop k.toNat) k then .inl (l,i,z,r,b,()) else .inr (false,())
def tT:Wd->Prop
 |(_,i,_,xs,n,k,_,b,_)=>(n =(xs.length:Int)/\xs.length<=4000)/\(0<=k/\k<=n)/\n8 i b.Boxes.length
def FN:Wd->Nat
 |(_,_,_,_,n,k,_)=>(n - k).toNat
abbrev aeX:bl:=⟨[(4,.c (.ptr 0 0)),(9,.h I),(40,.h vL),(41,.h I),(42,.h I)],[(0,.dat (.nm .aj))],1⟩
abbrev afp:List (Lf×bl):= [(.ext 2,⟨[(4,.c (.ptr 0 0)),(9,.h I)],[(0,.dat (.nm .aj))],1⟩),Rb]
abbrev We:Type:=Int×List ab×Int×Int×aj×Unit
def fF:We->Sum (Int×aj×Unit) (Bool×Unit)
 |(z,s,_,j,r,_)=>if FV (s.drop j.toNat) then .inl (z+cK (s.drop j.toNat),r,()) else .inr (false,())
def tU:We->Prop
 |(z,s,m,j,_)=>(m =(s.length:Int)/\s.length<=4000)/\(0<=j/\j<=m)/\(0<=z/\z<=j)
def FO:We->Nat
 |(_,_,m,j,_)=>(m - j).toNat
abbrev Kk:bl:=cQ [.nm .aj,.nm .ay,yi,I]
def KU (es:List (List ab)) (i:Int):List ab:=es.getD i.toNat []
def cu (r:aj) (bs:List aa.aH) (es:List (List ab)) (i:Int):Bool:=kE i (vo bs i) bs 0&&(FV (KU es i)&&cK (KU es i)==r.Balls)
def Pj (b:aa.ay) (es:List (List ab)) (i:Int):Prop:=po b.Boxes/\es.length=b.Boxes.length/\wo es/\n8 i b.Boxes.length
def Qr:Den (bj Kk)->List Prop×Den (bj cO):=fun x=>([Pj x.2.1 x.2.2.1 x.2.2.2.1],(cu x.1 x.2.1.Boxes x.2.2.1 x.2.2.2.1,()))
def lx (y:aa.aH) (x:aa.ah):Bool:=x.Player==y.Bowler
abbrev UF:List (Nat×PB):= [(0,.dat (.nm .aH))]
abbrev Tj:bl:=⟨[(0,.h Hf),(1,.c (.ptr 0 0))],UF,1⟩
abbrev Kf:bl:=⟨[(0,.h .bool)],UF,1⟩
def YC:Den (bj Tj)->List Prop×Den (bj Kf):=fun x=>([],(lx x.2.1 x.1,x.2.1,()))
abbrev Oj:List (Nat×PB):= [(0,.row 1 Hf),(2,.dat (.nm .aH))]
abbrev qIb (f:Nat):bl:=⟨[(0,.c (.osl 0 1)),(1,.c (.fn f [.ptr 2 0])),(7,.h I),(8,.h I)],Oj,3⟩
abbrev xIb:List (Lf×bl):= [(.ret,⟨[(4,.h I)],Oj,3⟩),(.ext 0,⟨[],Oj,3⟩)]
abbrev TIb:Type:=Int×Int×List aa.ah×aa.aH×Unit
def Ah:TIb->Prop
 |(n,i,o,_,_)=>n =(o.length:Int)/\0<=i/\i<=n/\o.length<=aW
def O4:TIb->Nat
 |(n,i,_)=>(n - i).toNat
def aa7 (o:List aa.ah) (y:aa.aH):Option Int->Sum (Int×List aa.ah×aa.aH×Unit) (List aa.ah×aa.aH×Unit)
 | some k=> .inl (k,o,y,())
 | none=> .inr (o,y,())
def ll:TIb->Sum (Int×List aa.ah×aa.aH×Unit) (List aa.ah×aa.aH×Unit)
 |(_,i,o,y,_)=>aa7 o y (vj (lx y) (o.drop i.toNat) i)
abbrev Tm (f:Nat):bl:=⟨[(0,.c (.osl 0 1)),(1,.c (.fn f [.ptr 2 0]))],Oj,3⟩
abbrev Kh:bl:=⟨[(0,.h I)],Oj,3⟩
def YQ (f:Nat):Den (bj (Tm f))->List Prop×Den (bj Kh):=fun x=>([],(sr (vj (lx x.2.1) x.1 0),x.1,x.2.1,()))
def HI (y:ab):Int:=if y.kind==119 then 0 else if y.kind==110 then 0 else 1
def HK (y:ab):Int:=if y.kind==119 then 1 else 0
def HJ (y:ab):Int:=if y.kind==119 then 0 else if y.kind==110 then 1 else 0
def Z7 (y:ab):Int:=if y.mark==87 then 1 else 0
def lP (x:aa.ah) (y:ab):aa.ah:=⟨x.Player,x.Balls+HI y,x.Maidens,x.Runs+y.charge,x.Wickets+Z7 y,x.Wides+HK y,x.NoBalls+HJ y⟩
def iq:aa.ah->List ab->aa.ah
 | x,[]=>x
 | x,y::l=>iq (lP x y) l
def nM (x:aa.ah) (m:Bool):aa.ah:=if m then ⟨x.Player,x.Balls,x.Maidens+1,x.Runs,x.Wickets,x.Wides,x.NoBalls⟩ else x
def FT (w:Int):aa.ah:=⟨w,0,0,0,0,0,0⟩
def jw (w:Int):List aa.ah->Int
 | []=>0
 | x::l=>if x.Player==w then 0 else jw w l+1
def JW (w:Int) (o:List aa.ah):List aa.ah:=if o.any (fun x=>x.Player==w) then o else o++[FT w]
def lR (o:List aa.ah) (k:Int):aa.ah:=o.getD k.toNat ah.zero
def zp (o:List aa.ah) (w:Int) (ys:List ab) (m:Bool):List aa.ah:=
 (JW w o).set (jw w o).toNat (nM (iq (lR (JW w o) (jw w o)) ys) m)
def vV (f:Int->Bool):List aa.aH->List (List ab)->Int->List aa.ah->List aa.ah
 | x::l,ys::es,i,o=>vV f l es (i+1) (zp o x.Bowler ys (f i))
 | [],_,_,o=>o
 | _::_,[],_,o=>o
def H7 (u:Int) (x:aa.ah):Prop:=fU u x.Balls/\fU u x.Maidens/\fU u x.Runs/\fU u x.Wickets/\fU u x.Wides/\fU u x.NoBalls
def lI (u:Int) (o:List aa.ah):Prop:=∀ x∈o,H7 u x
abbrev Lz:List (Nat×PB):= [(0,.dat (.nm .aj)),(1,.dat (.nm .ay)),(2,.row 3 Hf)]
abbrev ZS:List (Nat×PC):= [(2,.c (.ptr 0 0)),(3,.c (.ptr 1 0)),(6,.h yi),(8,.c (.osl 2 3)),(25,.h lM),(26,.h I),(27,.h I)]
abbrev aeP:bl:=⟨ZS++[(9,.h I),(12,.r 2 3),(52,.h vL),(53,.h I),(54,.h I)],Lz,4⟩
abbrev afj:List (Lf×bl):= [(.ext 2,⟨ZS++[(9,.h I),(12,.r 2 3)],Lz,4⟩)]
abbrev V6:Type:=List (List ab)×List aa.aH×Int×Int×Int×Int×List ab×Int×Int×aj×aa.ay×List aa.ah×Unit
abbrev aas:Type:=List (List ab)×List aa.aH×Int×Int×Int×Int×aj×aa.ay×List aa.ah×Unit
def nw:V6->aas
 |(l,bs,n,i,c,k,s,_,j,r,b,o,_)=>(l,bs,n,i,c,k,r,b,o.set k.toNat (iq (lR o k) (s.drop j.toNat)),())
def tL:V6->Prop
 |(_,_,_,i,_,k,s,m,j,_,_,o,_)=>(m =(s.length:Int)/\s.length<=4000/\rJ s)/\(0<=j/\j<=m)/\n8 k o.length/\(0<=i/\i<=4000)/\lI (64100*i+16*j) o
def FH:V6->Nat
 |(_,_,_,_,_,_,_,m,j,_)=>(m - j).toNat
abbrev aeQ:bl:=⟨ZS,Lz,4⟩
abbrev afk:List (Lf×bl):= [(.ext 0,⟨[(8,.c (.osl 2 3))],[(2,.row 3 Hf)],4⟩)]
abbrev V7:Type:=List (List ab)×List aa.aH×Int×Int×aj×aa.ay×List aa.ah×Unit
def fE:V7->List aa.ah×Unit
 |(l,bs,_,i,r,b,o,_)=>(vV (cu r b.Boxes l) (bs.drop i.toNat) (l.drop i.toNat) i o,())
def jt:V7->Prop
 |(l,bs,n,i,_,b,o,_)=>(n =(bs.length:Int)/\po bs/\b.Boxes=bs/\l.length=bs.length/\wo l)/\(0<=i/\i<=n)/\(o.length:Int)<=i/\lI (64100*i) o
def mi:V7->Nat
 |(_,_,n,i,_)=>(n - i).toNat
abbrev Gx:bl:=cQ [.slice Hf,I]
def Gh (r:aj) (b:aa.ay) (z:Sum Int (List (List ab))):List aa.ah×Int×Unit:=match z with
 | .inl e=>([],e,())
 | .inr es=>(vV (cu r b.Boxes es) b.Boxes es 0 [],0,())
def YE:Den (bj ns)->List Prop×Den (bj Gx):=fun x=>([qe x.2.1],Gh x.1 x.2.1 (fm x.1 x.2.1))
noncomputable def A2:Lp:=(⟨0,aI [] Tryz.f37,(fun _=>none),(aC Tryz.f37 0),aeW,afo⟩:Lp)
theorem TY (l:List (List ab)) (i:Int) (z:Int) (xs:List aa.aH) (n:Int) (k:Int) (r:aj) (b:aa.ay) (hi:tT (l,i,z,xs,n,k,r,b,())) :(Go.aa.stepG A2 ff (fun y:Den (bj A2.q)=>tT y/\FN y<FN (l,i,z,xs,n,k,r,b,())) (l,i,z,xs,n,k,r,b,())/\Go.aa.bB A2 ff (l,i,z,xs,n,k,r,b,())=ff (l,i,z,xs,n,k,r,b,())):=by
 refine cast (by kernel_rfl) (?_:let r1:Bool:=cond (k != i) ((xs.getD k.toNat (af (Ty.nm Nm.aH))).1 ==(b.2.getD i.toNat (af (Ty.nm Nm.aH))).1) false;((decide (k<n)=true->(0<=k/\k <(↑xs.length:Int))/\(((k != i)=true->(0<=i/\i <(↑b.2.length:Int))/\True)/\((k != i)=false->True))/\(true=true->(r1=true->True)/\(r1=false->tT (l,i,z,xs,n,IntKind.i64.wrap (k+1),r,b,())/\FN (l,i,z,xs,n,IntKind.i64.wrap (k+1),r,b,())<FN (l,i,z,xs,n,k,r,b,()))))/\(decide (k<n)=false->True))/\(cond (decide (k<n)) (cond (true&&true) (cond r1 (Sum.inr (false,())) (ff (l,i,z,xs,n,IntKind.i64.wrap (k+1),r,b,()))) (cond true (cond r1 (Sum.inr (false,())) (ff (l,i,z,xs,n,IntKind.i64.wrap (k+1),r,b,()))) (cond (k != i) (Sum.inl (af (yi.prod (I.prod (I.prod ((Ty.nm Nm.aj).prod ((Ty.nm Nm.ay).prod Ty.unit))))))) (Sum.inl (af (yi.prod (I.prod (I.prod ((Ty.nm Nm.aj).prod ((Ty.nm Nm.ay).prod Ty.unit)))))))))) (Sum.inl (l,i,z,r,b,())))=ff (l,i,z,xs,n,k,r,b,()));intro r1
 clear_value (hr1:r1=_)
 obtain ⟨⟨h1,h1b⟩,⟨h2,h3⟩,hi0,hi1⟩:=hi;have h1:n =(xs.length:Int):=h1;have h1b:xs.length<=4000:=h1b;have h2:0<=k:=h2;have h3:k<=n:=h3;refine dP (fun h=>?_) (fun h=>?_)
 ·have e1:IntKind.i64.wrap (k+1)=k+1:=a7 (by omega) (by omega);have hd:xs.drop k.toNat=xs.getD k.toNat (af (Ty.nm Nm.aH))::xs.drop (k+1).toNat:=aY h2 (by omega) _;generalize xs.getD k.toNat (af (Ty.nm Nm.aH))=x at *;have er:r1 =(k != i&&x.Over==vo b.Boxes i):=by rw [hr1];cases k != i <;> rfl
  rw [e1];refine ⟨⟨⟨h2,by omega⟩,⟨fun _=>⟨⟨hi0,hi1⟩,trivial⟩,fun _=>trivial⟩,fun _=>⟨fun _=>trivial,fun _=>⟨⟨⟨h1,h1b⟩,⟨?_,?_⟩,hi0,hi1⟩,?_⟩⟩⟩,?_⟩
  ·show 0<=k+1;omega
  ·show k+1<=n;omega
  ·show (n - (k+1)).toNat <(n - k).toNat;omega
  ·show (bif r1 then Sum.inr (false,()) else ff (l,i,z,xs,n,k+1,r,b,()))=ff (l,i,z,xs,n,k,r,b,());unfold ff;simp only;rw [hd,kE,<-er];cases r1 <;> rfl
 ·unfold ff;simp only;rw [aN (l:=xs) (by omega)];rfl
noncomputable def QL:aw:=aq A2 ff tT
noncomputable def P5:Nat:=fo (aC Tryz.f37 0)
theorem SB:aJ Tryz.prog 0 Tryz.f37.ntmps (aC Tryz.f37 0) (aq A2 ff tT):=
 aD A2 (az (aZ.nil) _) mixed (fun b hb S hS=>by cases hS) ff tT FN (fun |⟨l,i,z,xs,n,k,r,b,⟨⟩⟩,hi=>TY l i z xs n k r b hi)
noncomputable def A3:Lp:=(⟨0,aI [] Tryz.f37,(fun _=>none),(aC Tryz.f37 1),aeX,afp⟩:Lp)
theorem TZ (z:Int) (s:List ab) (m:Int) (j:Int) (r:aj) (hi:tU (z,s,m,j,r,())) :(Go.aa.stepG A3 fF (fun y:Den (bj A3.q)=>tU y/\FO y<FO (z,s,m,j,r,())) (z,s,m,j,r,())/\Go.aa.bB A3 fF (z,s,m,j,r,())=fF (z,s,m,j,r,())):=by
 refine cast (by kernel_rfl) (?_:let r1:Bool:=(s.getD j.toNat (af (Ty.nm Nm.ab))).1==0;let r2:Bool:=decide ((s.getD j.toNat (af (Ty.nm Nm.ab))).2>0);let r3:Bool:=!r2;((decide (j<m)=true->(r3=true->((0<=j/\j <(↑s.length:Int))/\(r2=true->False)/\(r2=false->(r1=true->True)/\(r1=false->True)))/\tU (cond r1 (IntKind.i64.wrap (z+1)) z,s,m,IntKind.i64.wrap (j+1),r,())/\FO (cond r1 (IntKind.i64.wrap (z+1)) z,s,m,IntKind.i64.wrap (j+1),r,())<FO (z,s,m,j,r,()))/\(r3=false->(0<=j/\j <(↑s.length:Int))/\(r2=true->True)/\(r2=false->(r1=true->True)/\(r1=false->True))))/\(decide (j<m)=false->True))/\(cond (decide (j<m)) (cond (false&&(true&&true)) (fF (cond r1 (IntKind.i64.wrap (z+1)) z,s,m,IntKind.i64.wrap (j+1),r,())) (cond r3 (fF (cond r1 (IntKind.i64.wrap (z+1)) z,s,m,IntKind.i64.wrap (j+1),r,())) (cond r2 (Sum.inr (false,())) (cond r1 (Sum.inl (af (I.prod ((Ty.nm Nm.aj).prod Ty.unit)))) (Sum.inl (af (I.prod ((Ty.nm Nm.aj).prod Ty.unit)))))))) (Sum.inl (z,r,())))=fF (z,s,m,j,r,()));intro r1 r2 r3
 clear_value (hr1:r1=_) (hr2:r2=_) (hr3:r3=_)
 obtain ⟨⟨h1,h1b⟩,⟨h2,h3⟩,z0,z1⟩:=hi;have h1:m =(s.length:Int):=h1;have h1b:s.length<=4000:=h1b;have h2:0<=j:=h2;have h3:j<=m:=h3;have z0:0<=z:=z0;have z1:z<=j:=z1;refine dP (fun h=>?_) (fun h=>?_)
 ·have e1:IntKind.i64.wrap (j+1)=j+1:=a7 (by omega) (by omega);have hd:s.drop j.toNat=s.getD j.toNat (af (Ty.nm Nm.ab))::s.drop (j+1).toNat:=aY h2 (by omega) _;generalize s.getD j.toNat (af (Ty.nm Nm.ab))=w at *;have hf:0<=eK w/\eK w<=1:=by unfold eK;split <;> decide
  have e2 :(bif r1 then IntKind.i64.wrap (z+1) else z)=z+eK w:=by
   rw [hr1];unfold eK;show (bif w.kind==0 then _ else _)=_
   cases w.kind==0 with
   | true=>exact bE (by omega) (by omega)
   | false=>show z=z+0;omega
  rw [e1,e2];have ek:FV (w::s.drop (j+1).toNat) =(r3&&FV (s.drop (j+1).toNat)):=by rw [hr3,hr2];rfl
  have eR:fF (z,s,m,j,r,())=if r3 then fF (z+eK w,s,m,j+1,r,()) else .inr (false,()):=by unfold fF;simp only;rw [hd,ek];show (if (r3&&FV (s.drop (j+1).toNat))=true then Sum.inl (z +(eK w+cK (s.drop (j+1).toNat)),r,()) else .inr (false,()))=_;rw [Int.add_assoc];cases r3 <;> rfl
  rw [eR];refine ⟨⟨fun h3=>⟨⟨⟨h2,by omega⟩,fun h=>?_,fun _=>⟨fun _=>trivial,fun _=>trivial⟩⟩,⟨⟨h1,h1b⟩,⟨?_,?_⟩,?_,?_⟩,?_⟩,fun _=>⟨⟨h2,by omega⟩,fun _=>trivial,fun _=>⟨fun _=>trivial,fun _=>trivial⟩⟩⟩,?_⟩
  ·rw [h3,h] at hr3;cases hr3
  ·show 0<=j+1;omega
  ·show j+1<=m;omega
  ·show 0<=z+eK w;omega
  ·show z+eK w<=j+1;omega
  ·show (m - (j+1)).toNat <(m - j).toNat;omega
  ·cases h3:r3 with
   | true=>rfl
   | false=>
    have:r2=true:=by cases h:r2 with|true=>rfl|false=>rw [h3,h] at hr3;cases hr3
    rw [this];rfl
 ·unfold fF;simp only;rw [aN (l:=s) (by omega)];show _=Sum.inl (z+0,r,());rw [Int.add_zero]
noncomputable def QM:aw:=aq A3 fF tU
noncomputable def P6:Nat:=fo (aC Tryz.f37 1)
theorem SC:aJ Tryz.prog 0 Tryz.f37.ntmps (aC Tryz.f37 1) (aq A3 fF tU):=
 aD A3 (az (aZ.nil) _) mixed (fun b hb S hS=>by cases hS) fF tU FO (fun |⟨z,s,m,j,r,⟨⟩⟩,hi=>TZ z s m j r hi)
theorem GJ (r:aj) (b:aa.ay) (l:List (List ab)) (i:Int) (hn:Pj b l i) :(a8 (aI [] Tryz.f37) (find [(P5,QL),(P6,QM)]) Tryz.f37 Kk cO (r,b,l,i,())).sat fun z_=>z_ =(Qr (r,b,l,i,())).2:=by
 refine cast (by kernel_rfl) (?_:let r1:Bool:=wV (ff (l,i,0,b.2,(↑b.2.length:Int),0,r,b,()));let r2:List (List ab)×Int×Int×aj×aa.ay×PUnit:=mV (af (yi.prod (I.prod (I.prod ((Ty.nm Nm.aj).prod ((Ty.nm Nm.ay).prod Ty.unit)))))) (ff (l,i,0,b.2,(↑b.2.length:Int),0,r,b,()));let r3:List ab:=r2.1.getD r2.2.1.toNat (af (Ty.nm Nm.ab).slice);let r4:Int:=(↑r3.length:Int);let r5:Bool:=wV (fF (r2.2.2.1,r3,r4,0,r2.2.2.2.1,()));let r6:Int×aj×PUnit:=mV (af (I.prod ((Ty.nm Nm.aj).prod Ty.unit))) (fF (r2.2.2.1,r3,r4,0,r2.2.2.2.1,()));((cq fun x=>none)/\((↑b.2.length:Int) =(↑b.2.length:Int)/\b.2.length<=(4000:Nat))/\((0:Int)<=0/\0<=(↑b.2.length:Int))/\n8 i b.2.length)/\(r1=true->(0<=r2.2.1/\r2.2.1 <(↑r2.1.length:Int))/\((cq fun x=>none)/\(r4 =(↑r3.length:Int)/\r3.length<=(4000:Nat))/\((0:Int)<=0/\0<=r4)/\0<=r2.2.2.1/\r2.2.2.1<=0)/\(r5=true->(r6.1==r6.2.1.5,()) =(cu r b.2 l i,()))/\(r5=false->jL (af (Ty.bool.prod Ty.unit)) (fF (r2.2.2.1,r3,r4,0,r2.2.2.2.1,())) =(cu r b.2 l i,())))/\(r1=false->jL (af (Ty.bool.prod Ty.unit)) (ff (l,i,0,b.2,(↑b.2.length:Int),0,r,b,())) =(cu r b.2 l i,())));intro r1 r2 r3 r4 r5 r6
 clear_value (hr1:r1=_) (hr2:r2=_) (hr3:r3=_) (hr4:r4=_) (hr5:r5=_) (hr6:r6=_)
 obtain ⟨⟨h1,h1x⟩,h2,h3,h4⟩:=hn;have hi0:0<=i:=h4.1;have hi1:i <(b.Boxes.length:Int):=h4.2;have e1:ff (l,i,0,b.Boxes,(b.Boxes.length:Int),0,r,b,())=if kE i (vo b.Boxes i) b.Boxes 0 then .inl (l,i,0,r,b,()) else .inr (false,()):=rfl
 have hm:KU l i∈l:=by
  have hi:i.toNat<l.length:=by omega
  unfold KU;rw [List.getD_eq_getElem?_getD,List.getElem?_eq_getElem hi];exact List.getElem_mem hi
 obtain ⟨m1,m2⟩:=h3 _ hm;refine ⟨⟨rfl,⟨rfl,h1⟩,⟨Int.le_refl _,by omega⟩,h4⟩,fun h=>?_,fun h=>?_⟩
 ·cases hs:kE i (vo b.Boxes i) b.Boxes 0 with
  | false=>rw [hs] at e1;rw [hr1,e1] at h;cases h
  | true=>
   rw [hs] at e1;have e2:r2 =(l,i,0,r,b,()):=by rw [hr2,e1];rfl
   subst e2;clear hr2;dsimp only at *;have e3:r3=KU l i:=hr3;subst e3;have e5:fF (0,KU l i,r4,0,r,())=if FV (KU l i) then .inl (0+cK (KU l i),r,()) else .inr (false,()):=rfl;refine ⟨⟨hi0,by omega⟩,⟨rfl,⟨hr4,m1⟩,⟨Int.le_refl _,by omega⟩,Int.le_refl _,Int.le_refl _⟩,fun h5=>?_,fun h5=>?_⟩
   ·cases hc:FV (KU l i) with
    | false=>rw [hc] at e5;rw [hr5,e5] at h5;cases h5
    | true=>
     rw [hc] at e5;have e6:r6 =(0+cK (KU l i),r,()):=by rw [hr6,e5];rfl
     rw [e6];unfold cu;rw [hs,hc,Int.zero_add];rfl
   ·cases hc:FV (KU l i) with
    | true=>rw [hc] at e5;rw [hr5,e5] at h5;cases h5
    | false=>rw [hc] at e5;rw [e5];unfold cu;rw [hs,hc];rfl
 ·cases hs:kE i (vo b.Boxes i) b.Boxes 0 with
  | true=>rw [hs] at e1;rw [hr1,e1] at h;cases h
  | false=>rw [hs] at e1;have e0:ff (l,i,0,b.2,(b.2.length:Int),0,r,b,()) = .inr (false,()):=e1;rw [e0];unfold cu;rw [hs];rfl
def LC:FuncId×dR:=(37,ax KE Kk cO Qr)
theorem Ik:aR Tryz.prog KE 37 (ax KE Kk cO Qr):=by
 refine bh (C:=aI [] Tryz.f37) (az (aZ.nil) _) mixed (fn:=Tryz.f37) Tryz.func37 (by kernel_rfl) (by kernel_rfl) (by kernel_rfl) (by kernel_rfl) (by kernel_rfl) (by kernel_rfl) (Λ:=fun x=>find [(P5,QL),(P6,QM)]) ?_ ?_
 ·rintro ⟨r,b,l,i,⟨⟩⟩ hw hn
  exact aL.at (by kernel_rfl) (.cons (by kernel_rfl) (SB) (.cons (by kernel_rfl) (SC) .nil))
 ·rintro ⟨r,b,l,i,⟨⟩⟩ hw hn
  exact GJ r b l i (hn _ List.mem_cons_self)
theorem yX (x:aa.ah) (y:aa.aH) :(a8 (aI [] Tryz.f36) (fun _=>none) Tryz.f36 Tj Kf (x,y,())).sat fun z_=>z_ =(YC (x,y,())).2:=by refine cast (by kernel_rfl) (?_ :(x.1==y.2,y,()) =(lx y x,y,()));rfl
def oL:FuncId×dR:=(36,ax KE Tj Kf YC)
theorem sx:aR Tryz.prog KE 36 (ax KE Tj Kf YC):=by
 refine bh (C:=aI [] Tryz.f36) (az (aZ.nil) _) mixed (fn:=Tryz.f36) Tryz.func36 (by kernel_rfl) (by kernel_rfl) (by kernel_rfl) (by kernel_rfl) (by kernel_rfl) (by kernel_rfl) (Λ:=fun _ _=>none) ?_ ?_
 ·exact fun _ _ _ _ _ _ _ _ h=>by cases h
 ·rintro ⟨x,y,⟨⟩⟩ hw hn
  exact yX x y
noncomputable def LV:Lp:=(⟨3,aI [oL] Tryz.f35,(fun _=>none),(aC Tryz.f35 0),(qIb 36),xIb⟩:Lp)
theorem Zk (n:Int) (i:Int) (o:List aa.ah) (q:aa.aH) (hi:Ah (n,i,o,q,())) :(Go.aa.stepG LV ll (fun y:Den (bj LV.q)=>Ah y/\O4 y<O4 (n,i,o,q,())) (n,i,o,q,())/\Go.aa.bB LV ll (n,i,o,q,())=ll (n,i,o,q,())):=by
 refine cast (by kernel_rfl) (?_ :((decide (i<n)=true->(0<=i/\i <(↑o.length:Int))/\(lx q (o.getD i.toNat (af (Ty.nm Nm.ah)))=true->True)/\(lx q (o.getD i.toNat (af (Ty.nm Nm.ah)))=false->Ah (n,IntKind.i64.wrap (i+1),o,q,())/\O4 (n,IntKind.i64.wrap (i+1),o,q,())<O4 (n,i,o,q,())))/\(decide (i<n)=false->True))/\(cond (decide (i<n)) (cond (lx q (o.getD i.toNat (af (Ty.nm Nm.ah)))) (Sum.inl (i,o,q,())) (ll (n,IntKind.i64.wrap (i+1),o,q,()))) (Sum.inr (o,q,())))=ll (n,i,o,q,()));obtain ⟨h1,h2,h3,h4⟩:=hi;have h1:n =(o.length:Int):=h1;have h2:0<=i:=h2;have h3:i<=n:=h3;have h5 :(o.length:Int)<=140737488355328:=by have:o.length<=140737488355328:=h4;omega
 refine dP (fun h=>?_) (fun h=>?_)
 ·rw [bE (n:=i+1) (by omega) (by omega)];have e:o.drop i.toNat=o.getD i.toNat (af (Ty.nm Nm.ah))::o.drop (i+1).toNat:=aY h2 (by omega) _;generalize o.getD i.toNat (af (Ty.nm Nm.ah))=v at e ⊢;refine ⟨⟨⟨h2,by omega⟩,fun _=>trivial,fun _=>⟨⟨h1,?_,?_,h4⟩,?_⟩⟩,?_⟩
  ·show 0<=i+1;omega
  ·show i+1<=n;omega
  ·show (n - (i+1)).toNat <(n - i).toNat;omega
  ·unfold ll;simp only;rw [e,vj];cases lx q v <;> rfl
 ·unfold ll;simp only;rw [aN (l:=o) (by omega)];rfl
noncomputable def VF:aw:=aq LV ll Ah
noncomputable def U5:Nat:=fo (aC Tryz.f35 0)
theorem XC:aJ Tryz.prog 3 Tryz.f35.ntmps (aC Tryz.f35 0) (aq LV ll Ah):=
 aD LV (az (.aP sx rfl .nil) _) mixed (fun b hb S hS=>by cases hS) ll Ah O4 (fun |⟨n,i,o,q,⟨⟩⟩,hi=>Zk n i o q hi)
theorem My (o:List aa.ah) (q:aa.aH) (hx:o.length<=aW) :(a8 (aI [oL] Tryz.f35) (find [(U5,VF)]) Tryz.f35 (Tm 36) Kh (o,q,())).sat fun z_=>z_ =((YQ 36) (o,q,())).2:=by
 refine cast (by kernel_rfl) (?_:let r1:Bool:=wV (ll ((↑o.length:Int),0,o,q,()));((cq fun x=>none)/\(↑o.length:Int) =(↑o.length:Int)/\(0:Int)<=0/\0<=(↑o.length:Int)/\o.length<=aW)/\(r1=true->mV (af (I.prod (Hf.slice.prod ((Ty.nm Nm.aH).prod Ty.unit)))) (ll ((↑o.length:Int),0,o,q,())) =(sr (vj (lx q) o 0),o,q,()))/\(r1=false->((-1:Int),jL (af (Hf.slice.prod ((Ty.nm Nm.aH).prod Ty.unit))) (ll ((↑o.length:Int),0,o,q,()))) =(sr (vj (lx q) o 0),o,q,())));intro r1
 clear_value (hr1:r1=_)
 have e:ll ((o.length:Int),0,o,q,())=aa7 o q (vj (lx q) o 0):=rfl;rw [e] at hr1 ⊢;refine ⟨⟨rfl,rfl,Int.le_refl _,by omega,hx⟩,fun h=>?_,fun h=>?_⟩ <;> cases hf:vj (lx q) o 0 <;> rw [hr1,hf] at h <;> first|rfl|cases h
def Sg:FuncId×dR:=(35,ax KE (Tm 36) Kh (YQ 36))
theorem Po:aR Tryz.prog KE 35 (ax KE (Tm 36) Kh (YQ 36)):=by
 refine bh (C:=aI [oL] Tryz.f35) (az (.aP sx rfl .nil) _) mixed (fn:=Tryz.f35) Tryz.func35 (by kernel_rfl) (by kernel_rfl) (by kernel_rfl) (by kernel_rfl) (by kernel_rfl) (by kernel_rfl) (Λ:=fun x=>find [(U5,VF)]) ?_ ?_
 ·rintro ⟨o,q,⟨⟩⟩ hw hn
  exact aL.at (by kernel_rfl) (.cons (by kernel_rfl) (XC) .nil)
 ·rintro ⟨o,q,⟨⟩⟩ hw hn
  exact My o q (mI (gD hw))
theorem mc {α:Type} {o:List α} {k:Nat} {v d:α} (h:k<o.length) :(o.set k v).getD k d=v:=by simp [List.getD_eq_getElem?_getD,h]
theorem fE1 (y:ab) :(0<=HI y/\HI y<=16)/\(0<=HK y/\HK y<=16)/\(0<=HJ y/\HJ y<=16)/\(0<=Z7 y/\Z7 y<=16):=by unfold HI HK HJ Z7;refine ⟨?_,?_,?_,?_⟩ <;>(repeat' split) <;> decide
theorem Q4 {u v d:Int} (h:fU u v) (h0:0<=d) (h1:d<=16):fU (u+16) (v+d):=by obtain ⟨a,b⟩:=h;exact ⟨by omega,by omega⟩
theorem up0 {u v:Int} (h:fU u v):fU (u+16) v:=by obtain ⟨a,b⟩:=h;exact ⟨by omega,by omega⟩
theorem B0 {u:Int} {x:aa.ah} {y:ab} (h:H7 u x) (hy:EN y):H7 (u+16) (lP x y):=by obtain ⟨a,b,c,d,e,f⟩:=h;obtain ⟨f1,f2,f3,f4⟩:=fE1 y;exact ⟨Q4 a f1.1 f1.2,up0 b,Q4 c hy.1.1 hy.1.2,Q4 d f4.1 f4.2,Q4 e f2.1 f2.2,Q4 f f3.1 f3.2⟩
theorem pB :∀ {u:Int} {ys:List ab} {x:aa.ah},H7 u x->rJ ys->H7 (u+16 *(ys.length:Int)) (iq x ys)
 | u,[],x,h,_=>by show H7 (u+16 *((0:Nat):Int)) x;rw [show u+16 *((0:Nat):Int)=u by omega];exact h
 | u,y::ys,x,h,hy=>by
  have:=pB (u:=u+16) (ys:=ys) (B0 h (hy y List.mem_cons_self)) fun z hz=>hy z (List.mem_cons_of_mem _ hz)
  rw [List.length_cons,show u+16 *((ys.length+1:Nat):Int)=u+16+16 *(ys.length:Int) by omega];exact this
theorem xg {u v:Int} {x:aa.ah} (h:H7 u x) (huv:u<=v):H7 v x:=by obtain ⟨⟨a,a'⟩,⟨b,b'⟩,⟨c,c'⟩,⟨d,d'⟩,⟨e,e'⟩,f,f'⟩:=h;exact ⟨⟨a,by omega⟩,⟨b,by omega⟩,⟨c,by omega⟩,⟨d,by omega⟩,⟨e,by omega⟩,f,by omega⟩
theorem C1 {u v:Int} {o:List aa.ah} {k:Nat} {x:aa.ah} (h:lI u o) (hx:H7 v x) (huv:u<=v):lI v (o.set k x):=fun z hz=>by
 rcases List.mem_or_eq_of_mem_set hz with hz|rfl
 ·exact xg (h z hz) huv
 ·exact hx
theorem qW {u:Int} {o:List aa.ah} (h:lI u o) {k:Int} (hk:n8 k o.length):H7 u (lR o k):=by
 have h0:0<=k:=hk.1;have h1:k <(o.length:Int):=hk.2;have hi:k.toNat<o.length:=by omega
 unfold lR;rw [List.getD_eq_getElem?_getD,List.getElem?_eq_getElem hi];exact h _ (List.getElem_mem hi)
theorem PJ (q:aa.aH) :∀ (o:List aa.ah) (i:Int),vj (lx q) o i=if o.any (fun x=>x.Player==q.Bowler) then some (i+jw q.Bowler o) else none
 | [],_=>rfl
 | x::o,i=>by
  have ih:=PJ q o (i+1);rw [vj,List.any_cons];show (if (x.Player==q.Bowler)=true then _ else _)=if (x.Player==q.Bowler||_)=true then some (i+if (x.Player==q.Bowler)=true then 0 else jw q.Bowler o+1) else none
  cases x.Player==q.Bowler with
  | true=>simp
  | false=>
   simp only [Bool.false_eq_true,if_false,Bool.false_or];rw [ih]
   cases o.any (fun x=>x.Player==q.Bowler) with
   | true=>simp only [if_true];congr 1;omega
   | false=>rfl
theorem IB (w:Int) :∀ o:List aa.ah,0<=jw w o/\(if o.any (fun x=>x.Player==w) then jw w o <(o.length:Int) else jw w o =(o.length:Int))
 | []=>⟨Int.le_refl _,rfl⟩
 | x::o=>by
  obtain ⟨h1,h2⟩:=IB w o;rw [List.any_cons,List.length_cons];show 0<=(if (x.Player==w)=true then 0 else jw w o+1)/\if (x.Player==w||_)=true then (if (x.Player==w)=true then 0 else jw w o+1)<_ else (if (x.Player==w)=true then 0 else jw w o+1)=_
  cases x.Player==w with
  | true=>simp only [if_true,Bool.true_or];omega
  | false=>
   simp only [Bool.false_eq_true,if_false,Bool.false_or]
   cases hb:o.any (fun x=>x.Player==w) with
   | true=>rw [hb] at h2;simp only [if_true] at h2 ⊢;omega
   | false=>rw [hb] at h2;simp only [Bool.false_eq_true,if_false] at h2 ⊢;omega
noncomputable def AR:Lp:=(⟨0,aI [] Tryz.f10,(fun _=>none),(bA Tryz.f10 0 0),aeP,afj⟩:Lp)
theorem TP (l:List (List ab)) (bs:List aa.aH) (n:Int) (i:Int) (c:Int) (k:Int) (s:List ab) (m:Int) (j:Int) (r:aj) (b:aa.ay) (o:List aa.ah) (hi:tL (l,bs,n,i,c,k,s,m,j,r,b,o,())) :(Go.aa.stepG AR nw (fun y:Den (bj AR.q)=>tL y/\FH y<FH (l,bs,n,i,c,k,s,m,j,r,b,o,())) (l,bs,n,i,c,k,s,m,j,r,b,o,())/\Go.aa.bB AR nw (l,bs,n,i,c,k,s,m,j,r,b,o,())=nw (l,bs,n,i,c,k,s,m,j,r,b,o,())):=by
 refine cast (by kernel_rfl) (?_:let r1:Bool:=(s.getD j.toNat (af (Ty.nm Nm.ab))).5==87;let r2:List (List ab)×List aa.aH×Int×Int×Int×Int×aj×aa.ay×List aa.ah×PUnit:=af (yi.prod (lM.prod (I.prod (I.prod (I.prod ((Ty.int IntKind.i64).prod ((Ty.nm Nm.aj).prod ((Ty.nm Nm.ay).prod (Hf.slice.prod Ty.unit)))))))));let r3:List aa.ah:=o.set k.toNat (aa.ah.mk (o.getD k.toNat (af (Ty.nm Nm.ah))).1 (o.getD k.toNat (af (Ty.nm Nm.ah))).2 (o.getD k.toNat (af (Ty.nm Nm.ah))).3 (IntKind.i64.wrap ((o.getD k.toNat (af (Ty.nm Nm.ah))).4 +(s.getD j.toNat (af (Ty.nm Nm.ab))).2)) (o.getD k.toNat (af (Ty.nm Nm.ah))).5 (o.getD k.toNat (af (Ty.nm Nm.ah))).6 (o.getD k.toNat (af (Ty.nm Nm.ah))).7);let r4:aa.ah:=r3.getD k.toNat (af (Ty.nm Nm.ah));let r5:List aa.ah:=cond ((s.getD j.toNat (af (Ty.nm Nm.ab))).1==119) (r3.set k.toNat (aa.ah.mk r4.1 r4.2 r4.3 r4.4 r4.5 (IntKind.i64.wrap (r4.6+1)) r4.7)) (cond ((s.getD j.toNat (af (Ty.nm Nm.ab))).1==110) (r3.set k.toNat (aa.ah.mk r4.1 r4.2 r4.3 r4.4 r4.5 r4.6 (IntKind.i64.wrap (r4.7+1)))) (r3.set k.toNat (aa.ah.mk r4.1 (IntKind.i64.wrap (r4.2+1)) r4.3 r4.4 r4.5 r4.6 r4.7)));let r6:aa.ah:=r5.getD k.toNat (af (Ty.nm Nm.ah));((decide (j<m)=true->((0<=j/\j <(↑s.length:Int))/\(r1=true->True)/\(r1=false->True))/\(true=true->tL (l,bs,n,i,c,k,s,m,IntKind.i64.wrap (j+1),r,b,cond r1 (r5.set k.toNat (aa.ah.mk r6.1 r6.2 r6.3 r6.4 (IntKind.i64.wrap (r6.5+1)) r6.6 r6.7)) r5,())/\FH (l,bs,n,i,c,k,s,m,IntKind.i64.wrap (j+1),r,b,cond r1 (r5.set k.toNat (aa.ah.mk r6.1 r6.2 r6.3 r6.4 (IntKind.i64.wrap (r6.5+1)) r6.6 r6.7)) r5,())<FH (l,bs,n,i,c,k,s,m,j,r,b,o,())))/\(decide (j<m)=false->True))/\(cond (decide (j<m)) (cond (true&&true) (nw (l,bs,n,i,c,k,s,m,IntKind.i64.wrap (j+1),r,b,cond r1 (r5.set k.toNat (aa.ah.mk r6.1 r6.2 r6.3 r6.4 (IntKind.i64.wrap (r6.5+1)) r6.6 r6.7)) r5,())) (cond true (nw (l,bs,n,i,c,k,s,m,IntKind.i64.wrap (j+1),r,b,cond r1 (r5.set k.toNat (aa.ah.mk r6.1 r6.2 r6.3 r6.4 (IntKind.i64.wrap (r6.5+1)) r6.6 r6.7)) r5,())) (cond r1 r2 r2))) (l,bs,n,i,c,k,r,b,o,()))=nw (l,bs,n,i,c,k,s,m,j,r,b,o,()));intro r1 r2 r3 r4 r5 r6
 clear_value (hr1:r1=_) (hr2:r2=_) (hr3:r3=_) (hr4:r4=_) (hr5:r5=_) (hr6:r6=_)
 obtain ⟨⟨h1,h1b,h1c⟩,⟨h2,h3⟩,⟨hk0,hk1⟩,⟨hi0,hi4⟩,hl⟩:=hi;have h1:m =(s.length:Int):=h1;have h1b:s.length<=4000:=h1b;have h2:0<=j:=h2;have h3:j<=m:=h3;have hk0:0<=k:=hk0;have hk1:k <(o.length:Int):=hk1;have hi0:0<=i:=hi0;have hi4:i<=4000:=hi4;have hkn:k.toNat<o.length:=by omega
 refine dP (fun h=>?_) (fun h=>?_)
 ·have e1:IntKind.i64.wrap (j+1)=j+1:=a7 (by omega) (by omega);have hd:s.drop j.toNat=s.getD j.toNat (af (Ty.nm Nm.ab))::s.drop (j+1).toNat:=aY h2 (by omega) _;have hm:s.getD j.toNat (af (Ty.nm Nm.ab))∈s:=List.mem_of_mem_drop (i:=j.toNat) (by rw [hd];exact List.mem_cons_self);have hw:=h1c _ hm;generalize s.getD j.toNat (af (Ty.nm Nm.ab))=w at *;have ha:H7 (64100*i+16*j) (lR o k):=qW hl ⟨hk0,hk1⟩;have hb:=B0 ha hw;have eO :∀ (v d:aa.ah),(o.set k.toNat v).getD k.toNat d=v:=fun v d=>mc hkn;have eA:o.getD k.toNat (af (Ty.nm Nm.ah))=lR o k:=rfl;rw [eA] at hr3;generalize hx:lR o k=x at *;obtain ⟨f1,f2,f3,f4⟩:=fE1 w;obtain ⟨p1,p2,p3,p4,p5,p6⟩:=ha
  have wr :∀ {v d:Int},fU (64100*i+16*j) v->0<=d->d<=16->IntKind.i64.wrap (v+d)=v+d:=fun {v d} hv a b=>by obtain ⟨v0,v1⟩:=hv;exact bE (by omega) (by omega)
  have A1:r3=o.set k.toNat ⟨x.Player,x.Balls,x.Maidens,x.Runs+w.charge,x.Wickets,x.Wides,x.NoBalls⟩:=by rw [hr3];congr 2;exact wr p3 hw.1.1 hw.1.2
  have A4:r4 =⟨x.Player,x.Balls,x.Maidens,x.Runs+w.charge,x.Wickets,x.Wides,x.NoBalls⟩:=by rw [hr4,A1];exact eO _ _
  have A5:r5=o.set k.toNat ⟨x.Player,x.Balls+HI w,x.Maidens,x.Runs+w.charge,x.Wickets,x.Wides+HK w,x.NoBalls+HJ w⟩:=by
   rw [hr5,A4,A1];simp only [List.set_set];have q1:=wr p1 (by decide :(0:Int)<=1) (by decide);have q5:=wr p5 (by decide :(0:Int)<=1) (by decide);have q6:=wr p6 (by decide :(0:Int)<=1) (by decide);unfold HI HK HJ;show (bif w.kind==119 then _ else bif w.kind==110 then _ else _)=_;rw [q1,q5,q6]
   cases hz:w.kind==119 with
   | true=>simp only [cond_true,if_true,Int.add_zero]
   | false=>cases hy:w.kind==110 <;> simp only [cond_true,cond_false,if_true,Bool.false_eq_true,if_false,Int.add_zero]
  have A6:r6 =⟨x.Player,x.Balls+HI w,x.Maidens,x.Runs+w.charge,x.Wickets,x.Wides+HK w,x.NoBalls+HJ w⟩:=by rw [hr6,A5];exact eO _ _
  have A7 :(bif r1 then r5.set k.toNat (aa.ah.mk r6.1 r6.2 r6.3 r6.4 (IntKind.i64.wrap (r6.5 +(1:Int))) r6.6 r6.7) else r5)=o.set k.toNat (lP x w):=by rw [A6,A5,hr1];simp only [List.set_set];have q4:=wr p4 (by decide :(0:Int)<=1) (by decide);unfold lP Z7;show (bif w.mark==87 then _ else _)=_;rw [q4];cases w.mark==87 <;> simp only [cond_true,cond_false,if_true,Bool.false_eq_true,if_false,Int.add_zero]
  rw [e1,A7];have hl2 :(o.set k.toNat (lP x w)).length=o.length:=List.length_set;refine ⟨⟨⟨⟨h2,by omega⟩,fun _=>trivial,fun _=>trivial⟩,fun _=>⟨⟨⟨h1,h1b,h1c⟩,⟨?_,?_⟩,⟨hk0,?_⟩,⟨hi0,hi4⟩,?_⟩,?_⟩⟩,?_⟩
  ·show 0<=j+1;omega
  ·show j+1<=m;omega
  ·show k <((o.set k.toNat (lP x w)).length:Int);rw [hl2];exact hk1
  ·show lI (64100*i+16 *(j+1)) (o.set k.toNat (lP x w));rw [show 64100*i+16 *(j+1)=64100*i+16*j+16 by omega];exact C1 hl hb (by omega)
  ·show (m - (j+1)).toNat <(m - j).toNat;omega
  ·show (l,bs,n,i,c,k,r,b,(o.set k.toNat (lP x w)).set k.toNat (iq (lR (o.set k.toNat (lP x w)) k) (s.drop (j+1).toNat)),()) =(l,bs,n,i,c,k,r,b,o.set k.toNat (iq (lR o k) (s.drop j.toNat)),())
   have:lR (o.set k.toNat (lP x w)) k=lP x w:=eO _ _
   rw [this,hd,hx,List.set_set];rfl
 ·show (l,bs,n,i,c,k,r,b,o,()) =(l,bs,n,i,c,k,r,b,o.set k.toNat (iq (lR o k) (s.drop j.toNat)),());rw [aN (l:=s) (by omega)];show _ =(l,bs,n,i,c,k,r,b,o.set k.toNat (lR o k),())
  have:o.set k.toNat (lR o k)=o:=by unfold lR;rw [List.getD_eq_getElem?_getD,List.getElem?_eq_getElem hkn];exact List.set_getElem_self hkn
  rw [this]
noncomputable def ZJ:aw:=aq AR nw tL
noncomputable def Yy:Nat:=fo (bA Tryz.f10 0 0)
theorem Sr:aJ Tryz.prog 0 Tryz.f10.ntmps (bA Tryz.f10 0 0) (aq AR nw tL):=
 aD AR (az (aZ.nil) _) mixed (fun b hb S hS=>by cases hS) nw tL FH (fun |⟨l,bs,n,i,c,k,s,m,j,r,b,o,⟨⟩⟩,hi=>TP l bs n i c k s m j r b o hi)
theorem zr {o:List aa.ah} {w:Int} (h:o.any (fun x=>x.Player==w)=true) (ys:List ab) (m:Bool):zp o w ys m=o.set (jw w o).toNat (nM (iq (lR o (jw w o)) ys) m):=by unfold zp JW;rw [if_pos h]
theorem zq {o:List aa.ah} {w:Int} (h:o.any (fun x=>x.Player==w)=false) (ys:List ab) (m:Bool):zp o w ys m =(o++[FT w]).set (jw w o).toNat (nM (iq (lR (o++[FT w]) (jw w o)) ys) m):=by unfold zp JW;rw [if_neg (by rw [h];decide)]
theorem abl {u:Int} {x:aa.ah} (h:H7 u x) (m:Bool):H7 (u+1) (nM x m):=by
 unfold nM
 cases m with
 | false=>exact xg h (by omega)
 | true=>obtain ⟨⟨a,a'⟩,⟨b,b'⟩,⟨c,c'⟩,⟨d,d'⟩,⟨e,e'⟩,f,f'⟩:=h;exact ⟨⟨a,by show x.Balls<=_;omega⟩,⟨by show 0<=x.Maidens+1;omega,by show x.Maidens+1<=_;omega⟩,⟨c,by show x.Runs<=_;omega⟩,⟨d,by show x.Wickets<=_;omega⟩,⟨e,by show x.Wides<=_;omega⟩,f,by show x.NoBalls<=_;omega⟩
theorem C3 {o:List aa.ah} {k:Nat} {v g:aa.ah} {u:Int} (hg:g=v) (hv:H7 u v) (hu:u<=1000000000000) :(o.set k v).set k (aa.ah.mk g.1 g.2 (IntKind.i64.wrap (g.3+1)) g.4 g.5 g.6 g.7)=o.set k (nM v true):=by
 subst hg;rw [List.set_set];obtain ⟨m0,m1⟩:=hv.2.1
 have:IntKind.i64.wrap (g.3+1)=g.3+1:=bE (by show _<=g.Maidens+1;omega) (by show g.Maidens+1<=_;omega)
 rw [this];rfl
theorem JX {u:Int} {o:List aa.ah} {w:Int} (h:lI u o) (hu:0<=u):lI u (o++[FT w]):=fun x hx=>by
 rcases List.mem_append.1 hx with hx|hx
 ·exact h x hx
 ·rw [List.mem_singleton.1 hx];exact ⟨⟨Int.le_refl _,hu⟩,⟨Int.le_refl _,hu⟩,⟨Int.le_refl _,hu⟩,⟨Int.le_refl _,hu⟩,⟨Int.le_refl _,hu⟩,Int.le_refl _,hu⟩
theorem rC {r:aj} {bs:List aa.aH} {l:List (List ab)} {n i:Int} {b:aa.ay} {o:List aa.ah} {x:aa.aH} {ys:List ab}
  (h1:n =(bs.length:Int)/\po bs/\b.Boxes=bs/\l.length=bs.length/\wo l) (hi:0<=i/\i<n) (hd:bs.drop i.toNat=x::bs.drop (i+1).toNat) (hl:l.drop i.toNat=ys::l.drop (i+1).toNat) (hy:ys.length<=4000/\rJ ys)
  {o1:List aa.ah} {k:Int} {m:Bool} (ho:lI (64100*i) o1) (hk:n8 k o1.length) (hn :(o1.length:Int)<=i+1) (hm:cu r b.Boxes l i=m) (hx:zp o x.Bowler ys m=o1.set k.toNat (nM (iq (lR o1 k) ys) m)) :
  (jt (l,bs,n,i+1,r,b,o1.set k.toNat (nM (iq (lR o1 k) ys) m),())/\mi (l,bs,n,i+1,r,b,o1.set k.toNat (nM (iq (lR o1 k) ys) m),())<mi (l,bs,n,i,r,b,o,()))/\
  fE (l,bs,n,i+1,r,b,o1.set k.toNat (nM (iq (lR o1 k) ys) m),())=fE (l,bs,n,i,r,b,o,()):=by
 have hv:=pB (qW ho hk) hy.2;have hy1:=hy.1;obtain ⟨h0,h2⟩:=hi;refine ⟨⟨⟨h1,⟨?_,?_⟩,?_,?_⟩,?_⟩,?_⟩
 ·show 0<=i+1;omega
 ·show i+1<=n;omega
 ·show ((o1.set k.toNat (nM (iq (lR o1 k) ys) m)).length:Int)<=i+1;rw [List.length_set];exact hn
 ·show lI (64100 *(i+1)) (o1.set k.toNat (nM (iq (lR o1 k) ys) m));exact C1 ho (xg (abl hv m) (by omega)) (by omega)
 ·show (n - (i+1)).toNat <(n - i).toNat;omega
 ·unfold fE;simp only;rw [hd,hl,vV,hm,hx]
noncomputable def AU:Lp:=(⟨0,aI [Sg,LC] Tryz.f10,(find [(Yy,ZJ)]),(aC Tryz.f10 0),aeQ,afk⟩:Lp)
theorem TQ (l:List (List ab)) (bs:List aa.aH) (n:Int) (i:Int) (r:aj) (b:aa.ay) (o:List aa.ah) (hi:jt (l,bs,n,i,r,b,o,())) :(Go.aa.stepG AU fE (fun y:Den (bj AU.q)=>jt y/\mi y<mi (l,bs,n,i,r,b,o,())) (l,bs,n,i,r,b,o,())/\Go.aa.bB AU fE (l,bs,n,i,r,b,o,())=fE (l,bs,n,i,r,b,o,())):=by
 refine cast (by kernel_rfl) (?_:let r1:Int:=IntKind.i64.wrap (i+1);let r2:Int:=(↑(List.length (l.getD i.toNat (af (Ty.nm Nm.ab).slice))):Int);let r3:Int:=sr (vj (lx (bs.getD i.toNat (af (Ty.nm Nm.aH)))) o 0);let r4:List ab:=List.drop (Int.toNat 0) (l.getD i.toNat (af (Ty.nm Nm.ab).slice));let r5:Int:=64100*i +(16:Int)*0;let r6:List aa.ah:= [aa.ah.mk (bs.getD i.toNat (af (Ty.nm Nm.aH))).2 0 0 0 0 0 0];let r7:Bool:=decide (r3<0);let r8:List aa.ah:=o.set r3.toNat (iq (lR o r3) r4);let r9:List aa.ah:=o++r6;let r10:Int:=(↑r9.length:Int);let r11:Int:=IntKind.i64.wrap (r10 - 1);let r12:aa.ah:=r8.getD r3.toNat (af (Ty.nm Nm.ah));let r13:List aa.ah:=r9.set r11.toNat (iq (lR r9 r11) r4);let r14:aa.ah:=r13.getD r11.toNat (af (Ty.nm Nm.ah));((decide (i<n)=true->(0<=i/\i <(↑bs.length:Int))/\(r7=true->(o.length+r6.length) *(56:Nat)<=(70368744177664:Nat)/\(0<=r11/\r11<r10)/\(0<=i/\i <(↑l.length:Int))/\((cq fun x=>none)/\(r2 =(↑(List.length (l.getD i.toNat (af (Ty.nm Nm.ab).slice))):Int)/\List.length (l.getD i.toNat (af (Ty.nm Nm.ab).slice))<=(4000:Nat)/\rJ (l.getD i.toNat (af (Ty.nm Nm.ab).slice)))/\((0:Int)<=0/\0<=r2)/\n8 r11 r9.length/\(0<=i/\i<=4000)/\lI r5 r9)/\Pj b l i/\(cu r b.2 l i=true->jt (l,bs,n,r1,r,b,r13.set r11.toNat (aa.ah.mk r14.1 r14.2 (IntKind.i64.wrap (r14.3+1)) r14.4 r14.5 r14.6 r14.7),())/\mi (l,bs,n,r1,r,b,r13.set r11.toNat (aa.ah.mk r14.1 r14.2 (IntKind.i64.wrap (r14.3+1)) r14.4 r14.5 r14.6 r14.7),())<mi (l,bs,n,i,r,b,o,()))/\(cu r b.2 l i=false->jt (l,bs,n,r1,r,b,r13,())/\mi (l,bs,n,r1,r,b,r13,())<mi (l,bs,n,i,r,b,o,())))/\(r7=false->(0<=r3/\r3 <(↑o.length:Int))/\(0<=i/\i <(↑l.length:Int))/\((cq fun x=>none)/\(r2 =(↑(List.length (l.getD i.toNat (af (Ty.nm Nm.ab).slice))):Int)/\List.length (l.getD i.toNat (af (Ty.nm Nm.ab).slice))<=(4000:Nat)/\rJ (l.getD i.toNat (af (Ty.nm Nm.ab).slice)))/\((0:Int)<=0/\0<=r2)/\n8 r3 o.length/\(0<=i/\i<=4000)/\lI r5 o)/\Pj b l i/\(cu r b.2 l i=true->jt (l,bs,n,r1,r,b,r8.set r3.toNat (aa.ah.mk r12.1 r12.2 (IntKind.i64.wrap (r12.3+1)) r12.4 r12.5 r12.6 r12.7),())/\mi (l,bs,n,r1,r,b,r8.set r3.toNat (aa.ah.mk r12.1 r12.2 (IntKind.i64.wrap (r12.3+1)) r12.4 r12.5 r12.6 r12.7),())<mi (l,bs,n,i,r,b,o,()))/\(cu r b.2 l i=false->jt (l,bs,n,r1,r,b,r8,())/\mi (l,bs,n,r1,r,b,r8,())<mi (l,bs,n,i,r,b,o,()))))/\(decide (i<n)=false->True))/\(cond (decide (i<n)) (cond r7 (cond (cu r b.2 l i) (fE (l,bs,n,r1,r,b,r13.set r11.toNat (aa.ah.mk r14.1 r14.2 (IntKind.i64.wrap (r14.3+1)) r14.4 r14.5 r14.6 r14.7),())) (fE (l,bs,n,r1,r,b,r13,()))) (cond (cu r b.2 l i) (fE (l,bs,n,r1,r,b,r8.set r3.toNat (aa.ah.mk r12.1 r12.2 (IntKind.i64.wrap (r12.3+1)) r12.4 r12.5 r12.6 r12.7),())) (fE (l,bs,n,r1,r,b,r8,())))) (o,()))=fE (l,bs,n,i,r,b,o,()));intro r1 r2 r3 r4 r5 r6 r7 r8 r9 r10 r11 r12 r13 r14
 clear_value (hr1:r1=_) (hr2:r2=_) (hr3:r3=_) (hr4:r4=_) (hr5:r5=_) (hr6:r6=_) (hr7:r7=_) (hr8:r8=_) (hr9:r9=_) (hr10:r10=_) (hr11:r11=_) (hr12:r12=_) (hr13:r13=_) (hr14:r14=_)
 obtain ⟨hA,⟨h2,h3⟩,h4,h5⟩:=hi;obtain ⟨h1,⟨h1a,h1b⟩,hb,hll,hes⟩:=id hA;have h1:n =(bs.length:Int):=h1;have h1a:bs.length<=4000:=h1a;have hll:l.length=bs.length:=hll;have h2:0<=i:=h2;have h3:i<=n:=h3;have h4 :(o.length:Int)<=i:=h4;have h5:lI (64100*i) o:=h5;have hb:b.Boxes=bs:=hb;refine dP (fun h=>?_) (fun h=>?_)
 ·have e1:IntKind.i64.wrap (i+1)=i+1:=a7 (by omega) (by omega);have hd:bs.drop i.toNat=bs.getD i.toNat (af (Ty.nm Nm.aH))::bs.drop (i+1).toNat:=aY h2 (by omega) _;have hl:l.drop i.toNat=l.getD i.toNat (af (Ty.nm Nm.ab).slice)::l.drop (i+1).toNat:=aY h2 (by omega) _;have hm:l.getD i.toNat (af (Ty.nm Nm.ab).slice)∈l:=List.mem_of_mem_drop (i:=i.toNat) (by rw [hl];exact List.mem_cons_self);have hy:=hes _ hm;have hnd:Pj b l i:=⟨by rw [hb];exact ⟨h1a,h1b⟩,by rw [hb];exact hll,hes,by rw [hb];exact ⟨h2,by omega⟩⟩;have hB:cu r b.2 l i=cu r b.Boxes l i:=rfl;rw [e1] at hr1;generalize bs.getD i.toNat (af (Ty.nm Nm.aH))=x at *;generalize l.getD i.toNat (af (Ty.nm Nm.ab).slice)=ys at *;have e4:r4=ys:=hr4;have e5:r5=64100*i:=by rw [hr5];omega
  have e6:r6=[FT x.Bowler]:=hr6;have ep:=PJ x o 0;rw [Int.zero_add] at ep;obtain ⟨p0,p1⟩:=IB x.Bowler o;have hyn :(0:Int)<=r2:=by rw [hr2];omega
  have hi4 :(0:Int)<=i/\i<=4000:=⟨h2,by omega⟩;subst e4 hr1
  cases ha:o.any (fun z=>z.Player==x.Bowler) with
  | true=>
   rw [ha] at ep p1;simp only [if_true] at ep p1;have e3:r3=jw x.Bowler o:=by rw [hr3,ep];rfl
   have e7:r7=false:=by rw [hr7,e3,decide_eq_false (by omega)]
   rw [<-e3] at p0 p1;have hk:n8 r3 o.length:=⟨p0,p1⟩;have hkn:r3.toNat<o.length:=by omega
   have hv:=pB (qW h5 hk) hy.2;have hv1:=hy.1;have F:=fun m hm=>rC (r:=r) (o:=o) hA ⟨h2,h⟩ hd hl hy (m:=m) h5 hk (by omega) hm (by rw [zr ha,e3]);have g12:r12=iq (lR o r3) r4:=by rw [hr12,hr8];exact mc hkn
   have eT:=C3 (o:=o) (k:=r3.toNat) g12 hv (by omega);rw [<-hr8] at eT;rw [e7,eT];refine ⟨⟨⟨h2,by omega⟩,fun z=>Bool.noConfusion z,fun _=>⟨hk,⟨h2,by omega⟩,⟨rfl,⟨hr2,hy⟩,⟨Int.le_refl _,hyn⟩,hk,hi4,by rw [e5];exact h5⟩,hnd,fun hm=>(F true hm).1,fun hm=>?_⟩⟩,?_⟩
   ·rw [hr8];exact (F false hm).1
   ·cases hm:cu r b.2 l i with
    | true=>exact (F true hm).2
    | false=>rw [hr8];exact (F false hm).2
  | false=>
   rw [ha] at ep p1;simp only [Bool.false_eq_true,if_false] at ep p1;have e3:r3 = -1:=by rw [hr3,ep];rfl
   have e7:r7=true:=by rw [hr7,e3];rfl
   have e9:r9=o++[FT x.Bowler]:=by rw [hr9,e6]
   have l9 :(r9.length:Int)=o.length+1:=by rw [e9,List.length_append,List.length_singleton];omega
   have e11:r11=jw x.Bowler o:=by rw [hr11,hr10,bE (by omega) (by omega),p1];omega
   have hk:n8 r11 r9.length:=⟨by omega,by omega⟩;have hkn:r11.toNat<r9.length:=by have:=hk.1;have:=hk.2;omega
   have h9:lI (64100*i) r9:=by rw [e9];exact JX h5 (by omega)
   have hv:=pB (qW h9 hk) hy.2;have hv1:=hy.1;have F:=fun m hm=>rC (r:=r) (o:=o) hA ⟨h2,h⟩ hd hl hy (m:=m) h9 hk (by omega) hm (by rw [zq ha,<-e9,<-e11]);have g14:r14=iq (lR r9 r11) r4:=by rw [hr14,hr13];exact mc hkn
   have eT:=C3 (o:=r9) (k:=r11.toNat) g14 hv (by omega);rw [<-hr13] at eT;rw [e7,eT];refine ⟨⟨⟨h2,by omega⟩,fun _=>⟨?_,by rw [hr10];exact hk,⟨h2,by omega⟩,⟨rfl,⟨hr2,hy⟩,⟨Int.le_refl _,hyn⟩,hk,hi4,by rw [e5];exact h9⟩,hnd,fun hm=>(F true hm).1,fun hm=>?_⟩,fun z=>Bool.noConfusion z⟩,?_⟩
   ·rw [e6,List.length_singleton];omega
   ·rw [hr13];exact (F false hm).1
   ·cases hm:cu r b.2 l i with
    | true=>exact (F true hm).2
    | false=>rw [hr13];exact (F false hm).2
 ·unfold fE;simp only;rw [aN (l:=bs) (by omega)];cases l.drop i.toNat <;> rfl
noncomputable def QG:aw:=aq AU fE jt
noncomputable def P0:Nat:=fo (aC Tryz.f10 0)
theorem Ss:aJ Tryz.prog 0 Tryz.f10.ntmps (aC Tryz.f10 0) (aq AU fE jt):=
 aD AU (az (.aP Po rfl (.aP Ik rfl .nil)) _) mixed (aL.cons (by kernel_rfl) Sr .nil) fE jt mi (fun |⟨l,bs,n,i,r,b,o,⟨⟩⟩,hi=>TQ l bs n i r b o hi)
theorem ED {r:aj} {b:aa.ay} {e:Int} (h:fm r b = .inl e):e≠0:=by
 unfold fm at h;split at h
 ·rename_i hw;cases h;simpa using hw
 ·split at h
  ·cases h;decide
  ·split at h
   ·cases h;decide
   ·split at h
    ·rename_i he;cases h;exact vv _ _ _ _ he
    ·split at h
     ·rename_i hs;cases h;simpa using hs
     ·split at h
      ·cases h
      ·cases h;decide
theorem EE {r:aj} {b:aa.ay} {es:List (List ab)} (h:fm r b = .inr es):bI r=0/\rq b/\pZ r b.Boxes none 0 [] = .inr es/\bb r [] b.Strips=0:=by
 unfold fm at h;split at h
 ·cases h
 ·rename_i hw;split at h
  ·cases h
  ·rename_i ho;split at h
   ·cases h
   ·split at h
    ·cases h
    ·rename_i he;split at h
     ·cases h
     ·rename_i hs;split at h
      ·cases h;simp only [Bool.or_eq_true,not_or,Bool.not_eq_true,Bool.not_eq_false'] at ho;exact ⟨by simpa using hw,ho.2,he,by simpa using hs⟩
      ·cases h
theorem DB (r:aj) (b:aa.ay) (hb:qe b) :(a8 (aI [na] Tryz.f10) (find [(P0,QG)]) Tryz.f10 ns Gx (r,b,())).sat fun z_=>z_ =(YE (r,b,())).2:=by
 refine cast (by kernel_rfl) (?_:let r1:Bool:=(fO (fm r b)).2.1 != 0;qe b/\(r1=true->([],(fO (fm r b)).2)=Gh r b (fm r b))/\(r1=false->((cq fun x=>none)/\((↑b.2.length:Int) =(↑b.2.length:Int)/\po b.2/\b.2=b.2/\(fO (fm r b)).1.length=b.2.length/\wo (fO (fm r b)).1)/\((0:Int)<=0/\0<=(↑b.2.length:Int))/\(↑(0:Nat):Int)<=0/\lI ((64100:Int)*0) [])/\(vV (cu r b.2 (fO (fm r b)).1) (List.drop (Int.toNat 0) b.2) (List.drop (Int.toNat 0) (fO (fm r b)).1) 0 [],0,())=Gh r b (fm r b)));intro r1
 clear_value (hr1:r1=_)
 refine ⟨hb,fun h=>?_,fun h=>?_⟩
 ·cases hz:fm r b with
  | inl e=>rfl
  | inr es=>rw [hr1,hz] at h;cases h
 ·cases hz:fm r b with
  | inl e=>rw [hr1,hz] at h;have h :(e != 0)=false:=h;exact absurd (by simpa using h) (ED hz)
  | inr es=>obtain ⟨hw,hs,he,hy⟩:=EE hz;obtain ⟨⟨n1,n2,n3⟩,_⟩:=Pk (lV hw) hb hs he hy;exact ⟨⟨rfl,⟨rfl,hb.1,rfl,n1,n3⟩,⟨Int.le_refl _,by omega⟩,Int.le_refl _,fun x hx=>by cases hx⟩,rfl⟩
def wZ:FuncId×dR:=(10,ax KE ns Gx YE)
theorem F4:aR Tryz.prog KE 10 (ax KE ns Gx YE):=by
 refine bh (C:=aI [na] Tryz.f10) (az (.aP uQ rfl .nil) _) mixed (fn:=Tryz.f10) Tryz.func10 (by kernel_rfl) (by kernel_rfl) (by kernel_rfl) (by kernel_rfl) (by kernel_rfl) (by kernel_rfl) (Λ:=fun x=>find [(P0,QG)]) ?_ ?_
 ·rintro ⟨r,b,⟨⟩⟩ hw hn
  exact aL.at (by kernel_rfl) (.cons (by kernel_rfl) (Ss) .nil)
 ·rintro ⟨r,b,⟨⟩⟩ hw hn
  exact DB r b (hn _ List.mem_cons_self)
abbrev VY:Ty:= .nm .aF
def fT (x:aa.aF) (n:Int):aa.aF:=⟨x.Player,x.Runs+n,x.Balls,x.Fours,x.Sixes,x.Out,x.How,x.Bowler,x.Fielder,x.Batted⟩
def Sm (x:aa.ak):Int:=x.Symbols.length
def Nl (x:aa.ak):aa.aF:=⟨x.Player,0,Sm x,0,0,x.How != 0,x.How,x.Bowler,0,x.How != 9||decide (Sm x>0)⟩
def jC (x:aa.ak):aa.aF:=fT (Nl x) (eb x.Symbols)
abbrev WZ:List (Nat×PB):= [(0,.row 1 VY)]
abbrev JG:List (Nat×PB):= [(0,.row 1 VY),(2,.dat VY)]
abbrev ZQ:List (Nat×PC):= [(7,.c (.osl 0 1)),(22,.h ze),(23,.h I),(24,.h I)]
abbrev aeL:bl:=⟨ZQ++[(10,.c (.ptr 2 0)),(51,.h (.slice .str)),(52,.h I),(53,.h I)],JG,3⟩
abbrev afh:List (Lf×bl):= [(.ext 2,⟨ZQ++[(10,.c (.ptr 2 0))],JG,3⟩)]
abbrev Ro:Type:=List aa.ak×Int×Int×List ByteArray×Int×Int×List aa.aF×aa.aF×Unit
def fX:Ro->List aa.ak×Int×Int×List aa.aF×aa.aF×Unit
 |(l,n,i,s,_,j,o,x,_)=>(l,n,i,o,fT x (eb (s.drop j.toNat)),())
def tH:Ro->Prop
 |(_,_,_,s,m,j,_,x,_)=>(m =(s.length:Int)/\s.length<=4000)/\(0<=j/\j<=m)/\fU (16*j) x.Runs
def qn:Ro->Nat
 |(_,_,_,_,m,j,_)=>(m - j).toNat
abbrev aeM:bl:=⟨ZQ,WZ,2⟩
abbrev acm:List (Lf×bl):= [(.ext 0,⟨[(7,.c (.osl 0 1))],WZ,2⟩)]
abbrev Rp:Type:=List aa.ak×Int×Int×List aa.aF×Unit
def fY:Rp->List aa.aF×Unit
 |(l,_,i,o,_)=>(o ++(l.drop i.toNat).map jC,())
def tI:Rp->Prop
 |(l,n,i,o,_)=>(n =(l.length:Int)/\xY l)/\(0<=i/\i<=n)/\(o.length:Int)<=i
def qo:Rp->Nat
 |(_,n,i,_)=>(n - i).toNat
abbrev Gw:bl:=cQ [.slice VY,I]
def nU (e:Int) (l:List aa.ak):List aa.aF×Int×Unit:=if e != 0 then ([],e,()) else (l.map jC,0,())
def YD:Den (bj ns)->List Prop×Den (bj Gw):=fun x=>([qe x.2.1],nU (fL x.1 x.2.1) x.2.1.Strips)
noncomputable def AN:Lp:=(⟨0,aI [mg] Tryz.f12,(fun _=>none),(bA Tryz.f12 0 0),aeL,afh⟩:Lp)
theorem TH (l:List aa.ak) (n:Int) (i:Int) (s:List ByteArray) (m:Int) (j:Int) (o:List aa.aF) (x:aa.aF) (hi:tH (l,n,i,s,m,j,o,x,())) :(Go.aa.stepG AN fX (fun y:Den (bj AN.q)=>tH y/\qn y<qn (l,n,i,s,m,j,o,x,())) (l,n,i,s,m,j,o,x,())/\Go.aa.bB AN fX (l,n,i,s,m,j,o,x,())=fX (l,n,i,s,m,j,o,x,())):=by
 refine cast (by kernel_rfl) (?_ :((decide (j<m)=true->(0<=j/\j <(↑s.length:Int))/\tH (l,n,i,s,m,IntKind.i64.wrap (j+1),o,aa.aF.mk x.1 (IntKind.i64.wrap (x.2 +(cd (s.getD j.toNat (af Ty.str))).1)) x.3 x.4 x.5 x.6 x.7 x.8 x.9 x.10,())/\qn (l,n,i,s,m,IntKind.i64.wrap (j+1),o,aa.aF.mk x.1 (IntKind.i64.wrap (x.2 +(cd (s.getD j.toNat (af Ty.str))).1)) x.3 x.4 x.5 x.6 x.7 x.8 x.9 x.10,())<qn (l,n,i,s,m,j,o,x,()))/\(decide (j<m)=false->True))/\(cond (decide (j<m)) (fX (l,n,i,s,m,IntKind.i64.wrap (j+1),o,aa.aF.mk x.1 (IntKind.i64.wrap (x.2 +(cd (s.getD j.toNat (af Ty.str))).1)) x.3 x.4 x.5 x.6 x.7 x.8 x.9 x.10,())) (l,n,i,o,x,()))=fX (l,n,i,s,m,j,o,x,()));obtain ⟨⟨h1,h1b⟩,⟨h2,h3⟩,u0,u1⟩:=hi;have h1:m =(s.length:Int):=h1;have h1b:s.length<=4000:=h1b;have h2:0<=j:=h2;have h3:j<=m:=h3;have u0:0<=x.Runs:=u0;have u1:x.Runs<=16*j:=u1;refine dP (fun h=>?_) (fun h=>?_)
 ·have e1:IntKind.i64.wrap (j+1)=j+1:=a7 (by omega) (by omega);have hd:s.drop j.toNat=s.getD j.toNat (af Ty.str)::s.drop (j+1).toNat:=aY h2 (by omega) _;generalize s.getD j.toNat (af Ty.str)=w at *;have hf:=wH w;have e2:IntKind.i64.wrap (x.2 +(cd w).1)=x.Runs +(cd w).1:=bE (by show _<=x.Runs+_;omega) (by show x.Runs+_<=_;omega);rw [e1,e2];refine ⟨⟨⟨h2,by omega⟩,⟨⟨h1,h1b⟩,⟨?_,?_⟩,?_,?_⟩,?_⟩,?_⟩
  ·show 0<=j+1;omega
  ·show j+1<=m;omega
  ·show 0<=x.Runs +(cd w).1;omega
  ·show x.Runs +(cd w).1<=16 *(j+1);omega
  ·show (m - (j+1)).toNat <(m - j).toNat;omega
  ·show (l,n,i,o,fT (fT x (cd w).1) (eb (s.drop (j+1).toNat)),()) =(l,n,i,o,fT x (eb (s.drop j.toNat)),());rw [hd];show _ =(l,n,i,o,fT x ((cd w).1+eb (s.drop (j+1).toNat)),());unfold fT;simp only [Int.add_assoc]
 ·show (l,n,i,o,x,()) =(l,n,i,o,fT x (eb (s.drop j.toNat)),());rw [aN (l:=s) (by omega)];show _ =(l,n,i,o,fT x 0,());unfold fT;rw [Int.add_zero]
noncomputable def ZH:aw:=aq AN fX tH
noncomputable def Yw:Nat:=fo (bA Tryz.f12 0 0)
theorem Sn:aJ Tryz.prog 0 Tryz.f12.ntmps (bA Tryz.f12 0 0) (aq AN fX tH):=
 aD AN (az (.aP jV rfl .nil) _) mixed (fun b hb S hS=>by cases hS) fX tH qn (fun |⟨l,n,i,s,m,j,o,x,⟨⟩⟩,hi=>TH l n i s m j o x hi)
noncomputable def AO:Lp:=(⟨0,aI [mg] Tryz.f12,(find [(Yw,ZH)]),(aC Tryz.f12 0),aeM,acm⟩:Lp)
theorem TJ (l:List aa.ak) (n:Int) (i:Int) (o:List aa.aF) (hi:tI (l,n,i,o,())) :(Go.aa.stepG AO fY (fun y:Den (bj AO.q)=>tI y/\qo y<qo (l,n,i,o,())) (l,n,i,o,())/\Go.aa.bB AO fY (l,n,i,o,())=fY (l,n,i,o,())):=by
 refine cast (by kernel_rfl) (?_:let r1:Int:=(↑(l.getD i.toNat (af (Ty.nm Nm.ak))).2.length:Int);let r2:Bool:=(l.getD i.toNat (af (Ty.nm Nm.ak))).3 != 9;let r3:Bool:=(l.getD i.toNat (af (Ty.nm Nm.ak))).3 != 0;let r4:Int:=cond r2 0 0;let r5:List aa.aF:= [aa.aF.mk (cond r2 (l.getD i.toNat (af (Ty.nm Nm.ak))).1 (l.getD i.toNat (af (Ty.nm Nm.ak))).1) (r4+eb (List.drop (Int.toNat 0) (l.getD i.toNat (af (Ty.nm Nm.ak))).2)) (cond r2 r1 r1) r4 r4 (cond r2 r3 r3) (cond r2 (l.getD i.toNat (af (Ty.nm Nm.ak))).3 (l.getD i.toNat (af (Ty.nm Nm.ak))).3) (cond r2 (l.getD i.toNat (af (Ty.nm Nm.ak))).4 (l.getD i.toNat (af (Ty.nm Nm.ak))).4) r4 (cond r2 true (decide (r1>0)))];((decide (i<n)=true->(0<=i/\i <(↑l.length:Int))/\((cq fun x=>none)/\(r1 =(↑(l.getD i.toNat (af (Ty.nm Nm.ak))).2.length:Int)/\(l.getD i.toNat (af (Ty.nm Nm.ak))).2.length<=(4000:Nat))/\((0:Int)<=0/\0<=r1)/\fU ((16:Int)*0) r4)/\(o.length+r5.length) *(72:Nat)<=(70368744177664:Nat)/\tI (l,n,IntKind.i64.wrap (i+1),o++r5,())/\qo (l,n,IntKind.i64.wrap (i+1),o++r5,())<qo (l,n,i,o,()))/\(decide (i<n)=false->True))/\(cond (decide (i<n)) (fY (l,n,IntKind.i64.wrap (i+1),o++r5,())) (o,()))=fY (l,n,i,o,()));intro r1 r2 r3 r4 r5
 clear_value (hr1:r1=_) (hr2:r2=_) (hr3:r3=_) (hr4:r4=_) (hr5:r5=_)
 obtain ⟨⟨h1,h1a,h1b⟩,⟨h2,h3⟩,h4⟩:=hi;have h1:n =(l.length:Int):=h1;have h1a:l.length<=4000:=h1a;have h2:0<=i:=h2;have h3:i<=n:=h3;have h4 :(o.length:Int)<=i:=h4;refine dP (fun h=>?_) (fun h=>?_)
 ·have e1:IntKind.i64.wrap (i+1)=i+1:=a7 (by omega) (by omega);have hd:l.drop i.toNat=l.getD i.toNat (af (Ty.nm Nm.ak))::l.drop (i+1).toNat:=aY h2 (by omega) _;have hm:l.getD i.toNat (af (Ty.nm Nm.ak))∈l:=List.mem_of_mem_drop (i:=i.toNat) (by rw [hd];exact List.mem_cons_self);have hs:=h1b _ hm;generalize l.getD i.toNat (af (Ty.nm Nm.ak))=x at *;have e4:r4=0:=by rw [hr4];exact Bool.cond_self _ _
  have e5:r5=[jC x]:=by rw [hr5,e4];simp only [Bool.cond_self];rw [hr3,hr2,hr1];show _=[fT (Nl x) (eb x.Symbols)];unfold fT Nl Sm;cases x.How != 9 <;> rfl
  have l5:r5.length=1:=by rw [e5];rfl
  rw [e1,e4,e5];refine ⟨⟨⟨h2,by omega⟩,⟨rfl,⟨hr1,hs⟩,⟨Int.le_refl _,by rw [hr1];omega⟩,Int.le_refl _,Int.le_refl _⟩,by rw [List.length_singleton];omega,⟨⟨h1,h1a,h1b⟩,⟨?_,?_⟩,?_⟩,?_⟩,?_⟩
  ·show 0<=i+1;omega
  ·show i+1<=n;omega
  ·show ((o++[jC x]).length:Int)<=i+1;rw [List.length_append,List.length_singleton];omega
  ·show (n - (i+1)).toNat <(n - i).toNat;omega
  ·show ((o++[jC x]) ++(l.drop (i+1).toNat).map jC,()) =(o ++(l.drop i.toNat).map jC,());rw [hd,List.map_cons,List.append_assoc];rfl
 ·show (o,()) =(o ++(l.drop i.toNat).map jC,());rw [aN (l:=l) (by omega),List.map_nil,List.append_nil]
noncomputable def QE:aw:=aq AO fY tI
noncomputable def PY:Nat:=fo (aC Tryz.f12 0)
theorem So:aJ Tryz.prog 0 Tryz.f12.ntmps (aC Tryz.f12 0) (aq AO fY tI):=
 aD AO (az (.aP jV rfl .nil) _) mixed (aL.cons (by kernel_rfl) Sn .nil) fY tI qo (fun |⟨l,n,i,o,⟨⟩⟩,hi=>TJ l n i o hi)
theorem DA (r:aj) (b:aa.ay) (hb:qe b) :(a8 (aI [AC] Tryz.f12) (find [(PY,QE)]) Tryz.f12 ns Gw (r,b,())).sat fun z_=>z_ =(YD (r,b,())).2:=by
 refine cast (by kernel_rfl) (?_:qe b/\((fL r b != 0)=true->([],fL r b,())=nU (fL r b) b.3)/\((fL r b != 0)=false->((cq fun x=>none)/\((↑b.3.length:Int) =(↑b.3.length:Int)/\xY b.3)/\((0:Int)<=0/\0<=(↑b.3.length:Int))/\(↑(0:Nat):Int)<=0)/\([]++List.map jC (List.drop (Int.toNat 0) b.3),0,())=nU (fL r b) b.3));refine ⟨hb,fun h=>?_,fun h=>⟨⟨rfl,⟨rfl,hb.2⟩,⟨Int.le_refl _,by omega⟩,Int.le_refl _⟩,?_⟩⟩
 ·unfold nU;rw [if_pos h]
 ·unfold nU;rw [if_neg (by rw [h];exact Bool.false_ne_true)];rfl
def wY:FuncId×dR:=(12,ax KE ns Gw YD)
theorem F1:aR Tryz.prog KE 12 (ax KE ns Gw YD):=by
 refine bh (C:=aI [AC] Tryz.f12) (az (.aP Ii rfl .nil) _) mixed (fn:=Tryz.f12) Tryz.func12 (by kernel_rfl) (by kernel_rfl) (by kernel_rfl) (by kernel_rfl) (by kernel_rfl) (by kernel_rfl) (Λ:=fun x=>find [(PY,QE)]) ?_ ?_
 ·rintro ⟨r,b,⟨⟩⟩ hw hn
  exact aL.at (by kernel_rfl) (.cons (by kernel_rfl) (So) .nil)
 ·rintro ⟨r,b,⟨⟩⟩ hw hn
  exact DA r b (hn _ List.mem_cons_self)
end
end Go.Proofs.YtjcbhomccohklaaGreatDoor
