/- Texts of the mirror and contracts, put together. -/
import Derived.Test.YtjcbhomccohklaaGreatDoorPC4
import Derived.Test.YtjcbhomccohklaaGreatDoorPC3
import Derived.Test.YtjcbhomccohklaaGreatDoorPC2
import Derived.Test.YtjcbhomccohklaaGreatDoorPC1
import Derived.LoopN
namespace Go.Proofs.YtjcbhomccohklaaGreatDoor
section
open Go Go.Mir Go.RowKit
attribute [local irreducible] Go.Mir.DT.sat Go.Mir.evPat Go.Mir.RT.sat Go.Mir.evFn
abbrev tXs:Ty:= .nm .Extras
abbrev hpA:List (Nat×PB):= [(0,.dat (.nm .Rules)),(1,.dat (.nm .Book)),(2,.dat tXs),(3,.row 4 I)]
abbrev tmA:List (Nat×PC):= [(3,.c (.ptr 0 0)),(4,.c (.ptr 1 0)),(7,.c (.ptr 2 0)),(8,.h I),(9,.h I),(10,.h I),(11,.c (.osl 3 4))]
abbrev R3:List (Nat×PC):= [(31,.h tEss),(32,.h I),(33,.h I)]
abbrev qA0:Pat:=⟨tmA++R3++[(12,.h I),(38,.h tEs),(39,.h I),(40,.h I)],hpA,5⟩
abbrev xA0:List (Lf×Pat):= [(.ext 2,⟨tmA++R3,hpA,5⟩)]
abbrev TA1:Type:=Int×Int×Int×List (List boxbook_entry)×Int×Int×Rules×Mir.Book×Mir.Extras×List Int×Unit
abbrev TA0:Type:=Int×Int×Int×List (List boxbook_entry)×Int×Int×Int×List boxbook_entry×Int×Int×Rules×Mir.Book×Mir.Extras×List Int×Unit
def E8 (r:Rules) (x:Mir.Extras) (es:List boxbook_entry):Mir.Extras:=⟨x.Wides+ae fWd es,x.NoBalls+ae (fNb r.NoBall) es,x.Byes+ae fBy es,x.LegByes+ae fLg es,x.Penalties⟩
def fG (b:Mir.Book) (k:Int):Int:=(b.Boxes.getD k.toNat Box.zero).Bowler
def mz:TA0→TA1
 |(c,ba,ro,l,n,i,k,s,_,j,r,b,x,t,_)=>(c+ae fCh (s.drop j.toNat),ba+ae fFc (s.drop j.toNat),ro+ae fRo (s.drop j.toNat),l,n,i,r,b,E8 r x (s.drop j.toNat),aQ t (fG b k) (ae fWk (s.drop j.toNat)),())
def upB (u v:Int):Prop:=0≤v∧v≤u
def Ng (u:Int) (x:Mir.Extras):Prop:=upB u x.Wides∧upB u x.NoBalls∧upB u x.Byes∧upB u x.LegByes
def upT (u:Int) (t:List Int):Prop:=∀ v∈t,upB u v
def OX (r:Rules) (b:Mir.Book):Prop:=(∀ x∈b.Boxes,0≤x.Bowler∧x.Bowler≤r.Side)∧∀ x∈b.Strips,0≤x.Bowler∧x.Bowler≤r.Side
def G8 (l:List (List boxbook_entry)):Prop:=∀ ys∈l,ys.length≤4000∧Fo ys
def geA (r:Rules) (b:Mir.Book) (t:List Int):Prop:=rdG r∧OX r b∧(t.length:Int)=r.Side+1
def wy:TA0→Prop
 |(c,ba,ro,_,_,i,k,s,m,j,r,b,x,t,_)=>(m =(s.length:Int)∧s.length≤4000∧Fo s)∧(0≤j∧j≤m)∧(k=i∧0≤i∧i≤4000∧i <(b.Boxes.length:Int))∧geA r b t∧
  (upB (64000*i+16*j) c∧upB (64000*i+16*j) ba∧upB (64000*i+16*j) ro∧Ng (64000*i+16*j) x∧upT (64000*i+16*j) t)
def Jx:TA0→Nat
 |(_,_,_,_,_,_,_,_,m,j,_)=>(m - j).toNat
abbrev qA1:Pat:=⟨tmA++R3,hpA,5⟩
abbrev xA1:List (Lf×Pat):= [(.ext 0,⟨tmA,hpA,5⟩)]
abbrev TAo:Type:=Int×Int×Int×Rules×Mir.Book×Mir.Extras×List Int×Unit
def mA:TA1→TAo
 |(c,ba,ro,l,_,i,r,b,x,t,_)=>(c+ae fCh (ay (l.drop i.toNat)),ba+ae fFc (ay (l.drop i.toNat)),ro+ae fRo (ay (l.drop i.toNat)),r,b,E8 r x (ay (l.drop i.toNat)),cB t (b.Boxes.drop i.toNat) (l.drop i.toNat),())
def wz:TA1→Prop
 |(c,ba,ro,l,n,i,r,b,x,t,_)=>(n =(l.length:Int)∧l.length=b.Boxes.length∧l.length≤4000∧G8 l)∧(0≤i∧i≤n)∧geA r b t∧
  (upB (64000*i) c∧upB (64000*i) ba∧upB (64000*i) ro∧Ng (64000*i) x∧upT (64000*i) t)
def Jy:TA1→Nat
 |(_,_,_,_,n,i,_)=>(n - i).toNat
abbrev tmB:List (Nat×PC):= [(16,.h I),(17,.h I)]
abbrev R4:List (Nat×PC):= [(105,.h tSts),(106,.h I),(107,.h I)]
abbrev SP:List (Nat×PB):= [(0,.dat (.nm .Rules)),(1,.dat (.nm .Book)),(2,.dat tXs),(3,.row 4 I),(5,.dat tSt)]
abbrev qB0:Pat:=⟨tmA++tmB++R4++[(19,.c (.ptr 5 0)),(117,.h (.slice .str)),(118,.h I),(119,.h I)],SP,6⟩
abbrev xB0:List (Lf×Pat):= [(.ext 8,⟨tmA++tmB++R4++[(19,.c (.ptr 5 0))],SP,6⟩)]
abbrev TB0:Type:=Int×Int×Int×Int×Int×List Mir.Strip×Int×Int×List ByteArray×Int×Int×Rules×Mir.Book×Mir.Extras×List Int×Mir.Strip×Unit
abbrev Uq:Type:=Int×Int×Int×Int×Int×List Mir.Strip×Int×Int×Rules×Mir.Book×Mir.Extras×List Int×Mir.Strip×Unit
def pF:TB0→Uq
 |(c,ba,ro,ru,wk,l,n,i,s,_,j,r,b,x,t,st,_)=>(c,ba,ro,ru+fP (s.drop j.toNat),wk,l,n,i,r,b,x,t,st,())
def wA:TB0→Prop
 |(_,_,_,ru,_,_,_,i,s,m,j,_)=>(m =(s.length:Int)∧s.length≤4000)∧(0≤j∧j≤m)∧(0≤i∧i≤4000)∧upB (64000*i+16*j) ru
def Jz:TB0→Nat
 |(_,_,_,_,_,_,_,_,_,m,j,_)=>(m - j).toNat
abbrev qB1:Pat:=⟨tmA++tmB++R4,hpA,5⟩
abbrev xB1:List (Lf×Pat):= [(.ext 6,⟨tmA++tmB,hpA,5⟩)]
abbrev TB1:Type:=Int×Int×Int×Int×Int×List Mir.Strip×Int×Int×Rules×Mir.Book×Mir.Extras×List Int×Unit
abbrev TBo:Type:=Int×Int×Int×Int×Int×Rules×Mir.Book×Mir.Extras×List Int×Unit
def mB:TB1→TBo
 |(c,ba,ro,ru,wk,l,_,i,r,b,x,t,_)=>(c,ba - aM gLn (l.drop i.toNat),ro - aM gRo (l.drop i.toNat),ru+aM gRn (l.drop i.toNat),wk+aM gOt (l.drop i.toNat),r,b,x,jX t (l.drop i.toNat),())
def btB (d u v:Int):Prop:= -d≤v∧v≤u
def wB:TB1→Prop
 |(_,ba,ro,ru,wk,l,n,i,r,b,_,t,_)=>(n =(l.length:Int)∧smY l∧b.Strips=l)∧(0≤i∧i≤n)∧geA r b t∧(btB (4000*i) 300000000 ba∧btB i 300000000 ro∧upB (64000*i) ru∧upB i wk∧∀ v∈t,btB i 300000000 v)
def JA:TB1→Nat
 |(_,_,_,_,_,_,n,i,_)=>(n - i).toNat
abbrev hpK:List (Nat×PB):= [(1,.dat (.nm .Book)),(2,.dat tXs)]
abbrev tmK:List (Nat×PC):= [(4,.c (.ptr 1 0)),(7,.c (.ptr 2 0)),(8,.h I),(9,.h I),(10,.h I),(16,.h I),(17,.h I)]
abbrev qK0:Pat:=⟨tmK++[(154,.h (.slice I)),(155,.h I),(156,.h I)],hpK,3⟩
abbrev xK0:List (Lf×Pat):= [(.ext 11,⟨tmK,hpK,3⟩),(.ret,⟨[(6,.h .bool)],[],0⟩)]
abbrev TK0:Type:=Int×Int×Int×Int×Int×List Int×Int×Int×Mir.Book×Mir.Extras×Unit
def jn:TK0→Sum (Int×Int×Int×Int×Int×Mir.Book×Mir.Extras×Unit) (Bool×Unit)
 |(c,ba,ro,ru,wk,l,_,i,b,x,_)=>if (l.drop i.toNat).all (fun v=>v==0) then .inl (c,ba,ro,ru,wk,b,x,()) else .inr (false,())
def wN:TK0→Prop
 |(_,_,_,_,_,l,n,i,_)=>(n =(l.length:Int)∧l.length≤4000)∧0≤i∧i≤n
def JL:TK0→Nat
 |(_,_,_,_,_,_,n,i,_)=>(n - i).toNat
abbrev MN:Pat:=cn [.nm .Rules,.nm .Book,tEss]
def qL (b:Mir.Book):Prop:=(bV b).all okI=true
def ndA (r:Rules) (b:Mir.Book) (l:List (List boxbook_entry)):Prop:=(l.length=b.Boxes.length∧l.length≤4000∧G8 l)∧(rdG r∧OX r b)∧smY b.Strips∧qL b
def QP:Den (tyP MN)→List Prop×Den (tyP dT):=fun x=>([ndA x.1 x.2.1 x.2.2.1],(lG x.1 x.2.1 x.2.2.1,()))
theorem iG {t:List Int} {i n v:Int} (h:v∈aQ t i n):v∈t∨(v=t.getD i.toNat 0+n):=by
 unfold aQ at h
 exact (List.mem_or_eq_of_mem_set h)
theorem mP {p:Int→Prop} {t:List Int} (h :∀ v∈t,p v) {i:Int} (h0:0≤i) (h1:i <(t.length:Int)):p (t.getD i.toNat 0):=by
 have hi:i.toNat<t.length:=by omega
 rw [List.getD_eq_getElem?_getD,List.getElem?_eq_getElem hi]
 exact h _ (List.getElem_mem hi)
theorem H8 {r:Rules} {b:Mir.Book} (h:OX r b) {i:Int} (h0:0≤i) (h1:i <(b.Boxes.length:Int)):0≤fG b i∧fG b i≤r.Side:=by
 have hi:i.toNat<b.Boxes.length:=by omega
 unfold fG
 rw [List.getD_eq_getElem?_getD,List.getElem?_eq_getElem hi]
 exact h.1 _ (List.getElem_mem hi)
theorem pU {f:boxbook_entry→Int} (hf :∀ y,DA y→0≤f y∧f y≤16) :∀ {es:List (List boxbook_entry)},G8 es→0≤ae f (ay es)∧ae f (ay es)≤64000 *(es.length:Int)
 | [],_=>⟨Int.le_refl _,Int.le_refl _⟩
 | ys::es,h=>by
  obtain ⟨h1,h2⟩:=h ys List.mem_cons_self
  have ih:=pU hf (es:=es) fun z hz=>h z (List.mem_cons_of_mem _ hz)
  have hc:=yB (f:=f) (l:=ys) fun y hy=>hf y (h2 y hy)
  show 0≤ae f (ys++ay es)∧ae f (ys++ay es)≤64000 *((ys::es).length:Int)
  rw [oL,List.length_cons]
  omega
theorem uS :∀ {t:List Int} {l:List Mir.Box} {es:List (List boxbook_entry)} {u:Int},0≤u→upT u t→G8 es→upT (u+64000 *(es.length:Int)) (cB t l es)
 | t,[],es,u,h0,ht,_,v,hv=>by
  have e:cB t [] es=t:=by cases es <;> rfl
  rw [e] at hv
  obtain ⟨a,b⟩:=ht v hv
  exact ⟨a,by omega⟩
 | t,x::l,[],u,h0,ht,_,v,hv=>by
  obtain ⟨a,b⟩:=ht v hv
  exact ⟨a,by omega⟩
 | t,x::l,ys::es,u,h0,ht,h,v,hv=>by
  obtain ⟨h1,h2⟩:=h ys List.mem_cons_self
  have hc:=yB (f:=fWk) (l:=ys) fun y _=>kH y
  have hb:upT (u+64000) (aQ t x.Bowler (ae fWk ys)):=fun w hw=>by
   rcases iG hw with hw|rfl
   ·obtain ⟨a,b⟩:=ht w hw
    exact ⟨a,by omega⟩
   ·have:upB u (t.getD x.Bowler.toNat 0):=by
     by_cases hi:x.Bowler.toNat<t.length
     ·rw [List.getD_eq_getElem?_getD,List.getElem?_eq_getElem hi]
      exact ht _ (List.getElem_mem hi)
     ·rw [List.getD_eq_getElem?_getD,List.getElem?_eq_none (by omega)]
      exact ⟨Int.le_refl _,h0⟩
    obtain ⟨a,b⟩:=this
    exact ⟨by omega,by omega⟩
  have:=uS (l:=l) (es:=es) (u:=u+64000) (by omega) hb (fun z hz=>h z (List.mem_cons_of_mem _ hz)) v hv
  obtain ⟨a,b⟩:=this
  refine ⟨a,?_⟩
  rw [List.length_cons]
  omega
theorem Qv {v:Int} (h:okI v=true):0≤v∧v≤1000000:=by
 unfold okI at h
 simp only [Bool.not_eq_true',Bool.or_eq_false_iff,decide_eq_false_iff_not] at h
 omega
theorem eG {b:Mir.Book} (h:qL b) {v:Int} (hv:v∈bV b):0≤v∧v≤1000000:=Qv (List.all_eq_true.1 h v hv)
noncomputable def lpA0:Lp:=(⟨0,az [] Tryz.f70,(fun _=>none),(bA Tryz.f70 0 0),qA0,xA0⟩:Lp)
theorem Rc (c:Int) (ba:Int) (ro:Int) (l:List (List boxbook_entry)) (n:Int) (i:Int) (k:Int) (s:List boxbook_entry) (m:Int) (j:Int) (r:Rules) (b:Mir.Book) (x:Mir.Extras) (t:List Int) (hi:wy (c,ba,ro,l,n,i,k,s,m,j,r,b,x,t,())) :(Go.Mir.stepG lpA0 mz (fun y:Den (tyP lpA0.q)=>wy y∧Jx y<Jx (c,ba,ro,l,n,i,k,s,m,j,r,b,x,t,())) (c,ba,ro,l,n,i,k,s,m,j,r,b,x,t,())∧Go.Mir.stepE lpA0 mz (c,ba,ro,l,n,i,k,s,m,j,r,b,x,t,())=mz (c,ba,ro,l,n,i,k,s,m,j,r,b,x,t,())):=by
 refine cast (by kernel_rfl) (?_:let r1:Bool:=(s.getD j.toNat (dflt (Ty.nm Nm.boxbook_entry))).5==87;let r2:Bool:=(s.getD j.toNat (dflt (Ty.nm Nm.boxbook_entry))).5==82;let r3:Int:=IntKind.i64.wrap (c +(s.getD j.toNat (dflt (Ty.nm Nm.boxbook_entry))).2);let r4:Bool:=(s.getD j.toNat (dflt (Ty.nm Nm.boxbook_entry))).1==119;let r5:Bool:=(s.getD j.toNat (dflt (Ty.nm Nm.boxbook_entry))).1==110;let r6:Int:=IntKind.i64.wrap (x.3 +(s.getD j.toNat (dflt (Ty.nm Nm.boxbook_entry))).3);let r7:Int:=IntKind.i64.wrap (x.4 +(s.getD j.toNat (dflt (Ty.nm Nm.boxbook_entry))).4);let r8:Int×Int×Int×List (List boxbook_entry)×Int×Int×Rules×Mir.Book×Mir.Extras×List Int×PUnit:=dflt (I.prod (I.prod (I.prod (tEss.prod (I.prod (I.prod ((Ty.nm Nm.Rules).prod ((Ty.nm Nm.Book).prod (tXs.prod (I.slice.prod Ty.unit))))))))));let r9:Int:=cond ((s.getD j.toNat (dflt (Ty.nm Nm.boxbook_entry))).1 != 119) (IntKind.i64.wrap (ba+1)) ba;let r10:Int:=cond r4 x.5 (cond r5 x.5 x.5);let r11:Int:=cond r4 x.2 (cond r5 (IntKind.i64.wrap (x.2+r.8)) x.2);let r12:Int:=cond r4 (IntKind.i64.wrap (x.1 +(s.getD j.toNat (dflt (Ty.nm Nm.boxbook_entry))).2)) (cond r5 x.1 x.1);let r13:Int:=cond r4 r6 (cond r5 r6 r6);let r14:Int:=cond r4 r7 (cond r5 r7 r7);((decide (j<m)=true→((0≤j∧j <(↑s.length:Int))∧(r1=true→(0≤k∧k <(↑b.2.length:Int))∧(0≤(b.2.getD k.toNat (dflt (Ty.nm Nm.Box))).2∧(b.2.getD k.toNat (dflt (Ty.nm Nm.Box))).2 <(↑t.length:Int))∧(0≤(b.2.getD k.toNat (dflt (Ty.nm Nm.Box))).2∧(b.2.getD k.toNat (dflt (Ty.nm Nm.Box))).2 <(↑t.length:Int))∧True)∧(r1=false→(r2=true→True)∧(r2=false→True)))∧(true=true→wy (cond r1 r3 (cond r2 r3 r3),cond r1 r9 (cond r2 r9 r9),cond r1 ro (cond r2 (IntKind.i64.wrap (ro+1)) ro),l,n,i,k,s,m,IntKind.i64.wrap (j+1),r,b,Mir.Extras.mk (cond r1 r12 (cond r2 r12 r12)) (cond r1 r11 (cond r2 r11 r11)) (cond r1 r13 (cond r2 r13 r13)) (cond r1 r14 (cond r2 r14 r14)) (cond r1 r10 (cond r2 r10 r10)),cond r1 (t.set (b.2.getD k.toNat (dflt (Ty.nm Nm.Box))).2.toNat (IntKind.i64.wrap (t.getD (b.2.getD k.toNat (dflt (Ty.nm Nm.Box))).2.toNat (dflt (Ty.int IntKind.i64))+1))) t,())∧Jx (cond r1 r3 (cond r2 r3 r3),cond r1 r9 (cond r2 r9 r9),cond r1 ro (cond r2 (IntKind.i64.wrap (ro+1)) ro),l,n,i,k,s,m,IntKind.i64.wrap (j+1),r,b,Mir.Extras.mk (cond r1 r12 (cond r2 r12 r12)) (cond r1 r11 (cond r2 r11 r11)) (cond r1 r13 (cond r2 r13 r13)) (cond r1 r14 (cond r2 r14 r14)) (cond r1 r10 (cond r2 r10 r10)),cond r1 (t.set (b.2.getD k.toNat (dflt (Ty.nm Nm.Box))).2.toNat (IntKind.i64.wrap (t.getD (b.2.getD k.toNat (dflt (Ty.nm Nm.Box))).2.toNat (dflt (Ty.int IntKind.i64))+1))) t,())<Jx (c,ba,ro,l,n,i,k,s,m,j,r,b,x,t,())))∧(decide (j<m)=false→True))∧(cond (decide (j<m)) (cond (true&&(true&&true)) (mz (cond r1 r3 (cond r2 r3 r3),cond r1 r9 (cond r2 r9 r9),cond r1 ro (cond r2 (IntKind.i64.wrap (ro+1)) ro),l,n,i,k,s,m,IntKind.i64.wrap (j+1),r,b,Mir.Extras.mk (cond r1 r12 (cond r2 r12 r12)) (cond r1 r11 (cond r2 r11 r11)) (cond r1 r13 (cond r2 r13 r13)) (cond r1 r14 (cond r2 r14 r14)) (cond r1 r10 (cond r2 r10 r10)),cond r1 (t.set (b.2.getD k.toNat (dflt (Ty.nm Nm.Box))).2.toNat (IntKind.i64.wrap (t.getD (b.2.getD k.toNat (dflt (Ty.nm Nm.Box))).2.toNat (dflt (Ty.int IntKind.i64))+1))) t,())) (cond true (mz (cond r1 r3 (cond r2 r3 r3),cond r1 r9 (cond r2 r9 r9),cond r1 ro (cond r2 (IntKind.i64.wrap (ro+1)) ro),l,n,i,k,s,m,IntKind.i64.wrap (j+1),r,b,Mir.Extras.mk (cond r1 r12 (cond r2 r12 r12)) (cond r1 r11 (cond r2 r11 r11)) (cond r1 r13 (cond r2 r13 r13)) (cond r1 r14 (cond r2 r14 r14)) (cond r1 r10 (cond r2 r10 r10)),cond r1 (t.set (b.2.getD k.toNat (dflt (Ty.nm Nm.Box))).2.toNat (IntKind.i64.wrap (t.getD (b.2.getD k.toNat (dflt (Ty.nm Nm.Box))).2.toNat (dflt (Ty.int IntKind.i64))+1))) t,())) (cond r1 r8 (cond r2 r8 r8)))) (c,ba,ro,l,n,i,r,b,x,t,()))=mz (c,ba,ro,l,n,i,k,s,m,j,r,b,x,t,()))
 intro r1 r2 r3 r4 r5 r6 r7 r8 r9 r10 r11 r12 r13 r14
 clear_value (hr1:r1=_) (hr2:r2=_) (hr3:r3=_) (hr4:r4=_) (hr5:r5=_) (hr6:r6=_) (hr7:r7=_) (hr8:r8=_) (hr9:r9=_) (hr10:r10=_) (hr11:r11=_) (hr12:r12=_) (hr13:r13=_) (hr14:r14=_)
 simp only [Bool.cond_self] at *
 obtain ⟨⟨h1,h1a,h1b⟩,⟨h2,h3⟩,⟨hk,hi0,hi4,hib⟩,⟨hg,hbw,htl⟩,u1,u2,u3,⟨u4,u5,u6,u7⟩,u8⟩:=hi
 have h1:m =(s.length:Int):=h1
 have h1a:s.length≤4000:=h1a
 have h2:0≤j:=h2
 have h3:j≤m:=h3
 have hk:k=i:=hk
 have hi0:0≤i:=hi0
 have hi4:i≤4000:=hi4
 have hib:i <(b.Boxes.length:Int):=hib
 have htl :(t.length:Int)=r.Side+1:=htl
 have hnb:=hg.1.2
 refine fv (fun h=>?_) (fun h=>?_)
 ·have e1:IntKind.i64.wrap (j+1)=j+1:=aL (by omega) (by omega)
  have hd:s.drop j.toNat=s.getD j.toNat (dflt (Ty.nm Nm.boxbook_entry))::s.drop (j+1).toNat:=aP h2 (by omega) _
  have hm:s.getD j.toNat (dflt (Ty.nm Nm.boxbook_entry))∈s:=List.mem_of_mem_drop (i:=j.toNat) (by rw [hd];exact List.mem_cons_self)
  have hw:=h1b _ hm
  generalize s.getD j.toNat (dflt (Ty.nm Nm.boxbook_entry))=w at *
  obtain ⟨w1,w2,w3⟩:=hw
  have hbk:0≤fG b k∧fG b k≤r.Side:=H8 hbw (by omega) (by omega)
  have hbe :(b.2.getD k.toNat (dflt (Ty.nm Nm.Box))).2=fG b k:=rfl
  rw [hbe]
  have up :∀ {v d:Int},upB (64000*i+16*j) v→0≤d→d≤16→upB (64000*i+16 *(j+1)) (v+d)∧IntKind.i64.wrap (v+d)=v+d:=fun {v d} hv a b=>by
   obtain ⟨v0,v1⟩:=hv
   exact ⟨⟨by omega,by omega⟩,bf (by omega) (by omega)⟩
  have q1:=up u1 (lW ⟨w1,w2,w3⟩).1 (lW ⟨w1,w2,w3⟩).2
  have q2:=up u2 (n8 w).1 (n8 w).2
  have q3:=up u3 (lX w).1 (lX w).2
  have q4:=up u4 (qo ⟨w1,w2,w3⟩).1 (qo ⟨w1,w2,w3⟩).2
  have q5:=up u5 (qn hnb w).1 (qn hnb w).2
  have q6:=up u6 (ql ⟨w1,w2,w3⟩).1 (ql ⟨w1,w2,w3⟩).2
  have q7:=up u7 (qm ⟨w1,w2,w3⟩).1 (qm ⟨w1,w2,w3⟩).2
  have q8:=up (mP u8 hbk.1 (by omega)) (kH w).1 (kH w).2
  have e3:r3=c+fCh w:=by rw [hr3];exact q1.2
  have e9:r9=ba+fFc w:=by
   rw [hr9]
   have:=q2.2
   unfold fFc at this ⊢
   show (bif w.kind != 119 then IntKind.i64.wrap (ba+1) else ba)=_
   cases hz:w.kind==119 with
   | true=>rw [show (w.kind != 119)=false by rw [bne,hz];rfl];show ba=ba+0;omega
   | false=>rw [show (w.kind != 119)=true by rw [bne,hz];rfl];rw [hz] at this;exact this
  have e12:r12=x.Wides+fWd w:=by
   rw [hr12,hr4]
   have:=q4.2
   unfold fWd at this ⊢
   show (bif w.kind==119 then _ else _)=_
   cases hz:w.kind==119 with
   | true=>rw [hz] at this;exact this
   | false=>show x.Wides=x.Wides+0;omega
  have e11:r11=x.NoBalls+fNb r.NoBall w:=by
   rw [hr11,hr4,hr5]
   have:=q5.2
   unfold fNb at this ⊢
   show (bif w.kind==119 then _ else bif w.kind==110 then _ else _)=_
   cases hz:w.kind==119 with
   | true=>
    have hz:w.kind=119:=by simpa using hz
    rw [hz]
    show x.NoBalls=x.NoBalls+0;omega
   | false=>
    cases hy:w.kind==110 with
    | true=>rw [hy] at this;exact this
    | false=>show x.NoBalls=x.NoBalls+0;omega
  have e13:r13=x.Byes+fBy w:=by rw [hr13,hr6];exact q6.2
  have e14:r14=x.LegByes+fLg w:=by rw [hr14,hr7];exact q7.2
  have eR :(bif r1 then ro else bif r2 then IntKind.i64.wrap (ro+1) else ro)=ro+fRo w:=by
   rw [hr1,hr2]
   have:=q3.2
   unfold fRo at this ⊢
   show (bif w.mark==87 then _ else bif w.mark==82 then _ else _)=_
   cases hz:w.mark==87 with
   | true=>
    have hz:w.mark=87:=by simpa using hz
    rw [hz]
    show ro=ro+0;omega
   | false=>
    cases hy:w.mark==82 with
    | true=>rw [hy] at this;exact this
    | false=>show ro=ro+0;omega
  have eT :(bif r1 then t.set (fG b k).toNat (IntKind.i64.wrap (t.getD (fG b k).toNat (dflt (Ty.int IntKind.i64))+1)) else t)=aQ t (fG b k) (fWk w):=by
   rw [hr1]
   have:=q8.2
   unfold fWk at this ⊢
   show (bif w.mark==87 then _ else _)=_
   cases hz:w.mark==87 with
   | true=>
    rw [hz] at this
    show t.set (fG b k).toNat (IntKind.i64.wrap (t.getD (fG b k).toNat 0+1))=t.set (fG b k).toNat (t.getD (fG b k).toNat 0+1)
    rw [show IntKind.i64.wrap (t.getD (fG b k).toNat 0+1)=t.getD (fG b k).toNat 0+1 from this]
   | false=>exact (mJ t (fG b k)).symm
  have e10:r10=x.Penalties:=hr10
  rw [e3,e9,e12,e11,e13,e14,eR,eT,e10,e1]
  have hwk:=kH w
  refine ⟨⟨⟨⟨h2,by omega⟩,fun _=>⟨⟨by omega,by show k <(b.Boxes.length:Int);omega⟩,⟨hbk.1,by omega⟩,⟨hbk.1,by omega⟩,trivial⟩,fun _=>⟨fun _=>trivial,fun _=>trivial⟩⟩,fun _=>⟨⟨⟨h1,h1a,h1b⟩,⟨?_,?_⟩,⟨hk,hi0,hi4,hib⟩,⟨hg,hbw,?_⟩,q1.1,q2.1,q3.1,⟨q4.1,q5.1,q6.1,q7.1⟩,?_⟩,?_⟩⟩,?_⟩
  ·show 0≤j+1;omega
  ·show j+1≤m;omega
  ·show ((aQ t (fG b k) (fWk w)).length:Int)=_
   rw [dz];exact htl
  ·intro v hv
   rcases iG hv with hv|rfl
   ·obtain ⟨v0,v1⟩:=u8 v hv
    exact ⟨v0,by show v≤64000*i+16 *(j+1);omega⟩
   ·exact q8.1
  ·show (m - (j+1)).toNat <(m - j).toNat;omega
  ·have p :∀ (f:boxbook_entry→Int) (v:Int),v+f w+ae f (s.drop (j+1).toNat)=v+ae f (s.drop j.toNat):=fun f v=>by
    rw [hd]
    show _=v +(f w+ae f (s.drop (j+1).toNat))
    omega
   have p0:fWk w+ae fWk (s.drop (j+1).toNat)=ae fWk (s.drop j.toNat):=by have:=p fWk 0;omega
   show (c+fCh w+ae fCh (s.drop (j+1).toNat),ba+fFc w+ae fFc (s.drop (j+1).toNat),ro+fRo w+ae fRo (s.drop (j+1).toNat),l,n,i,r,b,(⟨x.Wides+fWd w+ae fWd (s.drop (j+1).toNat),x.NoBalls+fNb r.NoBall w+ae (fNb r.NoBall) (s.drop (j+1).toNat),x.Byes+fBy w+ae fBy (s.drop (j+1).toNat),x.LegByes+fLg w+ae fLg (s.drop (j+1).toNat),x.Penalties⟩:Mir.Extras),aQ (aQ t (fG b k) (fWk w)) (fG b k) (ae fWk (s.drop (j+1).toNat)),())=_
   rw [p fCh,p fFc,p fRo,p fWd,p (fNb r.NoBall),p fBy,p fLg,vT,p0]
   rfl
 ·show (c,ba,ro,l,n,i,r,b,x,t,())=mz (c,ba,ro,l,n,i,k,s,m,j,r,b,x,t,())
  unfold mz E8
  simp only
  rw [aG (l:=s) (by omega)]
  simp only [ae,Int.add_zero,mJ]
noncomputable def TS:LoopSum:=ai lpA0 mz wy
noncomputable def Tk:Nat:=rid (bA Tryz.f70 0 0)
theorem PL:LoopOKp Tryz.prog 0 Tryz.f70.ntmps (bA Tryz.f70 0 0) (ai lpA0 mz wy):=
 ax lpA0 (an (CtrsOK.nil) _) mixed (fun b hb S hS=>by cases hS) mz wy Jx (fun |⟨c,ba,ro,l,n,i,k,s,m,j,r,b,x,t,⟨⟩⟩,hi=>Rc c ba ro l n i k s m j r b x t hi)
noncomputable def lpA1:Lp:=(⟨0,az [] Tryz.f70,(find [(Tk,TS)]),(aq Tryz.f70 0),qA1,xA1⟩:Lp)
theorem Re (c:Int) (ba:Int) (ro:Int) (l:List (List boxbook_entry)) (n:Int) (i:Int) (r:Rules) (b:Mir.Book) (x:Mir.Extras) (t:List Int) (hi:wz (c,ba,ro,l,n,i,r,b,x,t,())) :(Go.Mir.stepG lpA1 mA (fun y:Den (tyP lpA1.q)=>wz y∧Jy y<Jy (c,ba,ro,l,n,i,r,b,x,t,())) (c,ba,ro,l,n,i,r,b,x,t,())∧Go.Mir.stepE lpA1 mA (c,ba,ro,l,n,i,r,b,x,t,())=mA (c,ba,ro,l,n,i,r,b,x,t,())):=by
 refine cast (by kernel_rfl) (?_:let r1:Int:=(↑(List.length (l.getD i.toNat (dflt (Ty.nm Nm.boxbook_entry).slice))):Int);let r2:List boxbook_entry:=List.drop (Int.toNat 0) (l.getD i.toNat (dflt (Ty.nm Nm.boxbook_entry).slice));let r3:Int:=64000*i +(16:Int)*0;((decide (i<n)=true→(0≤i∧i <(↑l.length:Int))∧((cg fun x=>none)∧(r1 =(↑(List.length (l.getD i.toNat (dflt (Ty.nm Nm.boxbook_entry).slice))):Int)∧List.length (l.getD i.toNat (dflt (Ty.nm Nm.boxbook_entry).slice))≤(4000:Nat)∧Fo (l.getD i.toNat (dflt (Ty.nm Nm.boxbook_entry).slice)))∧((0:Int)≤0∧0≤r1)∧(i=i∧0≤i∧i≤4000∧i <(↑b.2.length:Int))∧geA r b t∧upB r3 c∧upB r3 ba∧upB r3 ro∧Ng r3 x∧upT r3 t)∧wz (c+ae fCh r2,ba+ae fFc r2,ro+ae fRo r2,l,n,IntKind.i64.wrap (i+1),r,b,Mir.Extras.mk (x.1+ae fWd r2) (x.2+ae (fNb r.8) r2) (x.3+ae fBy r2) (x.4+ae fLg r2) x.5,aQ t (fG b i) (ae fWk r2),())∧Jy (c+ae fCh r2,ba+ae fFc r2,ro+ae fRo r2,l,n,IntKind.i64.wrap (i+1),r,b,Mir.Extras.mk (x.1+ae fWd r2) (x.2+ae (fNb r.8) r2) (x.3+ae fBy r2) (x.4+ae fLg r2) x.5,aQ t (fG b i) (ae fWk r2),())<Jy (c,ba,ro,l,n,i,r,b,x,t,()))∧(decide (i<n)=false→True))∧(cond (decide (i<n)) (mA (c+ae fCh r2,ba+ae fFc r2,ro+ae fRo r2,l,n,IntKind.i64.wrap (i+1),r,b,Mir.Extras.mk (x.1+ae fWd r2) (x.2+ae (fNb r.8) r2) (x.3+ae fBy r2) (x.4+ae fLg r2) x.5,aQ t (fG b i) (ae fWk r2),())) (c,ba,ro,r,b,x,t,()))=mA (c,ba,ro,l,n,i,r,b,x,t,()))
 intro r1 r2 r3
 clear_value (hr1:r1=_) (hr2:r2=_) (hr3:r3=_)
 obtain ⟨⟨h1,h1c,h1a,h1b⟩,⟨h2,h3⟩,⟨hg,hbw,htl⟩,u1,u2,u3,⟨u4,u5,u6,u7⟩,u8⟩:=hi
 have h1:n =(l.length:Int):=h1
 have h1c:l.length=b.Boxes.length:=h1c
 have h1a:l.length≤4000:=h1a
 have h2:0≤i:=h2
 have h3:i≤n:=h3
 have htl :(t.length:Int)=r.Side+1:=htl
 have hnb:=hg.1.2
 refine fv (fun h=>?_) (fun h=>?_)
 ·have e1:IntKind.i64.wrap (i+1)=i+1:=aL (by omega) (by omega)
  have hd:l.drop i.toNat=l.getD i.toNat (dflt (Ty.nm Nm.boxbook_entry).slice)::l.drop (i+1).toNat:=aP h2 (by omega) _
  have hdb:b.Boxes.drop i.toNat=b.Boxes.getD i.toNat Box.zero::b.Boxes.drop (i+1).toNat:=aP h2 (by omega) _
  have hm:l.getD i.toNat (dflt (Ty.nm Nm.boxbook_entry).slice)∈l:=List.mem_of_mem_drop (i:=i.toNat) (by rw [hd];exact List.mem_cons_self)
  obtain ⟨hl4,hw⟩:=h1b _ hm
  generalize l.getD i.toNat (dflt (Ty.nm Nm.boxbook_entry).slice)=ys at *
  have e2:r2=ys:=hr2
  have e3:r3=64000*i:=by rw [hr3];omega
  have hbk:0≤fG b i∧fG b i≤r.Side:=H8 hbw h2 (by omega)
  rw [e1,e2,e3]
  have up :∀ {v:Int} {f:boxbook_entry→Int},upB (64000*i) v→(∀ y∈ys,0≤f y∧f y≤16)→upB (64000 *(i+1)) (v+ae f ys):=fun {v f} hv hf=>by
   obtain ⟨v0,v1⟩:=hv
   obtain ⟨c0,c1⟩:=yB hf
   exact ⟨by omega,by omega⟩
  refine ⟨⟨⟨h2,by omega⟩,⟨rfl,⟨hr1,hl4,hw⟩,⟨Int.le_refl _,by omega⟩,⟨rfl,h2,by omega,by show i <(b.Boxes.length:Int);omega⟩,⟨hg,hbw,htl⟩,u1,u2,u3,⟨u4,u5,u6,u7⟩,u8⟩,⟨⟨h1,h1c,h1a,h1b⟩,⟨?_,?_⟩,⟨hg,hbw,?_⟩,up u1 fun y hy=>lW (hw y hy),up u2 fun y _=>n8 y,up u3 fun y _=>lX y,⟨up u4 fun y hy=>qo (hw y hy),up u5 fun y _=>qn hnb y,up u6 fun y hy=>ql (hw y hy),up u7 fun y hy=>qm (hw y hy)⟩,?_⟩,?_⟩,?_⟩
  ·show 0≤i+1;omega
  ·show i+1≤n;omega
  ·show ((aQ t (fG b i) (ae fWk ys)).length:Int)=_
   rw [dz];exact htl
  ·intro v hv
   rcases iG hv with hv|rfl
   ·obtain ⟨v0,v1⟩:=u8 v hv
    exact ⟨v0,by show v≤64000 *(i+1);omega⟩
   ·exact up (mP u8 hbk.1 (by omega)) fun y _=>kH y
  ·show (n - (i+1)).toNat <(n - i).toNat;omega
  ·have p :∀ (f:boxbook_entry→Int) (v:Int),v+ae f ys+ae f (ay (l.drop (i+1).toNat))=v+ae f (ay (l.drop i.toNat)):=fun f v=>by
    rw [hd]
    show _=v+ae f (ys++ay (l.drop (i+1).toNat))
    rw [oL]
    omega
   show (c+ae fCh ys+ae fCh (ay (l.drop (i+1).toNat)),ba+ae fFc ys+ae fFc (ay (l.drop (i+1).toNat)),ro+ae fRo ys+ae fRo (ay (l.drop (i+1).toNat)),r,b,(⟨x.Wides+ae fWd ys+ae fWd (ay (l.drop (i+1).toNat)),x.NoBalls+ae (fNb r.NoBall) ys+ae (fNb r.NoBall) (ay (l.drop (i+1).toNat)),x.Byes+ae fBy ys+ae fBy (ay (l.drop (i+1).toNat)),x.LegByes+ae fLg ys+ae fLg (ay (l.drop (i+1).toNat)),x.Penalties⟩:Mir.Extras),cB (aQ t (fG b i) (ae fWk ys)) (b.Boxes.drop (i+1).toNat) (l.drop (i+1).toNat),())=_
   rw [p fCh,p fFc,p fRo,p fWd,p (fNb r.NoBall),p fBy,p fLg]
   unfold mA
   simp only
   rw [hdb,hd]
   rfl
 ·show (c,ba,ro,r,b,x,t,())=mA (c,ba,ro,l,n,i,r,b,x,t,())
  unfold mA E8
  simp only
  rw [aG (l:=l) (by omega),aG (l:=b.Boxes) (by omega)]
  simp only [ay,ae,Int.add_zero]
  rfl
noncomputable def Oe:LoopSum:=ai lpA1 mA wz
noncomputable def NF:Nat:=rid (aq Tryz.f70 0)
theorem PM:LoopOKp Tryz.prog 0 Tryz.f70.ntmps (aq Tryz.f70 0) (ai lpA1 mA wz):=
 ax lpA1 (an (CtrsOK.nil) _) mixed (LoopsOKp.cons (by kernel_rfl) PL .nil) mA wz Jy (fun |⟨c,ba,ro,l,n,i,r,b,x,t,⟨⟩⟩,hi=>Re c ba ro l n i r b x t hi)
noncomputable def lpB0:Lp:=(⟨0,az [pf] Tryz.f70,(fun _=>none),(bA Tryz.f70 1 0),qB0,xB0⟩:Lp)
theorem Rg (c:Int) (ba:Int) (ro:Int) (ru:Int) (wk:Int) (l:List Mir.Strip) (n:Int) (i:Int) (s:List ByteArray) (m:Int) (j:Int) (r:Rules) (b:Mir.Book) (x:Mir.Extras) (t:List Int) (st:Mir.Strip) (hi:wA (c,ba,ro,ru,wk,l,n,i,s,m,j,r,b,x,t,st,())) :(Go.Mir.stepG lpB0 pF (fun y:Den (tyP lpB0.q)=>wA y∧Jz y<Jz (c,ba,ro,ru,wk,l,n,i,s,m,j,r,b,x,t,st,())) (c,ba,ro,ru,wk,l,n,i,s,m,j,r,b,x,t,st,())∧Go.Mir.stepE lpB0 pF (c,ba,ro,ru,wk,l,n,i,s,m,j,r,b,x,t,st,())=pF (c,ba,ro,ru,wk,l,n,i,s,m,j,r,b,x,t,st,())):=by
 refine cast (by kernel_rfl) (?_ :((decide (j<m)=true→(0≤j∧j <(↑s.length:Int))∧wA (c,ba,ro,IntKind.i64.wrap (ru +(bF (s.getD j.toNat (dflt Ty.str))).1),wk,l,n,i,s,m,IntKind.i64.wrap (j+1),r,b,x,t,st,())∧Jz (c,ba,ro,IntKind.i64.wrap (ru +(bF (s.getD j.toNat (dflt Ty.str))).1),wk,l,n,i,s,m,IntKind.i64.wrap (j+1),r,b,x,t,st,())<Jz (c,ba,ro,ru,wk,l,n,i,s,m,j,r,b,x,t,st,()))∧(decide (j<m)=false→True))∧(cond (decide (j<m)) (pF (c,ba,ro,IntKind.i64.wrap (ru +(bF (s.getD j.toNat (dflt Ty.str))).1),wk,l,n,i,s,m,IntKind.i64.wrap (j+1),r,b,x,t,st,())) (c,ba,ro,ru,wk,l,n,i,r,b,x,t,st,()))=pF (c,ba,ro,ru,wk,l,n,i,s,m,j,r,b,x,t,st,()))
 obtain ⟨⟨h1,h1b⟩,⟨h2,h3⟩,⟨hi0,hi4⟩,u0,u1⟩:=hi
 have h1:m =(s.length:Int):=h1
 have h1b:s.length≤4000:=h1b
 have h2:0≤j:=h2
 have h3:j≤m:=h3
 have hi0:0≤i:=hi0
 have hi4:i≤4000:=hi4
 have u0:0≤ru:=u0
 have u1:ru≤64000*i+16*j:=u1
 refine fv (fun h=>?_) (fun h=>?_)
 ·have e1:IntKind.i64.wrap (j+1)=j+1:=aL (by omega) (by omega)
  have hd:s.drop j.toNat=s.getD j.toNat (dflt Ty.str)::s.drop (j+1).toNat:=aP h2 (by omega) _
  generalize s.getD j.toNat (dflt Ty.str)=w at *
  have hf:=DI w
  have e2:IntKind.i64.wrap (ru +(bF w).1)=ru +(bF w).1:=bf (by omega) (by omega)
  rw [e1,e2]
  refine ⟨⟨⟨h2,by omega⟩,⟨⟨h1,h1b⟩,⟨?_,?_⟩,⟨hi0,hi4⟩,?_,?_⟩,?_⟩,?_⟩
  ·show 0≤j+1;omega
  ·show j+1≤m;omega
  ·show 0≤ru +(bF w).1;omega
  ·show ru +(bF w).1≤64000*i+16 *(j+1);omega
  ·show (m - (j+1)).toNat <(m - j).toNat;omega
  ·have p:ru +(bF w).1+fP (s.drop (j+1).toNat)=ru+fP (s.drop j.toNat):=by
    rw [hd]
    show _=ru +((bF w).1+fP (s.drop (j+1).toNat))
    omega
   show (c,ba,ro,ru +(bF w).1+fP (s.drop (j+1).toNat),wk,l,n,i,r,b,x,t,st,())=_
   rw [p]
   rfl
 ·unfold pF
  simp only
  rw [aG (l:=s) (by omega)]
  show _ =(c,ba,ro,ru+0,wk,l,n,i,r,b,x,t,st,())
  rw [Int.add_zero]
noncomputable def TT:LoopSum:=ai lpB0 pF wA
noncomputable def Tl:Nat:=rid (bA Tryz.f70 1 0)
theorem PN:LoopOKp Tryz.prog 0 Tryz.f70.ntmps (bA Tryz.f70 1 0) (ai lpB0 pF wA):=
 ax lpB0 (an (.consU na rfl .nil) _) mixed (fun b hb S hS=>by cases hS) pF wA Jz (fun |⟨c,ba,ro,ru,wk,l,n,i,s,m,j,r,b,x,t,st,⟨⟩⟩,hi=>Rg c ba ro ru wk l n i s m j r b x t st hi)
noncomputable def lpB1:Lp:=(⟨0,az [pf] Tryz.f70,(find [(Tl,TT)]),(aq Tryz.f70 1),qB1,xB1⟩:Lp)
theorem Rh (c:Int) (ba:Int) (ro:Int) (ru:Int) (wk:Int) (l:List Mir.Strip) (n:Int) (i:Int) (r:Rules) (b:Mir.Book) (x:Mir.Extras) (t:List Int) (hi:wB (c,ba,ro,ru,wk,l,n,i,r,b,x,t,())) :(Go.Mir.stepG lpB1 mB (fun y:Den (tyP lpB1.q)=>wB y∧JA y<JA (c,ba,ro,ru,wk,l,n,i,r,b,x,t,())) (c,ba,ro,ru,wk,l,n,i,r,b,x,t,())∧Go.Mir.stepE lpB1 mB (c,ba,ro,ru,wk,l,n,i,r,b,x,t,())=mB (c,ba,ro,ru,wk,l,n,i,r,b,x,t,())):=by
 refine cast (by kernel_rfl) (?_:let r1:Int:=(↑(l.getD i.toNat (dflt (Ty.nm Nm.Strip))).2.length:Int);let r2:Bool:=(l.getD i.toNat (dflt (Ty.nm Nm.Strip))).3==6;let r3:Bool:=(l.getD i.toNat (dflt (Ty.nm Nm.Strip))).3==7;let r4:Int×Int×Int×Int×Int×Rules×Mir.Book×Mir.Extras×List Int×PUnit:=dflt (I.prod (I.prod (I.prod (I.prod (I.prod ((Ty.nm Nm.Rules).prod ((Ty.nm Nm.Book).prod (tXs.prod (I.slice.prod Ty.unit)))))))));let r5:Int:=IntKind.i64.wrap (ba - r1);let r6:Int:=ru+fP (List.drop (Int.toNat 0) (l.getD i.toNat (dflt (Ty.nm Nm.Strip))).2);let r7:Int:=cond ((l.getD i.toNat (dflt (Ty.nm Nm.Strip))).3 != 0) (IntKind.i64.wrap (wk+1)) wk;let r8:List Int:=t.set (l.getD i.toNat (dflt (Ty.nm Nm.Strip))).4.toNat (IntKind.i64.wrap (t.getD (l.getD i.toNat (dflt (Ty.nm Nm.Strip))).4.toNat (dflt (Ty.int IntKind.i64)) - 1));let r9:Bool:=cond r2 r2 (cond r3 r3 ((l.getD i.toNat (dflt (Ty.nm Nm.Strip))).3==8));((decide (i<n)=true→((0≤i∧i <(↑l.length:Int))∧((cg fun x=>none)∧(r1 =(↑(l.getD i.toNat (dflt (Ty.nm Nm.Strip))).2.length:Int)∧(l.getD i.toNat (dflt (Ty.nm Nm.Strip))).2.length≤(4000:Nat))∧((0:Int)≤0∧0≤r1)∧(0≤i∧i≤4000)∧upB (64000*i +(16:Int)*0) ru)∧(0≤(l.getD i.toNat (dflt (Ty.nm Nm.Strip))).4∧(l.getD i.toNat (dflt (Ty.nm Nm.Strip))).4 <(↑t.length:Int))∧(0≤(l.getD i.toNat (dflt (Ty.nm Nm.Strip))).4∧(l.getD i.toNat (dflt (Ty.nm Nm.Strip))).4 <(↑t.length:Int))∧(r9=true→True)∧(r9=false→True))∧(true=true→wB (cond r9 c c,cond r9 r5 r5,cond r9 (IntKind.i64.wrap (ro - 1)) ro,cond r9 r6 r6,cond r9 r7 r7,cond r9 l l,cond r9 n n,IntKind.i64.wrap ((cond r9 i i)+1),Rules.mk (cond r9 r.1 r.1) (cond r9 r.2 r.2) (cond r9 r.3 r.3) (cond r9 r.4 r.4) (cond r9 r.5 r.5) (cond r9 r.6 r.6) (cond r9 r.7 r.7) (cond r9 r.8 r.8) (cond r9 r.9 r.9) (cond r9 r.10 r.10) (cond r9 r.11 r.11) (cond r9 r.12 r.12) (cond r9 r.13 r.13) (cond r9 r.14 r.14),Mir.Book.mk (cond r9 b.1 b.1) (cond r9 b.2 b.2) (cond r9 b.3 b.3) (Mir.Extras.mk (cond r9 b.4.1 b.4.1) (cond r9 b.4.2 b.4.2) (cond r9 b.4.3 b.4.3) (cond r9 b.4.4 b.4.4) (cond r9 b.4.5 b.4.5)) (cond r9 b.5 b.5) (cond r9 b.6 b.6),Mir.Extras.mk (cond r9 x.1 x.1) (cond r9 x.2 x.2) (cond r9 x.3 x.3) (cond r9 x.4 x.4) (cond r9 x.5 x.5),cond r9 r8 r8,())∧JA (cond r9 c c,cond r9 r5 r5,cond r9 (IntKind.i64.wrap (ro - 1)) ro,cond r9 r6 r6,cond r9 r7 r7,cond r9 l l,cond r9 n n,IntKind.i64.wrap ((cond r9 i i)+1),Rules.mk (cond r9 r.1 r.1) (cond r9 r.2 r.2) (cond r9 r.3 r.3) (cond r9 r.4 r.4) (cond r9 r.5 r.5) (cond r9 r.6 r.6) (cond r9 r.7 r.7) (cond r9 r.8 r.8) (cond r9 r.9 r.9) (cond r9 r.10 r.10) (cond r9 r.11 r.11) (cond r9 r.12 r.12) (cond r9 r.13 r.13) (cond r9 r.14 r.14),Mir.Book.mk (cond r9 b.1 b.1) (cond r9 b.2 b.2) (cond r9 b.3 b.3) (Mir.Extras.mk (cond r9 b.4.1 b.4.1) (cond r9 b.4.2 b.4.2) (cond r9 b.4.3 b.4.3) (cond r9 b.4.4 b.4.4) (cond r9 b.4.5 b.4.5)) (cond r9 b.5 b.5) (cond r9 b.6 b.6),Mir.Extras.mk (cond r9 x.1 x.1) (cond r9 x.2 x.2) (cond r9 x.3 x.3) (cond r9 x.4 x.4) (cond r9 x.5 x.5),cond r9 r8 r8,())<JA (c,ba,ro,ru,wk,l,n,i,r,b,x,t,())))∧(decide (i<n)=false→True))∧(cond (decide (i<n)) (cond (true&&true) (mB (cond r9 c c,cond r9 r5 r5,cond r9 (IntKind.i64.wrap (ro - 1)) ro,cond r9 r6 r6,cond r9 r7 r7,cond r9 l l,cond r9 n n,IntKind.i64.wrap ((cond r9 i i)+1),Rules.mk (cond r9 r.1 r.1) (cond r9 r.2 r.2) (cond r9 r.3 r.3) (cond r9 r.4 r.4) (cond r9 r.5 r.5) (cond r9 r.6 r.6) (cond r9 r.7 r.7) (cond r9 r.8 r.8) (cond r9 r.9 r.9) (cond r9 r.10 r.10) (cond r9 r.11 r.11) (cond r9 r.12 r.12) (cond r9 r.13 r.13) (cond r9 r.14 r.14),Mir.Book.mk (cond r9 b.1 b.1) (cond r9 b.2 b.2) (cond r9 b.3 b.3) (Mir.Extras.mk (cond r9 b.4.1 b.4.1) (cond r9 b.4.2 b.4.2) (cond r9 b.4.3 b.4.3) (cond r9 b.4.4 b.4.4) (cond r9 b.4.5 b.4.5)) (cond r9 b.5 b.5) (cond r9 b.6 b.6),Mir.Extras.mk (cond r9 x.1 x.1) (cond r9 x.2 x.2) (cond r9 x.3 x.3) (cond r9 x.4 x.4) (cond r9 x.5 x.5),cond r9 r8 r8,())) (cond true (mB (cond r9 c c,cond r9 r5 r5,cond r9 (IntKind.i64.wrap (ro - 1)) ro,cond r9 r6 r6,cond r9 r7 r7,cond r9 l l,cond r9 n n,IntKind.i64.wrap ((cond r9 i i)+1),Rules.mk (cond r9 r.1 r.1) (cond r9 r.2 r.2) (cond r9 r.3 r.3) (cond r9 r.4 r.4) (cond r9 r.5 r.5) (cond r9 r.6 r.6) (cond r9 r.7 r.7) (cond r9 r.8 r.8) (cond r9 r.9 r.9) (cond r9 r.10 r.10) (cond r9 r.11 r.11) (cond r9 r.12 r.12) (cond r9 r.13 r.13) (cond r9 r.14 r.14),Mir.Book.mk (cond r9 b.1 b.1) (cond r9 b.2 b.2) (cond r9 b.3 b.3) (Mir.Extras.mk (cond r9 b.4.1 b.4.1) (cond r9 b.4.2 b.4.2) (cond r9 b.4.3 b.4.3) (cond r9 b.4.4 b.4.4) (cond r9 b.4.5 b.4.5)) (cond r9 b.5 b.5) (cond r9 b.6 b.6),Mir.Extras.mk (cond r9 x.1 x.1) (cond r9 x.2 x.2) (cond r9 x.3 x.3) (cond r9 x.4 x.4) (cond r9 x.5 x.5),cond r9 r8 r8,())) (cond r9 r4 r4))) (c,ba,ro,ru,wk,r,b,x,t,()))=mB (c,ba,ro,ru,wk,l,n,i,r,b,x,t,()))
 intro r1 r2 r3 r4 r5 r6 r7 r8 r9
 clear_value (hr1:r1=_) (hr2:r2=_) (hr3:r3=_) (hr4:r4=_) (hr5:r5=_) (hr6:r6=_) (hr7:r7=_) (hr8:r8=_) (hr9:r9=_)
 simp only [Bool.cond_self] at *
 obtain ⟨⟨h1,⟨h1a,h1b⟩,hbl⟩,⟨h2,h3⟩,⟨hg,hbw,htl⟩,⟨u1,v1⟩,⟨u2,v2⟩,⟨u3,v3⟩,⟨u4,v4⟩,u8⟩:=hi
 have h1:n =(l.length:Int):=h1
 have h1a:l.length≤4000:=h1a
 have hbl:b.Strips=l:=hbl
 have h2:0≤i:=h2
 have h3:i≤n:=h3
 have htl :(t.length:Int)=r.Side+1:=htl
 have u1:-(4000*i)≤ba:=u1
 have v1:ba≤300000000:=v1
 have u2:-i≤ro:=u2
 have v2:ro≤300000000:=v2
 have u3:0≤ru:=u3
 have v3:ru≤64000*i:=v3
 have u4:0≤wk:=u4
 have v4:wk≤i:=v4
 refine fv (fun h=>?_) (fun h=>?_)
 ·have e1:IntKind.i64.wrap (i+1)=i+1:=aL (by omega) (by omega)
  have hd:l.drop i.toNat=l.getD i.toNat (dflt (Ty.nm Nm.Strip))::l.drop (i+1).toNat:=aP h2 (by omega) _
  have hm:l.getD i.toNat (dflt (Ty.nm Nm.Strip))∈l:=List.mem_of_mem_drop (i:=i.toNat) (by rw [hd];exact List.mem_cons_self)
  have hx:=h1b _ hm
  have hbx:=hbw.2 _ (by rw [hbl];exact hm)
  generalize l.getD i.toNat (dflt (Ty.nm Nm.Strip))=y at *
  have hrb:=EN y.Symbols
  have hy0:0≤y.Bowler:=hbx.1
  have hyl:y.Bowler <(t.length:Int):=by omega
  obtain ⟨g0,g1⟩:=mP u8 hy0 hyl
  have e5:r5=ba - gLn y:=by
   rw [hr5,hr1]
   exact bf (by omega) (by omega)
  have e6:r6=ru+gRn y:=hr6
  have hgo:0≤gOt y∧gOt y≤1:=by unfold gOt;split <;> decide
  have hgr:0≤gRo y∧gRo y≤1:=by unfold gRo;split <;> decide
  have e7:r7=wk+gOt y:=by
   rw [hr7]
   unfold gOt
   show (bif y.How != 0 then IntKind.i64.wrap (wk+1) else wk)=wk+if y.How==0 then 0 else 1
   cases hz:y.How==0 with
   | true=>rw [show (y.How != 0)=false by rw [bne,hz];rfl];show wk=wk+0;omega
   | false=>rw [show (y.How != 0)=true by rw [bne,hz];rfl];exact bf (by omega) (by omega)
  have e9 :(bif r9 then IntKind.i64.wrap (ro - 1) else ro)=ro - gRo y:=by
   have:r9 =(y.How==6 ||(y.How==7||y.How==8)):=by
    rw [hr9,hr2,hr3]
    cases hz:y.How==6 <;> cases hq:y.How==7 <;> rfl
   rw [this]
   unfold gRo
   cases (y.How==6 ||(y.How==7||y.How==8)) with
   | true=>exact bf (by omega) (by omega)
   | false=>show ro=ro - 0;omega
  have e8:r8=aQ t y.Bowler (-1):=by
   rw [hr8]
   show t.set y.Bowler.toNat (IntKind.i64.wrap (t.getD y.Bowler.toNat 0 - 1))=t.set y.Bowler.toNat (t.getD y.Bowler.toNat 0 + -1)
   rw [show IntKind.i64.wrap (t.getD y.Bowler.toNat 0 - 1)=t.getD y.Bowler.toNat 0 + -1 from bf (by omega) (by omega)]
  rw [e5,e6,e7,e8,e9,e1]
  have hgl:0≤gLn y∧gLn y≤4000:=by unfold gLn;omega
  have hgn:0≤gRn y∧gRn y≤44000:=by unfold gRn;omega
  refine ⟨⟨⟨⟨h2,by omega⟩,⟨rfl,⟨hr1,hx⟩,⟨Int.le_refl _,by omega⟩,⟨h2,by omega⟩,u3,by omega⟩,⟨hy0,hyl⟩,⟨hy0,hyl⟩,fun _=>trivial,fun _=>trivial⟩,fun _=>⟨⟨⟨h1,⟨h1a,h1b⟩,hbl⟩,⟨?_,?_⟩,⟨hg,hbw,?_⟩,⟨?_,?_⟩,⟨?_,?_⟩,⟨?_,?_⟩,⟨?_,?_⟩,?_⟩,?_⟩⟩,?_⟩
  ·show 0≤i+1;omega
  ·show i+1≤n;omega
  ·show ((aQ t y.Bowler (-1)).length:Int)=_
   rw [dz];exact htl
  ·show -(4000 *(i+1))≤ba - gLn y;omega
  ·show ba - gLn y≤300000000;omega
  ·show -(i+1)≤ro - gRo y;omega
  ·show ro - gRo y≤300000000;omega
  ·show 0≤ru+gRn y;omega
  ·show ru+gRn y≤64000 *(i+1);omega
  ·show 0≤wk+gOt y;omega
  ·show wk+gOt y≤i+1;omega
  ·intro v hv
   rcases iG hv with hv|rfl
   ·obtain ⟨v0,v1⟩:=u8 v hv
    exact ⟨by show -(i+1)≤v;omega,v1⟩
   ·exact ⟨by show -(i+1)≤_;omega,by omega⟩
  ·show (n - (i+1)).toNat <(n - i).toNat;omega
  ·have p :∀ (f:Mir.Strip→Int) (v:Int),v+f y+aM f (l.drop (i+1).toNat)=v+aM f (l.drop i.toNat):=fun f v=>by
    rw [hd]
    show _=v +(f y+aM f (l.drop (i+1).toNat))
    omega
   have pm :∀ (f:Mir.Strip→Int) (v:Int),v - f y - aM f (l.drop (i+1).toNat)=v - aM f (l.drop i.toNat):=fun f v=>by
    rw [hd]
    show _=v - (f y+aM f (l.drop (i+1).toNat))
    omega
   show (c,ba - gLn y - aM gLn (l.drop (i+1).toNat),ro - gRo y - aM gRo (l.drop (i+1).toNat),ru+gRn y+aM gRn (l.drop (i+1).toNat),wk+gOt y+aM gOt (l.drop (i+1).toNat),r,b,x,jX (aQ t y.Bowler (-1)) (l.drop (i+1).toNat),())=_
   rw [pm gLn,pm gRo,p gRn,p gOt]
   unfold mB
   simp only
   rw [hd]
   rfl
 ·unfold mB
  simp only
  rw [aG (l:=l) (by omega)]
  show _ =(c,ba - 0,ro - 0,ru+0,wk+0,r,b,x,t,())
  simp only [Int.add_zero,Int.sub_zero]
noncomputable def Og:LoopSum:=ai lpB1 mB wB
noncomputable def NG:Nat:=rid (aq Tryz.f70 1)
theorem PO:LoopOKp Tryz.prog 0 Tryz.f70.ntmps (aq Tryz.f70 1) (ai lpB1 mB wB):=
 ax lpB1 (an (.consU na rfl .nil) _) mixed (LoopsOKp.cons (by kernel_rfl) PN .nil) mB wB JA (fun |⟨c,ba,ro,ru,wk,l,n,i,r,b,x,t,⟨⟩⟩,hi=>Rh c ba ro ru wk l n i r b x t hi)
noncomputable def lpK0:Lp:=(⟨0,az [] Tryz.f70,(fun _=>none),(aq Tryz.f70 2),qK0,xK0⟩:Lp)
theorem Rx (c:Int) (ba:Int) (ro:Int) (ru:Int) (wk:Int) (l:List Int) (n:Int) (i:Int) (b:Mir.Book) (x:Mir.Extras) (hi:wN (c,ba,ro,ru,wk,l,n,i,b,x,())) :(Go.Mir.stepG lpK0 jn (fun y:Den (tyP lpK0.q)=>wN y∧JL y<JL (c,ba,ro,ru,wk,l,n,i,b,x,())) (c,ba,ro,ru,wk,l,n,i,b,x,())∧Go.Mir.stepE lpK0 jn (c,ba,ro,ru,wk,l,n,i,b,x,())=jn (c,ba,ro,ru,wk,l,n,i,b,x,())):=by
 refine cast (by kernel_rfl) (?_:let r1:Bool:=l.getD i.toNat (dflt (Ty.int IntKind.i64)) != 0;((decide (i<n)=true→(0≤i∧i <(↑l.length:Int))∧(r1=true→True)∧(r1=false→wN (c,ba,ro,ru,wk,l,n,IntKind.i64.wrap (i+1),b,x,())∧JL (c,ba,ro,ru,wk,l,n,IntKind.i64.wrap (i+1),b,x,())<JL (c,ba,ro,ru,wk,l,n,i,b,x,())))∧(decide (i<n)=false→True))∧(cond (decide (i<n)) (cond r1 (Sum.inr (false,())) (jn (c,ba,ro,ru,wk,l,n,IntKind.i64.wrap (i+1),b,x,()))) (Sum.inl (c,ba,ro,ru,wk,b,x,())))=jn (c,ba,ro,ru,wk,l,n,i,b,x,()))
 intro r1
 clear_value (hr1:r1=_)
 obtain ⟨⟨h1,h1b⟩,h2,h3⟩:=hi
 have h1:n =(l.length:Int):=h1
 have h1b:l.length≤4000:=h1b
 have h2:0≤i:=h2
 have h3:i≤n:=h3
 refine fv (fun h=>?_) (fun h=>?_)
 ·have e1:IntKind.i64.wrap (i+1)=i+1:=aL (by omega) (by omega)
  have hd:l.drop i.toNat=l.getD i.toNat (dflt (Ty.int IntKind.i64))::l.drop (i+1).toNat:=aP h2 (by omega) _
  generalize l.getD i.toNat (dflt (Ty.int IntKind.i64))=w at *
  rw [e1]
  refine ⟨⟨⟨h2,by omega⟩,fun _=>trivial,fun _=>⟨⟨⟨h1,h1b⟩,?_,?_⟩,?_⟩⟩,?_⟩
  ·show 0≤i+1;omega
  ·show i+1≤n;omega
  ·show (n - (i+1)).toNat <(n - i).toNat;omega
  ·unfold jn
   simp only
   rw [hd,List.all_cons,hr1]
   show (bif w != 0 then _ else _) =(if (w==0&&_)=true then _ else _)
   rw [bne]
   cases w==0 <;> rfl
 ·unfold jn
  simp only
  rw [aG (l:=l) (by omega)]
  rfl
noncomputable def Oq:LoopSum:=ai lpK0 jn wN
noncomputable def NP:Nat:=rid (aq Tryz.f70 2)
theorem P1:LoopOKp Tryz.prog 0 Tryz.f70.ntmps (aq Tryz.f70 2) (ai lpK0 jn wN):=
 ax lpK0 (an (CtrsOK.nil) _) mixed (fun b hb S hS=>by cases hS) jn wN JL (fun |⟨c,ba,ro,ru,wk,l,n,i,b,x,⟨⟩⟩,hi=>Rx c ba ro ru wk l n i b x hi)
theorem CK (r:Rules) (b:Mir.Book) (es:List (List boxbook_entry)) (hd:ndA r b es) :(evPat (az [] Tryz.f70) (find [(NF,Oe),(NG,Og),(NP,Oq)]) Tryz.f70 MN dT (r,b,es,())).sat fun z_=>z_ =(QP (r,b,es,())).2:=by
 refine cast (by kernel_rfl) (?_:let r1:Int:=IntKind.i64.wrap (r.2+1);let r2:Int:=(64000:Int)*0;let r3:Int:=0+ae fFc (ay (List.drop (Int.toNat 0) es));let r4:Int:=0+ae fRo (ay (List.drop (Int.toNat 0) es));let r5:List Int:=List.replicate r1.toNat 0;let r6:List Int:=cB r5 (List.drop (Int.toNat 0) b.2) (List.drop (Int.toNat 0) es);let r7:List Int:=jX r6 (List.drop (Int.toNat 0) b.3);let r8:Int:=(↑r7.length:Int);let r9:List Int:=List.drop (Int.toNat 1) (List.take r8.toNat r7);let r10:Int:=(↑r9.length:Int);let r11:Bool:=isL (jn (0+ae fCh (ay (List.drop (Int.toNat 0) es)),r3 - aM gLn (List.drop (Int.toNat 0) b.3),r4 - aM gRo (List.drop (Int.toNat 0) b.3),0+aM gRn (List.drop (Int.toNat 0) b.3),0+aM gOt (List.drop (Int.toNat 0) b.3),r9,r10,0,b,Mir.Extras.mk (0+ae fWd (ay (List.drop (Int.toNat 0) es))) (0+ae (fNb r.8) (ay (List.drop (Int.toNat 0) es))) (0+ae fBy (ay (List.drop (Int.toNat 0) es))) (0+ae fLg (ay (List.drop (Int.toNat 0) es))) 0,()));let r12:Int×Int×Int×Int×Int×Mir.Book×Mir.Extras×PUnit:=oc (dflt (I.prod (I.prod (I.prod (I.prod (I.prod ((Ty.nm Nm.Book).prod (tXs.prod Ty.unit)))))))) (jn (0+ae fCh (ay (List.drop (Int.toNat 0) es)),r3 - aM gLn (List.drop (Int.toNat 0) b.3),r4 - aM gRo (List.drop (Int.toNat 0) b.3),0+aM gRn (List.drop (Int.toNat 0) b.3),0+aM gOt (List.drop (Int.toNat 0) b.3),r9,r10,0,b,Mir.Extras.mk (0+ae fWd (ay (List.drop (Int.toNat 0) es))) (0+ae (fNb r.8) (ay (List.drop (Int.toNat 0) es))) (0+ae fBy (ay (List.drop (Int.toNat 0) es))) (0+ae fLg (ay (List.drop (Int.toNat 0) es))) 0,()));let r13:Bool:=r12.2.1==0;let r14:Bool:=r12.2.2.1==0;let r15:Bool:=r12.2.2.2.2.2.1.4.5.tmod (5:Int)==0;let r16:Bool:=r12.2.2.2.1==IntKind.i64.wrap (IntKind.i64.wrap (r12.1 - r12.2.2.2.2.2.1.4.1) - r12.2.2.2.2.2.1.4.2);let r17:Bool:=r12.2.2.2.2.2.1.5==IntKind.i64.wrap (IntKind.i64.wrap (IntKind.i64.wrap (r12.1+r12.2.2.2.2.2.1.4.3)+r12.2.2.2.2.2.1.4.4)+r12.2.2.2.2.2.1.4.5);let r18:Bool:=r12.2.2.2.2.2.1.4.1==r12.2.2.2.2.2.2.1.1&&(r12.2.2.2.2.2.1.4.2==r12.2.2.2.2.2.2.1.2&&(r12.2.2.2.2.2.1.4.3==r12.2.2.2.2.2.2.1.3&&(r12.2.2.2.2.2.1.4.4==r12.2.2.2.2.2.2.1.4&&(r12.2.2.2.2.2.1.4.5==r12.2.2.2.2.2.1.4.5&&true))));(0≤r1∧r1=r1∧r1≤17179869184)∧((cg fun x=>none)∧((↑es.length:Int) =(↑es.length:Int)∧es.length=b.2.length∧es.length≤(4000:Nat)∧G8 es)∧((0:Int)≤0∧0≤(↑es.length:Int))∧geA r b r5∧upB r2 0∧upB r2 0∧upB r2 0∧Ng r2 (Mir.Extras.mk 0 0 0 0 0)∧upT r2 r5)∧((cg fun x=>none)∧((↑b.3.length:Int) =(↑b.3.length:Int)∧smY b.3∧b.3=b.3)∧((0:Int)≤0∧0≤(↑b.3.length:Int))∧geA r b r6∧btB ((4000:Int)*0) 300000000 r3∧btB 0 300000000 r4∧upB r2 0∧upB 0 0∧∀ (v:Int),v∈r6→btB 0 300000000 v)∧((0:Int)≤1∧1≤r8∧r8≤r8)∧((cg fun x=>none)∧(r10 =(↑r9.length:Int)∧r9.length≤(4000:Nat))∧(0:Int)≤0∧0≤r10)∧(r11=true→((r13=true→(r14=true→(r16=true→(r18=true→(5:Int)≠0∧(r15=true→(r17=true→True)∧(r17=false→True))∧(r15=false→True))∧(r18=false→True))∧(r16=false→True))∧(r14=false→True))∧(r13=false→True))∧(true=true→(cond r13 (cond r14 (cond r16 (cond r18 (cond r15 (cond r17 (r12.2.2.2.2.2.1.6==r12.2.2.2.2.1) false) false) false) false) false) false,()) =(lG r b es,())))∧(r11=false→jT (dflt (Ty.bool.prod Ty.unit)) (jn (0+ae fCh (ay (List.drop (Int.toNat 0) es)),r3 - aM gLn (List.drop (Int.toNat 0) b.3),r4 - aM gRo (List.drop (Int.toNat 0) b.3),0+aM gRn (List.drop (Int.toNat 0) b.3),0+aM gOt (List.drop (Int.toNat 0) b.3),r9,r10,0,b,Mir.Extras.mk (0+ae fWd (ay (List.drop (Int.toNat 0) es))) (0+ae (fNb r.8) (ay (List.drop (Int.toNat 0) es))) (0+ae fBy (ay (List.drop (Int.toNat 0) es))) (0+ae fLg (ay (List.drop (Int.toNat 0) es))) 0,())) =(lG r b es,())))
 intro r1 r2 r3 r4 r5 r6 r7 r8 r9 r10 r11 r12 r13 r14 r15 r16 r17 r18
 clear_value (hr1:r1=_) (hr2:r2=_) (hr3:r3=_) (hr4:r4=_) (hr5:r5=_) (hr6:r6=_) (hr7:r7=_) (hr8:r8=_) (hr9:r9=_) (hr10:r10=_) (hr11:r11=_) (hr12:r12=_) (hr13:r13=_) (hr14:r14=_) (hr15:r15=_) (hr16:r16=_) (hr17:r17=_) (hr18:r18=_)
 obtain ⟨⟨hl,hl4,hes⟩,⟨hg,hbw⟩,hst,hsum⟩:=hd
 obtain ⟨hwn,⟨hb0,hb1⟩,hs0,hs1⟩:=id hg
 have e1:r1=r.Side+1:=by rw [hr1];exact bf (by omega) (by omega)
 have e5:r5=List.replicate (r.Side.toNat+1) 0:=by rw [hr5,e1];congr 1;omega
 have e6:r6=cB r5 b.Boxes es:=hr6
 have e7:r7=jX r6 b.Strips:=hr7
 have l5 :(r5.length:Int)=r.Side+1:=by rw [e5,List.length_replicate];omega
 have l6 :(r6.length:Int)=r.Side+1:=by rw [e6,kp];exact l5
 have l7 :(r7.length:Int)=r.Side+1:=by rw [e7,ub];exact l6
 have e9:r9=r7.drop 1:=by
  rw [hr9,hr8]
  show List.drop 1 (List.take ((r7.length:Int)).toNat r7)=_
  rw [Int.toNat_natCast,List.take_length]
 have l9:r9.length≤4000:=by rw [e9,List.length_drop];omega
 have hc:=pU (f:=fCh) (fun y h=>lW h) hes
 have hf:=pU (f:=fFc) (fun y _=>n8 y) hes
 have ho:=pU (f:=fRo) (fun y _=>lX y) hes
 have e3:r3=ae fFc (ay es):=by rw [hr3];exact Int.zero_add _
 have e4:r4=ae fRo (ay es):=by rw [hr4];exact Int.zero_add _
 have u5:upT 0 r5:=fun v hv=>by
  rw [e5] at hv
  have:=(List.mem_replicate.1 hv).2
  rw [this]
  exact ⟨Int.le_refl _,Int.le_refl _⟩
 have u6 :∀ v∈r6,btB 0 300000000 v:=fun v hv=>by
  rw [e6] at hv
  obtain ⟨a,c⟩:=uS (Int.le_refl 0) u5 hes v hv
  exact ⟨by omega,by omega⟩
 have e2:r2=0:=by rw [hr2];rfl
 have z0:upB r2 0:=by rw [e2];exact ⟨Int.le_refl _,Int.le_refl _⟩
 have w1:=eG hsum (v:=b.Total) (by unfold bV;simp)
 have w2:=eG hsum (v:=b.Extras.Wides) (by unfold bV;simp)
 have w3:=eG hsum (v:=b.Extras.NoBalls) (by unfold bV;simp)
 have w4:=eG hsum (v:=b.Extras.Byes) (by unfold bV;simp)
 have w5:=eG hsum (v:=b.Extras.LegByes) (by unfold bV;simp)
 have w6:=eG hsum (v:=b.Extras.Penalties) (by unfold bV;simp)
 refine ⟨⟨by omega,rfl,by omega⟩,⟨rfl,⟨rfl,hl,hl4,hes⟩,⟨Int.le_refl _,by omega⟩,⟨hg,hbw,l5⟩,z0,z0,z0,⟨z0,z0,z0,z0⟩,by rw [e2];exact u5⟩,⟨rfl,⟨rfl,hst,rfl⟩,⟨Int.le_refl _,by omega⟩,⟨hg,hbw,l6⟩,⟨by rw [e3];show -(4000*0)≤_;omega,by rw [e3];omega⟩,⟨by rw [e4];omega,by rw [e4];omega⟩,z0,⟨Int.le_refl _,Int.le_refl _⟩,u6⟩,⟨by decide,by rw [hr8];omega,Int.le_refl _⟩,⟨rfl,⟨hr10,l9⟩,Int.le_refl _,by rw [hr10];omega⟩,?_⟩
 have hag:=E9 (r:=r) (b:=b) (es:=es) (fun x hx=>(hbw.1 x hx).1) (fun x hx=>(hbw.2 x hx).1)
 have hz :(List.drop (Int.toNat 0) r9).all (fun v=>v==0) =((jX (cB (List.replicate (r.Side.toNat+1) 0) b.Boxes es) b.Strips).drop 1).all (fun v=>v==0):=by
  rw [e9,e7,e6,e5]
  rfl
 rw [←hz] at hag
 unfold jn at hr11 hr12 ⊢
 simp only at hr11 hr12 ⊢
 cases hA :(List.drop (Int.toNat 0) r9).all (fun v=>v==0) with
 | false=>
  rw [hA] at hr11 hag
  refine ⟨fun h=>?_,fun _=>?_⟩
  ·rw [hr11] at h;cases h
  ·rw [hag];rfl
 | true=>
  rw [hA] at hr11 hr12 hag
  have e11:r11=true:=hr11
  rw [if_pos rfl] at hr12
  have hr12:r12=_:=hr12
  refine ⟨fun _=>⟨⟨fun _=>⟨fun _=>⟨fun _=>⟨fun _=>⟨by decide,fun _=>⟨fun _=>trivial,fun _=>trivial⟩,fun _=>trivial⟩,fun _=>trivial⟩,fun _=>trivial⟩,fun _=>trivial⟩,fun _=>trivial⟩,fun _=>?_⟩,fun h=>by rw [e11] at h;cases h⟩
  rw [hag]
  have x1:r12.1=ae fCh (ay es):=by rw [hr12];exact Int.zero_add _
  have x2:r12.2.1=ae fFc (ay es) - aM gLn b.Strips:=by rw [hr12];show r3 - _=_;rw [e3];rfl
  have x3:r12.2.2.1=ae fRo (ay es) - aM gRo b.Strips:=by rw [hr12];show r4 - _=_;rw [e4];rfl
  have x4:r12.2.2.2.1=aM gRn b.Strips:=by rw [hr12];exact Int.zero_add _
  have x5:r12.2.2.2.2.1=aM gOt b.Strips:=by rw [hr12];exact Int.zero_add _
  have x6:r12.2.2.2.2.2.1=b:=by rw [hr12];rfl
  have x7:r12.2.2.2.2.2.2.1 =⟨ae fWd (ay es),ae (fNb r.NoBall) (ay es),ae fBy (ay es),ae fLg (ay es),0⟩:=by
   rw [hr12]
   show (⟨0+_,0+_,0+_,0+_,0⟩:Mir.Extras)=_
   simp only [Int.zero_add]
   rfl
  rw [x2] at hr13
  rw [x3] at hr14
  rw [x6] at hr15
  rw [x4,x1,x6] at hr16
  rw [x6,x1] at hr17
  rw [x6,x7] at hr18
  rw [x6,x5]
  have y1:IntKind.i64.wrap (ae fCh (ay es) - b.Extras.Wides)=ae fCh (ay es) - b.Extras.Wides:=bf (by omega) (by omega)
  have y2:IntKind.i64.wrap (ae fCh (ay es) - b.Extras.Wides - b.Extras.NoBalls)=ae fCh (ay es) - b.Extras.Wides - b.Extras.NoBalls:=bf (by omega) (by omega)
  have y3:IntKind.i64.wrap (ae fCh (ay es)+b.Extras.Byes)=ae fCh (ay es)+b.Extras.Byes:=bf (by omega) (by omega)
  have y4:IntKind.i64.wrap (ae fCh (ay es)+b.Extras.Byes+b.Extras.LegByes)=ae fCh (ay es)+b.Extras.Byes+b.Extras.LegByes:=bf (by omega) (by omega)
  have y5:IntKind.i64.wrap (ae fCh (ay es)+b.Extras.Byes+b.Extras.LegByes+b.Extras.Penalties)=ae fCh (ay es)+b.Extras.Byes+b.Extras.LegByes+b.Extras.Penalties:=bf (by omega) (by omega)
  rw [y1,y2] at hr16
  rw [y3,y4,y5] at hr17
  congr 1
  rw [hr13,hr14,hr15,hr16,hr17,hr18,Bool.eq_iff_iff]
  unfold Lu
  simp only [Bool.cond_false_right,Bool.and_eq_true,beq_iff_eq,true_and,and_true,Bool.true_and]
  constructor
  ·rintro ⟨q1,q2,q3,⟨q4,q5,q6,q7⟩,q8,q9,q10⟩
   exact ⟨by omega,by omega,q3,q4,q5,q6,q7,q8,q9,q10⟩
  ·rintro ⟨q1,q2,q3,q4,q5,q6,q7,q8,q9,q10⟩
   exact ⟨by omega,by omega,q3,⟨q4,q5,q6,q7⟩,q8,q9,q10⟩
def xc:FuncId×Ctr:=(70,aj KE MN dT QP)
theorem D9:CtrOK Tryz.prog KE 70 (aj KE MN dT QP):=by
 refine aO (C:=az [] Tryz.f70) (an (CtrsOK.nil) _) mixed (fn:=Tryz.f70) Tryz.func70 (by kernel_rfl) (by kernel_rfl) (by kernel_rfl) (by kernel_rfl) (by kernel_rfl) (by kernel_rfl) (Λ:=fun x=>find [(NF,Oe),(NG,Og),(NP,Oq)]) ?_ ?_
 ·rintro ⟨r,b,es,⟨⟩⟩ hw hn
  exact LoopsOKp.at (by kernel_rfl) (.cons (by kernel_rfl) (PM) (.cons (by kernel_rfl) (PO) (.cons (by kernel_rfl) (P1) .nil)))
 ·rintro ⟨r,b,es,⟨⟩⟩ hw hn
  exact CK r b es (hn _ List.mem_cons_self)
abbrev Sy:PB:= .cells [.h I,.h I,.h I,.h I,.h I,.h I,.h I,.c (.osl 3 4)]
abbrev Um:PB:= .cells [.c .any,.c .any,.c .any,.c .any,.c .any,.c .any,.c .any,.c .any]
abbrev hpG:List (Nat×PB):= [(0,.dat (.nm .Rules)),(1,.dat (.nm .Book)),(2,Sy),(3,.row 4 I),(5,Um)]
abbrev tmG:List (Nat×PC):= [(1,.h tSys),(3,.c (.ptr 0 0)),(5,.c (.ptr 1 0)),(6,.c (.ptr 5 0)),(7,.c (.ptr 2 0))]
abbrev R6:List (Nat×PC):= [(20,.h tBxs),(21,.h I),(22,.h I)]
abbrev SU:List (Nat×PB):= [(0,.dat (.nm .Rules)),(1,.dat (.nm .Book)),(2,Sy),(3,.row 4 I),(5,Um),(6,.dat (.nm .Box))]
abbrev qG0:Pat:=⟨tmG++R6++[(9,.c (.ptr 6 0)),(27,.h (.slice .str)),(28,.h I),(29,.h I)],SU,7⟩
abbrev xG0:List (Lf×Pat):= [(.ext 2,⟨tmG++R6++[(9,.c (.ptr 6 0))],SU,7⟩)]
abbrev TG0:Type:=List ref21_Symbol×List Mir.Box×Int×Int×List ByteArray×Int×Int×Rules×Mir.Book×Int×Int×Int×Int×Int×Int×Int×List Int×Mir.Box×Unit
abbrev Ur:Type:=List ref21_Symbol×List Mir.Box×Int×Int×Rules×Mir.Book×Int×Int×Int×Int×Int×Int×Int×List Int×Mir.Box×Unit
def nO:TG0→Ur
 |(a,l,n,i,s,_,j,r,b,fc,ch,wd,nb,by_,lg,ot,t,x,_)=>(a,l,n,i,r,b,fc+ae fFc ((s.drop j.toNat).map (bE r)),ch+ae fCh ((s.drop j.toNat).map (bE r)),wd+ae fWd ((s.drop j.toNat).map (bE r)),nb+ae (fNb r.NoBall) ((s.drop j.toNat).map (bE r)),by_+ae fBy ((s.drop j.toNat).map (bE r)),lg+ae fLg ((s.drop j.toNat).map (bE r)),ot+ae fRo ((s.drop j.toNat).map (bE r)),aQ t x.Bowler (ae fWk ((s.drop j.toNat).map (bE r))),x,())
def upG (u fc ch wd nb by_ lg ot:Int) (t:List Int):Prop:=upB u fc∧upB u ch∧upB u wd∧upB u nb∧upB u by_∧upB u lg∧upB u ot∧upT u t
def geG (r:Rules) (a:List ref21_Symbol) (t:List Int):Prop:=rdG r∧isS r a∧(t.length:Int)=r.Side+1
def inG (r:Rules) (x:Mir.Box):Prop:=0≤x.Bowler∧x.Bowler≤r.Side
def wK:TG0→Prop
 |(a,_,_,i,s,m,j,r,_,fc,ch,wd,nb,by_,lg,ot,t,x,_)=>(m =(s.length:Int)∧s.length≤4000∧uo r s)∧(0≤j∧j≤m)∧(0≤i∧i≤4000)∧geG r a t∧inG r x∧upG (64000*i+16*j) fc ch wd nb by_ lg ot t
def JJ:TG0→Nat
 |(_,_,_,_,_,m,j,_)=>(m - j).toNat
abbrev qG1:Pat:=⟨tmG++R6,hpG,6⟩
abbrev xG1:List (Lf×Pat):= [(.ext 0,⟨tmG,hpG,6⟩)]
abbrev TG1:Type:=List ref21_Symbol×List Mir.Box×Int×Int×Rules×Mir.Book×Int×Int×Int×Int×Int×Int×Int×List Int×Unit
abbrev Us:Type:=List ref21_Symbol×Rules×Mir.Book×Int×Int×Int×Int×Int×Int×Int×List Int×Unit
def esG (r:Rules) (l:List Mir.Box):List (List boxbook_entry):=l.map fun x=>x.Symbols.map (bE r)
def nP:TG1→Us
 |(a,l,_,i,r,b,fc,ch,wd,nb,by_,lg,ot,t,_)=>(a,r,b,fc+ae fFc (ay (esG r (l.drop i.toNat))),ch+ae fCh (ay (esG r (l.drop i.toNat))),wd+ae fWd (ay (esG r (l.drop i.toNat))),nb+ae (fNb r.NoBall) (ay (esG r (l.drop i.toNat))),by_+ae fBy (ay (esG r (l.drop i.toNat))),lg+ae fLg (ay (esG r (l.drop i.toNat))),ot+ae fRo (ay (esG r (l.drop i.toNat))),cB t (l.drop i.toNat) (esG r (l.drop i.toNat)),())
def rdX (r:Rules) (l:List Mir.Box):Prop:=∀ x∈l,uo r x.Symbols∧inG r x
def wL:TG1→Prop
 |(a,l,n,i,r,_,fc,ch,wd,nb,by_,lg,ot,t,_)=>(n =(l.length:Int)∧smX l∧rdX r l)∧(0≤i∧i≤n)∧geG r a t∧upG (64000*i) fc ch wd nb by_ lg ot t
def JK:TG1→Nat
 |(_,_,n,i,_)=>(n - i).toNat
abbrev CC:Pat:=cn [.nm .Rules,tSys,.nm .Book]
abbrev Ki:Pat:=⟨[(0,.a [.h I,.h I,.h I,.h I,.h I,.h I,.h I,.c (.osl 0 1)])],[(0,.row 1 I)],2⟩
def SA (r:Rules) (b:Mir.Book):Den (tyP Ki):=(ae fFc (ay (esG r b.Boxes)),ae fCh (ay (esG r b.Boxes)),ae fWd (ay (esG r b.Boxes)),ae (fNb r.NoBall) (ay (esG r b.Boxes)),ae fBy (ay (esG r b.Boxes)),ae fLg (ay (esG r b.Boxes)),ae fRo (ay (esG r b.Boxes)),cB (List.replicate (r.Side.toNat+1) 0) b.Boxes (esG r b.Boxes),())
def ET:Den (tyP CC)→List Prop×Den (tyP Ki):=fun x=>([isS x.1 x.2.1,rdG x.1,smX x.2.2.1.Boxes,rdX x.1 x.2.2.1.Boxes],SA x.1 x.2.2.1)
theorem U6 {k:Int} (h:k3 k 119 110) :(E4 k==2) =(k==119)∧(E4 k==3) =(k==110):=by
 rcases h with rfl|rfl|rfl <;> exact ⟨rfl,rfl⟩
noncomputable def lpG0:Lp:=(⟨0,az [dI] Tryz.f77,(fun _=>none),(bA Tryz.f77 0 0),qG0,xG0⟩:Lp)
theorem Ru (a:List ref21_Symbol) (l:List Mir.Box) (n:Int) (i:Int) (s:List ByteArray) (m:Int) (j:Int) (r:Rules) (b:Mir.Book) (fc:Int) (ch:Int) (wd:Int) (nb:Int) (by_:Int) (lg:Int) (ot:Int) (t:List Int) (x:Mir.Box) (hi:wK (a,l,n,i,s,m,j,r,b,fc,ch,wd,nb,by_,lg,ot,t,x,())) :(Go.Mir.stepG lpG0 nO (fun y:Den (tyP lpG0.q)=>wK y∧JJ y<JJ (a,l,n,i,s,m,j,r,b,fc,ch,wd,nb,by_,lg,ot,t,x,())) (a,l,n,i,s,m,j,r,b,fc,ch,wd,nb,by_,lg,ot,t,x,())∧Go.Mir.stepE lpG0 nO (a,l,n,i,s,m,j,r,b,fc,ch,wd,nb,by_,lg,ot,t,x,())=nO (a,l,n,i,s,m,j,r,b,fc,ch,wd,nb,by_,lg,ot,t,x,())):=by
 refine cast (by kernel_rfl) (?_:let r1:Bool:=(aB a (s.getD j.toNat (dflt Ty.str))).1.2 != 2;let r2:Bool:=(aB a (s.getD j.toNat (dflt Ty.str))).1.2==2;let r3:Bool:=(aB a (s.getD j.toNat (dflt Ty.str))).1.2==3;let r4:Int:=IntKind.i64.wrap (ch +(aB a (s.getD j.toNat (dflt Ty.str))).1.3);let r5:Int:=IntKind.i64.wrap (by_ +(aB a (s.getD j.toNat (dflt Ty.str))).1.4);let r6:Int:=IntKind.i64.wrap (lg +(aB a (s.getD j.toNat (dflt Ty.str))).1.5);let r7:List ref21_Symbol×List Mir.Box×Int×Int×Rules×Mir.Book×Int×Int×Int×Int×Int×Int×Int×List Int×Mir.Box×PUnit:=dflt (tSys.prod (tBxs.prod (I.prod (I.prod ((Ty.nm Nm.Rules).prod ((Ty.nm Nm.Book).prod (I.prod (I.prod (I.prod (I.prod (I.prod (I.prod (I.prod (I.slice.prod ((Ty.nm Nm.Box).prod Ty.unit)))))))))))))));let r8:Int:=cond r2 fc (cond r3 fc fc);let r9:Int:=cond r2 ot (cond r3 ot ot);let r10:List Int:=cond (aB a (s.getD j.toNat (dflt Ty.str))).1.6 (t.set x.2.toNat (IntKind.i64.wrap (t.getD x.2.toNat (dflt (Ty.int IntKind.i64))+1))) t;let r11:Int:=cond r2 nb (cond r3 (IntKind.i64.wrap (nb+r.8)) nb);let r12:Int:=cond r2 (IntKind.i64.wrap (wd +(aB a (s.getD j.toNat (dflt Ty.str))).1.3)) (cond r3 wd wd);let r13:List ref21_Symbol×List Mir.Box×Int×Int×Rules×Mir.Book×Int×Int×Int×Int×Int×Int×Int×List Int×Mir.Box×PUnit:=cond (aB a (s.getD j.toNat (dflt Ty.str))).1.7 r7 r7;let r14:Int:=cond r2 r4 (cond r3 r4 r4);let r15:Int:=cond r2 r5 (cond r3 r5 r5);let r16:Int:=cond r2 r6 (cond r3 r6 r6);let r17:Int:=cond r1 r9 r9;let r18:Int:=cond r1 (IntKind.i64.wrap (r8+1)) r8;let r19:Int:=cond r1 r11 r11;let r20:Int:=cond r1 r12 r12;let r21:Int:=cond r1 r14 r14;let r22:Int:=cond r1 r15 r15;let r23:Int:=cond r1 r16 r16;((decide (j<m)=true→((0≤j∧j <(↑s.length:Int))∧a.length≤aA∧(((aB a (s.getD j.toNat (dflt Ty.str))).1.6=true→(0≤x.2∧x.2 <(↑t.length:Int))∧(0≤x.2∧x.2 <(↑t.length:Int))∧True)∧((aB a (s.getD j.toNat (dflt Ty.str))).1.6=false→True))∧(true=true→((aB a (s.getD j.toNat (dflt Ty.str))).1.7=true→True)∧((aB a (s.getD j.toNat (dflt Ty.str))).1.7=false→True)))∧(true=true→wK (a,l,n,i,s,m,IntKind.i64.wrap (j+1),r,b,cond (aB a (s.getD j.toNat (dflt Ty.str))).1.7 r18 r18,cond (aB a (s.getD j.toNat (dflt Ty.str))).1.7 r21 r21,cond (aB a (s.getD j.toNat (dflt Ty.str))).1.7 r20 r20,cond (aB a (s.getD j.toNat (dflt Ty.str))).1.7 r19 r19,cond (aB a (s.getD j.toNat (dflt Ty.str))).1.7 r22 r22,cond (aB a (s.getD j.toNat (dflt Ty.str))).1.7 r23 r23,cond (aB a (s.getD j.toNat (dflt Ty.str))).1.7 (IntKind.i64.wrap (r17+1)) r17,cond (aB a (s.getD j.toNat (dflt Ty.str))).1.7 r10 r10,x,())∧JJ (a,l,n,i,s,m,IntKind.i64.wrap (j+1),r,b,cond (aB a (s.getD j.toNat (dflt Ty.str))).1.7 r18 r18,cond (aB a (s.getD j.toNat (dflt Ty.str))).1.7 r21 r21,cond (aB a (s.getD j.toNat (dflt Ty.str))).1.7 r20 r20,cond (aB a (s.getD j.toNat (dflt Ty.str))).1.7 r19 r19,cond (aB a (s.getD j.toNat (dflt Ty.str))).1.7 r22 r22,cond (aB a (s.getD j.toNat (dflt Ty.str))).1.7 r23 r23,cond (aB a (s.getD j.toNat (dflt Ty.str))).1.7 (IntKind.i64.wrap (r17+1)) r17,cond (aB a (s.getD j.toNat (dflt Ty.str))).1.7 r10 r10,x,())<JJ (a,l,n,i,s,m,j,r,b,fc,ch,wd,nb,by_,lg,ot,t,x,())))∧(decide (j<m)=false→True))∧(cond (decide (j<m)) (cond (true&&true&&(true&&true)) (nO (a,l,n,i,s,m,IntKind.i64.wrap (j+1),r,b,cond (aB a (s.getD j.toNat (dflt Ty.str))).1.7 r18 r18,cond (aB a (s.getD j.toNat (dflt Ty.str))).1.7 r21 r21,cond (aB a (s.getD j.toNat (dflt Ty.str))).1.7 r20 r20,cond (aB a (s.getD j.toNat (dflt Ty.str))).1.7 r19 r19,cond (aB a (s.getD j.toNat (dflt Ty.str))).1.7 r22 r22,cond (aB a (s.getD j.toNat (dflt Ty.str))).1.7 r23 r23,cond (aB a (s.getD j.toNat (dflt Ty.str))).1.7 (IntKind.i64.wrap (r17+1)) r17,cond (aB a (s.getD j.toNat (dflt Ty.str))).1.7 r10 r10,x,())) (cond true (nO (a,l,n,i,s,m,IntKind.i64.wrap (j+1),r,b,cond (aB a (s.getD j.toNat (dflt Ty.str))).1.7 r18 r18,cond (aB a (s.getD j.toNat (dflt Ty.str))).1.7 r21 r21,cond (aB a (s.getD j.toNat (dflt Ty.str))).1.7 r20 r20,cond (aB a (s.getD j.toNat (dflt Ty.str))).1.7 r19 r19,cond (aB a (s.getD j.toNat (dflt Ty.str))).1.7 r22 r22,cond (aB a (s.getD j.toNat (dflt Ty.str))).1.7 r23 r23,cond (aB a (s.getD j.toNat (dflt Ty.str))).1.7 (IntKind.i64.wrap (r17+1)) r17,cond (aB a (s.getD j.toNat (dflt Ty.str))).1.7 r10 r10,x,())) (cond (true&&true) r13 (cond true r13 (cond (aB a (s.getD j.toNat (dflt Ty.str))).1.6 r7 r7))))) (a,l,n,i,r,b,fc,ch,wd,nb,by_,lg,ot,t,x,()))=nO (a,l,n,i,s,m,j,r,b,fc,ch,wd,nb,by_,lg,ot,t,x,()))
 intro r1 r2 r3 r4 r5 r6 r7 r8 r9 r10 r11 r12 r13 r14 r15 r16 r17 r18 r19 r20 r21 r22 r23
 clear_value (hr1:r1=_) (hr2:r2=_) (hr3:r3=_) (hr4:r4=_) (hr5:r5=_) (hr6:r6=_) (hr7:r7=_) (hr8:r8=_) (hr9:r9=_) (hr10:r10=_) (hr11:r11=_) (hr12:r12=_) (hr13:r13=_) (hr14:r14=_) (hr15:r15=_) (hr16:r16=_) (hr17:r17=_) (hr18:r18=_) (hr19:r19=_) (hr20:r20=_) (hr21:r21=_) (hr22:r22=_) (hr23:r23=_)
 simp only [Bool.cond_self] at *
 obtain ⟨⟨h1,h1a,h1b⟩,⟨h2,h3⟩,⟨hi0,hi4⟩,⟨hg,hsa,htl⟩,⟨x0,x1⟩,u1,u2,u3,u4,u5,u6,u7,u8⟩:=hi
 have h1:m =(s.length:Int):=h1
 have h1a:s.length≤4000:=h1a
 have h2:0≤j:=h2
 have h3:j≤m:=h3
 have hi0:0≤i:=hi0
 have hi4:i≤4000:=hi4
 have htl :(t.length:Int)=r.Side+1:=htl
 have x0:0≤x.Bowler:=x0
 have x1:x.Bowler≤r.Side:=x1
 have hnb:=hg.1.2
 have hal:a.length≤aA:=by have hsa:a=bl r:=hsa;rw [hsa];exact C1 r
 refine fv (fun h=>?_) (fun h=>?_)
 ·have e1:IntKind.i64.wrap (j+1)=j+1:=aL (by omega) (by omega)
  have hd:s.drop j.toNat=s.getD j.toNat (dflt Ty.str)::s.drop (j+1).toNat:=aP h2 (by omega) _
  have hm:s.getD j.toNat (dflt Ty.str)∈s:=List.mem_of_mem_drop (i:=j.toNat) (by rw [hd];exact List.mem_cons_self)
  have hrd:=h1b _ hm
  generalize s.getD j.toNat (dflt Ty.str)=w at *
  have hfw:aB a w =(EY (bE r w),true):=by have hsa:a=bl r:=hsa;rw [hsa];exact Ha hrd
  have hdm :(s.drop j.toNat).map (bE r)=bE r w ::(s.drop (j+1).toNat).map (bE r):=by rw [hd,List.map_cons]
  obtain ⟨k1,k2⟩:=Pd hrd
  have hw:=Fm hg.1 hrd
  rw [hfw] at hr1 hr2 hr3 hr4 hr5 hr6 hr10 hr12 ⊢
  generalize bE r w=e at *
  obtain ⟨t2,t3⟩:=U6 k1
  have f2:r2 =(e.kind==119):=by rw [hr2];exact t2
  have f3:r3 =(e.kind==110):=by rw [hr3];exact t3
  have f1:r1=!(e.kind==119):=by rw [hr1,←t2];rfl
  have up :∀ {v d:Int},upB (64000*i+16*j) v→0≤d→d≤16→upB (64000*i+16 *(j+1)) (v+d)∧IntKind.i64.wrap (v+d)=v+d:=fun {v d} hv a b=>by
   obtain ⟨v0,v1⟩:=hv
   exact ⟨⟨by omega,by omega⟩,bf (by omega) (by omega)⟩
  have q1:=up u1 (n8 e).1 (n8 e).2
  have q2:=up u2 (lW hw).1 (lW hw).2
  have q3:=up u3 (qo hw).1 (qo hw).2
  have q4:=up u4 (qn hnb e).1 (qn hnb e).2
  have q5:=up u5 (ql hw).1 (ql hw).2
  have q6:=up u6 (qm hw).1 (qm hw).2
  have q7:=up u7 (lX e).1 (lX e).2
  have q8:=up (mP u8 x0 (by omega)) (kH e).1 (kH e).2
  have e18:r18=fc+fFc e:=by
   rw [hr18,hr8,f1]
   have:=q1.2
   unfold fFc at this ⊢
   cases hz:e.kind==119 with
   | true=>show fc=fc+0;omega
   | false=>rw [hz] at this;exact this
  have e21:r21=ch+fCh e:=by rw [hr21,hr14,hr4];exact q2.2
  have e20:r20=wd+fWd e:=by
   rw [hr20,hr12,f2]
   have:=q3.2
   unfold fWd at this ⊢
   cases hz:e.kind==119 with
   | true=>rw [hz] at this;exact this
   | false=>show wd=wd+0;omega
  have e19:r19=nb+fNb r.NoBall e:=by
   rw [hr19,hr11,f2,f3]
   have:=q4.2
   unfold fNb at this ⊢
   cases hz:e.kind==119 with
   | true=>
    have hz:e.kind=119:=by simpa using hz
    rw [hz]
    show nb=nb+0;omega
   | false=>
    cases hy:e.kind==110 with
    | true=>rw [hy] at this;exact this
    | false=>show nb=nb+0;omega
  have e22:r22=by_+fBy e:=by rw [hr22,hr15,hr5];exact q5.2
  have e23:r23=lg+fLg e:=by rw [hr23,hr16,hr6];exact q6.2
  have eO :(bif (EY e,true).1.7 then IntKind.i64.wrap (r17+1) else r17)=ot+fRo e:=by
   rw [hr17,hr9]
   have:=q7.2
   unfold fRo at this ⊢
   show (bif e.mark==82 then _ else _)=_
   cases hz:e.mark==82 with
   | true=>rw [hz] at this;exact this
   | false=>show ot=ot+0;omega
  have e10:r10=aQ t x.Bowler (fWk e):=by
   rw [hr10]
   have:=q8.2
   unfold fWk at this ⊢
   show (bif e.mark==87 then _ else _)=_
   cases hz:e.mark==87 with
   | true=>
    rw [hz] at this
    show t.set x.Bowler.toNat (IntKind.i64.wrap (t.getD x.Bowler.toNat 0+1))=t.set x.Bowler.toNat (t.getD x.Bowler.toNat 0+1)
    rw [show IntKind.i64.wrap (t.getD x.Bowler.toNat 0+1)=t.getD x.Bowler.toNat 0+1 from this]
   | false=>exact (mJ t x.Bowler).symm
  rw [e18,e21,e20,e19,e22,e23,eO,e10,e1]
  have hwk:=kH e
  refine ⟨⟨⟨⟨h2,by omega⟩,hal,⟨fun _=>⟨⟨x0,by show x.Bowler<_;omega⟩,⟨x0,by show x.Bowler<_;omega⟩,trivial⟩,fun _=>trivial⟩,fun _=>⟨fun _=>trivial,fun _=>trivial⟩⟩,fun _=>⟨⟨⟨h1,h1a,h1b⟩,⟨?_,?_⟩,⟨hi0,hi4⟩,⟨hg,hsa,?_⟩,⟨x0,x1⟩,q1.1,q2.1,q3.1,q4.1,q5.1,q6.1,q7.1,?_⟩,?_⟩⟩,?_⟩
  ·show 0≤j+1;omega
  ·show j+1≤m;omega
  ·show ((aQ t x.Bowler (fWk e)).length:Int)=_
   rw [dz];exact htl
  ·intro v hv
   rcases iG hv with hv|rfl
   ·obtain ⟨v0,v1⟩:=u8 v hv
    exact ⟨v0,by show v≤64000*i+16 *(j+1);omega⟩
   ·exact q8.1
  ·show (m - (j+1)).toNat <(m - j).toNat;omega
  ·have p :∀ (f:boxbook_entry→Int) (v:Int),v+f e+ae f ((s.drop (j+1).toNat).map (bE r))=v+ae f ((s.drop j.toNat).map (bE r)):=fun f v=>by
    rw [hdm]
    show _=v +(f e+ae f ((s.drop (j+1).toNat).map (bE r)))
    omega
   have p0:fWk e+ae fWk ((s.drop (j+1).toNat).map (bE r))=ae fWk ((s.drop j.toNat).map (bE r)):=by have:=p fWk 0;omega
   show (a,l,n,i,r,b,fc+fFc e+ae fFc ((s.drop (j+1).toNat).map (bE r)),ch+fCh e+ae fCh ((s.drop (j+1).toNat).map (bE r)),wd+fWd e+ae fWd ((s.drop (j+1).toNat).map (bE r)),nb+fNb r.NoBall e+ae (fNb r.NoBall) ((s.drop (j+1).toNat).map (bE r)),by_+fBy e+ae fBy ((s.drop (j+1).toNat).map (bE r)),lg+fLg e+ae fLg ((s.drop (j+1).toNat).map (bE r)),ot+fRo e+ae fRo ((s.drop (j+1).toNat).map (bE r)),aQ (aQ t x.Bowler (fWk e)) x.Bowler (ae fWk ((s.drop (j+1).toNat).map (bE r))),x,())=_
   rw [p fFc,p fCh,p fWd,p (fNb r.NoBall),p fBy,p fLg,p fRo,vT,p0]
   rfl
 ·unfold nO
  simp only
  rw [aG (l:=s) (by omega)]
  simp only [List.map_nil,ae,Int.add_zero,mJ]
noncomputable def TY:LoopSum:=ai lpG0 nO wK
noncomputable def Tq:Nat:=rid (bA Tryz.f77 0 0)
theorem PZ:LoopOKp Tryz.prog 0 Tryz.f77.ntmps (bA Tryz.f77 0 0) (ai lpG0 nO wK):=
 ax lpG0 (an (.consU fg rfl .nil) _) mixed (fun b hb S hS=>by cases hS) nO wK JJ (fun |⟨a,l,n,i,s,m,j,r,b,fc,ch,wd,nb,by_,lg,ot,t,x,⟨⟩⟩,hi=>Ru a l n i s m j r b fc ch wd nb by_ lg ot t x hi)
noncomputable def lpG1:Lp:=(⟨0,az [dI] Tryz.f77,(find [(Tq,TY)]),(aq Tryz.f77 0),qG1,xG1⟩:Lp)
theorem Rw (a:List ref21_Symbol) (l:List Mir.Box) (n:Int) (i:Int) (r:Rules) (b:Mir.Book) (fc:Int) (ch:Int) (wd:Int) (nb:Int) (by_:Int) (lg:Int) (ot:Int) (t:List Int) (hi:wL (a,l,n,i,r,b,fc,ch,wd,nb,by_,lg,ot,t,())) :(Go.Mir.stepG lpG1 nP (fun y:Den (tyP lpG1.q)=>wL y∧JK y<JK (a,l,n,i,r,b,fc,ch,wd,nb,by_,lg,ot,t,())) (a,l,n,i,r,b,fc,ch,wd,nb,by_,lg,ot,t,())∧Go.Mir.stepE lpG1 nP (a,l,n,i,r,b,fc,ch,wd,nb,by_,lg,ot,t,())=nP (a,l,n,i,r,b,fc,ch,wd,nb,by_,lg,ot,t,())):=by
 refine cast (by kernel_rfl) (?_:let r1:Int:=(↑(l.getD i.toNat (dflt (Ty.nm Nm.Box))).3.length:Int);let r2:List boxbook_entry:=List.map (bE r) (List.drop (Int.toNat 0) (l.getD i.toNat (dflt (Ty.nm Nm.Box))).3);((decide (i<n)=true→(0≤i∧i <(↑l.length:Int))∧((cg fun x=>none)∧(r1 =(↑(l.getD i.toNat (dflt (Ty.nm Nm.Box))).3.length:Int)∧(l.getD i.toNat (dflt (Ty.nm Nm.Box))).3.length≤(4000:Nat)∧uo r (l.getD i.toNat (dflt (Ty.nm Nm.Box))).3)∧((0:Int)≤0∧0≤r1)∧(0≤i∧i≤4000)∧geG r a t∧inG r (l.getD i.toNat (dflt (Ty.nm Nm.Box)))∧upG (64000*i +(16:Int)*0) fc ch wd nb by_ lg ot t)∧wL (a,l,n,IntKind.i64.wrap (i+1),r,b,fc+ae fFc r2,ch+ae fCh r2,wd+ae fWd r2,nb+ae (fNb r.8) r2,by_+ae fBy r2,lg+ae fLg r2,ot+ae fRo r2,aQ t (l.getD i.toNat (dflt (Ty.nm Nm.Box))).2 (ae fWk r2),())∧JK (a,l,n,IntKind.i64.wrap (i+1),r,b,fc+ae fFc r2,ch+ae fCh r2,wd+ae fWd r2,nb+ae (fNb r.8) r2,by_+ae fBy r2,lg+ae fLg r2,ot+ae fRo r2,aQ t (l.getD i.toNat (dflt (Ty.nm Nm.Box))).2 (ae fWk r2),())<JK (a,l,n,i,r,b,fc,ch,wd,nb,by_,lg,ot,t,()))∧(decide (i<n)=false→True))∧(cond (decide (i<n)) (nP (a,l,n,IntKind.i64.wrap (i+1),r,b,fc+ae fFc r2,ch+ae fCh r2,wd+ae fWd r2,nb+ae (fNb r.8) r2,by_+ae fBy r2,lg+ae fLg r2,ot+ae fRo r2,aQ t (l.getD i.toNat (dflt (Ty.nm Nm.Box))).2 (ae fWk r2),())) (a,r,b,fc,ch,wd,nb,by_,lg,ot,t,()))=nP (a,l,n,i,r,b,fc,ch,wd,nb,by_,lg,ot,t,()))
 intro r1 r2
 clear_value (hr1:r1=_) (hr2:r2=_)
 obtain ⟨⟨h1,⟨h1a,h1b⟩,h1c⟩,⟨h2,h3⟩,⟨hg,hsa,htl⟩,u1,u2,u3,u4,u5,u6,u7,u8⟩:=hi
 have h1:n =(l.length:Int):=h1
 have h1a:l.length≤4000:=h1a
 have h2:0≤i:=h2
 have h3:i≤n:=h3
 have htl :(t.length:Int)=r.Side+1:=htl
 have hnb:=hg.1.2
 refine fv (fun h=>?_) (fun h=>?_)
 ·have e1:IntKind.i64.wrap (i+1)=i+1:=aL (by omega) (by omega)
  have hd:l.drop i.toNat=l.getD i.toNat (dflt (Ty.nm Nm.Box))::l.drop (i+1).toNat:=aP h2 (by omega) _
  have hm:l.getD i.toNat (dflt (Ty.nm Nm.Box))∈l:=List.mem_of_mem_drop (i:=i.toNat) (by rw [hd];exact List.mem_cons_self)
  have hx:=h1b _ hm
  obtain ⟨hrd,hin⟩:=h1c _ hm
  generalize l.getD i.toNat (dflt (Ty.nm Nm.Box))=x at *
  have e2:r2=x.Symbols.map (bE r):=hr2
  have hw:Fo (x.Symbols.map (bE r)):=fun y hy=>by
   obtain ⟨w,hw,rfl⟩:=List.mem_map.1 hy
   exact Fm hg.1 (hrd w hw)
  have hle :(x.Symbols.map (bE r)).length≤4000:=by rw [List.length_map];exact hx
  have hdm:esG r (l.drop i.toNat)=x.Symbols.map (bE r)::esG r (l.drop (i+1).toNat):=by rw [hd];rfl
  rw [e1,e2]
  generalize x.Symbols.map (bE r)=ys at *
  have hbk:0≤x.Bowler∧x.Bowler≤r.Side:=hin
  have up :∀ {v:Int} {f:boxbook_entry→Int},upB (64000*i) v→(∀ y∈ys,0≤f y∧f y≤16)→upB (64000 *(i+1)) (v+ae f ys):=fun {v f} hv hf=>by
   obtain ⟨v0,v1⟩:=hv
   obtain ⟨c0,c1⟩:=yB hf
   exact ⟨by omega,by omega⟩
  have e3:64000*i+16*0=64000*i:=by omega
  refine ⟨⟨⟨h2,by omega⟩,⟨rfl,⟨hr1,hx,hrd⟩,⟨Int.le_refl _,by omega⟩,⟨h2,by omega⟩,⟨hg,hsa,htl⟩,hin,by rw [e3];exact ⟨u1,u2,u3,u4,u5,u6,u7,u8⟩⟩,⟨⟨h1,⟨h1a,h1b⟩,h1c⟩,⟨?_,?_⟩,⟨hg,hsa,?_⟩,up u1 fun y _=>n8 y,up u2 fun y hy=>lW (hw y hy),up u3 fun y hy=>qo (hw y hy),up u4 fun y _=>qn hnb y,up u5 fun y hy=>ql (hw y hy),up u6 fun y hy=>qm (hw y hy),up u7 fun y _=>lX y,?_⟩,?_⟩,?_⟩
  ·show 0≤i+1;omega
  ·show i+1≤n;omega
  ·show ((aQ t x.Bowler (ae fWk ys)).length:Int)=_
   rw [dz];exact htl
  ·intro v hv
   rcases iG hv with hv|rfl
   ·obtain ⟨v0,v1⟩:=u8 v hv
    exact ⟨v0,by show v≤64000 *(i+1);omega⟩
   ·exact up (mP u8 hbk.1 (by omega)) fun y _=>kH y
  ·show (n - (i+1)).toNat <(n - i).toNat;omega
  ·have p :∀ (f:boxbook_entry→Int) (v:Int),v+ae f ys+ae f (ay (esG r (l.drop (i+1).toNat)))=v+ae f (ay (esG r (l.drop i.toNat))):=fun f v=>by
    rw [hdm]
    show _=v+ae f (ys++ay (esG r (l.drop (i+1).toNat)))
    rw [oL]
    omega
   show (a,r,b,fc+ae fFc ys+ae fFc (ay (esG r (l.drop (i+1).toNat))),ch+ae fCh ys+ae fCh (ay (esG r (l.drop (i+1).toNat))),wd+ae fWd ys+ae fWd (ay (esG r (l.drop (i+1).toNat))),nb+ae (fNb r.NoBall) ys+ae (fNb r.NoBall) (ay (esG r (l.drop (i+1).toNat))),by_+ae fBy ys+ae fBy (ay (esG r (l.drop (i+1).toNat))),lg+ae fLg ys+ae fLg (ay (esG r (l.drop (i+1).toNat))),ot+ae fRo ys+ae fRo (ay (esG r (l.drop (i+1).toNat))),cB (aQ t x.Bowler (ae fWk ys)) (l.drop (i+1).toNat) (esG r (l.drop (i+1).toNat)),())=_
   rw [p fFc,p fCh,p fWd,p (fNb r.NoBall),p fBy,p fLg,p fRo]
   unfold nP
   simp only
   rw [hdm,hd]
   rfl
 ·unfold nP
  simp only
  rw [aG (l:=l) (by omega)]
  simp only [esG,List.map_nil,ay,ae,Int.add_zero]
  rfl
noncomputable def Oo:LoopSum:=ai lpG1 nP wL
noncomputable def NO:Nat:=rid (aq Tryz.f77 0)
theorem P0:LoopOKp Tryz.prog 0 Tryz.f77.ntmps (aq Tryz.f77 0) (ai lpG1 nP wL):=
 ax lpG1 (an (.consU fg rfl .nil) _) mixed (LoopsOKp.cons (by kernel_rfl) PZ .nil) nP wL JK (fun |⟨a,l,n,i,r,b,fc,ch,wd,nb,by_,lg,ot,t,⟨⟩⟩,hi=>Rw a l n i r b fc ch wd nb by_ lg ot t hi)
theorem CS (r:Rules) (a:List ref21_Symbol) (b:Mir.Book) (ha:isS r a) (hr:rdG r) (hb:smX b.Boxes) (hx:rdX r b.Boxes) :(evPat (az [dI] Tryz.f77) (find [(NO,Oo)]) Tryz.f77 CC Ki (r,a,b,())).sat fun z_=>z_ =(ET (r,a,b,())).2:=by
 refine cast (by kernel_rfl) (?_:let r1:Int:=IntKind.i64.wrap (r.2+1);let r2:List Int:=List.replicate r1.toNat 0;(0≤r1∧r1=r1∧r1≤17179869184)∧((cg fun x=>none)∧((↑b.2.length:Int) =(↑b.2.length:Int)∧smX b.2∧rdX r b.2)∧((0:Int)≤0∧0≤(↑b.2.length:Int))∧geG r a r2∧upG ((64000:Int)*0) 0 0 0 0 0 0 0 r2)∧(0+ae fFc (ay (esG r (List.drop (Int.toNat 0) b.2))),0+ae fCh (ay (esG r (List.drop (Int.toNat 0) b.2))),0+ae fWd (ay (esG r (List.drop (Int.toNat 0) b.2))),0+ae (fNb r.8) (ay (esG r (List.drop (Int.toNat 0) b.2))),0+ae fBy (ay (esG r (List.drop (Int.toNat 0) b.2))),0+ae fLg (ay (esG r (List.drop (Int.toNat 0) b.2))),0+ae fRo (ay (esG r (List.drop (Int.toNat 0) b.2))),cB r2 (List.drop (Int.toNat 0) b.2) (esG r (List.drop (Int.toNat 0) b.2)),())=SA r b)
 intro r1 r2
 clear_value (hr1:r1=_) (hr2:r2=_)
 obtain ⟨hwn,⟨hb0,hb1⟩,hs0,hs1⟩:=id hr
 have e1:r1=r.Side+1:=by rw [hr1];exact bf (by omega) (by omega)
 have e2:r2=List.replicate (r.Side.toNat+1) 0:=by rw [hr2,e1];congr 1;omega
 have l2 :(r2.length:Int)=r.Side+1:=by rw [e2,List.length_replicate];omega
 have z0:upB (64000*0) 0:=⟨Int.le_refl _,by decide⟩
 have u2:upT (64000*0) r2:=fun v hv=>by
  rw [e2] at hv
  rw [(List.mem_replicate.1 hv).2]
  exact z0
 refine ⟨⟨by omega,rfl,by omega⟩,⟨rfl,⟨rfl,hb,hx⟩,⟨Int.le_refl _,by omega⟩,⟨hr,ha,l2⟩,z0,z0,z0,z0,z0,z0,z0,u2⟩,?_⟩
 rw [e2]
 simp only [Int.zero_add]
 rfl
def xi:FuncId×Ctr:=(77,aj KE CC Ki ET)
theorem Ei:CtrOK Tryz.prog KE 77 (aj KE CC Ki ET):=by
 refine aO (C:=az [dI] Tryz.f77) (an (.consU fg rfl .nil) _) mixed (fn:=Tryz.f77) Tryz.func77 (by kernel_rfl) (by kernel_rfl) (by kernel_rfl) (by kernel_rfl) (by kernel_rfl) (by kernel_rfl) (Λ:=fun x=>find [(NO,Oo)]) ?_ ?_
 ·rintro ⟨r,a,b,⟨⟩⟩ hw hn
  exact LoopsOKp.at (by kernel_rfl) (.cons (by kernel_rfl) (P0) .nil)
 ·rintro ⟨r,a,b,⟨⟩⟩ hw hn
  exact CS r a b (hn _ List.mem_cons_self) (hn _ (List.mem_cons_of_mem _ List.mem_cons_self)) (hn _ (List.mem_cons_of_mem _ (List.mem_cons_of_mem _ List.mem_cons_self))) (hn _ (List.mem_cons_of_mem _ (List.mem_cons_of_mem _ (List.mem_cons_of_mem _ List.mem_cons_self))))
end
section
open Go Go.Mir
def J92 (s:ByteArray) (i:Nat):St:=⟨[(0,.str s),(7,.osl 16 16),(8,.int .i64 (aJ s).length),(9,.int .i64 i)],[(16,.row 16 true (.int .u8) (aJ s))],fun _=>none,40⟩
def T92 (s:ByteArray):Tr:= .br (dD s s.size) (.leaf (.ext 0) ⟨[(0,.str s)],[]⟩ 40) (.leaf .ret ⟨[(2,.kb false)],[]⟩ 40)
def Λ92 (s:ByteArray):Nat→Option LoopSum:=find [(2,eE ⟨[],[],40⟩ (J92 s 0) (T92 s))]
end
section
open Go Go.Mir
attribute [local irreducible] Go.Mir.RT.sat Go.Mir.evFn Go.Mir.stepObl
theorem Uf {n:Nm} {x:n.T} (h:wfD (.nm n) x):wfD n.flds (n.to x):=by
 obtain ⟨S,w,cs,h⟩:=h
 cases h with|nm h=>exact ⟨_,_,_,h⟩
theorem pT {r:Rules} (h:wfD (.nm .Rules) r):r.Power.length≤aA:=
 vb (gO (fY (fY (fY (fY (fY (fY (fY (fY (fY (fY (fY (fY (fY (Uf h)))))))))))))))
theorem TP (n:Int) (lo:Int) (hi:Int) :(evFn (cf8 [] Tryz.f148) (fun _=>none) Tryz.f148 (dy Ex (n,lo,hi,()))).sat fun v' rows=>leV v' (mG (n,lo,hi,())).v∧rows =(mG (n,lo,hi,())).rows:=by
 refine cast (by kernel_rfl) (?_ :(cond (decide (n≥lo)) (decide (n≤hi)) false)=af n lo hi∧([]:List RowD)=[])
 simp only [af];grind
theorem Qu:CtrOK Tryz.prog K8 148 (aK K8 Ex mG):=by
 refine fx (C:=cf8 [] Tryz.f148) (gH (CtrsOK.nil) _) mixed (fn:=Tryz.f148) Tryz.func148 (by kernel_rfl) (by kernel_rfl) (by kernel_rfl) (Λ:=fun _ _=>none) ?_ ?_ ?_
 ·exact fun _ _ _ _ _ _ _ _ h=>by cases h
 ·rintro ⟨n,lo,hi,⟨⟩⟩
  exact of_decide_eq_true (by kernel_rfl)
 ·rintro ⟨n,lo,hi,⟨⟩⟩ hw hn
  exact TP n lo hi
theorem TN (n:Int) (lo:Int) (hi:Int) :(evFn (cf8 [] Tryz.f72) (fun _=>none) Tryz.f72 (dy Ex (n,lo,hi,()))).sat fun v' rows=>leV v' (mG (n,lo,hi,())).v∧rows =(mG (n,lo,hi,())).rows:=by
 refine cast (by kernel_rfl) (?_ :(cond (decide (n≥lo)) (decide (n≤hi)) false)=af n lo hi∧([]:List RowD)=[])
 simp only [af];grind
theorem Tf:CtrOK Tryz.prog K8 72 (aK K8 Ex mG):=by
 refine fx (C:=cf8 [] Tryz.f72) (gH (CtrsOK.nil) _) mixed (fn:=Tryz.f72) Tryz.func72 (by kernel_rfl) (by kernel_rfl) (by kernel_rfl) (Λ:=fun _ _=>none) ?_ ?_ ?_
 ·exact fun _ _ _ _ _ _ _ _ h=>by cases h
 ·rintro ⟨n,lo,hi,⟨⟩⟩
  exact of_decide_eq_true (by kernel_rfl)
 ·rintro ⟨n,lo,hi,⟨⟩⟩ hw hn
  exact TN n lo hi
theorem TH (r:Rules) :(evFn (cf8 [k97] Tryz.f113) (fun _=>none) Tryz.f113 (dy oA (r,()))).sat fun v' rows=>leV v' (AB (r,())).v∧rows =(AB (r,())).rows:=by
 refine cast (by kernel_rfl) (?_ :(cond (af r.2 2 11) (cond (af r.3 1 2) (cond (af r.4 0 90) (cond (af r.5 4 8) (cond (af r.6 0 90) (cond (af r.7 1 5) (cond (af r.8 1 5) (cond (af r.10 0 200) (cond (af r.11 0 1000) (cond (af r.12 0 9) (af r.13 0 11) false) false) false) false) false) false) false) false) false) false)=dE r∧([]:List RowD)=[])
 simp only [dE,Bool.cond_false_right,and_self]
theorem U1:CtrOK Tryz.prog K8 113 (aK K8 oA AB):=by
 refine fx (C:=cf8 [k97] Tryz.f113) (gH (.cons Qu .nil) _) mixed (fn:=Tryz.f113) Tryz.func113 (by kernel_rfl) (by kernel_rfl) (by kernel_rfl) (Λ:=fun _ _=>none) ?_ ?_ ?_
 ·exact fun _ _ _ _ _ _ _ _ h=>by cases h
 ·rintro ⟨r,⟨⟩⟩
  exact of_decide_eq_true (by kernel_rfl)
 ·rintro ⟨r,⟨⟩⟩ hw hn
  exact TH r
theorem uz (r:Rules) (i n:Nat):bu r i (n+1)=if gQ r i != 0 then gQ r i else bu r (i+1) n:=rfl
theorem AR {s:ByteArray} (h:wfD .str s):s.size≤aA:=by
 obtain ⟨S,w,cs,h⟩:=h
 cases h with|str h=>exact h
theorem Ra (r:Rules) (hx:r.Power.length≤aA) (i:Nat) (hi:re r i) :(stepObl (J94 r) (re r) (fun i=>r.Power.length - i) i (T94 r) (bs (cf8 [k97] Tryz.f114) (fun _=>none) (aq Tryz.f114 0) (J94 r i)) (L94 i)).1:=by
 refine cast (by kernel_rfl) (?_ :(decide ((↑i:Int) <(↑r.14.length:Int))=true→(0≤(↑i:Int)∧(↑i:Int) <(↑r.14.length:Int))∧((cond (decide ((r.14.getD (↑i:Int).toNat (dflt (Ty.nm Nm.Phase))).1<1)) true (cond (decide ((r.14.getD (↑i:Int).toNat (dflt (Ty.nm Nm.Phase))).1 >(r.14.getD (↑i:Int).toNat (dflt (Ty.nm Nm.Phase))).2)) true (cond (decide ((r.14.getD (↑i:Int).toNat (dflt (Ty.nm Nm.Phase))).2>r.4)) true (!af (r.14.getD (↑i:Int).toNat (dflt (Ty.nm Nm.Phase))).3 0 11))))=true→(bu r (0:Nat) r.14.length != 0)=true∧(2=bu r (0:Nat) r.14.length∧True)∧True)∧((cond (decide ((r.14.getD (↑i:Int).toNat (dflt (Ty.nm Nm.Phase))).1<1)) true (cond (decide ((r.14.getD (↑i:Int).toNat (dflt (Ty.nm Nm.Phase))).1 >(r.14.getD (↑i:Int).toNat (dflt (Ty.nm Nm.Phase))).2)) true (cond (decide ((r.14.getD (↑i:Int).toNat (dflt (Ty.nm Nm.Phase))).2>r.4)) true (!af (r.14.getD (↑i:Int).toNat (dflt (Ty.nm Nm.Phase))).3 0 11))))=false→((decide ((↑i:Int)>0)=true→(0≤IntKind.i64.wrap ((↑i:Int) - 1)∧IntKind.i64.wrap ((↑i:Int) - 1) <(↑r.14.length:Int))∧True)∧(decide ((↑i:Int)>0)=false→True))∧(true=true→((cond (decide ((↑i:Int)>0)) (decide ((r.14.getD (↑i:Int).toNat (dflt (Ty.nm Nm.Phase))).1≤(r.14.getD (IntKind.i64.wrap ((↑i:Int) - 1)).toNat (dflt (Ty.nm Nm.Phase))).2)) false)=true→(bu r (0:Nat) r.14.length != 0)=true∧(8=bu r (0:Nat) r.14.length∧True)∧True)∧((cond (decide ((↑i:Int)>0)) (decide ((r.14.getD (↑i:Int).toNat (dflt (Ty.nm Nm.Phase))).1≤(r.14.getD (IntKind.i64.wrap ((↑i:Int) - 1)).toNat (dflt (Ty.nm Nm.Phase))).2)) false)=false→re r (i +(1:Nat))∧r.14.length - (i +(1:Nat))<r.14.length - i∧(True∧RowD.mk (Ty.nm Nm.Phase) r.14=RowD.mk (Ty.nm Nm.Phase) r.14∧(↑r.14.length:Int) =(↑r.14.length:Int)∧IntKind.i64.wrap ((↑i:Int)+1) =(↑(i +(1:Nat)):Int)∧True)∧(r.1=r.1∧r.2=r.2∧r.3=r.3∧r.4=r.4∧r.5=r.5∧r.6=r.6∧r.7=r.7∧r.8=r.8∧r.9=r.9∧r.10=r.10∧r.11=r.11∧r.12=r.12∧r.13=r.13∧RowD.mk (Ty.nm Nm.Phase) r.14=RowD.mk (Ty.nm Nm.Phase) r.14∧True)∧True))))∧(decide ((↑i:Int) <(↑r.14.length:Int))=false→(bu r (0:Nat) r.14.length != 0)=false∧True∧True))
 have e :(i:Int).toNat=i:=by simp
 rw [e]
 have hb:r.Power.length≤140737488355328:=hx
 have hp:r.Power.getD i (dflt (Ty.nm Nm.Phase))=a7 r i:=rfl
 rw [hp]
 have hpb :(bif decide ((a7 r i).From<1) then true else bif decide ((a7 r i).From >(a7 r i).To) then true else bif decide ((a7 r i).To>r.Overs) then true else !af (a7 r i).Outside 0 11)=mn r (a7 r i):=by
  simp only [mn,Bool.cond_true_left]
 rw [hpb]
 obtain ⟨hi1,hi2⟩:=hi
 refine ⟨fun h1=>?_,fun h1=>?_⟩
 ·have h1:i<r.Power.length:=by simpa using h1
  have hn:r.Power.length - i =(r.Power.length - (i+1))+1:=by omega
  rw [hn,uz] at hi2
  have hw1:0<i→IntKind.i64.wrap ((i:Int) - 1) =((i - 1:Nat):Int):=fun h=>by rw [aL (by omega) (by omega)];omega
  refine ⟨⟨by omega,by omega⟩,fun h2=>?_,fun h2=>⟨⟨fun h3=>?_,fun _=>trivial⟩,fun _=>⟨fun h3=>?_,fun h3=>?_⟩⟩⟩
  ·have hE:gQ r i=2:=by simp only [gQ,h2];rfl
   rw [hE] at hi2
   have hi2:bu r 0 r.Power.length=2:=hi2
   rw [hi2]
   exact ⟨rfl,⟨rfl,trivial⟩,trivial⟩
  ·have h3:0<i:=by simpa using h3
   rw [hw1 h3]
   exact ⟨⟨by omega,by omega⟩,trivial⟩
  ·have h4:0<i:=by
    by_cases h4:0<i
    ·exact h4
    ·have:i=0:=by omega
     subst this
     simp at h3
   rw [hw1 h4,Int.toNat_natCast] at h3
   have hq:r.Power.getD (i - 1) (dflt (Ty.nm Nm.Phase))=a7 r (i - 1):=rfl
   rw [hq] at h3
   have h5 :(decide ((i:Int)>0)&&decide ((a7 r i).From≤(a7 r (i - 1)).To))=true:=by rw [←h3];cases decide ((i:Int)>0) <;> rfl
   have hE:gQ r i=8:=by simp only [gQ,h2,h5];rfl
   rw [hE] at hi2
   have hi2:bu r 0 r.Power.length=8:=hi2
   rw [hi2]
   exact ⟨rfl,⟨rfl,trivial⟩,trivial⟩
  ·have h5 :(decide ((i:Int)>0)&&decide ((a7 r i).From≤(a7 r (i - 1)).To))=false:=by
    by_cases h4:0<i
    ·rw [hw1 h4,Int.toNat_natCast] at h3
     have hq:r.Power.getD (i - 1) (dflt (Ty.nm Nm.Phase))=a7 r (i - 1):=rfl
     rw [hq] at h3
     rw [←h3];cases decide ((i:Int)>0) <;> rfl
    ·have:i=0:=by omega
     subst this;rfl
   have hE:gQ r i=0:=by simp only [gQ,h2,h5];rfl
   rw [hE] at hi2
   have hi2:bu r 0 r.Power.length=bu r (i+1) (r.Power.length - (i+1)):=hi2
   exact ⟨⟨by omega,hi2⟩,by omega,⟨trivial,rfl,rfl,by rw [aL (by omega) (by omega)];omega,trivial⟩,by simp⟩
 ·have h1:r.Power.length≤i:=by simpa using h1
  have h2:r.Power.length - i=0:=by omega
  rw [h2] at hi2
  have hi2:bu r 0 r.Power.length=0:=hi2
  rw [hi2]
  exact ⟨rfl,trivial,trivial⟩
theorem PJ (r:Rules) (hx:r.Power.length≤aA):LoopOK Tryz.prog Tryz.f114.ntmps (aq Tryz.f114 0) (eE ⟨[],[],8⟩ (J94 r 0) (T94 r)):=
 pj (gH (.cons Qu .nil) _) mixed (J94 r) (fun _=>rfl) (re r) (fun i=>r.Power.length - i) (fun _ _=>none) (fun _ _ _ _ _ h=>by cases h) (T94 r) [] [] 0 (⟨Nat.zero_le _,rfl⟩) L94 (fun i hi=>Ra r hx i hi)
theorem TJ (r:Rules) (_hx:r.Power.length≤aA) :(evFn (cf8 [k97] Tryz.f114) (Λ94 r) Tryz.f114 (dy oA (r,()))).sat fun v' rows=>leV v' (AC (r,())).v∧rows =(AC (r,())).rows:=by
 refine cast (by kernel_rfl) (?_ :(decide ((↑r.14.length:Int)>8)=true→9=dS r∧([]:List RowD)=[])∧(decide ((↑r.14.length:Int)>8)=false→((cg fun x=>none)∧(True∧RowD.mk (Ty.nm Nm.Phase) r.14=RowD.mk (Ty.nm Nm.Phase) r.14∧(↑r.14.length:Int) =(↑r.14.length:Int)∧0 =(↑(0:Nat):Int)∧True)∧(r.1=r.1∧r.2=r.2∧r.3=r.3∧r.4=r.4∧r.5=r.5∧r.6=r.6∧r.7=r.7∧r.8=r.8∧r.9=r.9∧r.10=r.10∧r.11=r.11∧r.12=r.12∧r.13=r.13∧RowD.mk (Ty.nm Nm.Phase) r.14=RowD.mk (Ty.nm Nm.Phase) r.14∧True)∧True)∧((bu r (0:Nat) r.14.length != 0)=true→bu r (0:Nat) r.14.length=dS r∧([]:List RowD)=[])∧((bu r (0:Nat) r.14.length != 0)=false→0=dS r∧([]:List RowD)=[])))
 refine ⟨fun h=>⟨?_,rfl⟩,fun h=>⟨⟨rfl,⟨trivial,rfl,rfl,rfl,trivial⟩,by simp⟩,fun h2=>⟨?_,rfl⟩,fun h2=>⟨?_,rfl⟩⟩⟩
 ·simp only [dS];rw [if_pos (of_decide_eq_true h)]
 ·simp only [dS];rw [if_neg (of_decide_eq_false h)]
 ·simp only [dS];rw [if_neg (of_decide_eq_false h)]
  have h2:bu r 0 r.Power.length=0:=by simpa using h2
  exact h2.symm
theorem U2:CtrOK Tryz.prog K8 114 (aK K8 oA AC):=by
 refine fx (C:=cf8 [k97] Tryz.f114) (gH (.cons Qu .nil) _) mixed (fn:=Tryz.f114) Tryz.func114 (by kernel_rfl) (by kernel_rfl) (by kernel_rfl) (Λ:=fun x=>Λ94 x.1) ?_ ?_ ?_
 ·rintro ⟨r,⟨⟩⟩ hw hn
  exact LoopsOK.at (by kernel_rfl) (.cons (by kernel_rfl) (PJ r (pT (gO hw))) .nil)
 ·rintro ⟨r,⟨⟩⟩
  exact of_decide_eq_true (by kernel_rfl)
 ·rintro ⟨r,⟨⟩⟩ hw hn
  exact TJ r (pT (gO hw))
theorem Rb (s:ByteArray) (hx:s.size≤aA) (i:Nat) (hi:rh s i) :(stepObl (J95 s) (rh s) (fun i=>s.size - i) i (T95 s) (bs (cf8 [] Tryz.f71) (fun _=>none) (aq Tryz.f71 0) (J95 s i)) (L95 i)).1:=by
 refine cast (by kernel_rfl) (?_ :(decide ((↑i:Int) <(↑s.size:Int))=true→((0≤(↑i:Int)∧(↑i:Int) <(↑s.size:Int))∧((cond (decide ((↑(s.1.getD (↑i:Int).toNat (0:UInt8)).toNat:Int)≥65)) (decide ((↑(s.1.getD (↑i:Int).toNat (0:UInt8)).toNat:Int)≤90)) false)=true→True)∧((cond (decide ((↑(s.1.getD (↑i:Int).toNat (0:UInt8)).toNat:Int)≥65)) (decide ((↑(s.1.getD (↑i:Int).toNat (0:UInt8)).toNat:Int)≤90)) false)=false→((cond ((↑i:Int)==0) true (cond ((↑(s.1.getD (↑i:Int).toNat (0:UInt8)).toNat:Int) != 95) (cond ((↑(s.1.getD (↑i:Int).toNat (0:UInt8)).toNat:Int) != 45) (cond (decide ((↑(s.1.getD (↑i:Int).toNat (0:UInt8)).toNat:Int)<48)) true (decide ((↑(s.1.getD (↑i:Int).toNat (0:UInt8)).toNat:Int)>57))) false) false))=true→dD s s.size=false∧(false=false∧True)∧True)∧((cond ((↑i:Int)==0) true (cond ((↑(s.1.getD (↑i:Int).toNat (0:UInt8)).toNat:Int) != 95) (cond ((↑(s.1.getD (↑i:Int).toNat (0:UInt8)).toNat:Int) != 45) (cond (decide ((↑(s.1.getD (↑i:Int).toNat (0:UInt8)).toNat:Int)<48)) true (decide ((↑(s.1.getD (↑i:Int).toNat (0:UInt8)).toNat:Int)>57))) false) false))=false→True)))∧((cond (cond (decide ((↑(s.1.getD (↑i:Int).toNat (0:UInt8)).toNat:Int)≥65)) (decide ((↑(s.1.getD (↑i:Int).toNat (0:UInt8)).toNat:Int)≤90)) false) true (!cond ((↑i:Int)==0) true (cond ((↑(s.1.getD (↑i:Int).toNat (0:UInt8)).toNat:Int) != 95) (cond ((↑(s.1.getD (↑i:Int).toNat (0:UInt8)).toNat:Int) != 45) (cond (decide ((↑(s.1.getD (↑i:Int).toNat (0:UInt8)).toNat:Int)<48)) true (decide ((↑(s.1.getD (↑i:Int).toNat (0:UInt8)).toNat:Int)>57))) false) false)))=true→rh s (i +(1:Nat))∧s.size - (i +(1:Nat))<s.size - i∧(s=s∧IntKind.i64.wrap ((↑i:Int)+1) =(↑(i +(1:Nat)):Int)∧True)∧True))∧(decide ((↑i:Int) <(↑s.size:Int))=false→dD s s.size=true∧True∧True))
 have e :(i:Int).toNat=i:=by simp
 rw [e]
 have hb:s.size≤140737488355328:=hx
 have hby :(((s.data.getD i 0).toNat:Nat):Int)=kA s i:=rfl
 rw [hby]
 generalize hc:kA s i=c
 have hl :(bif decide (c≥65) then decide (c≤90) else false)=mT c:=by simp only [mT,Bool.cond_false_right]
 rw [hl]
 have hr :(bif (i:Int)==0 then true else bif c != 95 then bif c != 45 then bif decide (c<48) then true else decide (c>57) else false else false) =((i:Int)==0 ||(c != 95&&(c != 45&&(decide (c<48)||decide (c>57))))):=by
  simp only [Bool.cond_true_left,Bool.cond_false_right]
 rw [hr]
 have hbad:sw i c =(!mT c&&((i:Int)==0 ||(c != 95&&(c != 45&&(decide (c<48)||decide (c>57)))))):=rfl
 generalize ((i:Int)==0 ||(c != 95&&(c != 45&&(decide (c<48)||decide (c>57)))))=q at hbad ⊢
 obtain ⟨hi1,hi2⟩:=hi
 refine ⟨fun h1=>?_,fun h1=>⟨?_,trivial,trivial⟩⟩
 ·have h1:i<s.size:=by simpa using h1
  refine ⟨⟨⟨by omega,by omega⟩,fun _=>trivial,fun h2=>⟨fun h3=>⟨?_,⟨rfl,trivial⟩,trivial⟩,fun _=>trivial⟩⟩,fun h2=>⟨⟨by omega,?_⟩,by omega,⟨rfl,by rw [aL (by omega) (by omega)];omega,trivial⟩,trivial⟩⟩
  ·have hb2:sw i (kA s i)=true:=by rw [hc,hbad,h2,h3];rfl
   unfold dD
   rw [List.all_eq_false]
   exact ⟨i,List.mem_range.2 h1,by rw [hb2];decide⟩
  ·have hb2:sw i (kA s i)=false:=by
    rw [hc,hbad]
    cases hL:mT c with
    | true=>rfl
    | false=>rw [hL] at h2;simpa using h2
   unfold dD at hi2 ⊢
   rw [List.range_succ,List.all_append,hi2]
   simp [hb2]
 ·have h1:s.size≤i:=by simpa using h1
  have:i=s.size:=by omega
  rw [←this];exact hi2
theorem PK (s:ByteArray) (hx:s.size≤aA):LoopOK Tryz.prog Tryz.f71.ntmps (aq Tryz.f71 0) (eE ⟨[],[],0⟩ (J95 s 0) (T95 s)):=
 pj (gH (CtrsOK.nil) _) mixed (J95 s) (fun _=>rfl) (rh s) (fun i=>s.size - i) (fun _ _=>none) (fun _ _ _ _ _ h=>by cases h) (T95 s) [] [] 0 (⟨Nat.zero_le _,rfl⟩) L95 (fun i hi=>Rb s hx i hi)
theorem TL (s:ByteArray) (_hx:s.size≤aA) :(evFn (cf8 [] Tryz.f71) (Λ95 s) Tryz.f71 (dy Ey (s,()))).sat fun v' rows=>leV v' (mF (s,())).v∧rows =(mF (s,())).rows:=by
 refine cast (by kernel_rfl) (?_ :((cond (s.toList ==(ByteArray.mk #[]).toList) true (decide ((↑s.size:Int)>16)))=true→false=jk s∧([]:List RowD)=[])∧((cond (s.toList ==(ByteArray.mk #[]).toList) true (decide ((↑s.size:Int)>16)))=false→((cg fun x=>none)∧(s=s∧0 =(↑(0:Nat):Int)∧True)∧True)∧(dD s s.size=true→true=jk s∧([]:List RowD)=[])∧(dD s s.size=false→false=jk s∧([]:List RowD)=[])))
 have hz :(s.toList ==(ByteArray.mk #[]).toList)=decide ((s.size:Int)<1):=by
  rw [Bool.eq_iff_iff,beq_iff_eq,decide_eq_true_eq,ByteArray.toList_eq,ByteArray.toList_eq]
  constructor
  ·intro h
   have:=congrArg List.length h
   simp at this
   have h2:s.size=0:=by rw [←ByteArray.size_data];simp [this]
   omega
  ·intro h
   have h2:s.data.size=0:=by rw [ByteArray.size_data];omega
   have h3:s.data=#[]:=Array.eq_empty_of_size_eq_zero h2
   rw [h3]
 have hn:jk s =(dD s s.size&&(decide ((s.size:Int)≥1)&&decide ((s.size:Int)≤16))):=rfl
 rw [hz,hn]
 refine ⟨fun h=>⟨?_,rfl⟩,fun h=>⟨⟨rfl,⟨rfl,rfl,trivial⟩,trivial⟩,fun h2=>⟨?_,rfl⟩,fun h2=>⟨?_,rfl⟩⟩⟩
 ·have :(decide ((s.size:Int)≥1)&&decide ((s.size:Int)≤16))=false:=by
   by_cases h1 :(s.size:Int)<1
   ·have :¬(s.size:Int)≥1:=by omega
    simp [this]
   ·rw [decide_eq_false h1] at h
    have h :(s.size:Int)>16:=of_decide_eq_true h
    have :¬(s.size:Int)≤16:=by omega
    simp [this]
  rw [this,Bool.and_false]
 ·have h1 :¬(s.size:Int)<1:=fun h1=>by rw [decide_eq_true h1] at h;cases h
  rw [decide_eq_false h1] at h
  have h :¬(s.size:Int)>16:=of_decide_eq_false h
  rw [h2,decide_eq_true (show (s.size:Int)≥1 by omega),decide_eq_true (show (s.size:Int)≤16 by omega)]
  rfl
 ·rw [h2];rfl
theorem Te:CtrOK Tryz.prog K8 71 (aK K8 Ey mF):=by
 refine fx (C:=cf8 [] Tryz.f71) (gH (CtrsOK.nil) _) mixed (fn:=Tryz.f71) Tryz.func71 (by kernel_rfl) (by kernel_rfl) (by kernel_rfl) (Λ:=fun x=>Λ95 x.1) ?_ ?_ ?_
 ·rintro ⟨s,⟨⟩⟩ hw hn
  exact LoopsOK.at (by kernel_rfl) (.cons (by kernel_rfl) (PK s (AR (gO hw))) .nil)
 ·rintro ⟨s,⟨⟩⟩
  exact of_decide_eq_true (by kernel_rfl)
 ·rintro ⟨s,⟨⟩⟩ hw hn
  exact TL s (AR (gO hw))
theorem GH (s:ByteArray) :(aJ s).length=s.size:=by
 have:s.data.size=s.size:=ByteArray.size_data
 simp [aJ,this]
theorem H9 (s:ByteArray) (i:Nat) (h:i<s.size) :(aJ s).getD i (0:Int)=kA s i:=by
 have h1:i<s.data.size:=by rw [ByteArray.size_data];exact h
 simp [aJ,kA,Array.getElem?_eq_getElem h1]
theorem Q9 (s:ByteArray) (hx:s.size≤aA) (i:Nat) (hi:rh s i) :(stepObl (J92 s) (rh s) (fun i=>s.size - i) i (T92 s) (bs (cf8 [] Tryz.f112) (fun _=>none) (aq Tryz.f112 0) (J92 s i)) (L95 i)).1:=by
 refine cast (by kernel_rfl) (?_ :(decide ((↑i:Int) <(↑(aJ s).length:Int))=true→(0≤(↑i:Int)∧(↑i:Int) <(↑(aJ s).length:Int))∧((cond (!cond (decide ((aJ s).getD (↑i:Int).toNat (dflt (Ty.int IntKind.u8))≥65)) (decide ((aJ s).getD (↑i:Int).toNat (dflt (Ty.int IntKind.u8))≤90)) false) (cond ((↑i:Int)==0) true (cond ((aJ s).getD (↑i:Int).toNat (dflt (Ty.int IntKind.u8)) != 95) (cond ((aJ s).getD (↑i:Int).toNat (dflt (Ty.int IntKind.u8)) != 45) (cond (decide ((aJ s).getD (↑i:Int).toNat (dflt (Ty.int IntKind.u8))<48)) true (decide ((aJ s).getD (↑i:Int).toNat (dflt (Ty.int IntKind.u8))>57))) false) false)) false)=true→dD s s.size=false∧(false=false∧True)∧True)∧((cond (!cond (decide ((aJ s).getD (↑i:Int).toNat (dflt (Ty.int IntKind.u8))≥65)) (decide ((aJ s).getD (↑i:Int).toNat (dflt (Ty.int IntKind.u8))≤90)) false) (cond ((↑i:Int)==0) true (cond ((aJ s).getD (↑i:Int).toNat (dflt (Ty.int IntKind.u8)) != 95) (cond ((aJ s).getD (↑i:Int).toNat (dflt (Ty.int IntKind.u8)) != 45) (cond (decide ((aJ s).getD (↑i:Int).toNat (dflt (Ty.int IntKind.u8))<48)) true (decide ((aJ s).getD (↑i:Int).toNat (dflt (Ty.int IntKind.u8))>57))) false) false)) false)=false→rh s (i +(1:Nat))∧s.size - (i +(1:Nat))<s.size - i∧(s=s∧True∧(↑(aJ s).length:Int) =(↑(aJ s).length:Int)∧IntKind.i64.wrap ((↑i:Int)+1) =(↑(i +(1:Nat)):Int)∧True)∧RowD.mk (Ty.int IntKind.u8) (aJ s)=RowD.mk (Ty.int IntKind.u8) (aJ s)∧True))∧(decide ((↑i:Int) <(↑(aJ s).length:Int))=false→dD s s.size=true∧(s=s∧True)∧True))
 have e :(i:Int).toNat=i:=by simp
 rw [e]
 have hb:s.size≤140737488355328:=hx
 have hlen:=GH s
 obtain ⟨hi1,hi2⟩:=hi
 have hbad :∀ c:Int,(bif !(bif decide (c≥65) then decide (c≤90) else false) then bif (i:Int)==0 then true else bif c != 95 then bif c != 45 then bif decide (c<48) then true else decide (c>57) else false else false else false)=sw i c:=fun c=>by
  simp only [sw,mT,Bool.cond_true_left,Bool.cond_false_right]
 rw [hbad]
 refine ⟨fun h1=>?_,fun h1=>⟨?_,⟨rfl,trivial⟩,trivial⟩⟩
 ·have h1:i <(aJ s).length:=by simpa using h1
  have hat :(aJ s).getD i (dflt (Ty.int IntKind.u8))=kA s i:=H9 s i (by omega)
  rw [hat]
  refine ⟨⟨by omega,by omega⟩,fun h2=>⟨?_,⟨rfl,trivial⟩,trivial⟩,fun h2=>⟨⟨by omega,?_⟩,by omega,⟨rfl,trivial,rfl,by rw [aL (by omega) (by omega)];omega,trivial⟩,rfl,trivial⟩⟩
  ·unfold dD
   rw [List.all_eq_false]
   exact ⟨i,List.mem_range.2 (by omega),by rw [h2];decide⟩
  ·unfold dD at hi2 ⊢
   rw [List.range_succ,List.all_append,hi2]
   simp [h2]
 ·have h1 :(aJ s).length≤i:=by simpa using h1
  have:i=s.size:=by omega
  rw [←this];exact hi2
theorem PH (s:ByteArray) (hx:s.size≤aA):LoopOK Tryz.prog Tryz.f112.ntmps (aq Tryz.f112 0) (eE ⟨[],[],40⟩ (J92 s 0) (T92 s)):=
 pj (gH (CtrsOK.nil) _) mixed (J92 s) (fun _=>rfl) (rh s) (fun i=>s.size - i) (fun _ _=>none) (fun _ _ _ _ _ h=>by cases h) (T92 s) [] [] 0 (⟨Nat.zero_le _,rfl⟩) L95 (fun i hi=>Q9 s hx i hi)
theorem TG (s:ByteArray) (_hx:s.size≤aA) :(evFn (cf8 [] Tryz.f112) (Λ92 s) Tryz.f112 (dy Ey (s,()))).sat fun v' rows=>leV v' (mF (s,())).v∧rows =(mF (s,())).rows:=by
 refine cast (by kernel_rfl) (?_ :((cg fun x=>none)∧(s=s∧True∧(↑(aJ s).length:Int) =(↑(aJ s).length:Int)∧0 =(↑(0:Nat):Int)∧True)∧RowD.mk (Ty.int IntKind.u8) (aJ s)=RowD.mk (Ty.int IntKind.u8) (aJ s)∧True)∧(dD s s.size=true→(cond (decide ((↑s.size:Int)≥1)) (decide ((↑s.size:Int)≤16)) false)=jk s∧([]:List RowD)=[])∧(dD s s.size=false→false=jk s∧([]:List RowD)=[]))
 have hn:jk s =(dD s s.size&&(decide ((s.size:Int)≥1)&&decide ((s.size:Int)≤16))):=rfl
 refine ⟨⟨rfl,⟨rfl,trivial,rfl,rfl,trivial⟩,rfl,trivial⟩,fun h=>⟨?_,rfl⟩,fun h=>⟨?_,rfl⟩⟩
 ·rw [hn,h,Bool.true_and,Bool.cond_false_right]
 ·rw [hn,h,Bool.false_and]
theorem U0:CtrOK Tryz.prog K8 112 (aK K8 Ey mF):=by
 refine fx (C:=cf8 [] Tryz.f112) (gH (CtrsOK.nil) _) mixed (fn:=Tryz.f112) Tryz.func112 (by kernel_rfl) (by kernel_rfl) (by kernel_rfl) (Λ:=fun x=>Λ92 x.1) ?_ ?_ ?_
 ·rintro ⟨s,⟨⟩⟩ hw hn
  exact LoopsOK.at (by kernel_rfl) (.cons (by kernel_rfl) (PH s (AR (gO hw))) .nil)
 ·rintro ⟨s,⟨⟩⟩
  exact of_decide_eq_true (by kernel_rfl)
 ·rintro ⟨s,⟨⟩⟩ hw hn
  exact TG s (AR (gO hw))
theorem H3 (r:Rules) :(bif bif r.FollowOn != 0 then r.Innings==1 else false then bif r.FollowOn != 0 then r.Innings==1 else false else bif r.Quota != 0 then r.Overs==0 else bif decide ((r.Power.length:Int)>0) then r.Overs==0 else false)=su r:=by
 simp only [su]
 generalize (r.FollowOn != 0)=a
 generalize (r.Innings==1)=b
 generalize (r.Quota != 0)=c
 generalize decide ((r.Power.length:Int)>0)=d
 generalize (r.Overs==0)=e
 cases a <;> cases b <;> cases c <;> cases d <;> cases e <;> rfl
theorem GC (r:Rules) :(bif r.FollowOn != 0 then bif r.Innings==1 then true else bif r.Overs==0 then bif r.Quota != 0 then true else decide ((r.Power.length:Int)>0) else false else bif r.Overs==0 then bif r.Quota != 0 then true else decide ((r.Power.length:Int)>0) else false)=su r:=by
 simp only [su]
 generalize (r.FollowOn != 0)=a
 generalize (r.Innings==1)=b
 generalize (r.Quota != 0)=c
 generalize decide ((r.Power.length:Int)>0)=d
 generalize (r.Overs==0)=e
 cases a <;> cases b <;> cases c <;> cases d <;> cases e <;> rfl
theorem sG (r:Rules) :(bif r.Quota != 0 then decide (IntKind.i64.wrap (r.Quota*r.Side)<r.Overs) else false)=Dw r:=by
 simp only [Dw,Bool.cond_false_right]
theorem Q8 (r:Rules) (hx:r.Power.length≤aA) (i:Nat) (hi:re r i) :(stepObl (J86 r) (re r) (fun i=>r.Power.length - i) i (T94 r) (bs (cf8 [k95,k96] Tryz.f27) (fun _=>none) (aq Tryz.f27 0) (J86 r i)) (L94 i)).1:=by
 refine cast (by kernel_rfl) (?_ :(decide ((↑i:Int) <(↑r.14.length:Int))=true→(0≤(↑i:Int)∧(↑i:Int) <(↑r.14.length:Int))∧((cond (decide ((r.14.getD (↑i:Int).toNat (dflt (Ty.nm Nm.Phase))).1<1)) true (cond (decide ((r.14.getD (↑i:Int).toNat (dflt (Ty.nm Nm.Phase))).2 <(r.14.getD (↑i:Int).toNat (dflt (Ty.nm Nm.Phase))).1)) true (cond (decide ((r.14.getD (↑i:Int).toNat (dflt (Ty.nm Nm.Phase))).2>r.4)) true (!af (r.14.getD (↑i:Int).toNat (dflt (Ty.nm Nm.Phase))).3 0 11))))=true→(bu r (0:Nat) r.14.length != 0)=true∧(2=bu r (0:Nat) r.14.length∧True)∧True)∧((cond (decide ((r.14.getD (↑i:Int).toNat (dflt (Ty.nm Nm.Phase))).1<1)) true (cond (decide ((r.14.getD (↑i:Int).toNat (dflt (Ty.nm Nm.Phase))).2 <(r.14.getD (↑i:Int).toNat (dflt (Ty.nm Nm.Phase))).1)) true (cond (decide ((r.14.getD (↑i:Int).toNat (dflt (Ty.nm Nm.Phase))).2>r.4)) true (!af (r.14.getD (↑i:Int).toNat (dflt (Ty.nm Nm.Phase))).3 0 11))))=false→((decide ((↑i:Int)>0)=true→(0≤IntKind.i64.wrap ((↑i:Int) - 1)∧IntKind.i64.wrap ((↑i:Int) - 1) <(↑r.14.length:Int))∧True)∧(decide ((↑i:Int)>0)=false→True))∧(true=true→((cond (decide ((↑i:Int)>0)) (decide ((r.14.getD (↑i:Int).toNat (dflt (Ty.nm Nm.Phase))).1≤(r.14.getD (IntKind.i64.wrap ((↑i:Int) - 1)).toNat (dflt (Ty.nm Nm.Phase))).2)) false)=true→(bu r (0:Nat) r.14.length != 0)=true∧(8=bu r (0:Nat) r.14.length∧True)∧True)∧((cond (decide ((↑i:Int)>0)) (decide ((r.14.getD (↑i:Int).toNat (dflt (Ty.nm Nm.Phase))).1≤(r.14.getD (IntKind.i64.wrap ((↑i:Int) - 1)).toNat (dflt (Ty.nm Nm.Phase))).2)) false)=false→re r (i +(1:Nat))∧r.14.length - (i +(1:Nat))<r.14.length - i∧(True∧RowD.mk (Ty.nm Nm.Phase) r.14=RowD.mk (Ty.nm Nm.Phase) r.14∧(↑r.14.length:Int) =(↑r.14.length:Int)∧IntKind.i64.wrap ((↑i:Int)+1) =(↑(i +(1:Nat)):Int)∧True)∧(r.1=r.1∧r.2=r.2∧r.3=r.3∧r.4=r.4∧r.5=r.5∧r.6=r.6∧r.7=r.7∧r.8=r.8∧r.9=r.9∧r.10=r.10∧r.11=r.11∧r.12=r.12∧r.13=r.13∧RowD.mk (Ty.nm Nm.Phase) r.14=RowD.mk (Ty.nm Nm.Phase) r.14∧True)∧True))))∧(decide ((↑i:Int) <(↑r.14.length:Int))=false→(bu r (0:Nat) r.14.length != 0)=false∧True∧True))
 have e :(i:Int).toNat=i:=by simp
 rw [e]
 have hb:r.Power.length≤140737488355328:=hx
 have hp:r.Power.getD i (dflt (Ty.nm Nm.Phase))=a7 r i:=rfl
 rw [hp]
 have hpb :(bif decide ((a7 r i).From<1) then true else bif decide ((a7 r i).To <(a7 r i).From) then true else bif decide ((a7 r i).To>r.Overs) then true else !af (a7 r i).Outside 0 11)=mn r (a7 r i):=by
  simp only [mn,Bool.cond_true_left,gt_iff_lt]
 rw [hpb]
 obtain ⟨hi1,hi2⟩:=hi
 refine ⟨fun h1=>?_,fun h1=>?_⟩
 ·have h1:i<r.Power.length:=by simpa using h1
  have hn:r.Power.length - i =(r.Power.length - (i+1))+1:=by omega
  rw [hn,uz] at hi2
  have hw1:0<i→IntKind.i64.wrap ((i:Int) - 1) =((i - 1:Nat):Int):=fun h=>by rw [aL (by omega) (by omega)];omega
  refine ⟨⟨by omega,by omega⟩,fun h2=>?_,fun h2=>⟨⟨fun h3=>?_,fun _=>trivial⟩,fun _=>⟨fun h3=>?_,fun h3=>?_⟩⟩⟩
  ·have hE:gQ r i=2:=by simp only [gQ,h2];rfl
   rw [hE] at hi2
   have hi2:bu r 0 r.Power.length=2:=hi2
   rw [hi2]
   exact ⟨rfl,⟨rfl,trivial⟩,trivial⟩
  ·have h3:0<i:=by simpa using h3
   rw [hw1 h3]
   exact ⟨⟨by omega,by omega⟩,trivial⟩
  ·have h4:0<i:=by
    by_cases h4:0<i
    ·exact h4
    ·have:i=0:=by omega
     subst this
     simp at h3
   rw [hw1 h4,Int.toNat_natCast] at h3
   have hq:r.Power.getD (i - 1) (dflt (Ty.nm Nm.Phase))=a7 r (i - 1):=rfl
   rw [hq] at h3
   have h5 :(decide ((i:Int)>0)&&decide ((a7 r i).From≤(a7 r (i - 1)).To))=true:=by rw [←h3];cases decide ((i:Int)>0) <;> rfl
   have hE:gQ r i=8:=by simp only [gQ,h2,h5];rfl
   rw [hE] at hi2
   have hi2:bu r 0 r.Power.length=8:=hi2
   rw [hi2]
   exact ⟨rfl,⟨rfl,trivial⟩,trivial⟩
  ·have h5 :(decide ((i:Int)>0)&&decide ((a7 r i).From≤(a7 r (i - 1)).To))=false:=by
    by_cases h4:0<i
    ·rw [hw1 h4,Int.toNat_natCast] at h3
     have hq:r.Power.getD (i - 1) (dflt (Ty.nm Nm.Phase))=a7 r (i - 1):=rfl
     rw [hq] at h3
     rw [←h3];cases decide ((i:Int)>0) <;> rfl
    ·have:i=0:=by omega
     subst this;rfl
   have hE:gQ r i=0:=by simp only [gQ,h2,h5];rfl
   rw [hE] at hi2
   have hi2:bu r 0 r.Power.length=bu r (i+1) (r.Power.length - (i+1)):=hi2
   exact ⟨⟨by omega,hi2⟩,by omega,⟨trivial,rfl,rfl,by rw [aL (by omega) (by omega)];omega,trivial⟩,by simp⟩
 ·have h1:r.Power.length≤i:=by simpa using h1
  have h2:r.Power.length - i=0:=by omega
  rw [h2] at hi2
  have hi2:bu r 0 r.Power.length=0:=hi2
  rw [hi2]
  exact ⟨rfl,trivial,trivial⟩
theorem PE (r:Rules) (hx:r.Power.length≤aA):LoopOK Tryz.prog Tryz.f27.ntmps (aq Tryz.f27 0) (eE ⟨[],[],8⟩ (J86 r 0) (T94 r)):=
 pj (gH (.cons Te (.cons Tf .nil)) _) mixed (J86 r) (fun _=>rfl) (re r) (fun i=>r.Power.length - i) (fun _ _=>none) (fun _ _ _ _ _ h=>by cases h) (T94 r) [] [] 0 (⟨Nat.zero_le _,rfl⟩) L94 (fun i hi=>Q8 r hx i hi)
theorem TF (r:Rules) (_hx:r.Power.length≤aA) :(evFn (cf8 [k95,k96] Tryz.f27) (Λ86 r) Tryz.f27 (dy oA (r,()))).sat fun v' rows=>leV v' (mE (r,())).v∧rows =(mE (r,())).rows:=by
 refine cast (by kernel_rfl) (?_ :((!jk r.1)=true→5=aV r∧([]:List RowD)=[])∧((!jk r.1)=false→((cond (!af r.2 2 11) true (cond (!af r.3 1 2) true (cond (!af r.4 0 90) true (cond (!af r.5 4 8) true (cond (!af r.6 0 90) true (cond (!af r.7 1 5) true (cond (!af r.8 1 5) true (cond (!af r.10 0 200) true (cond (!af r.11 0 1000) true (cond (!af r.12 0 9) true (!af r.13 0 11)))))))))))=true→2=aV r∧([]:List RowD)=[])∧((cond (!af r.2 2 11) true (cond (!af r.3 1 2) true (cond (!af r.4 0 90) true (cond (!af r.5 4 8) true (cond (!af r.6 0 90) true (cond (!af r.7 1 5) true (cond (!af r.8 1 5) true (cond (!af r.10 0 200) true (cond (!af r.11 0 1000) true (cond (!af r.12 0 9) true (!af r.13 0 11)))))))))))=false→((cond (r.11 != 0) (cond (r.3==1) true (cond (r.4==0) (cond (r.6 != 0) true (decide ((↑r.14.length:Int)>0))) false)) (cond (r.4==0) (cond (r.6 != 0) true (decide ((↑r.14.length:Int)>0))) false))=true→1=aV r∧([]:List RowD)=[])∧((cond (r.11 != 0) (cond (r.3==1) true (cond (r.4==0) (cond (r.6 != 0) true (decide ((↑r.14.length:Int)>0))) false)) (cond (r.4==0) (cond (r.6 != 0) true (decide ((↑r.14.length:Int)>0))) false))=false→((cond (r.6 != 0) (decide (IntKind.i64.wrap (r.6*r.2)<r.4)) false)=true→13=aV r∧([]:List RowD)=[])∧((cond (r.6 != 0) (decide (IntKind.i64.wrap (r.6*r.2)<r.4)) false)=false→(decide ((↑r.14.length:Int)>8)=true→9=aV r∧([]:List RowD)=[])∧(decide ((↑r.14.length:Int)>8)=false→((cg fun x=>none)∧(True∧RowD.mk (Ty.nm Nm.Phase) r.14=RowD.mk (Ty.nm Nm.Phase) r.14∧(↑r.14.length:Int) =(↑r.14.length:Int)∧0 =(↑(0:Nat):Int)∧True)∧(r.1=r.1∧r.2=r.2∧r.3=r.3∧r.4=r.4∧r.5=r.5∧r.6=r.6∧r.7=r.7∧r.8=r.8∧r.9=r.9∧r.10=r.10∧r.11=r.11∧r.12=r.12∧r.13=r.13∧RowD.mk (Ty.nm Nm.Phase) r.14=RowD.mk (Ty.nm Nm.Phase) r.14∧True)∧True)∧((bu r (0:Nat) r.14.length != 0)=true→bu r (0:Nat) r.14.length=aV r∧([]:List RowD)=[])∧((bu r (0:Nat) r.14.length != 0)=false→0=aV r∧([]:List RowD)=[])))))))
 have hR :(bif !af r.Side 2 11 then true else bif !af r.Innings 1 2 then true else bif !af r.Overs 0 90 then true else bif !af r.Balls 4 8 then true else bif !af r.Quota 0 90 then true else bif !af r.Wide 1 5 then true else bif !af r.NoBall 1 5 then true else bif !af r.NewBall 0 200 then true else bif !af r.FollowOn 0 1000 then true else bif !af r.Reviews 0 9 then true else !af r.Outside 0 11)=!dE r:=by
  simp only [dE,Bool.cond_true_left,Bool.not_and]
 rw [hR,GC,sG]
 have hP1 :(r.Power.length:Int)>8→dS r=9:=fun h=>by simp only [dS];rw [if_pos h]
 have hP2 :¬(r.Power.length:Int)>8→dS r=bu r 0 r.Power.length:=fun h=>by simp only [dS];rw [if_neg h]
 refine ⟨fun h1=>⟨?_,rfl⟩,fun h1=>⟨fun h2=>⟨?_,rfl⟩,fun h2=>⟨fun h3=>⟨?_,rfl⟩,fun h3=>⟨fun h4=>⟨?_,rfl⟩,fun h4=>⟨fun h5=>⟨?_,rfl⟩,fun h5=>⟨⟨rfl,⟨trivial,rfl,rfl,rfl,trivial⟩,by simp⟩,fun h6=>⟨?_,rfl⟩,fun h6=>⟨?_,rfl⟩⟩⟩⟩⟩⟩⟩
 ·simp only [aV,h1,if_true]
 ·simp only [aV,h1,h2,if_true];rfl
 ·simp only [aV,h1,h2,h3,if_true];rfl
 ·simp only [aV,h1,h2,h3,h4,if_true];rfl
 ·simp only [aV,h1,h2,h3,h4];rw [hP1 (of_decide_eq_true h5)];rfl
 ·simp only [aV,h1,h2,h3,h4];rw [hP2 (of_decide_eq_false h5)];rfl
 ·simp only [aV,h1,h2,h3,h4];rw [hP2 (of_decide_eq_false h5)]
  have h6:bu r 0 r.Power.length=0:=by simpa using h6
  rw [h6];rfl
theorem UZ:CtrOK Tryz.prog K8 27 (aK K8 oA mE):=by
 refine fx (C:=cf8 [k95,k96] Tryz.f27) (gH (.cons Te (.cons Tf .nil)) _) mixed (fn:=Tryz.f27) Tryz.func27 (by kernel_rfl) (by kernel_rfl) (by kernel_rfl) (Λ:=fun x=>Λ86 x.1) ?_ ?_ ?_
 ·rintro ⟨r,⟨⟩⟩ hw hn
  exact LoopsOK.at (by kernel_rfl) (.cons (by kernel_rfl) (PE r (pT (gO hw))) .nil)
 ·rintro ⟨r,⟨⟩⟩
  exact of_decide_eq_true (by kernel_rfl)
 ·rintro ⟨r,⟨⟩⟩ hw hn
  exact TF r (pT (gO hw))
theorem TE (r:Rules) :(evFn (cf8 [k92,k93,k94] Tryz.f64) (fun _=>none) Tryz.f64 (dy oA (r,()))).sat fun v' rows=>leV v' (mE (r,())).v∧rows =(mE (r,())).rows:=by
 refine cast (by kernel_rfl) (?_ :((!jk r.1)=true→5=aV r∧([]:List RowD)=[])∧((!jk r.1)=false→((!dE r)=true→2=aV r∧([]:List RowD)=[])∧((!dE r)=false→((cond (cond (r.11 != 0) (r.3==1) false) (cond (r.11 != 0) (r.3==1) false) (cond (r.6 != 0) (r.4==0) (cond (decide ((↑r.14.length:Int)>0)) (r.4==0) false)))=true→1=aV r∧([]:List RowD)=[])∧((cond (cond (r.11 != 0) (r.3==1) false) (cond (r.11 != 0) (r.3==1) false) (cond (r.6 != 0) (r.4==0) (cond (decide ((↑r.14.length:Int)>0)) (r.4==0) false)))=false→((cond (r.6 != 0) (decide (IntKind.i64.wrap (r.6*r.2)<r.4)) false)=true→13=aV r∧([]:List RowD)=[])∧((cond (r.6 != 0) (decide (IntKind.i64.wrap (r.6*r.2)<r.4)) false)=false→dS r=aV r∧([]:List RowD)=[])))))
 rw [H3,sG]
 simp only [aV]
 repeat' first|refine And.intro ?_ ?_|intro _
 all_goals first|rfl |(simp_all;done)|grind
theorem UY:CtrOK Tryz.prog K8 64 (aK K8 oA mE):=by
 refine fx (C:=cf8 [k92,k93,k94] Tryz.f64) (gH (.cons U0 (.cons U1 (.cons U2 .nil))) _) mixed (fn:=Tryz.f64) Tryz.func64 (by kernel_rfl) (by kernel_rfl) (by kernel_rfl) (Λ:=fun _ _=>none) ?_ ?_ ?_
 ·exact fun _ _ _ _ _ _ _ _ h=>by cases h
 ·rintro ⟨r,⟨⟩⟩
  exact of_decide_eq_true (by kernel_rfl)
 ·rintro ⟨r,⟨⟩⟩ hw hn
  exact TE r
end
section
open Go Go.Mir Go.RowKit
attribute [local irreducible] Go.Mir.DT.sat Go.Mir.evPat Go.Mir.RT.sat Go.Mir.evFn
def oK (r:Rules) (b:Mir.Book):Sum Int (List (List boxbook_entry)):=
 if aV r != 0 then .inl (aV r) else if nR b||!(bV b).all okI then .inl 2 else if gq b then .inl 9
 else match bxP r b.Boxes none 0 [] with
  | .inl e=> .inl e
  | .inr es=>if aD r [] b.Strips != 0 then .inl (aD r [] b.Strips) else if lG r b es then .inr es else .inl 12
def QS:Den (tyP qRB)→List Prop×Den (tyP CB):=fun x=>([smB x.2.1],fC (oK x.1 x.2.1))
def KL:Den (tyP qRB)→List Prop×Den (tyP rP):=fun x=>([smB x.2.1],(kB x.1 x.2.1,()))
theorem v8 {r:Rules} (h:aV r=0):rdG r:=by
 have hr:dE r=true:=by
  cases hr:dE r with
  | true=>rfl
  | false=>
   unfold aV at h
   cases hn:jk r.Name <;> simp [hn,hr] at h
 simp only [dE,af,Bool.and_eq_true,decide_eq_true_eq] at hr
 exact ⟨⟨⟨by omega,by omega⟩,by omega,by omega⟩,⟨by omega,by omega⟩,by omega,by omega⟩
theorem ll {r:Rules} (hs:1≤r.Side) :∀ (l pre:List Mir.Strip),aD r pre l=0→∀ x∈l,0≤x.Bowler∧x.Bowler≤r.Side
 | [],_,_,x,hx=>by cases hx
 | y::l,pre,h,x,hx=>by
  unfold aD at h
  have h0:bQ r pre y=0:=by
   by_cases hb:bQ r pre y=0
   ·exact hb
   ·rw [if_pos (by simpa using hb)] at h;exact absurd h hb
  rw [if_neg (by rw [h0];decide)] at h
  rcases List.mem_cons.1 hx with rfl|hx
  ·unfold bQ at h0
   split at h0
   ·cases h0
   ·split at h0
    ·cases h0
    ·split at h0
     ·cases h0
     ·split at h0
      ·cases h0
      ·split at h0
       ·cases h0
       ·rename_i hq
        simp only [Bool.or_eq_true,Bool.and_eq_true,Bool.not_eq_true',decide_eq_true_eq,bne_iff_ne,ne_eq,not_or,not_and,Decidable.not_not] at hq
        cases hc:cY x.How with
        | true=>
         have:=hq.1 hc
         omega
        | false=>
         have:=hq.2 hc
         omega
  ·exact ll hs l _ h x hx
theorem Pu {r:Rules} {b:Mir.Book} {es:List (List boxbook_entry)} (hb:b.Boxes.length≤4000) (h:bxP r b.Boxes none 0 [] = .inr es) :(∀ x∈b.Boxes,uo r x.Symbols∧(1≤x.Bowler∧x.Bowler≤r.Side))∧es=b.Boxes.map fun x=>x.Symbols.map (bE r):=by
 have ho:=qD (r:=r) b.Boxes [] none 0 [] (.inl ⟨rfl,rfl,rfl⟩) (by simpa using hb)
 rw [h] at ho
 have hz:=sA b.Boxes [] ho.symm
 refine ⟨hz,?_⟩
 rw [yz _ _ _ _ h,List.nil_append]
 exact Be fun x hx=>(hz x hx).1
theorem Tb {r:Rules} {b:Mir.Book} {es:List (List boxbook_entry)} (hr:rdG r) (hb:smB b) (hs:qL b) (h:bxP r b.Boxes none 0 [] = .inr es) (h2:aD r [] b.Strips=0):ndA r b es:=by
 obtain ⟨hx,he⟩:=Pu hb.1.1 h
 have hl:es.length=b.Boxes.length:=by rw [he,List.length_map]
 refine ⟨⟨hl,by rw [hl];exact hb.1.1,?_⟩,⟨hr,fun x hm=>⟨by have:=(hx x hm).2;omega,(hx x hm).2.2⟩,ll hr.2.2.1 _ _ h2⟩,hb.2,hs⟩
 intro ys hy
 rw [he] at hy
 obtain ⟨x,hm,rfl⟩:=List.mem_map.1 hy
 refine ⟨by rw [List.length_map];exact hb.1.2 x hm,fun y hy=>?_⟩
 obtain ⟨w,hw,rfl⟩:=List.mem_map.1 hy
 exact Fm hr.1 ((hx x hm).1 w hw)
theorem Ak (r:Rules) (b:Mir.Book) (hb:smB b) :(evPat (az [k85,tC,tE,FG,tA,rj,xc] Tryz.f26) (fun _=>none) Tryz.f26 qRB CB (r,b,())).sat fun z_=>z_ =(QS (r,b,())).2:=by
 refine cast (by kernel_rfl) (?_:let r1:Bool:=aD r [] b.3 != 0;let r2:List (List boxbook_entry)×Int×Unit:=fC (bxP r b.2 none 0 []);let r3:Bool:=!lG r b r2.1;let r4:Bool:=r2.2.1 != 0;let r5:Bool:=cond (b.1 != 1) (cond (b.1 != 2) true ((bV b).any gL)) ((bV b).any gL);((aV r != 0)=true→([],aV r,())=fC (oK r b))∧((aV r != 0)=false→(r5=true→([],2,())=fC (oK r b))∧(r5=false→smB b∧(gq b=true→([],9,())=fC (oK r b))∧(gq b=false→rdG r∧smX b.2∧(r4=true→([],r2.2)=fC (oK r b))∧(r4=false→smY b.3∧(r1=true→([],aD r [] b.3,())=fC (oK r b))∧(r1=false→ndA r b r2.1∧(r3=true→([],12,())=fC (oK r b))∧(r3=false→(r2.1,0,())=fC (oK r b))))))))
 intro r1 r2 r3 r4 r5
 clear_value (hr1:r1=_) (hr2:r2=_) (hr3:r3=_) (hr4:r4=_) (hr5:r5=_)
 have e5:r5 =(nR b||!(bV b).all okI):=by
  rw [hr5]
  have ho :∀ l:List Int,l.any gL=!l.all okI:=fun l=>by
   induction l with
   | nil=>rfl
   | cons v l ih=>
    rw [List.any_cons,List.all_cons,ih]
    have:gL v=!okI v:=by unfold gL okI;cases decide (v<0) <;> cases decide (v>1000000) <;> rfl
    rw [this]
    cases okI v <;> rfl
  rw [ho]
  unfold nR
  cases b.Side != 1 <;> cases b.Side != 2 <;> rfl
 refine ⟨fun h=>?_,fun h=>?_⟩
 ·unfold oK
  rw [if_pos h]
  rfl
 have hc:aV r=0:=by simpa using h
 have hg:=v8 hc
 have e0:oK r b=if nR b||!(bV b).all okI then .inl 2 else if gq b then .inl 9
   else match bxP r b.Boxes none 0 [] with
    | .inl e=> .inl e
    | .inr es=>if aD r [] b.Strips != 0 then .inl (aD r [] b.Strips) else if lG r b es then .inr es else .inl 12:=by
  rw [oK,if_neg (by rw [hc];decide)]
 rw [e0,←e5]
 refine ⟨fun h5=>by rw [h5];rfl,fun h5=>⟨hb,fun hm=>by rw [h5,hm];rfl,fun hm=>⟨hg,hb.1,?_,?_⟩⟩⟩
 ·intro h4
  rw [h5,hm]
  rw [hr4,hr2] at h4
  rw [hr2]
  cases hp:bxP r b.Boxes none 0 [] with
  | inl e=>rfl
  | inr es=>rw [hp] at h4;cases h4
 ·intro h4
  rw [hr4,hr2] at h4
  have hso:qL b:=by
   rw [e5] at h5
   simp only [Bool.or_eq_false_iff,Bool.not_eq_false'] at h5
   exact h5.2
  cases hp:bxP r b.Boxes none 0 [] with
  | inl e=>
   rw [hp] at h4
   have:=yy _ _ _ _ hp
   have h4 :(e != 0)=false:=h4
   exact absurd (by simpa using h4) this
  | inr es=>
   have e2:r2 =(es,0,()):=by rw [hr2,hp];rfl
   rw [h5,hm]
   rw [e2] at hr3 ⊢
   refine ⟨hb.2,fun h1=>?_,fun h1=>⟨?_,fun h3=>?_,fun h3=>?_⟩⟩
   ·rw [hr1] at h1
    show _=fC (if aD r [] b.Strips != 0 then .inl (aD r [] b.Strips) else _)
    rw [if_pos h1]
    rfl
   ·exact Tb hg hb hso hp (by rw [hr1] at h1;simpa using h1)
   ·rw [hr1] at h1
    show _=fC (if aD r [] b.Strips != 0 then .inl (aD r [] b.Strips) else if lG r b es then .inr es else .inl 12)
    rw [if_neg (by rw [h1];exact Bool.false_ne_true),if_neg (by rw [hr3] at h3;simpa using h3)]
    rfl
   ·rw [hr1] at h1
    show _=fC (if aD r [] b.Strips != 0 then .inl (aD r [] b.Strips) else if lG r b es then .inr es else .inl 12)
    rw [if_neg (by rw [h1];exact Bool.false_ne_true),if_pos (by rw [hr3] at h3;simpa using h3)]
    rfl
def tz:FuncId×Ctr:=(26,aj KE qRB CB QS)
theorem Ca:CtrOK Tryz.prog KE 26 (aj KE qRB CB QS):=by
 refine aO (C:=az [k85,tC,tE,FG,tA,rj,xc] Tryz.f26) (an (.consU UY rfl (.consU Ce rfl (.consU Ch rfl (.consU J3 rfl (.consU Cb rfl (.consU zP rfl (.consU D9 rfl .nil))))))) _) mixed (fn:=Tryz.f26) Tryz.func26 (by kernel_rfl) (by kernel_rfl) (by kernel_rfl) (by kernel_rfl) (by kernel_rfl) (by kernel_rfl) (Λ:=fun _ _=>none) ?_ ?_
 ·exact fun _ _ _ _ _ _ _ _ h=>by cases h
 ·rintro ⟨r,b,⟨⟩⟩ hw hn
  exact Ak r b (hn _ List.mem_cons_self)
theorem LH (r:Rules) (b:Mir.Book):LQ (oK r b)=kB r b:=by
 unfold oK kB
 cases h1:aV r != 0 with
 | true=>rfl
 | false=>
  simp only [Bool.false_eq_true,if_false]
  cases (nR b||!(bV b).all okI) with
  | true=>rfl
  | false=>
   simp only [Bool.false_eq_true,if_false]
   cases gq b with
   | true=>rfl
   | false=>
    simp only [Bool.false_eq_true,if_false]
    cases bxP r b.Boxes none 0 [] with
    | inl e=>rfl
    | inr es=>
     simp only
     unfold vh
     cases h2:aD r [] b.Strips != 0 with
     | true=>rfl
     | false=>
      simp only [Bool.false_eq_true,if_false]
      cases lG r b es <;> rfl
theorem J7 (z:Sum Int (List (List boxbook_entry))) :(fC z).2.1=LQ z:=by cases z <;> rfl
theorem CL (r:Rules) (b:Mir.Book) (hb:smB b) :(evPat (az [tz] Tryz.f8) (fun _=>none) Tryz.f8 qRB rP (r,b,())).sat fun z_=>z_ =(KL (r,b,())).2:=by
 refine cast (by kernel_rfl) (?_:smB b∧(fC (oK r b)).2 =(kB r b,()))
 refine ⟨hb,?_⟩
 rw [←LH,←J7]
def xd:FuncId×Ctr:=(8,aj KE qRB rP KL)
theorem Ea:CtrOK Tryz.prog KE 8 (aj KE qRB rP KL):=by
 refine aO (C:=az [tz] Tryz.f8) (an (.consU Ca rfl .nil) _) mixed (fn:=Tryz.f8) Tryz.func8 (by kernel_rfl) (by kernel_rfl) (by kernel_rfl) (by kernel_rfl) (by kernel_rfl) (by kernel_rfl) (Λ:=fun _ _=>none) ?_ ?_
 ·exact fun _ _ _ _ _ _ _ _ h=>by cases h
 ·rintro ⟨r,b,⟨⟩⟩ hw hn
  exact CL r b (hn _ List.mem_cons_self)
def nH:List Int→List Mir.Strip→List Int
 | t,[]=>t
 | t,x::l=>nH (if decide (x.Bowler>0) then aQ t x.Bowler (-1) else t) l
abbrev Sz:PB:= .cells [.h I,.h I,.h I,.h I,.h I,.h I,.h I,.c (.osl 2 3)]
abbrev hpP:List (Nat×PB):= [(0,.dat (.nm .Book)),(1,Sz),(2,.row 3 I)]
abbrev SV:List (Nat×PB):= [(0,.dat (.nm .Book)),(1,Sz),(2,.row 3 I),(4,.dat tSt)]
abbrev tmP:List (Nat×PC):= [(5,.c (.ptr 0 0)),(7,.c (.ptr 1 0)),(8,.h I),(9,.h I),(10,.h I)]
abbrev R7:List (Nat×PC):= [(23,.h tSts),(24,.h I),(25,.h I)]
abbrev qP0:Pat:=⟨tmP++R7++[(12,.c (.ptr 4 0)),(35,.h (.slice .str)),(36,.h I),(37,.h I)],SV,5⟩
abbrev xP0:List (Lf×Pat):= [(.ext 2,⟨tmP++R7++[(12,.c (.ptr 4 0))],SV,5⟩)]
abbrev TP0:Type:=Int×Int×Int×List Mir.Strip×Int×Int×List ByteArray×Int×Int×Mir.Book×Int×Int×Int×Int×Int×Int×Int×List Int×Mir.Strip×Unit
abbrev Ut:Type:=Int×Int×Int×List Mir.Strip×Int×Int×Mir.Book×Int×Int×Int×Int×Int×Int×Int×List Int×Mir.Strip×Unit
def pI:TP0→Ut
 |(fa,ru,ou,l,n,i,s,_,j,b,fc,ch,wd,nb,by_,lg,ot,t,x,_)=>(fa,ru+fP (s.drop j.toNat),ou,l,n,i,b,fc,ch,wd,nb,by_,lg,ot,t,x,())
def s9 (s:List ByteArray):Prop:=∀ w∈s,(bF w).2=true
def wQ:TP0→Prop
 |(_,ru,_,_,_,i,s,m,j,_)=>(m =(s.length:Int)∧s.length≤4000∧s9 s)∧(0≤j∧j≤m)∧(0≤i∧i≤4000)∧upB (64000*i+16*j) ru
def JN:TP0→Nat
 |(_,_,_,_,_,_,_,m,j,_)=>(m - j).toNat
abbrev qP1:Pat:=⟨tmP++R7,hpP,4⟩
abbrev xP1:List (Lf×Pat):= [(.ext 0,⟨tmP,hpP,4⟩)]
abbrev TP1:Type:=Int×Int×Int×List Mir.Strip×Int×Int×Mir.Book×Int×Int×Int×Int×Int×Int×Int×List Int×Unit
abbrev Uu:Type:=Int×Int×Int×Mir.Book×Int×Int×Int×Int×Int×Int×Int×List Int×Unit
def mC:TP1→Uu
 |(fa,ru,ou,l,_,i,b,fc,ch,wd,nb,by_,lg,ot,t,_)=>(fa+aM gLn (l.drop i.toNat),ru+aM gRn (l.drop i.toNat),ou+aM gOt (l.drop i.toNat),b,fc,ch,wd,nb,by_,lg,ot - aM gRo (l.drop i.toNat),nH t (l.drop i.toNat),())
def stP (k:Int) (x:Mir.Strip):Prop:=(0≤x.Bowler∧x.Bowler<k)∧s9 x.Symbols
def M4 (k:Int) (l:List Mir.Strip):Prop:=∀ x∈l,stP k x
def rmP (i:Int) (t:List Int):Prop:=∀ v∈t,btB i 300000000 v
def wR:TP1→Prop
 |(fa,ru,ou,l,n,i,_,_,_,_,_,_,_,ot,t,_)=>(n =(l.length:Int)∧smY l∧M4 (t.length:Int) l)∧(0≤i∧i≤n)∧(upB (4000*i) fa∧upB (64000*i) ru∧upB i ou∧btB i 300000000 ot)∧rmP i t
def JO:TP1→Nat
 |(_,_,_,_,n,i,_)=>(n - i).toNat
abbrev hpQ:List (Nat×PB):= [(0,.dat (.nm .Book)),(1,.cells [.h I,.h I,.h I,.h I,.h I,.h I,.h I,.c .any])]
abbrev qQ0:Pat:=⟨tmP++[(81,.h (.slice I)),(82,.h I),(83,.h I)],hpQ,2⟩
abbrev xQ0:List (Lf×Pat):= [(.ext 4,⟨tmP,hpQ,2⟩),(.ret,⟨[(6,.h .bool)],[],0⟩)]
abbrev TQ0:Type:=Int×Int×Int×List Int×Int×Int×Mir.Book×Int×Int×Int×Int×Int×Int×Int×Unit
abbrev Uv:Type:=Int×Int×Int×Mir.Book×Int×Int×Int×Int×Int×Int×Int×Unit
def jo:TQ0→Sum Uv (Bool×Unit)
 |(fa,ru,ou,l,_,i,b,fc,ch,wd,nb,by_,lg,ot,_)=>if (l.drop i.toNat).all (fun v=>v==0) then .inl (fa,ru,ou,b,fc,ch,wd,nb,by_,lg,ot,()) else .inr (false,())
def wT:TQ0→Prop
 |(_,_,_,l,n,i,_)=>(n =(l.length:Int)∧l.length≤4000)∧0≤i∧i≤n
def JQ:TQ0→Nat
 |(_,_,_,_,n,i,_)=>(n - i).toNat
def UB (b:Mir.Book):Prop:=∀ x∈b.Boxes,1≤x.Bowler
def ndR (r:Rules) (a:List ref21_Symbol) (b:Mir.Book):Prop:=(isS r a∧rdG r∧UB b)∧smB b∧rdX r b.Boxes∧M4 (r.Side+1) b.Strips∧qL b
def KH:Den (tyP CC)→List Prop×Den (tyP dT):=fun x=>([ndR x.1 x.2.1 x.2.2.1],(lG x.1 x.2.2.1 (oO x.1 x.2.2.1),()))
theorem vU (c:Int) (u:List Int) {i:Int} (n:Int) (h:0<i) :∃ v,(∀ d,aQ (d::u) i n=d::v):=by
 obtain ⟨k,hk⟩ :∃ k,i.toNat=k+1:=⟨i.toNat - 1,by omega⟩
 refine ⟨u.set k (u.getD k 0+n),fun d=>?_⟩
 unfold aQ
 rw [hk]
 rfl
theorem QD :∀ (l:List Mir.Strip) (a c:Int) (u:List Int),(∀ x∈l,0≤x.Bowler)→∃ v d,nH (a::u) l=a::v∧jX (c::u) l=d::v
 | [],a,c,u,_=>⟨u,c,rfl,rfl⟩
 | x::l,a,c,u,h=>by
  have hx:=h x List.mem_cons_self
  have ht :∀ z∈l,0≤z.Bowler:=fun z hz=>h z (List.mem_cons_of_mem _ hz)
  by_cases hb:x.Bowler>0
  ·obtain ⟨w,hw⟩:=vU 0 u (-1) hb
   obtain ⟨v,d,h1,h2⟩:=QD l a c w ht
   refine ⟨v,d,?_,?_⟩
   ·show nH (if decide (x.Bowler>0)=true then aQ (a::u) x.Bowler (-1) else a::u) l=_
    rw [decide_eq_true hb,if_pos rfl,hw]
    exact h1
   ·show jX (aQ (c::u) x.Bowler (-1)) l=_
    rw [hw]
    exact h2
  ·have h0:x.Bowler=0:=by omega
   obtain ⟨v,d,h1,h2⟩:=QD l a (c + -1) u ht
   refine ⟨v,d,?_,?_⟩
   ·show nH (if decide (x.Bowler>0)=true then aQ (a::u) x.Bowler (-1) else a::u) l=_
    rw [decide_eq_false hb]
    exact h1
   ·show jX (aQ (c::u) x.Bowler (-1)) l=_
    rw [h0]
    exact h2
theorem uR :∀ (l:List Mir.Box) (es:List (List boxbook_entry)) (a:Int) (u:List Int),(∀ x∈l,1≤x.Bowler)→∃ v,cB (a::u) l es=a::v
 | [],es,a,u,_=>⟨u,by cases es <;> rfl⟩
 | x::l,[],a,u,_=>⟨u,rfl⟩
 | x::l,ys::es,a,u,h=>by
  obtain ⟨w,hw⟩:=vU 0 u (ae fWk ys) (i:=x.Bowler) (by have:=h x List.mem_cons_self;omega)
  obtain ⟨v,hv⟩:=uR l es a w fun z hz=>h z (List.mem_cons_of_mem _ hz)
  refine ⟨v,?_⟩
  show cB (aQ (a::u) x.Bowler (ae fWk ys)) l es=_
  rw [hw]
  exact hv
theorem HX {n:Nat} {l:List Mir.Box} {es:List (List boxbook_entry)} {st:List Mir.Strip} (h1 :∀ x∈l,1≤x.Bowler) (h2 :∀ x∈st,0≤x.Bowler) :
  (nH (cB (List.replicate (n+1) 0) l es) st).all (fun v=>v==0) =((jX (cB (List.replicate (n+1) 0) l es) st).drop 1).all (fun v=>v==0):=by
 obtain ⟨v,hv⟩:=uR l es 0 (List.replicate n 0) h1
 rw [List.replicate_succ,hv]
 obtain ⟨w,d,e1,e2⟩:=QD st 0 0 v h2
 rw [e1,e2]
 rfl
theorem xJ :∀ (t:List Int) (l:List Mir.Strip),(nH t l).length=t.length
 | _,[]=>rfl
 | t,x::l=>by
  show (nH (if decide (x.Bowler>0)=true then aQ t x.Bowler (-1) else t) l).length=_
  rw [xJ]
  split
  ·exact dz _ _ _
  ·rfl
theorem MY :∀ {l:List ByteArray},s9 l→∀ w∈l,fD w =(bF w).1:=fun h w hw=>by rw [Gw,h w hw];rfl
noncomputable def lpP0:Lp:=(⟨0,az [jW] Tryz.f34,(fun _=>none),(bA Tryz.f34 0 0),qP0,xP0⟩:Lp)
theorem RF (fa:Int) (ru:Int) (ou:Int) (l:List Mir.Strip) (n:Int) (i:Int) (s:List ByteArray) (m:Int) (j:Int) (b:Mir.Book) (fc:Int) (ch:Int) (wd:Int) (nb:Int) (by_:Int) (lg:Int) (ot:Int) (t:List Int) (x:Mir.Strip) (hi:wQ (fa,ru,ou,l,n,i,s,m,j,b,fc,ch,wd,nb,by_,lg,ot,t,x,())) :(Go.Mir.stepG lpP0 pI (fun y:Den (tyP lpP0.q)=>wQ y∧JN y<JN (fa,ru,ou,l,n,i,s,m,j,b,fc,ch,wd,nb,by_,lg,ot,t,x,())) (fa,ru,ou,l,n,i,s,m,j,b,fc,ch,wd,nb,by_,lg,ot,t,x,())∧Go.Mir.stepE lpP0 pI (fa,ru,ou,l,n,i,s,m,j,b,fc,ch,wd,nb,by_,lg,ot,t,x,())=pI (fa,ru,ou,l,n,i,s,m,j,b,fc,ch,wd,nb,by_,lg,ot,t,x,())):=by
 refine cast (by kernel_rfl) (?_ :((decide (j<m)=true→(0≤j∧j <(↑s.length:Int))∧wQ (fa,IntKind.i64.wrap (ru+fD (s.getD j.toNat (dflt Ty.str))),ou,l,n,i,s,m,IntKind.i64.wrap (j+1),b,fc,ch,wd,nb,by_,lg,ot,t,x,())∧JN (fa,IntKind.i64.wrap (ru+fD (s.getD j.toNat (dflt Ty.str))),ou,l,n,i,s,m,IntKind.i64.wrap (j+1),b,fc,ch,wd,nb,by_,lg,ot,t,x,())<JN (fa,ru,ou,l,n,i,s,m,j,b,fc,ch,wd,nb,by_,lg,ot,t,x,()))∧(decide (j<m)=false→True))∧(cond (decide (j<m)) (pI (fa,IntKind.i64.wrap (ru+fD (s.getD j.toNat (dflt Ty.str))),ou,l,n,i,s,m,IntKind.i64.wrap (j+1),b,fc,ch,wd,nb,by_,lg,ot,t,x,())) (fa,ru,ou,l,n,i,b,fc,ch,wd,nb,by_,lg,ot,t,x,()))=pI (fa,ru,ou,l,n,i,s,m,j,b,fc,ch,wd,nb,by_,lg,ot,t,x,()))
 obtain ⟨⟨h1,h1b,h1c⟩,⟨h2,h3⟩,⟨hi0,hi4⟩,u0,u1⟩:=hi
 have h1:m =(s.length:Int):=h1
 have h1b:s.length≤4000:=h1b
 have h2:0≤j:=h2
 have h3:j≤m:=h3
 have hi0:0≤i:=hi0
 have hi4:i≤4000:=hi4
 have u0:0≤ru:=u0
 have u1:ru≤64000*i+16*j:=u1
 refine fv (fun h=>?_) (fun h=>?_)
 ·have e1:IntKind.i64.wrap (j+1)=j+1:=aL (by omega) (by omega)
  have hd:s.drop j.toNat=s.getD j.toNat (dflt Ty.str)::s.drop (j+1).toNat:=aP h2 (by omega) _
  have hm:s.getD j.toNat (dflt Ty.str)∈s:=List.mem_of_mem_drop (i:=j.toNat) (by rw [hd];exact List.mem_cons_self)
  have ev:=MY h1c _ hm
  generalize s.getD j.toNat (dflt Ty.str)=w at *
  have hf:=DI w
  have e2:IntKind.i64.wrap (ru+fD w)=ru +(bF w).1:=by rw [ev];exact bf (by omega) (by omega)
  rw [e1,e2]
  refine ⟨⟨⟨h2,by omega⟩,⟨⟨h1,h1b,h1c⟩,⟨?_,?_⟩,⟨hi0,hi4⟩,?_,?_⟩,?_⟩,?_⟩
  ·show 0≤j+1;omega
  ·show j+1≤m;omega
  ·show 0≤ru +(bF w).1;omega
  ·show ru +(bF w).1≤64000*i+16 *(j+1);omega
  ·show (m - (j+1)).toNat <(m - j).toNat;omega
  ·have p:ru +(bF w).1+fP (s.drop (j+1).toNat)=ru+fP (s.drop j.toNat):=by
    rw [hd]
    show _=ru +((bF w).1+fP (s.drop (j+1).toNat))
    omega
   show (fa,ru +(bF w).1+fP (s.drop (j+1).toNat),ou,l,n,i,b,fc,ch,wd,nb,by_,lg,ot,t,x,())=_
   rw [p]
   rfl
 ·unfold pI
  simp only
  rw [aG (l:=s) (by omega)]
  show _ =(fa,ru+0,ou,l,n,i,b,fc,ch,wd,nb,by_,lg,ot,t,x,())
  rw [Int.add_zero]
noncomputable def T5:LoopSum:=ai lpP0 pI wQ
noncomputable def Tu:Nat:=rid (bA Tryz.f34 0 0)
theorem P9:LoopOKp Tryz.prog 0 Tryz.f34.ntmps (bA Tryz.f34 0 0) (ai lpP0 pI wQ):=
 ax lpP0 (an (.consU kU rfl .nil) _) mixed (fun b hb S hS=>by cases hS) pI wQ JN (fun |⟨fa,ru,ou,l,n,i,s,m,j,b,fc,ch,wd,nb,by_,lg,ot,t,x,⟨⟩⟩,hi=>RF fa ru ou l n i s m j b fc ch wd nb by_ lg ot t x hi)
noncomputable def lpP1:Lp:=(⟨0,az [jW] Tryz.f34,(find [(Tu,T5)]),(aq Tryz.f34 0),qP1,xP1⟩:Lp)
theorem RG (fa:Int) (ru:Int) (ou:Int) (l:List Mir.Strip) (n:Int) (i:Int) (b:Mir.Book) (fc:Int) (ch:Int) (wd:Int) (nb:Int) (by_:Int) (lg:Int) (ot:Int) (t:List Int) (hi:wR (fa,ru,ou,l,n,i,b,fc,ch,wd,nb,by_,lg,ot,t,())) :(Go.Mir.stepG lpP1 mC (fun y:Den (tyP lpP1.q)=>wR y∧JO y<JO (fa,ru,ou,l,n,i,b,fc,ch,wd,nb,by_,lg,ot,t,())) (fa,ru,ou,l,n,i,b,fc,ch,wd,nb,by_,lg,ot,t,())∧Go.Mir.stepE lpP1 mC (fa,ru,ou,l,n,i,b,fc,ch,wd,nb,by_,lg,ot,t,())=mC (fa,ru,ou,l,n,i,b,fc,ch,wd,nb,by_,lg,ot,t,())):=by
 refine cast (by kernel_rfl) (?_:let r1:Int:=(↑(l.getD i.toNat (dflt (Ty.nm Nm.Strip))).2.length:Int);let r2:Int:=IntKind.i64.wrap (fa+r1);let r3:Int:=ru+fP (List.drop (Int.toNat 0) (l.getD i.toNat (dflt (Ty.nm Nm.Strip))).2);let r4:Int×Int×Int×Mir.Book×Int×Int×Int×Int×Int×Int×Int×List Int×PUnit:=dflt (I.prod (I.prod (I.prod ((Ty.nm Nm.Book).prod (I.prod (I.prod (I.prod (I.prod (I.prod (I.prod (I.prod (I.slice.prod Ty.unit))))))))))));let r5:Bool:=decide ((l.getD i.toNat (dflt (Ty.nm Nm.Strip))).4>0);let r6:Int:=cond ((l.getD i.toNat (dflt (Ty.nm Nm.Strip))).3 != 0) (IntKind.i64.wrap (ou+1)) ou;let r7:Bool:=cond ((l.getD i.toNat (dflt (Ty.nm Nm.Strip))).3==6) true (cond ((l.getD i.toNat (dflt (Ty.nm Nm.Strip))).3==7) true ((l.getD i.toNat (dflt (Ty.nm Nm.Strip))).3==8));let r8:List Int:=cond r5 (t.set (l.getD i.toNat (dflt (Ty.nm Nm.Strip))).4.toNat (IntKind.i64.wrap (t.getD (l.getD i.toNat (dflt (Ty.nm Nm.Strip))).4.toNat (dflt (Ty.int IntKind.i64)) - 1))) t;let r9:Int×Int×Int×Mir.Book×Int×Int×Int×Int×Int×Int×Int×List Int×PUnit:=cond r7 r4 r4;((decide (i<n)=true→((0≤i∧i <(↑l.length:Int))∧((cg fun x=>none)∧(r1 =(↑(l.getD i.toNat (dflt (Ty.nm Nm.Strip))).2.length:Int)∧(l.getD i.toNat (dflt (Ty.nm Nm.Strip))).2.length≤(4000:Nat)∧s9 (l.getD i.toNat (dflt (Ty.nm Nm.Strip))).2)∧((0:Int)≤0∧0≤r1)∧(0≤i∧i≤4000)∧upB (64000*i +(16:Int)*0) ru)∧((r5=true→(0≤(l.getD i.toNat (dflt (Ty.nm Nm.Strip))).4∧(l.getD i.toNat (dflt (Ty.nm Nm.Strip))).4 <(↑t.length:Int))∧(0≤(l.getD i.toNat (dflt (Ty.nm Nm.Strip))).4∧(l.getD i.toNat (dflt (Ty.nm Nm.Strip))).4 <(↑t.length:Int))∧True)∧(r5=false→True))∧(true=true→(r7=true→True)∧(r7=false→True)))∧(true=true→wR (cond r7 r2 r2,cond r7 r3 r3,cond r7 r6 r6,cond r7 l l,cond r7 n n,IntKind.i64.wrap ((cond r7 i i)+1),Mir.Book.mk (cond r7 b.1 b.1) (cond r7 b.2 b.2) (cond r7 b.3 b.3) (Extras.mk (cond r7 b.4.1 b.4.1) (cond r7 b.4.2 b.4.2) (cond r7 b.4.3 b.4.3) (cond r7 b.4.4 b.4.4) (cond r7 b.4.5 b.4.5)) (cond r7 b.5 b.5) (cond r7 b.6 b.6),cond r7 fc fc,cond r7 ch ch,cond r7 wd wd,cond r7 nb nb,cond r7 by_ by_,cond r7 lg lg,cond r7 (IntKind.i64.wrap (ot - 1)) ot,cond r7 r8 r8,())∧JO (cond r7 r2 r2,cond r7 r3 r3,cond r7 r6 r6,cond r7 l l,cond r7 n n,IntKind.i64.wrap ((cond r7 i i)+1),Mir.Book.mk (cond r7 b.1 b.1) (cond r7 b.2 b.2) (cond r7 b.3 b.3) (Extras.mk (cond r7 b.4.1 b.4.1) (cond r7 b.4.2 b.4.2) (cond r7 b.4.3 b.4.3) (cond r7 b.4.4 b.4.4) (cond r7 b.4.5 b.4.5)) (cond r7 b.5 b.5) (cond r7 b.6 b.6),cond r7 fc fc,cond r7 ch ch,cond r7 wd wd,cond r7 nb nb,cond r7 by_ by_,cond r7 lg lg,cond r7 (IntKind.i64.wrap (ot - 1)) ot,cond r7 r8 r8,())<JO (fa,ru,ou,l,n,i,b,fc,ch,wd,nb,by_,lg,ot,t,())))∧(decide (i<n)=false→True))∧(cond (decide (i<n)) (cond (true&&true&&(true&&true)) (mC (cond r7 r2 r2,cond r7 r3 r3,cond r7 r6 r6,cond r7 l l,cond r7 n n,IntKind.i64.wrap ((cond r7 i i)+1),Mir.Book.mk (cond r7 b.1 b.1) (cond r7 b.2 b.2) (cond r7 b.3 b.3) (Extras.mk (cond r7 b.4.1 b.4.1) (cond r7 b.4.2 b.4.2) (cond r7 b.4.3 b.4.3) (cond r7 b.4.4 b.4.4) (cond r7 b.4.5 b.4.5)) (cond r7 b.5 b.5) (cond r7 b.6 b.6),cond r7 fc fc,cond r7 ch ch,cond r7 wd wd,cond r7 nb nb,cond r7 by_ by_,cond r7 lg lg,cond r7 (IntKind.i64.wrap (ot - 1)) ot,cond r7 r8 r8,())) (cond true (mC (cond r7 r2 r2,cond r7 r3 r3,cond r7 r6 r6,cond r7 l l,cond r7 n n,IntKind.i64.wrap ((cond r7 i i)+1),Mir.Book.mk (cond r7 b.1 b.1) (cond r7 b.2 b.2) (cond r7 b.3 b.3) (Extras.mk (cond r7 b.4.1 b.4.1) (cond r7 b.4.2 b.4.2) (cond r7 b.4.3 b.4.3) (cond r7 b.4.4 b.4.4) (cond r7 b.4.5 b.4.5)) (cond r7 b.5 b.5) (cond r7 b.6 b.6),cond r7 fc fc,cond r7 ch ch,cond r7 wd wd,cond r7 nb nb,cond r7 by_ by_,cond r7 lg lg,cond r7 (IntKind.i64.wrap (ot - 1)) ot,cond r7 r8 r8,())) (cond (true&&true) r9 (cond true r9 (cond r5 r4 r4))))) (fa,ru,ou,b,fc,ch,wd,nb,by_,lg,ot,t,()))=mC (fa,ru,ou,l,n,i,b,fc,ch,wd,nb,by_,lg,ot,t,()))
 intro r1 r2 r3 r4 r5 r6 r7 r8 r9
 clear_value (hr1:r1=_) (hr2:r2=_) (hr3:r3=_) (hr4:r4=_) (hr5:r5=_) (hr6:r6=_) (hr7:r7=_) (hr8:r8=_) (hr9:r9=_)
 simp only [Bool.cond_self] at *
 obtain ⟨⟨h1,⟨h1a,h1b⟩,h1c⟩,⟨h2,h3⟩,⟨⟨u1,v1⟩,⟨u2,v2⟩,⟨u3,v3⟩,⟨u4,v4⟩⟩,u8⟩:=hi
 have h1:n =(l.length:Int):=h1
 have h1a:l.length≤4000:=h1a
 have h2:0≤i:=h2
 have h3:i≤n:=h3
 have u1:0≤fa:=u1
 have v1:fa≤4000*i:=v1
 have u2:0≤ru:=u2
 have v2:ru≤64000*i:=v2
 have u3:0≤ou:=u3
 have v3:ou≤i:=v3
 have u4:-i≤ot:=u4
 have v4:ot≤300000000:=v4
 refine fv (fun h=>?_) (fun h=>?_)
 ·have e1:IntKind.i64.wrap (i+1)=i+1:=aL (by omega) (by omega)
  have hd:l.drop i.toNat=l.getD i.toNat (dflt (Ty.nm Nm.Strip))::l.drop (i+1).toNat:=aP h2 (by omega) _
  have hm:l.getD i.toNat (dflt (Ty.nm Nm.Strip))∈l:=List.mem_of_mem_drop (i:=i.toNat) (by rw [hd];exact List.mem_cons_self)
  have hx:=h1b _ hm
  obtain ⟨⟨y0,y1⟩,yf⟩:=h1c _ hm
  generalize l.getD i.toNat (dflt (Ty.nm Nm.Strip))=y at *
  have hrb:=EN y.Symbols
  obtain ⟨g0,g1⟩:=mP u8 y0 y1
  have hgl:0≤gLn y∧gLn y≤4000:=by unfold gLn;omega
  have hgn:0≤gRn y∧gRn y≤44000:=by unfold gRn;omega
  have hgo:0≤gOt y∧gOt y≤1:=by unfold gOt;split <;> decide
  have hgr:0≤gRo y∧gRo y≤1:=by unfold gRo;split <;> decide
  have e2:r2=fa+gLn y:=by
   rw [hr2,hr1]
   exact bf (by omega) (by omega)
  have e3:r3=ru+gRn y:=hr3
  have e6:r6=ou+gOt y:=by
   rw [hr6]
   unfold gOt
   show (bif y.How != 0 then IntKind.i64.wrap (ou+1) else ou)=ou+if y.How==0 then 0 else 1
   cases hz:y.How==0 with
   | true=>rw [show (y.How != 0)=false by rw [bne,hz];rfl];show ou=ou+0;omega
   | false=>rw [show (y.How != 0)=true by rw [bne,hz];rfl];exact bf (by omega) (by omega)
  have e7 :(bif r7 then IntKind.i64.wrap (ot - 1) else ot)=ot - gRo y:=by
   have:r7 =(y.How==6 ||(y.How==7||y.How==8)):=by
    rw [hr7]
    cases y.How==6 <;> cases y.How==7 <;> rfl
   rw [this]
   unfold gRo
   cases (y.How==6 ||(y.How==7||y.How==8)) with
   | true=>exact bf (by omega) (by omega)
   | false=>show ot=ot - 0;omega
  have e8:r8=if decide (y.Bowler>0) then aQ t y.Bowler (-1) else t:=by
   rw [hr8,hr5]
   show (bif decide (y.Bowler>0) then t.set y.Bowler.toNat (IntKind.i64.wrap (t.getD y.Bowler.toNat 0 - 1)) else t)=if decide (y.Bowler>0)=true then t.set y.Bowler.toNat (t.getD y.Bowler.toNat 0 + -1) else t
   rw [show IntKind.i64.wrap (t.getD y.Bowler.toNat 0 - 1)=t.getD y.Bowler.toNat 0 + -1 from bf (by omega) (by omega)]
   cases decide (y.Bowler>0) <;> rfl
  have l8 :(if decide (y.Bowler>0) then aQ t y.Bowler (-1) else t).length=t.length:=by
   split
   ·exact dz _ _ _
   ·rfl
  have m8:rmP (i+1) (if decide (y.Bowler>0) then aQ t y.Bowler (-1) else t):=fun v hv=>by
   split at hv
   ·rcases iG hv with hv|rfl
    ·obtain ⟨v0,v1⟩:=u8 v hv
     exact ⟨by omega,v1⟩
    ·exact ⟨by omega,by omega⟩
   ·obtain ⟨v0,v1⟩:=u8 v hv
    exact ⟨by omega,v1⟩
  rw [e2,e3,e6,e7,e8,e1]
  generalize hT :(if decide (y.Bowler>0) then aQ t y.Bowler (-1) else t)=t' at *
  refine ⟨⟨⟨⟨h2,by omega⟩,⟨rfl,⟨hr1,hx,yf⟩,⟨Int.le_refl _,by omega⟩,⟨h2,by omega⟩,u2,by omega⟩,⟨fun _=>⟨⟨y0,y1⟩,⟨y0,y1⟩,trivial⟩,fun _=>trivial⟩,fun _=>⟨fun _=>trivial,fun _=>trivial⟩⟩,fun _=>⟨⟨⟨h1,⟨h1a,h1b⟩,?_⟩,⟨?_,?_⟩,⟨⟨?_,?_⟩,⟨?_,?_⟩,⟨?_,?_⟩,⟨?_,?_⟩⟩,m8⟩,?_⟩⟩,?_⟩
  ·show M4 (t'.length:Int) l
   rw [l8];exact h1c
  ·show 0≤i+1;omega
  ·show i+1≤n;omega
  ·show 0≤fa+gLn y;omega
  ·show fa+gLn y≤4000 *(i+1);omega
  ·show 0≤ru+gRn y;omega
  ·show ru+gRn y≤64000 *(i+1);omega
  ·show 0≤ou+gOt y;omega
  ·show ou+gOt y≤i+1;omega
  ·show -(i+1)≤ot - gRo y;omega
  ·show ot - gRo y≤300000000;omega
  ·show (n - (i+1)).toNat <(n - i).toNat;omega
  ·have p :∀ (f:Mir.Strip→Int) (v:Int),v+f y+aM f (l.drop (i+1).toNat)=v+aM f (l.drop i.toNat):=fun f v=>by
    rw [hd]
    show _=v +(f y+aM f (l.drop (i+1).toNat))
    omega
   have pm :∀ (f:Mir.Strip→Int) (v:Int),v - f y - aM f (l.drop (i+1).toNat)=v - aM f (l.drop i.toNat):=fun f v=>by
    rw [hd]
    show _=v - (f y+aM f (l.drop (i+1).toNat))
    omega
   show (fa+gLn y+aM gLn (l.drop (i+1).toNat),ru+gRn y+aM gRn (l.drop (i+1).toNat),ou+gOt y+aM gOt (l.drop (i+1).toNat),b,fc,ch,wd,nb,by_,lg,ot - gRo y - aM gRo (l.drop (i+1).toNat),nH t' (l.drop (i+1).toNat),())=_
   rw [p gLn,p gRn,p gOt,pm gRo]
   unfold mC
   simp only
   rw [hd,←hT]
   rfl
 ·unfold mC
  simp only
  rw [aG (l:=l) (by omega)]
  show _ =(fa+0,ru+0,ou+0,b,fc,ch,wd,nb,by_,lg,ot - 0,t,())
  simp only [Int.add_zero,Int.sub_zero]
noncomputable def Oz:LoopSum:=ai lpP1 mC wR
noncomputable def NW:Nat:=rid (aq Tryz.f34 0)
theorem Qa:LoopOKp Tryz.prog 0 Tryz.f34.ntmps (aq Tryz.f34 0) (ai lpP1 mC wR):=
 ax lpP1 (an (.consU kU rfl .nil) _) mixed (LoopsOKp.cons (by kernel_rfl) P9 .nil) mC wR JO (fun |⟨fa,ru,ou,l,n,i,b,fc,ch,wd,nb,by_,lg,ot,t,⟨⟩⟩,hi=>RG fa ru ou l n i b fc ch wd nb by_ lg ot t hi)
noncomputable def lpQ0:Lp:=(⟨0,az [] Tryz.f34,(fun _=>none),(aq Tryz.f34 1),qQ0,xQ0⟩:Lp)
theorem RI (fa:Int) (ru:Int) (ou:Int) (l:List Int) (n:Int) (i:Int) (b:Mir.Book) (fc:Int) (ch:Int) (wd:Int) (nb:Int) (by_:Int) (lg:Int) (ot:Int) (hi:wT (fa,ru,ou,l,n,i,b,fc,ch,wd,nb,by_,lg,ot,())) :(Go.Mir.stepG lpQ0 jo (fun y:Den (tyP lpQ0.q)=>wT y∧JQ y<JQ (fa,ru,ou,l,n,i,b,fc,ch,wd,nb,by_,lg,ot,())) (fa,ru,ou,l,n,i,b,fc,ch,wd,nb,by_,lg,ot,())∧Go.Mir.stepE lpQ0 jo (fa,ru,ou,l,n,i,b,fc,ch,wd,nb,by_,lg,ot,())=jo (fa,ru,ou,l,n,i,b,fc,ch,wd,nb,by_,lg,ot,())):=by
 refine cast (by kernel_rfl) (?_:let r1:Bool:=l.getD i.toNat (dflt (Ty.int IntKind.i64)) != 0;((decide (i<n)=true→(0≤i∧i <(↑l.length:Int))∧(r1=true→True)∧(r1=false→wT (fa,ru,ou,l,n,IntKind.i64.wrap (i+1),b,fc,ch,wd,nb,by_,lg,ot,())∧JQ (fa,ru,ou,l,n,IntKind.i64.wrap (i+1),b,fc,ch,wd,nb,by_,lg,ot,())<JQ (fa,ru,ou,l,n,i,b,fc,ch,wd,nb,by_,lg,ot,())))∧(decide (i<n)=false→True))∧(cond (decide (i<n)) (cond r1 (Sum.inr (false,())) (jo (fa,ru,ou,l,n,IntKind.i64.wrap (i+1),b,fc,ch,wd,nb,by_,lg,ot,()))) (Sum.inl (fa,ru,ou,b,fc,ch,wd,nb,by_,lg,ot,())))=jo (fa,ru,ou,l,n,i,b,fc,ch,wd,nb,by_,lg,ot,()))
 intro r1
 clear_value (hr1:r1=_)
 obtain ⟨⟨h1,h1b⟩,h2,h3⟩:=hi
 have h1:n =(l.length:Int):=h1
 have h1b:l.length≤4000:=h1b
 have h2:0≤i:=h2
 have h3:i≤n:=h3
 refine fv (fun h=>?_) (fun h=>?_)
 ·have e1:IntKind.i64.wrap (i+1)=i+1:=aL (by omega) (by omega)
  have hd:l.drop i.toNat=l.getD i.toNat (dflt (Ty.int IntKind.i64))::l.drop (i+1).toNat:=aP h2 (by omega) _
  generalize l.getD i.toNat (dflt (Ty.int IntKind.i64))=w at *
  rw [e1]
  refine ⟨⟨⟨h2,by omega⟩,fun _=>trivial,fun _=>⟨⟨⟨h1,h1b⟩,?_,?_⟩,?_⟩⟩,?_⟩
  ·show 0≤i+1;omega
  ·show i+1≤n;omega
  ·show (n - (i+1)).toNat <(n - i).toNat;omega
  ·unfold jo
   simp only
   rw [hd,List.all_cons,hr1]
   show (bif w != 0 then _ else _) =(if (w==0&&_)=true then _ else _)
   rw [bne]
   cases w==0 <;> rfl
 ·unfold jo
  simp only
  rw [aG (l:=l) (by omega)]
  rfl
noncomputable def OB:LoopSum:=ai lpQ0 jo wT
noncomputable def NY:Nat:=rid (aq Tryz.f34 1)
theorem Qc:LoopOKp Tryz.prog 0 Tryz.f34.ntmps (aq Tryz.f34 1) (ai lpQ0 jo wT):=
 ax lpQ0 (an (CtrsOK.nil) _) mixed (fun b hb S hS=>by cases hS) jo wT JQ (fun |⟨fa,ru,ou,l,n,i,b,fc,ch,wd,nb,by_,lg,ot,⟨⟩⟩,hi=>RI fa ru ou l n i b fc ch wd nb by_ lg ot hi)
theorem CR (r:Rules) (a:List ref21_Symbol) (b:Mir.Book) (hd:ndR r a b) :(evPat (az [xi] Tryz.f34) (find [(NW,Oz),(NY,OB)]) Tryz.f34 CC dT (r,a,b,())).sat fun z_=>z_ =(KH (r,a,b,())).2:=by
 refine cast (by kernel_rfl) (?_:let r1:List Int:=cB (List.replicate (r.2.toNat +(1:Nat)) 0) b.2 (esG r b.2);let r2:List Int:=nH r1 (List.drop (Int.toNat 0) b.3);let r3:Int:=(↑r2.length:Int);let r4:Bool:=isL (jo (0+aM gLn (List.drop (Int.toNat 0) b.3),0+aM gRn (List.drop (Int.toNat 0) b.3),0+aM gOt (List.drop (Int.toNat 0) b.3),r2,r3,0,b,ae fFc (ay (esG r b.2)),ae fCh (ay (esG r b.2)),ae fWd (ay (esG r b.2)),ae (fNb r.8) (ay (esG r b.2)),ae fBy (ay (esG r b.2)),ae fLg (ay (esG r b.2)),ae fRo (ay (esG r b.2)) - aM gRo (List.drop (Int.toNat 0) b.3),()));let r5:Int×Int×Int×Mir.Book×Int×Int×Int×Int×Int×Int×Int×PUnit:=oc (dflt (I.prod (I.prod (I.prod ((Ty.nm Nm.Book).prod (I.prod (I.prod (I.prod (I.prod (I.prod (I.prod (I.prod Ty.unit)))))))))))) (jo (0+aM gLn (List.drop (Int.toNat 0) b.3),0+aM gRn (List.drop (Int.toNat 0) b.3),0+aM gOt (List.drop (Int.toNat 0) b.3),r2,r3,0,b,ae fFc (ay (esG r b.2)),ae fCh (ay (esG r b.2)),ae fWd (ay (esG r b.2)),ae (fNb r.8) (ay (esG r b.2)),ae fBy (ay (esG r b.2)),ae fLg (ay (esG r b.2)),ae fRo (ay (esG r b.2)) - aM gRo (List.drop (Int.toNat 0) b.3),()));let r6:Bool:=r5.2.2.2.1.4.5.tmod (5:Int)==0;let r7:Bool:=r5.1==r5.2.2.2.2.1;let r8:Bool:=r5.2.2.2.1.6==r5.2.2.1;let r9:Bool:=r5.2.2.2.1.4.1==r5.2.2.2.2.2.2.1;let r10:Bool:=r5.2.2.2.1.4.2==r5.2.2.2.2.2.2.2.1;let r11:Bool:=r5.2.2.2.1.4.3==r5.2.2.2.2.2.2.2.2.1;let r12:Bool:=r5.2.2.2.1.4.4==r5.2.2.2.2.2.2.2.2.2.1;let r13:Bool:=r5.2.1==IntKind.i64.wrap (IntKind.i64.wrap (r5.2.2.2.2.2.1 - r5.2.2.2.1.4.1) - r5.2.2.2.1.4.2);let r14:Bool:=r5.2.2.2.1.5==IntKind.i64.wrap (IntKind.i64.wrap (IntKind.i64.wrap (r5.2.2.2.2.2.1+r5.2.2.2.1.4.3)+r5.2.2.2.1.4.4)+r5.2.2.2.1.4.5);isS r a∧rdG r∧smX b.2∧rdX r b.2∧((cg fun x=>none)∧((↑b.3.length:Int) =(↑b.3.length:Int)∧smY b.3∧M4 (↑r1.length:Int) b.3)∧((0:Int)≤0∧0≤(↑b.3.length:Int))∧(upB ((4000:Int)*0) 0∧upB ((64000:Int)*0) 0∧upB 0 0∧btB 0 300000000 (ae fRo (ay (esG r b.2))))∧rmP 0 r1)∧((cg fun x=>none)∧(r3 =(↑r2.length:Int)∧r2.length≤(4000:Nat))∧(0:Int)≤0∧0≤r3)∧(r4=true→((r7=true→(r13=true→(r9=true→(r10=true→(r11=true→(r12=true→(5:Int)≠0∧(r6=true→(r14=true→(r8=true→True)∧(r8=false→True))∧(r14=false→True))∧(r6=false→True))∧(r12=false→True))∧(r11=false→True))∧(r10=false→True))∧(r9=false→True))∧(r13=false→True))∧(r7=false→True))∧(true=true→(cond r7 (cond r13 (cond r9 (cond r10 (cond r11 (cond r12 (cond r6 (cond r14 (cond r8 (r5.2.2.2.2.2.2.2.2.2.2.1==0) false) false) false) false) false) false) false) false) false,()) =(lG r b (oO r b),())))∧(r4=false→jT (dflt (Ty.bool.prod Ty.unit)) (jo (0+aM gLn (List.drop (Int.toNat 0) b.3),0+aM gRn (List.drop (Int.toNat 0) b.3),0+aM gOt (List.drop (Int.toNat 0) b.3),r2,r3,0,b,ae fFc (ay (esG r b.2)),ae fCh (ay (esG r b.2)),ae fWd (ay (esG r b.2)),ae (fNb r.8) (ay (esG r b.2)),ae fBy (ay (esG r b.2)),ae fLg (ay (esG r b.2)),ae fRo (ay (esG r b.2)) - aM gRo (List.drop (Int.toNat 0) b.3),())) =(lG r b (oO r b),())))
 intro r1 r2 r3 r4 r5 r6 r7 r8 r9 r10 r11 r12 r13 r14
 clear_value (hr1:r1=_) (hr2:r2=_) (hr3:r3=_) (hr4:r4=_) (hr5:r5=_) (hr6:r6=_) (hr7:r7=_) (hr8:r8=_) (hr9:r9=_) (hr10:r10=_) (hr11:r11=_) (hr12:r12=_) (hr13:r13=_) (hr14:r14=_)
 obtain ⟨⟨ha,hg,hb1w⟩,⟨hbx,hby⟩,hrx,hst,hsum⟩:=hd
 obtain ⟨hwn,⟨hb0,hb1⟩,hs0,hs1⟩:=id hg
 have hE:oO r b=esG r b.Boxes:=Be fun x hx=>(hrx x hx).1
 have hes:G8 (esG r b.Boxes):=fun ys hy=>by
  obtain ⟨x,hm,rfl⟩:=List.mem_map.1 hy
  refine ⟨by rw [List.length_map];exact hbx.2 x hm,fun y hy=>?_⟩
  obtain ⟨w,hw,rfl⟩:=List.mem_map.1 hy
  exact Fm hwn ((hrx x hm).1 w hw)
 have hel :(esG r b.Boxes).length≤4000:=by unfold esG;rw [List.length_map];exact hbx.1
 have l1 :(r1.length:Int)=r.Side+1:=by rw [hr1,kp,List.length_replicate];show ((r.Side.toNat+1:Nat):Int)=_;omega
 have l2 :(r2.length:Int)=r.Side+1:=by rw [hr2,xJ];exact l1
 have ho:=pU (f:=fRo) (fun y _=>lX y) hes
 have hc:=pU (f:=fCh) (fun y h=>lW h) hes
 have u1:rmP 0 r1:=fun v hv=>by
  rw [hr1] at hv
  have u0:upT 0 (List.replicate (r.2.toNat+1) 0):=fun v hv=>by rw [(List.mem_replicate.1 hv).2];exact ⟨Int.le_refl _,Int.le_refl _⟩
  obtain ⟨a,c⟩:=uS (Int.le_refl 0) u0 hes v hv
  exact ⟨by omega,by omega⟩
 have w1:=eG hsum (v:=b.Total) (by unfold bV;simp)
 have w2:=eG hsum (v:=b.Extras.Wides) (by unfold bV;simp)
 have w3:=eG hsum (v:=b.Extras.NoBalls) (by unfold bV;simp)
 have w4:=eG hsum (v:=b.Extras.Byes) (by unfold bV;simp)
 have w5:=eG hsum (v:=b.Extras.LegByes) (by unfold bV;simp)
 have w6:=eG hsum (v:=b.Extras.Penalties) (by unfold bV;simp)
 have z0 :∀ u:Int,0≤u→upB u 0:=fun u h=>⟨Int.le_refl _,h⟩
 refine ⟨ha,hg,hbx,hrx,⟨rfl,⟨rfl,hby,by rw [l1];exact hst⟩,⟨Int.le_refl _,by omega⟩,⟨z0 _ (by decide),z0 _ (by decide),z0 _ (by decide),by omega,by omega⟩,u1⟩,⟨rfl,⟨hr3,by omega⟩,Int.le_refl _,by omega⟩,?_⟩
 have h1 :∀ x∈b.Boxes,0≤x.Bowler:=fun x hx=>(hrx x hx).2.1
 have h2 :∀ x∈b.Strips,0≤x.Bowler:=fun x hx=>(hst x hx).1.1
 have hag:=E9 (r:=r) (b:=b) (es:=esG r b.Boxes) h1 h2
 have hz :(List.drop (Int.toNat 0) r2).all (fun v=>v==0) =((jX (cB (List.replicate (r.Side.toNat+1) 0) b.Boxes (esG r b.Boxes)) b.Strips).drop 1).all (fun v=>v==0):=by
  rw [←HX hb1w h2,hr2,hr1]
  rfl
 rw [hE]
 rw [←hz] at hag
 unfold jo at hr4 hr5 ⊢
 simp only at hr4 hr5 ⊢
 cases hA :(List.drop (Int.toNat 0) r2).all (fun v=>v==0) with
 | false=>
  rw [hA] at hr4 hag
  refine ⟨fun h=>?_,fun _=>?_⟩
  ·rw [hr4] at h;cases h
  ·rw [hag];rfl
 | true=>
  rw [hA] at hr4 hr5 hag
  have e4:r4=true:=hr4
  rw [if_pos rfl] at hr5
  refine ⟨fun _=>⟨⟨fun _=>⟨fun _=>⟨fun _=>⟨fun _=>⟨fun _=>⟨fun _=>⟨by decide,fun _=>⟨fun _=>⟨fun _=>trivial,fun _=>trivial⟩,fun _=>trivial⟩,fun _=>trivial⟩,fun _=>trivial⟩,fun _=>trivial⟩,fun _=>trivial⟩,fun _=>trivial⟩,fun _=>trivial⟩,fun _=>trivial⟩,fun _=>?_⟩,fun h=>by rw [e4] at h;cases h⟩
  rw [hag]
  have x1:r5.1=aM gLn b.Strips:=by rw [hr5];exact Int.zero_add _
  have x2:r5.2.1=aM gRn b.Strips:=by rw [hr5];exact Int.zero_add _
  have x3:r5.2.2.1=aM gOt b.Strips:=by rw [hr5];exact Int.zero_add _
  have x4:r5.2.2.2.1=b:=by rw [hr5];rfl
  have x5:r5.2.2.2.2.1=ae fFc (ay (esG r b.Boxes)):=by rw [hr5];rfl
  have x6:r5.2.2.2.2.2.1=ae fCh (ay (esG r b.Boxes)):=by rw [hr5];rfl
  have x7:r5.2.2.2.2.2.2.1=ae fWd (ay (esG r b.Boxes)):=by rw [hr5];rfl
  have x8:r5.2.2.2.2.2.2.2.1=ae (fNb r.NoBall) (ay (esG r b.Boxes)):=by rw [hr5];rfl
  have x9:r5.2.2.2.2.2.2.2.2.1=ae fBy (ay (esG r b.Boxes)):=by rw [hr5];rfl
  have x10:r5.2.2.2.2.2.2.2.2.2.1=ae fLg (ay (esG r b.Boxes)):=by rw [hr5];rfl
  have x11:r5.2.2.2.2.2.2.2.2.2.2.1=ae fRo (ay (esG r b.Boxes)) - aM gRo b.Strips:=by rw [hr5];rfl
  clear hr5
  rw [x4] at hr6
  rw [x1,x5] at hr7
  rw [x4,x3] at hr8
  rw [x4,x7] at hr9
  rw [x4,x8] at hr10
  rw [x4,x9] at hr11
  rw [x4,x10] at hr12
  rw [x2,x6,x4] at hr13
  rw [x4,x6] at hr14
  rw [x11]
  unfold Lu
  generalize ay (esG r b.Boxes)=E at *
  have y1:IntKind.i64.wrap (ae fCh E - b.Extras.Wides)=ae fCh E - b.Extras.Wides:=bf (by omega) (by omega)
  have y2:IntKind.i64.wrap (ae fCh E - b.Extras.Wides - b.Extras.NoBalls)=ae fCh E - b.Extras.Wides - b.Extras.NoBalls:=bf (by omega) (by omega)
  have y3:IntKind.i64.wrap (ae fCh E+b.Extras.Byes)=ae fCh E+b.Extras.Byes:=bf (by omega) (by omega)
  have y4:IntKind.i64.wrap (ae fCh E+b.Extras.Byes+b.Extras.LegByes)=ae fCh E+b.Extras.Byes+b.Extras.LegByes:=bf (by omega) (by omega)
  have y5:IntKind.i64.wrap (ae fCh E+b.Extras.Byes+b.Extras.LegByes+b.Extras.Penalties)=ae fCh E+b.Extras.Byes+b.Extras.LegByes+b.Extras.Penalties:=bf (by omega) (by omega)
  rw [y1,y2] at hr13
  rw [y3,y4,y5] at hr14
  congr 1
  rw [hr6,hr7,hr8,hr9,hr10,hr11,hr12,hr13,hr14,Bool.eq_iff_iff]
  simp only [Bool.cond_false_right,Bool.and_eq_true,beq_iff_eq,true_and,Bool.true_and]
  constructor
  ·rintro ⟨q1,q2,q3,q4,q5,q6,q7,q8,q9,q10⟩
   exact ⟨by omega,by omega,q2,q3,q4,q5,q6,q7,q8,q9⟩
  ·rintro ⟨q1,q2,q3,q4,q5,q6,q7,q8,q9,q10⟩
   exact ⟨by omega,q3,q4,q5,q6,q7,q8,q9,q10,by omega⟩
def xh:FuncId×Ctr:=(34,aj KE CC dT KH)
theorem Eh:CtrOK Tryz.prog KE 34 (aj KE CC dT KH):=by
 refine aO (C:=az [xi] Tryz.f34) (an (.consU Ei rfl .nil) _) mixed (fn:=Tryz.f34) Tryz.func34 (by kernel_rfl) (by kernel_rfl) (by kernel_rfl) (by kernel_rfl) (by kernel_rfl) (by kernel_rfl) (Λ:=fun x=>find [(NW,Oz),(NY,OB)]) ?_ ?_
 ·rintro ⟨r,a,b,⟨⟩⟩ hw hn
  exact LoopsOKp.at (by kernel_rfl) (.cons (by kernel_rfl) (Qa) (.cons (by kernel_rfl) (Qc) .nil))
 ·rintro ⟨r,a,b,⟨⟩⟩ hw hn
  exact CR r a b (hn _ List.mem_cons_self)
def yP (s:ByteArray):ByteArray:=s.extract 0 (min 20 s.size)
def GW (l:List ByteArray):List ByteArray:=(l.take 12).map yP
abbrev qSl:Pat:=cn [.slice .str]
abbrev ML:Pat:=⟨[(0,.c (.osl 0 1))],[(0,.row 1 .str)],2⟩
def QW:Den (tyP qSl)→List Prop×Den (tyP ML):=fun x=>([],(GW x.1,()))
abbrev qCu:Pat:=⟨[(3,.c (.osl 0 1)),(10,.h (.slice .str)),(11,.h I),(12,.h I)],[(0,.row 1 .str)],2⟩
abbrev xCu:List (Lf×Pat):= [(.ext 0,⟨[(3,.c (.osl 0 1))],[(0,.row 1 .str)],2⟩)]
abbrev TCu:Type:=List ByteArray×Int×Int×List ByteArray×Unit
def nJ:TCu→List ByteArray×Unit
 |(l,_,i,o,_)=>(o ++(l.drop i.toNat).map yP,())
def wE:TCu→Prop
 |(l,n,i,o,_)=>(n =(l.length:Int)∧l.length≤12)∧(0≤i∧i≤n)∧(o.length:Int)≤i
def JD:TCu→Nat
 |(_,n,i,_)=>(n - i).toNat
def yQ (x:Mir.Box):Mir.Box:=⟨x.Over,x.Bowler,GW x.Symbols⟩
def yR (x:Mir.Strip):Mir.Strip:=⟨x.Player,GW x.Symbols,x.How,x.Bowler⟩
def DJ (b:Mir.Book):Mir.Book:=⟨b.Side,(b.Boxes.take 8).map yQ,(b.Strips.take 8).map yR,b.Extras,b.Total,b.Wickets⟩
def QY:Den (tyP qBk)→List Prop×Den (tyP qBk):=fun x=>([],(DJ x.1,()))
abbrev Sm:PB:= .cells [.c .any,.c .any,.c .any,.c .any,.c .any,.c .any,.c .any,.c .any,.c .any,.c .any]
abbrev SR:List (Nat×PB):= [(0,.dat (.nm .Book)),(1,.row 2 (.nm .Box)),(3,Sm)]
abbrev qF0:Pat:=⟨[(1,.c (.ptr 0 0)),(2,.c (.ptr 3 0)),(3,.c (.osl 1 2)),(15,.h Bxs),(16,.h I),(17,.h I)],SR,4⟩
abbrev xF0:List (Lf×Pat):= [(.ext 0,⟨[(1,.c (.ptr 0 0)),(2,.c (.ptr 3 0)),(3,.c (.osl 1 2))],SR,4⟩)]
abbrev TF0:Type:=List Mir.Box×Int×Int×Mir.Book×List Mir.Box×Unit
def nL:TF0→Mir.Book×List Mir.Box×Unit
 |(l,_,i,b,o,_)=>(b,o ++(l.drop i.toNat).map yQ,())
def wH:TF0→Prop
 |(l,n,i,_,o,_)=>(n =(l.length:Int)∧l.length≤8)∧(0≤i∧i≤n)∧(o.length:Int)≤i
def JG:TF0→Nat
 |(_,n,i,_)=>(n - i).toNat
abbrev SS:List (Nat×PB):= [(0,.dat (.nm .Book)),(1,.row 2 (.nm .Box)),(3,.row 4 (.nm .Strip)),(5,Sm)]
abbrev qF1:Pat:=⟨[(1,.c (.ptr 0 0)),(2,.c (.ptr 5 0)),(3,.c (.osl 1 2)),(6,.c (.osl 3 4)),(36,.h Sts),(37,.h I),(38,.h I)],SS,6⟩
abbrev xF1:List (Lf×Pat):= [(.ext 2,⟨[(1,.c (.ptr 0 0)),(2,.c (.ptr 5 0)),(3,.c (.osl 1 2)),(6,.c (.osl 3 4))],SS,6⟩)]
abbrev TF1:Type:=List Mir.Strip×Int×Int×Mir.Book×List Mir.Box×List Mir.Strip×Unit
def nM:TF1→Mir.Book×List Mir.Box×List Mir.Strip×Unit
 |(l,_,i,b,a,o,_)=>(b,a,o ++(l.drop i.toNat).map yR,())
def wI:TF1→Prop
 |(l,n,i,_,_,o,_)=>(n =(l.length:Int)∧l.length≤8)∧(0≤i∧i≤n)∧(o.length:Int)≤i
def JH:TF1→Nat
 |(_,n,i,_)=>(n - i).toNat
noncomputable def lpCu:Lp:=(⟨0,az [] Tryz.f25,(fun _=>none),(aq Tryz.f25 0),qCu,xCu⟩:Lp)
theorem Rm (l:List ByteArray) (n:Int) (i:Int) (o:List ByteArray) (hi:wE (l,n,i,o,())) :(Go.Mir.stepG lpCu nJ (fun y:Den (tyP lpCu.q)=>wE y∧JD y<JD (l,n,i,o,())) (l,n,i,o,())∧Go.Mir.stepE lpCu nJ (l,n,i,o,())=nJ (l,n,i,o,())):=by
 refine cast (by kernel_rfl) (?_:let r1:Int:=if 20 <(↑(ByteArray.size (l.getD i.toNat (dflt Ty.str))):Int) then 20 else (↑(ByteArray.size (l.getD i.toNat (dflt Ty.str))):Int);let r2:List ByteArray:= [ByteArray.extract (l.getD i.toNat (dflt Ty.str)) (Int.toNat 0) r1.toNat];((decide (i<n)=true→(0≤i∧i <(↑l.length:Int))∧((0:Int)≤0∧0≤r1∧r1≤(↑(ByteArray.size (l.getD i.toNat (dflt Ty.str))):Int))∧(o.length+r2.length) *(16:Nat)≤(70368744177664:Nat)∧wE (l,n,IntKind.i64.wrap (i+1),o++r2,())∧JD (l,n,IntKind.i64.wrap (i+1),o++r2,())<JD (l,n,i,o,()))∧(decide (i<n)=false→True))∧(cond (decide (i<n)) (nJ (l,n,IntKind.i64.wrap (i+1),o++r2,())) (o,()))=nJ (l,n,i,o,()))
 intro r1 r2
 clear_value (hr1:r1=_) (hr2:r2=_)
 obtain ⟨⟨h1,h1b⟩,⟨h2,h3⟩,h4⟩:=hi
 have h1:n =(l.length:Int):=h1
 have h1b:l.length≤12:=h1b
 have h2:0≤i:=h2
 have h3:i≤n:=h3
 have h4 :(o.length:Int)≤i:=h4
 by_cases h:i<n
 ·have e1:IntKind.i64.wrap (i+1)=i+1:=aL (by omega) (by omega)
  have hd:l.drop i.toNat=l.getD i.toNat (dflt (Ty.str))::l.drop (i+1).toNat:=aP h2 (by omega) _
  generalize l.getD i.toNat (dflt (Ty.str))=x at *
  have e1r:r1.toNat=min 20 (ByteArray.size x):=by rw [hr1];split <;> omega
  have eR:r2=[yP x]:=by rw [hr2,e1r];rfl
  have hl:r2.length=1:=by rw [eR];rfl
  have hr:0≤r1∧r1≤(ByteArray.size x:Int):=by rw [hr1];split <;> omega
  have key:nJ (l,n,i,o,())=nJ (l,n,i+1,o++r2,()):=by
   show (o ++(l.drop i.toNat).map yP,()) =((o++r2) ++(l.drop (i+1).toNat).map yP,())
   rw [hd,eR,List.map_cons,List.append_assoc]
   rfl
  rw [decide_eq_true h,e1,key]
  refine ⟨⟨fun _=>⟨⟨h2,by omega⟩,⟨Int.le_refl _,hr⟩,by omega,⟨⟨h1,h1b⟩,⟨?_,?_⟩,?_⟩,?_⟩,fun z=>Bool.noConfusion z⟩,rfl⟩
  ·show 0≤i+1;omega
  ·show i+1≤n;omega
  ·show ((o++r2).length:Int)≤i+1
   rw [List.length_append];omega
  ·show (n - (i+1)).toNat <(n - i).toNat;omega
 ·rw [decide_eq_false h]
  refine ⟨⟨fun z=>Bool.noConfusion z,fun _=>trivial⟩,?_⟩
  show _ =(o ++(l.drop i.toNat).map yP,())
  rw [aG (l:=l) (by omega),List.map_nil,List.append_nil]
  rfl
noncomputable def Oi:LoopSum:=ai lpCu nJ wE
noncomputable def NI:Nat:=rid (aq Tryz.f25 0)
theorem PS:LoopOKp Tryz.prog 0 Tryz.f25.ntmps (aq Tryz.f25 0) (ai lpCu nJ wE):=
 ax lpCu (an (CtrsOK.nil) _) mixed (fun b hb S hS=>by cases hS) nJ wE JD (fun |⟨l,n,i,o,⟨⟩⟩,hi=>Rm l n i o hi)
theorem HB (l:List ByteArray) :(evPat (az [] Tryz.f25) (find [(NI,Oi)]) Tryz.f25 qSl ML (l,())).sat fun z_=>z_ =(QW (l,())).2:=by
 refine cast (by kernel_rfl) (?_:let r1:Int:=if 12 <(↑l.length:Int) then 12 else (↑l.length:Int);let r2:List ByteArray:=List.drop (Int.toNat 0) (List.take r1.toNat l);let r3:Int:=(↑r2.length:Int);((0:Int)≤0∧0≤r1∧r1≤(↑l.length:Int))∧((cg fun x=>none)∧(r3 =(↑r2.length:Int)∧r2.length≤(12:Nat))∧((0:Int)≤0∧0≤r3)∧(↑(0:Nat):Int)≤0)∧([]++List.map yP (List.drop (Int.toNat 0) r2),()) =(GW l,()))
 intro r1 r2 r3
 clear_value (hr1:r1=_) (hr2:r2=_) (hr3:r3=_)
 have e1:0≤r1∧r1≤(l.length:Int)∧r1.toNat=min 12 l.length:=by rw [hr1];split <;> omega
 have e2:r2=l.take 12:=by
  rw [hr2,e1.2.2]
  show l.take (min 12 l.length)=_
  rw [List.take_eq_take_iff]
  omega
 have hl:r2.length≤12:=by rw [e2,List.length_take];omega
 refine ⟨⟨Int.le_refl _,e1.1,e1.2.1⟩,⟨rfl,⟨hr3,hl⟩,⟨Int.le_refl _,by omega⟩,Int.le_refl _⟩,?_⟩
 rw [e2]
 rfl
def sa:FuncId×Ctr:=(25,aj KE qSl ML QW)
theorem tZ:CtrOK Tryz.prog KE 25 (aj KE qSl ML QW):=by
 refine aO (C:=az [] Tryz.f25) (an (CtrsOK.nil) _) mixed (fn:=Tryz.f25) Tryz.func25 (by kernel_rfl) (by kernel_rfl) (by kernel_rfl) (by kernel_rfl) (by kernel_rfl) (by kernel_rfl) (Λ:=fun x=>find [(NI,Oi)]) ?_ ?_
 ·rintro ⟨l,⟨⟩⟩ hw hn
  exact LoopsOKp.at (by kernel_rfl) (.cons (by kernel_rfl) (PS) .nil)
 ·rintro ⟨l,⟨⟩⟩ hw hn
  exact HB l
noncomputable def lpF0:Lp:=(⟨0,az [sa] Tryz.f7,(fun _=>none),(aq Tryz.f7 0),qF0,xF0⟩:Lp)
theorem Rr (l:List Mir.Box) (n:Int) (i:Int) (b:Mir.Book) (o:List Mir.Box) (hi:wH (l,n,i,b,o,())) :(Go.Mir.stepG lpF0 nL (fun y:Den (tyP lpF0.q)=>wH y∧JG y<JG (l,n,i,b,o,())) (l,n,i,b,o,())∧Go.Mir.stepE lpF0 nL (l,n,i,b,o,())=nL (l,n,i,b,o,())):=by
 refine cast (by kernel_rfl) (?_:let r1:List Mir.Box:= [Mir.Box.mk (l.getD i.toNat (dflt (Ty.nm Nm.Box))).1 (l.getD i.toNat (dflt (Ty.nm Nm.Box))).2 (GW (l.getD i.toNat (dflt (Ty.nm Nm.Box))).3)];((decide (i<n)=true→(0≤i∧i <(↑l.length:Int))∧(o.length+r1.length) *(40:Nat)≤(70368744177664:Nat)∧wH (l,n,IntKind.i64.wrap (i+1),b,o++r1,())∧JG (l,n,IntKind.i64.wrap (i+1),b,o++r1,())<JG (l,n,i,b,o,()))∧(decide (i<n)=false→True))∧(cond (decide (i<n)) (nL (l,n,IntKind.i64.wrap (i+1),b,o++r1,())) (b,o,()))=nL (l,n,i,b,o,()))
 intro r1
 clear_value (hr1:r1=_)
 obtain ⟨⟨h1,h1b⟩,⟨h2,h3⟩,h4⟩:=hi
 have h1:n =(l.length:Int):=h1
 have h1b:l.length≤8:=h1b
 have h2:0≤i:=h2
 have h3:i≤n:=h3
 have h4 :(o.length:Int)≤i:=h4
 by_cases h:i<n
 ·have e1:IntKind.i64.wrap (i+1)=i+1:=aL (by omega) (by omega)
  have hd:l.drop i.toNat=l.getD i.toNat (dflt (Ty.nm Nm.Box))::l.drop (i+1).toNat:=aP h2 (by omega) _
  generalize l.getD i.toNat (dflt (Ty.nm Nm.Box))=x at *
  have eR:r1=[yQ x]:=hr1
  have hl:r1.length=1:=by rw [eR];rfl
  have key:nL (l,n,i,b,o,())=nL (l,n,i+1,b,o++r1,()):=by
   show (b,o ++(l.drop i.toNat).map yQ,()) =(b,(o++r1) ++(l.drop (i+1).toNat).map yQ,())
   rw [hd,eR,List.map_cons,List.append_assoc]
   rfl
  rw [decide_eq_true h,e1,key]
  refine ⟨⟨fun _=>⟨⟨h2,by omega⟩,by omega,⟨⟨h1,h1b⟩,⟨?_,?_⟩,?_⟩,?_⟩,fun z=>Bool.noConfusion z⟩,rfl⟩
  ·show 0≤i+1;omega
  ·show i+1≤n;omega
  ·show ((o++r1).length:Int)≤i+1
   rw [List.length_append];omega
  ·show (n - (i+1)).toNat <(n - i).toNat;omega
 ·rw [decide_eq_false h]
  refine ⟨⟨fun z=>Bool.noConfusion z,fun _=>trivial⟩,?_⟩
  show _ =(b,o ++(l.drop i.toNat).map yQ,())
  rw [aG (l:=l) (by omega),List.map_nil,List.append_nil]
  rfl
noncomputable def Ol:LoopSum:=ai lpF0 nL wH
noncomputable def NL:Nat:=rid (aq Tryz.f7 0)
theorem PW:LoopOKp Tryz.prog 0 Tryz.f7.ntmps (aq Tryz.f7 0) (ai lpF0 nL wH):=
 ax lpF0 (an (.consU tZ rfl .nil) _) mixed (fun b hb S hS=>by cases hS) nL wH JG (fun |⟨l,n,i,b,o,⟨⟩⟩,hi=>Rr l n i b o hi)
noncomputable def lpF1:Lp:=(⟨0,az [sa] Tryz.f7,(fun _=>none),(aq Tryz.f7 1),qF1,xF1⟩:Lp)
theorem Rs (l:List Mir.Strip) (n:Int) (i:Int) (b:Mir.Book) (a:List Mir.Box) (o:List Mir.Strip) (hi:wI (l,n,i,b,a,o,())) :(Go.Mir.stepG lpF1 nM (fun y:Den (tyP lpF1.q)=>wI y∧JH y<JH (l,n,i,b,a,o,())) (l,n,i,b,a,o,())∧Go.Mir.stepE lpF1 nM (l,n,i,b,a,o,())=nM (l,n,i,b,a,o,())):=by
 refine cast (by kernel_rfl) (?_:let r1:List Mir.Strip:= [Mir.Strip.mk (l.getD i.toNat (dflt (Ty.nm Nm.Strip))).1 (GW (l.getD i.toNat (dflt (Ty.nm Nm.Strip))).2) (l.getD i.toNat (dflt (Ty.nm Nm.Strip))).3 (l.getD i.toNat (dflt (Ty.nm Nm.Strip))).4];((decide (i<n)=true→(0≤i∧i <(↑l.length:Int))∧(o.length+r1.length) *(48:Nat)≤(70368744177664:Nat)∧wI (l,n,IntKind.i64.wrap (i+1),b,a,o++r1,())∧JH (l,n,IntKind.i64.wrap (i+1),b,a,o++r1,())<JH (l,n,i,b,a,o,()))∧(decide (i<n)=false→True))∧(cond (decide (i<n)) (nM (l,n,IntKind.i64.wrap (i+1),b,a,o++r1,())) (b,a,o,()))=nM (l,n,i,b,a,o,()))
 intro r1
 clear_value (hr1:r1=_)
 obtain ⟨⟨h1,h1b⟩,⟨h2,h3⟩,h4⟩:=hi
 have h1:n =(l.length:Int):=h1
 have h1b:l.length≤8:=h1b
 have h2:0≤i:=h2
 have h3:i≤n:=h3
 have h4 :(o.length:Int)≤i:=h4
 by_cases h:i<n
 ·have e1:IntKind.i64.wrap (i+1)=i+1:=aL (by omega) (by omega)
  have hd:l.drop i.toNat=l.getD i.toNat (dflt (Ty.nm Nm.Strip))::l.drop (i+1).toNat:=aP h2 (by omega) _
  generalize l.getD i.toNat (dflt (Ty.nm Nm.Strip))=x at *
  have eR:r1=[yR x]:=hr1
  have hl:r1.length=1:=by rw [eR];rfl
  have key:nM (l,n,i,b,a,o,())=nM (l,n,i+1,b,a,o++r1,()):=by
   show (b,a,o ++(l.drop i.toNat).map yR,()) =(b,a,(o++r1) ++(l.drop (i+1).toNat).map yR,())
   rw [hd,eR,List.map_cons,List.append_assoc]
   rfl
  rw [decide_eq_true h,e1,key]
  refine ⟨⟨fun _=>⟨⟨h2,by omega⟩,by omega,⟨⟨h1,h1b⟩,⟨?_,?_⟩,?_⟩,?_⟩,fun z=>Bool.noConfusion z⟩,rfl⟩
  ·show 0≤i+1;omega
  ·show i+1≤n;omega
  ·show ((o++r1).length:Int)≤i+1
   rw [List.length_append];omega
  ·show (n - (i+1)).toNat <(n - i).toNat;omega
 ·rw [decide_eq_false h]
  refine ⟨⟨fun z=>Bool.noConfusion z,fun _=>trivial⟩,?_⟩
  show _ =(b,a,o ++(l.drop i.toNat).map yR,())
  rw [aG (l:=l) (by omega),List.map_nil,List.append_nil]
  rfl
noncomputable def Om:LoopSum:=ai lpF1 nM wI
noncomputable def NM:Nat:=rid (aq Tryz.f7 1)
theorem PX:LoopOKp Tryz.prog 0 Tryz.f7.ntmps (aq Tryz.f7 1) (ai lpF1 nM wI):=
 ax lpF1 (an (.consU tZ rfl .nil) _) mixed (fun b hb S hS=>by cases hS) nM wI JH (fun |⟨l,n,i,b,a,o,⟨⟩⟩,hi=>Rs l n i b a o hi)
theorem HA (b:Mir.Book) :(evPat (az [sa] Tryz.f7) (find [(NL,Ol),(NM,Om)]) Tryz.f7 qBk qBk (b,())).sat fun z_=>z_ =(QY (b,())).2:=by
 refine cast (by kernel_rfl) (?_:let r1:Int:=if 8 <(↑b.2.length:Int) then 8 else (↑b.2.length:Int);let r2:Int:=if 8 <(↑b.3.length:Int) then 8 else (↑b.3.length:Int);let r3:List Mir.Box:=List.drop (Int.toNat 0) (List.take r1.toNat b.2);let r4:List Mir.Strip:=List.drop (Int.toNat 0) (List.take r2.toNat b.3);let r5:Int:=(↑r3.length:Int);let r6:Int:=(↑r4.length:Int);((0:Int)≤0∧0≤r1∧r1≤(↑b.2.length:Int))∧((cg fun x=>none)∧(r5 =(↑r3.length:Int)∧r3.length≤(8:Nat))∧((0:Int)≤0∧0≤r5)∧(↑(0:Nat):Int)≤0)∧((0:Int)≤0∧0≤r2∧r2≤(↑b.3.length:Int))∧((cg fun x=>none)∧(r6 =(↑r4.length:Int)∧r4.length≤(8:Nat))∧((0:Int)≤0∧0≤r6)∧(↑(0:Nat):Int)≤0)∧(Mir.Book.mk b.1 ([]++List.map yQ (List.drop (Int.toNat 0) r3)) ([]++List.map yR (List.drop (Int.toNat 0) r4)) b.4 b.5 b.6,()) =(DJ b,()))
 intro r1 r2 r3 r4 r5 r6
 clear_value (hr1:r1=_) (hr2:r2=_) (hr3:r3=_) (hr4:r4=_) (hr5:r5=_) (hr6:r6=_)
 have e1:0≤r1∧r1≤(b.Boxes.length:Int)∧r1.toNat=min 8 b.Boxes.length:=by rw [hr1];split <;> omega
 have e2:0≤r2∧r2≤(b.Strips.length:Int)∧r2.toNat=min 8 b.Strips.length:=by rw [hr2];split <;> omega
 have e3:r3=b.Boxes.take 8:=by
  rw [hr3,e1.2.2]
  show b.Boxes.take (min 8 b.Boxes.length)=_
  rw [List.take_eq_take_iff]
  omega
 have e4:r4=b.Strips.take 8:=by
  rw [hr4,e2.2.2]
  show b.Strips.take (min 8 b.Strips.length)=_
  rw [List.take_eq_take_iff]
  omega
 have l3:r3.length≤8:=by rw [e3,List.length_take];omega
 have l4:r4.length≤8:=by rw [e4,List.length_take];omega
 refine ⟨⟨Int.le_refl _,e1.1,e1.2.1⟩,⟨rfl,⟨hr5,l3⟩,⟨Int.le_refl _,by omega⟩,Int.le_refl _⟩,⟨Int.le_refl _,e2.1,e2.2.1⟩,⟨rfl,⟨hr6,l4⟩,⟨Int.le_refl _,by omega⟩,Int.le_refl _⟩,?_⟩
 rw [e3,e4]
 rfl
def FJ:FuncId×Ctr:=(7,aj KE qBk qBk QY)
theorem J5:CtrOK Tryz.prog KE 7 (aj KE qBk qBk QY):=by
 refine aO (C:=az [sa] Tryz.f7) (an (.consU tZ rfl .nil) _) mixed (fn:=Tryz.f7) Tryz.func7 (by kernel_rfl) (by kernel_rfl) (by kernel_rfl) (by kernel_rfl) (by kernel_rfl) (by kernel_rfl) (Λ:=fun x=>find [(NL,Ol),(NM,Om)]) ?_ ?_
 ·rintro ⟨b,⟨⟩⟩ hw hn
  exact LoopsOKp.at (by kernel_rfl) (.cons (by kernel_rfl) (PW) (.cons (by kernel_rfl) (PX) .nil))
 ·rintro ⟨b,⟨⟩⟩ hw hn
  exact HA b
theorem SJ (b:Mir.Book) :(DJ b).Boxes.length≤8∧∀ x∈(DJ b).Boxes,x.Symbols.length≤12:=by
 refine ⟨?_,fun x hx=>?_⟩
 ·show ((b.Boxes.take 8).map yQ).length≤8
  rw [List.length_map,List.length_take];omega
 ·obtain ⟨y,_,rfl⟩:=List.mem_map.1 hx
  show ((y.Symbols.take 12).map yP).length≤12
  rw [List.length_map,List.length_take];omega
theorem SK (b:Mir.Book) :(DJ b).Strips.length≤8∧∀ x∈(DJ b).Strips,x.Symbols.length≤12:=by
 refine ⟨?_,fun x hx=>?_⟩
 ·show ((b.Strips.take 8).map yR).length≤8
  rw [List.length_map,List.length_take];omega
 ·obtain ⟨y,_,rfl⟩:=List.mem_map.1 hx
  show ((y.Symbols.take 12).map yP).length≤12
  rw [List.length_map,List.length_take];omega
end
end Go.Proofs.YtjcbhomccohklaaGreatDoor
namespace Go.Mir
section
open Go.RowKit
inductive Rn (γ:Type) where
 | ok (r:γ)
 | no (w:List Nat)
inductive Tri (α:Type) where
 | lf
 | nd (l:Tri α) (v:Option α) (r:Tri α)
def Tri.get {α:Type} (t:Tri α):Nat→Option α:=
 match t with
 | .lf=>fun _=>none
 | .nd l v r=>fun k=>Nat.casesOn (motive:=fun _=>Option α) k v fun k=>Bool.casesOn (motive:=fun _=>Option α) (Nat.beq (Nat.mod k 2) 0) (r.get (Nat.div k 2)) (l.get (Nat.div k 2))
def Tri.inL {α γ:Type} (κ:Tri α→Rn γ) (w:Option α) (r l:Tri α):Rn γ:=κ (.nd l w r)
def IntKind.eqb (a b:IntKind):Bool:=decide (a=b)
mutual
def V.eqb:V→V→Bool
 | .any,.any=>true
 | .int k n,.int k' n'=>decide (k=k')&&decide (n=n')
 | .bool a,.bool b=>decide (a=b)
 | .kb a,.kb b=>decide (a=b)
 | .str s,.str t=>decide (s.data.toList=t.data.toList)
 | .nilptr,.nilptr=>true
 | .ptr h o,.ptr h' o'=>Nat.beq h h'&&Nat.beq o o'
 | .nilsl,.nilsl=>true
 | .esl,.esl=>true
 | .gsl h v e o l,.gsl h' v' e' o' l'=>Nat.beq h h'&&Nat.beq v v'&&Nat.beq e e'&&Nat.beq o o'&&Nat.beq l l'
 | .gp h v o,.gp h' v' o'=>Nat.beq h h'&&Nat.beq v v'&&Nat.beq o o'
 | .mpv h,.mpv h'=>Nat.beq h h'
 | .nilfn,.nilfn=>true
 | .nilmap,.nilmap=>true
 | .fn f cs,.fn f' cs'=>Nat.beq f f'&&Bg cs cs'
 | .agg cs,.agg cs'=>Bg cs cs'
 | .tup cs,.tup cs'=>Bg cs cs'
 | _,_=>false
def Bg:List V→List V→Bool
 | [],[]=>true
 | x::xs,y::ys=>V.eqb x y&&Bg xs ys
 | _,_=>false
end
mutual
theorem V.eqb_eq :∀ (x y:V),V.eqb x y=true→x=y
 | .any,y,h=>by cases y <;> simp_all [V.eqb]
 | .int k n,y,h=>by cases y <;> simp_all [V.eqb]
 | .bool _,y,h=>by cases y <;> simp_all [V.eqb]
 | .kb _,y,h=>by cases y <;> simp_all [V.eqb]
 | .hint _ _,y,h=>by cases y <;> simp [V.eqb] at h
 | .str s,y,h=>by
  cases y <;> simp only [V.eqb,Bool.false_eq_true,decide_eq_true_eq] at h
  rename_i t
  have:s=t:=ByteArray.ext (Array.toList_inj.1 h)
  rw [this]
 | .nilptr,y,h=>by cases y <;> simp_all [V.eqb]
 | .ptr _ _,y,h=>by cases y <;> simp_all [V.eqb]
 | .fp _ _ _ _,y,h=>by cases y <;> simp [V.eqb] at h
 | .rp _ _ _ _,y,h=>by cases y <;> simp [V.eqb] at h
 | .nilsl,y,h=>by cases y <;> simp_all [V.eqb]
 | .esl,y,h=>by cases y <;> simp_all [V.eqb]
 | .osl _ _,y,h=>by cases y <;> simp [V.eqb] at h
 | .fsl _ _,y,h=>by cases y <;> simp [V.eqb] at h
 | .gsl _ _ _ _ _,y,h=>by cases y <;> simp_all [V.eqb]
 | .gp _ _ _,y,h=>by cases y <;> simp_all [V.eqb]
 | .mpv _,y,h=>by cases y <;> simp_all [V.eqb]
 | .av _ _,y,h=>by cases y <;> simp [V.eqb] at h
 | .nilfn,y,h=>by cases y <;> simp_all [V.eqb]
 | .nilmap,y,h=>by cases y <;> simp_all [V.eqb]
 | .fn f cs,y,h=>by
  cases y <;> simp only [V.eqb,Bool.false_eq_true,Bool.and_eq_true,Nat.beq_eq] at h
  rw [h.1,rT _ _ h.2]
 | .agg cs,y,h=>by
  cases y <;> simp only [V.eqb,Bool.false_eq_true] at h
  rw [rT _ _ h]
 | .tup cs,y,h=>by
  cases y <;> simp only [V.eqb,Bool.false_eq_true] at h
  rw [rT _ _ h]
theorem rT :∀ (xs ys:List V),Bg xs ys=true→xs=ys
 | [],[],_=>rfl
 | [],_::_,h=>by simp [Bg] at h
 | _::_,[],h=>by simp [Bg] at h
 | x::xs,y::ys,h=>by
  simp only [Bg,Bool.and_eq_true] at h
  rw [V.eqb_eq _ _ h.1,rT _ _ h.2]
end
def G7:List (V×V)→List (V×V)→Bool
 | [],[]=>true
 |(a,b)::xs,(c,d)::ys=>V.eqb a c&&V.eqb b d&&G7 xs ys
 | _,_=>false
theorem Fp :∀ (xs ys:List (V×V)),G7 xs ys=true→xs=ys
 | [],[],_=>rfl
 | [],_::_,h=>by simp [G7] at h
 | _::_,[],h=>by simp [G7] at h
 |(a,b)::xs,(c,d)::ys,h=>by
  simp only [G7,Bool.and_eq_true] at h
  rw [V.eqb_eq _ _ h.1.1,V.eqb_eq _ _ h.1.2,Fp _ _ h.2]
end
section
open Go.RowKit
variable {P:Program}
def Ob.chk:Ob→Bool
 | .rng n len=>decide (0≤n)&&decide (n <(len:Int))
 | .sub l h len=>decide (0≤l)&&decide (l≤h)&&decide (h≤(len:Int))
 | .mk n c=>decide (0≤n)&&decide (c=n)&&decide (n≤17179869184)
 | .mkc n c=>decide (0≤n)&&decide (n≤c)&&decide (c≤17179869184)
 | .ne0 n=>!decide (n=0)
 | .leN a b=>Nat.ble a b
 | .prop _=>false
theorem Ob.chk_holds :∀ {p:Ob},p.chk=true→p.holds
 | .rng n len,h=>by simpa [Ob.chk,Ob.holds] using h
 | .sub l h len,hh=>by simp only [Ob.chk,Bool.and_eq_true,decide_eq_true_eq] at hh;exact ⟨hh.1.1,hh.1.2,hh.2⟩
 | .mk n c,h=>by simp only [Ob.chk,Bool.and_eq_true,decide_eq_true_eq] at h;exact ⟨h.1.1,h.1.2,h.2⟩
 | .mkc n c,h=>by simp only [Ob.chk,Bool.and_eq_true,decide_eq_true_eq] at h;exact ⟨h.1.1,h.1.2,h.2⟩
 | .ne0 n,h=>by simpa [Ob.chk,Ob.holds] using h
 | .leN a b,h=>Nat.le_of_ble_eq_true h
def jH:V→V
 | .bool b=> .kb b
 | v=>v
structure RS where
 tm:Tri V
 hp:Tri Blk
 nx:Nat
abbrev HO:=FuncId→List V→Tri Blk→Nat→Rn (V×Tri Blk×Nat)
def mw (r:Res):Option (List Ob×V×List (Nat×Blk)):=match r with
 | .val ps v dh=>some (ps,v,dh)
 | _=>none
abbrev R1:=Option (List Ob×V×List (Nat×Blk))
def EG (tb:Tbl) (H:aw) (ev:Operand→V) (t:TypeId) (a x:Operand):R1:=match tb t with
 | some td=>match cZ td H (ev a) (ev x) with
  | .skip ps dh=>some (ps,.tup [],dh)
  | _=>none
 | none=>none
def xQ (ev:Operand→V) (x:Operand):R1:=some ([],ev x,[])
def ND (ev:Operand→V) (c a b:Operand):R1:=mw (qk (ev c) (ev a) (ev b))
def EB (tb:Tbl) (m:Nat) (t:TypeId):R1:=match tb t with|some td=>some ([],.ptr m 0,[(m,.cells td.zero)])|none=>none
def QJ (m:Nat) (ev:Operand→V) (x:Operand):R1:=match cellsOf (ev x) with|some cs=>some ([],.ptr m 0,[(m,.cells cs)])|none=>none
def EC (tb:Tbl) (ev:Operand→V) (t:TypeId) (parts:Array (Nat×Operand)):R1:=match tb t with|some td=>mw (mM tb td (parts.toList.map fun p=>(p.1,ev p.2)))|none=>none
def mu (tb:Tbl) (m:Nat) (H:aw) (ev:Operand→V) (t:TypeId) (n:Nat) (parts:Array (Nat×Operand)):R1:=match tb t with|some td=>mw (c7 tb td H m n (parts.toList.map fun p=>(p.1,ev p.2)))|none=>none
def Kn (tb:Tbl) (H:aw) (ev:Operand→V) (t:TypeId) (a:Operand):R1:=match tb t with|some td=>mw (fo td H (ev a))|none=>none
def Ti (ev:Operand→V) (x:Operand):R1:=mw (Bm (ev x))
def QI (tb:Tbl) (ev:Operand→V) (op:BinOp) (t:TypeId) (x y:Operand):R1:=match tb t with|some td=>mw (fF td op (ev x) (ev y))|none=>none
def rUn (ev:Operand→V) (op:UnOp) (x:Operand):R1:=mw (IG op (ev x))
def Kk (tb:Tbl) (m:Nat) (ev:Operand→V) (s d:TypeId) (x:Operand):R1:=match tb s,tb d with|some ts,some td=>mw (rV tb ts td m (ev x))|_,_=>none
def bW:List V→Bool
 | []=>true
 | .ptr _ _::_=>true
 | _=>false
theorem Ev {asz caps:List V} (h:bW caps=true):qp asz caps=some (asz++caps):=by
 cases caps with
 | nil=>simp [qp]
 | cons c cs=>cases c <;> simp only [bW,Bool.false_eq_true] at h;rfl
theorem Ew {f:FuncId} {caps:List V} (h:bW caps=true):qf f [] caps = .val [] (.fn f caps) []:=by
 cases caps with
 | nil=>rfl
 | cons c cs=>cases c <;> simp only [bW,Bool.false_eq_true] at h;rfl
theorem Kf {E:Env} {f:FuncId} {caps:List V} {l:Array Value} (h:bW caps=true) (hl:ab E caps l.toList):fnV f l = .func (.func f) #[] l:=by
 obtain ⟨l⟩:=l
 cases caps with
 | nil=>cases l with
  | nil=>rfl
  | cons=>simp [ab] at hl
 | cons c cs=>
  cases c <;> simp only [bW,Bool.false_eq_true] at h
  cases l with
  | nil=>simp [ab] at hl
  | cons v vs=>
   simp only [ab,aa] at hl
   obtain ⟨⟨_,⟨a,rfl⟩,_⟩,_⟩:=hl
   rfl
def Kl (ev:Operand→V) (fn:Fn) (first caps:Array Operand):R1:=match fn with
 | .func f=>mw (qf f (first.toList.map ev) (caps.toList.map ev))
 | _=>none
def Ko (tb:Tbl) (m:Nat) (H:aw) (ev:Operand→V) (t:TypeId) (l c:Operand):R1:=match tb t with|some td=>mw (gV tb td H m (ev l) (ev c))|none=>none
def EF (tb:Tbl) (H:aw) (ev:Operand→V) (t:TypeId) (x:Operand) (lo hi mx:Option Operand):R1:=match tb t with|some td=>mw (fq tb td H (ev x) (lo.map ev) (hi.map ev) (mx.map ev))|none=>none
def ED (tb:Tbl) (ev:Operand→V) (t:TypeId) (x:Operand) (f:Nat):R1:=match tb t with|some td=>mw (jR tb td (ev x) f)|none=>none
def Ae (tb:Tbl) (ev:Operand→V) (t:TypeId) (x:Operand) (f:Nat):R1:=match tb t with|some td=>mw (ir tb td (ev x) f)|none=>none
def EE (tb:Tbl) (H:aw) (ev:Operand→V) (t:TypeId) (x i:Operand):R1:=match tb t with|some td=>mw (dC tb td H (ev x) (ev i))|none=>none
def Km (tb:Tbl) (ev:Operand→V) (t:TypeId) (x i:Operand):R1:=match tb t with|some td=>mw (lS tb td (ev x) (ev i))|none=>none
def CD (ev:Operand→V) (t:Operand) (i:Nat):R1:=mw (mN (ev t) i)
theorem HE {td:TD} {H:aw} {a x:V} {ps:List Ob} {dh:List (Nat×Blk)} (h:cZ td H a x = .skip ps dh):fu td H a x = .skip ps dh:=by
 unfold fu
 split
 ·rw [h]
 ·exact h
def sM (tb:Tbl) (N m:Nat) (H:aw) (ev:Operand→V) (op:Op):R1:=match op with
 | .store t a x=>EG tb H ev t a x
 | .move x=>xQ ev x
 | .assign x=>xQ ev x
 | .pick c a b=>ND ev c a b
 | .alloc t=>EB tb m t
 | .box _ x=>QJ m ev x
 | .build t parts=>EC tb ev t parts
 | .buildSlice t n parts=>mu tb m H ev t n parts
 | .load t a=>Kn tb H ev t a
 | .nilCheck x=>Ti ev x
 | .binOp op t x y _=>QI tb ev op t x y
 | .unOp op _ x=>rUn ev op x
 | .convert s d x=>Kk tb m ev s d x
 | .makeFunc fn first caps=>Kl ev fn first caps
 | .makeSlice t l c=>Ko tb m H ev t l c
 | .slice t x lo hi mx=>EF tb H ev t x lo hi mx
 | .fieldAddr t x f=>ED tb ev t x f
 | .field t x f=>Ae tb ev t x f
 | .indexAddr t x i=>EE tb H ev t x i
 | .index t x i=>Km tb ev t x i
 | .extract t i=>CD ev t i
 | op=>aH ⟨tb,fun _=>none,1,N⟩ m H ev op
theorem qd (tb:Tbl) (N m:Nat) (H:aw) (ev:Operand→V) (op:Op) {q:List Ob×V×List (Nat×Blk)} (h:sM tb N m H ev op=some q):aH ⟨tb,fun _=>none,1,N⟩ m H ev op=some q:=by
 have key :∀ {r:Res},mw r=some q→(match r with | .val ps v dh=>some (ps,v,dh)|_=>none:R1)=some q:=fun {r} h=>by cases r <;> first|exact h|cases h
 cases op <;> simp only [sM] at h <;> simp only [aH,b7,bO]
 case store t a x=>simp only [EG] at h;cases ht:tb t <;> rw [ht] at h <;> simp only [reduceCtorEq] at h ⊢;cases hs:cZ _ H (ev a) (ev x) <;> rw [hs] at h <;> simp only [reduceCtorEq] at h ⊢;rw [HE hs];exact h
 case move=>simpa [xQ] using h
 case assign=>simpa [xQ] using h
 case pick=>exact key h
 case alloc t=>simp only [EB] at h;cases ht:tb t <;> rw [ht] at h <;> simp only [reduceCtorEq] at h ⊢;exact h
 case box t x=>simp only [QJ] at h;cases ht:cellsOf (ev x) <;> rw [ht] at h <;> simp only [reduceCtorEq] at h ⊢;exact h
 case build t parts=>simp only [EC] at h;cases ht:tb t <;> rw [ht] at h <;> simp only [reduceCtorEq] at h ⊢;exact key h
 case buildSlice t n parts=>simp only [mu] at h;cases ht:tb t <;> rw [ht] at h <;> simp only [reduceCtorEq] at h ⊢;exact key h
 case load t a=>simp only [Kn] at h;cases ht:tb t <;> rw [ht] at h <;> simp only [reduceCtorEq] at h ⊢;exact key h
 case nilCheck=>exact key h
 case binOp o t x y t2=>simp only [QI] at h;cases ht:tb t <;> rw [ht] at h <;> simp only [reduceCtorEq] at h ⊢;exact key h
 case unOp=>exact key h
 case convert s d x=>
  simp only [Kk] at h
  cases ht:tb s with
  | none=>rw [ht] at h;cases h
  | some ts=>
   rw [ht] at h
   cases ht2:tb d with
   | none=>rw [ht2] at h;cases h
   | some td=>rw [ht2] at h;exact key h
 case makeFunc fn first caps=>
  cases fn <;> simp only [Kl,reduceCtorEq] at h
  exact key h
 case makeSlice t l c=>simp only [Ko] at h;cases ht:tb t <;> rw [ht] at h <;> simp only [reduceCtorEq] at h ⊢;exact key h
 case slice t x lo hi mx=>simp only [EF] at h;cases ht:tb t <;> rw [ht] at h <;> simp only [reduceCtorEq] at h ⊢;exact key h
 case fieldAddr t x f=>simp only [ED] at h;cases ht:tb t <;> rw [ht] at h <;> simp only [reduceCtorEq] at h ⊢;exact key h
 case field t x f=>simp only [Ae] at h;cases ht:tb t <;> rw [ht] at h <;> simp only [reduceCtorEq] at h ⊢;exact key h
 case indexAddr t x i=>simp only [EE] at h;cases ht:tb t <;> rw [ht] at h <;> simp only [reduceCtorEq] at h ⊢;exact key h
 case index t x i=>simp only [Km] at h;cases ht:tb t <;> rw [ht] at h <;> simp only [reduceCtorEq] at h ⊢;exact key h
 case extract=>exact key h
 all_goals (simp only [aH,b7,bO] at h;exact h)
inductive Act1 where
 | plain (r:R1)
 | call (g:FuncId) (args:List V)
def Ik (tb:Tbl) (N m:Nat) (H:aw) (ev:Operand→V) (c:Call):Act1:=match c.callee with
 | .value f=>match ev f with
  | .fn g caps=>bif bW caps then .call g (c.args.toList.map ev++caps) else .plain none
  | _=> .plain none
 | _=> .plain (aH ⟨tb,fun _=>none,1,N⟩ m H ev (.call c))
def evA (tb:Tbl) (N m:Nat) (H:aw) (ev:Operand→V) (op:Op):Act1:=match op with
 | .call c=>Ik tb N m H ev c
 | .store t a x=> .plain (EG tb H ev t a x)
 | .move x=> .plain (xQ ev x)
 | .assign x=> .plain (xQ ev x)
 | .pick c a b=> .plain (ND ev c a b)
 | .alloc t=> .plain (EB tb m t)
 | .box _ x=> .plain (QJ m ev x)
 | .build t parts=> .plain (EC tb ev t parts)
 | .buildSlice t n parts=> .plain (mu tb m H ev t n parts)
 | .load t a=> .plain (Kn tb H ev t a)
 | .nilCheck x=> .plain (Ti ev x)
 | .binOp op t x y _=> .plain (QI tb ev op t x y)
 | .unOp op _ x=> .plain (rUn ev op x)
 | .convert s d x=> .plain (Kk tb m ev s d x)
 | .makeFunc fn first caps=> .plain (Kl ev fn first caps)
 | .makeSlice t l c=> .plain (Ko tb m H ev t l c)
 | .slice t x lo hi mx=> .plain (EF tb H ev t x lo hi mx)
 | .fieldAddr t x f=> .plain (ED tb ev t x f)
 | .field t x f=> .plain (Ae tb ev t x f)
 | .indexAddr t x i=> .plain (EE tb H ev t x i)
 | .index t x i=> .plain (Km tb ev t x i)
 | .extract t i=> .plain (CD ev t i)
 | op=> .plain (aH ⟨tb,fun _=>none,1,N⟩ m H ev op)
theorem G9 (tb:Tbl) (N m:Nat) (H:aw) (ev:Operand→V) (op:Op) {q:List Ob×V×List (Nat×Blk)} (h:evA tb N m H ev op = .plain (some q)):aH ⟨tb,fun _=>none,1,N⟩ m H ev op=some q:=by
 cases op
 case call c=>
  simp only [evA,Ik] at h
  split at h
  ·split at h
   ·rename_i caps _
    cases hb:bW caps with
    | true=>rw [hb] at h;cases h
    | false=>rw [hb] at h;cases h
   ·cases h
  ·exact Act1.plain.inj h
 all_goals (exact qd tb N m H ev _ (Act1.plain.inj h))
theorem IE (tb:Tbl) (N m:Nat) (H:aw) (ev:Operand→V) (op:Op) {g:FuncId} {args:List V} (h:evA tb N m H ev op = .call g args) :∃ c f caps,op = .call c∧c.callee = .value f∧ev f = .fn g caps∧args=c.args.toList.map ev++caps∧bW caps=true:=by
 cases op
 case call c=>
  simp only [evA,Ik] at h
  split at h
  ·rename_i f hf
   split at h
   ·rename_i g' caps he
    cases hb:bW caps with
    | false=>rw [hb] at h;cases h
    | true=>
     rw [hb] at h
     cases h
     exact ⟨c,f,caps,rfl,hf,he,rfl,hb⟩
   ·cases h
  ·cases h
 all_goals (cases h)
def NB (ps:List Ob):Bool:=List.casesOn (motive:=fun _=>Bool) ps true fun _ _=>ps.all Ob.chk
def Iy (N:Nat) (ops:List Oper):Bool:=ops.all fun o=>dstIn N o.dst
end
section
open Go.RowKit
variable {P:Program}
inductive DoesV (C:Cfg) (alt:Option (Nat×(Blk→Bool))) (all:List Oper) (tm:List (Nat×V)) (H:aw) (m:Nat) (o:Oper):Rec→Prop
 | old {r:Rec}:Does C true all tm H m o r→DoesV C alt all tm H m o r
 | dir {ps:List Ob} {v v':V} {dh:List (Nat×Blk)} {R:List Nat}:dstIn C.N o.dst=true→fw all tm o=some true→aH C m H (a8 (ao all o) tm) o.op=some (ps,v,dh)→
   (∀ H2:aw,(∀ h∈R,H2 h=H h)→(∀ h0 okB,alt=some (h0,okB)→H2 h0=H h0∨∃ b,H2 h0=some b∧okB b=true)→aH C m H2 (a8 (ao all o) tm) o.op=aH C m H (a8 (ao all o) tm) o.op)→(∀ p∈ps,p.holds)→
   (v'=v∨∃ b,v = .bool b∧v' = .kb b)→DoesV C alt all tm H m o ⟨o.dst,v',dh,R,ao all o⟩
theorem DoesV.dstIn {C:Cfg} {alt:Option (Nat×(Blk→Bool))} {all:List Oper} {tm:List (Nat×V)} {H:aw} {m:Nat} {o:Oper} {r:Rec} (h:DoesV C alt all tm H m o r):dstIn C.N o.dst=true∧r.dst=o.dst∧r.rs=ao all o:=by
 cases h with
 | old h=>exact h.dstIn
 | dir h _ _ _ _ _=>exact ⟨h,rfl,rfl⟩
inductive RunV (Cf:Nat→Cfg) (lo:Nat→Nat) (al:Nat→Option (Nat×(Blk→Bool))) (all:List Oper) (st:St):Nat→List Oper→Dl→List Rec→Dl→List Rec→Prop
 | nil {i:Nat} {d:Dl} {recs:List Rec}:RunV Cf lo al all st i [] d recs d recs
 | cons {i:Nat} {o:Oper} {rest:List Oper} {d:Dl} {recs:List Rec} {r:Rec} {df:Dl} {rf:List Rec}:DoesV (Cf i) (al i) all (d.tm++st.tm) (au st.H d.hp) (lo i) o r→
   RunV Cf lo al all st (i+1) rest ⟨cc r.dst r.v++d.tm,r.dh++d.hp⟩ (recs++[r]) df rf→RunV Cf lo al all st i (o::rest) d recs df rf
theorem xU {Cf:Nat→Cfg} {lo:Nat→Nat} {al:Nat→Option (Nat×(Blk→Bool))} {all:List Oper} {st:St} :∀ (rest:List Oper) (i:Nat) (d:Dl) (recs:List Rec) (df:Dl) (rf:List Rec),RunV Cf lo al all st i rest d recs df rf→recs.length=i→
  find (d.tm++st.tm) =(recs.map eD).foldl du (find st.tm)→au st.H d.hp =(recs.map Rec.dh).foldl du st.H→
  (∃ more,rf=recs++more∧more.length=rest.length)∧find (df.tm++st.tm) =(rf.map eD).foldl du (find st.tm)∧au st.H df.hp =(rf.map Rec.dh).foldl du st.H∧
  ∀ j o,rest[j]?=some o→∃ r tm H,rf[i+j]?=some r∧DoesV (Cf (i+j)) (al (i+j)) all tm H (lo (i+j)) o r∧find tm =((rf.take (i+j)).map eD).foldl du (find st.tm)∧H =((rf.take (i+j)).map Rec.dh).foldl du st.H
 | [],i,d,recs,df,rf,hr,hl,h1,h2=>by
  cases hr
  exact ⟨⟨[],by simp,rfl⟩,h1,h2,fun j o h=>by simp at h⟩
 | o::rest,i,d,recs,df,rf,hr,hl,h1,h2=>by
  cases hr with
  | @cons _ _ _ _ _ r _ _ hdo hrun=>
   obtain ⟨⟨more,e1,e2⟩,g1,g2,g3⟩:=xU rest (i+1) _ _ _ _ hrun (by simp [hl])
    (by rw [List.append_assoc,wq,h1];simp [eD]) (by rw [bT,h2];simp [mR])
   refine ⟨⟨r::more,by rw [e1];simp,by simp [e2]⟩,g1,g2,fun j o' hj=>?_⟩
   cases j with
   | zero=>
    simp only [List.getElem?_cons_zero,Option.some.injEq] at hj
    subst hj
    have et:rf.take i=recs:=by rw [e1,List.append_assoc,List.take_append_of_le_length (by omega),List.take_of_length_le (by omega)]
    refine ⟨r,_,_,?_,hdo,?_,?_⟩
    ·rw [e1,Nat.add_zero,List.append_assoc,List.getElem?_append_right (by omega)]
     simp [hl]
    ·rw [Nat.add_zero,et];exact h1
    ·rw [Nat.add_zero,et];exact h2
   | succ j=>
    obtain ⟨r',tm,H,k1,k2,k3,k4⟩:=g3 j o' (by simpa using hj)
    rw [show i+1+j=i +(j+1) by omega] at k1 k2 k3 k4
    exact ⟨r',tm,H,k1,k2,k3,k4⟩
structure InvV (Cf:Nat→Cfg) (lo:Nat→Nat) (N:Nat) (B:Base) (E0:Env) (st:St) (rf:List Rec) (L:Nat→Bool) (a:Act) (w:World):Prop where
 ex :∃ E,HRel B E∧E.w=w∧Ext E0 E∧E.H=bG L st.H 0 (rf.map Rec.dh)∧(∀ n,E.U n→E0.U n∨∃ i,i<rf.length∧L i=true∧lo i≤n∧n<lo i +(Cf i).K)∧eJ E (bG L (find st.tm) 0 (rf.map eD)) a
 size:a.tmps.size=N
 defers:a.defers=[]
theorem CX {L L':Nat→Bool} {k:Nat} {okB:Blk→Bool} :∀ (us:List (List (Nat×Blk))) (i:Nat) (f f':Nat→Option Blk),(f k=f' k∨∃ b,f k=some b∧okB b=true)→
  (∀ j u,us[j]?=some u→find u k≠none→L (i+j)=L' (i+j)∨(L' (i+j)=false∧∀ b,find u k=some b→okB b=true))→bG L f i us k=bG L' f' i us k∨∃ b,bG L f i us k=some b∧okB b=true
 | [],_,_,_,h,_=>h
 | u::us,i,f,f',h,hu=>by
  unfold bG
  refine CX us (i+1) _ _ ?_ (fun j u' hj hf=>by
   have:=hu (j+1) u' (by simpa using hj) hf
   rwa [show i +(j+1)=i+1+j by omega] at this)
  cases hf:find u k with
  | none=>
   have e1 :(if L i=true then du f u else f) k=f k:=by split <;> simp [ig hf]
   have e2 :(if L' i=true then du f' u else f') k=f' k:=by split <;> simp [ig hf]
   rw [e1,e2]
   exact h
  | some v=>
   rcases hu 0 u (by simp) (by rw [hf];simp) with h1 |⟨h1,h2⟩
   ·simp only [Nat.add_zero] at h1
    rw [h1]
    split
    ·left;rw [fM hf,fM hf]
    ·exact h
   ·simp only [Nat.add_zero] at h1
    rw [h1]
    simp only [Bool.false_eq_true,if_false]
    split
    ·right;exact ⟨v,fM hf,h2 v hf⟩
    ·exact h
theorem Hf {Cf:Nat→Cfg} {lo:Nat→Nat} {al:Nat→Option (Nat×(Blk→Bool))} {N:Nat} (hC :∀ i,CfgOK P (Cf i)) (hN :∀ i,(Cf i).N=N) {B:Base} {E0:Env} {all:List Oper} {st:St} {rf:List Rec} (hfr0 :∀ i,i<rf.length→∀ n,lo i≤n→n<lo i +(Cf i).K→¬ E0.U n) (hlo :∀ i j,i<j→j<rf.length→lo i +(Cf i).K≤lo j) {L L':Nat→Bool} {i:Nat} {o:Oper} {r:Rec} (ho:all[i]?=some o) (hr:rf[i]?=some r) (hLi:L i=false) (hL' :∀ j,L' j=if j=i then true else L j)
  {tm:List (Nat×V)} {H:aw} (hdo:DoesV (Cf i) (al i) all tm H (lo i) o r) (htm:find tm=bG (fun j=>Nat.blt j i) (find st.tm) 0 (rf.map eD)) (hH:H=bG (fun j=>Nat.blt j i) st.H 0 (rf.map Rec.dh))
  (hcomm :∀ j s,rf[j]?=some s→(j<i∧L j=false)∨(i<j∧L j=true)→Comm r s) (halt :∀ h0 okB,al i=some (h0,okB)→∀ j s b,rf[j]?=some s→find s.dh h0=some b→(j<i→L j=true)∧(i<j→L j=true→okB b=true)) {Q:Exit→Act→World→Prop} {a:Act} {w:World} (hI:InvV Cf lo N B E0 st rf L a w) {K:Act→World→Prop} (hK :∀ a w,InvV Cf lo N B E0 st rf L' a w→K a w) :
  wpOp P all.toArray Q i K a w:=by
 obtain ⟨⟨E,hE,rfl,hX,hEH,hU,hT⟩,hsz,hdf⟩:=hI
 obtain ⟨hd,he,hrs⟩:=hdo.dstIn
 have hiL:i<rf.length:=(List.getElem?_eq_some_iff.1 hr).1
 have hLsel :∀ {α:Type} (us:List (List (Nat×α))) (f:Nat→Option α) (k:Nat) (g:Rec→List (Nat×α)),us=rf.map g→(∀ j s,rf[j]?=some s→find (g s) k≠none→j≠i→Comm r s→False)→bG L f 0 us k=bG (fun j=>Nat.blt j i) f 0 us k:=by
  intro α us f k g hus hno
  refine fS us 0 f f rfl (fun j u hj hu=>?_)
  rw [Nat.zero_add]
  subst hus
  rw [List.getElem?_map] at hj
  cases hs:rf[j]? with
  | none=>rw [hs] at hj;simp at hj
  | some s=>
   rw [hs] at hj
   simp only [Option.map_some,Option.some.injEq] at hj
   subst hj
   by_cases hji:j=i
   ·subst hji
    rw [hLi]
    cases hb:Nat.blt j j with
    | false=>rfl
    | true=>rw [Nat.blt_eq] at hb;omega
   ·rcases Nat.lt_or_gt_of_ne hji with hlt|hgt
    ·have hb:Nat.blt j i=true:=by rw [Nat.blt_eq];exact hlt
     rw [hb]
     cases hLj:L j with
     | true=>rfl
     | false=>exact (hno j s hs hu hji (hcomm j s hs (.inl ⟨hlt,hLj⟩))).elim
    ·have hb:Nat.blt j i=false:=by cases hb:Nat.blt j i with|false=>rfl|true=>rw [Nat.blt_eq] at hb;omega
     rw [hb]
     cases hLj:L j with
     | false=>rfl
     | true=>exact (hno j s hs hu hji (hcomm j s hs (.inr ⟨hgt,hLj⟩))).elim
 have hslot :∀ s∈ao all o,bG L (find st.tm) 0 (rf.map eD) s=find tm s:=fun s hs=>by
  rw [htm]
  refine hLsel _ _ s eD rfl (fun j s' hs' hne hji hc=>?_)
  exact hc.sd s (kz hne) (by rw [hrs];exact hs)
 have hlook :∀ s∈ao all o,aa E (cA tm s) (a.tmps.getD s undef):=fun s hs=>by
  unfold cA
  cases hf:find tm s with
  | none=>simp [aa]
  | some v=>exact hT s v (by rw [hslot s hs];exact hf)
 have hL0 :∀ {α:Type} (us:List (List (Nat×α))) (f:Nat→Option α) (g:Rec→List (Nat×α)),us=rf.map g→(∀ j s,i<j→rf[j]?=some s→Comm r s→∀ k,find (g r) k≠none→find (g s) k=none)→bG L' f 0 us=du (bG L f 0 us) (g r):=by
  intro α us f g hus hno
  subst hus
  refine CW (rf.map g) f i (g r) (by rw [List.getElem?_map,hr];rfl) hL' (fun j u hj hu hLj k hk=>?_)
  rw [List.getElem?_map] at hu
  cases hs:rf[j]? with
  | none=>rw [hs] at hu;simp at hu
  | some s=>
   rw [hs] at hu
   simp only [Option.map_some,Option.some.injEq] at hu
   subst hu
   exact hno j s hj hs (hcomm j s hs (.inr ⟨hj,hLj⟩)) k hk
 have none_of :∀ {α:Type} {l:List (Nat×α)} {k:Nat},(k∈l.map (·.1)→False)→find l k=none:=fun {α l k} h=>by
  cases hf:find l k with
  | none=>rfl
  | some v=>exact (h (eu (by rw [hf];simp))).elim
 have hT':bG L' (find st.tm) 0 (rf.map eD)=du (bG L (find st.tm) 0 (rf.map eD)) (eD r):=hL0 _ _ eD rfl (fun j s _ _ hc k hk=>by
  cases hf:find (eD s) k with
  | none=>rfl
  | some v=>exact (hc.d k (kz hk) (kz (by rw [hf];simp))).elim)
 have hH':bG L' st.H 0 (rf.map Rec.dh)=du (bG L st.H 0 (rf.map Rec.dh)) r.dh:=hL0 _ _ Rec.dh rfl (fun j s _ _ hc k hk=>none_of fun hm=>hc.k k (eu hk) hm)
 have after :∀ (E':Env) (v':Value),GoodK B E (lo i) (Cf i).K r.dh E'.w E'→aa E' r.v v'→InvV Cf lo N B E0 st rf L' (a.put o.dst v') E'.w:=fun E' v' G hv=>by
  refine ⟨⟨E',G.rel,rfl,hX.trans G.ext,by rw [G.h,hH',hEH,mR],fun n hn=>?_,?_⟩,by rw [mr];exact hsz,by rw [iP];exact hdf⟩
  ·rcases G.u n hn with h|h
   ·rcases hU n h with h1 |⟨j,h1,h2,h3⟩
    ·exact .inl h1
    ·refine .inr ⟨j,h1,?_,h3⟩
     rw [hL']
     split
     ·rfl
     ·exact h2
   ·exact .inr ⟨i,hiL,by rw [hL',if_pos rfl],h.1,h.2⟩
  ·rw [hT']
   exact Ab G.ext hT hsz (by rw [←hN i];exact hd) (v:=r.v) hv (fun s u hu=>by
    unfold du eD at hu
    rw [he] at hu
    cases hf:find (cc o.dst r.v) s with
    | some x=>rw [hf] at hu;exact .inl hu
    | none=>rw [hf] at hu;exact .inr ⟨rfl,hu⟩)
 unfold wpOp
 simp only [List.getElem?_toArray,ho]
 have hfresh :∀ n,lo i≤n→n<lo i +(Cf i).K→¬ E.U n:=fun n h1 h2 hu=>by
  rcases hU n hu with h3 |⟨j,h3,h4,h5,h6⟩
  ·exact hfr0 i hiL n h1 h2 h3
  ·have hji:j≠i:=fun e=>by subst e;rw [hLi] at h4;cases h4
   rcases Nat.lt_or_gt_of_ne hji with hlt|hgt
   ·have:=hlo j i hlt hiL;omega
   ·have:=hlo i j hgt h3;omega
 cases hdo with
 | @dir ps v v' dh R _ hg hev hcg hps hv=>
  rw [b9 hlook hg]
  simp only [if_true]
  left
  have hHR :∀ h∈R,E.H h=H h:=fun h hh=>by
   rw [hEH,hH]
   refine hLsel _ _ h Rec.dh rfl (fun j s hs hne hji hc=>?_)
   exact hc.sk h (eu hne) hh
  have hev2:=hcg E.H hHR (fun h0 okB hal=>by
   have hal:=halt h0 okB hal
   rw [hEH,hH]
   refine CX (rf.map Rec.dh) 0 st.H st.H (.inl rfl) (fun j u hj hu=>?_)
   rw [Nat.zero_add]
   rw [List.getElem?_map] at hj
   cases hs:rf[j]? with
   | none=>rw [hs] at hj;simp at hj
   | some s=>
    rw [hs] at hj
    simp only [Option.map_some,Option.some.injEq] at hj
    subst hj
    rcases Nat.lt_trichotomy j i with hlt|heq|hgt
    ·left
     obtain ⟨b,hb⟩ :∃ b,find s.dh h0=some b:=by
      cases hf:find s.dh h0 with
      | none=>exact absurd hf hu
      | some b=>exact ⟨b,rfl⟩
     rw [(hal j s b hs hb).1 hlt]
     exact (by rw [Nat.blt_eq];exact hlt:Nat.blt j i=true).symm
    ·left
     subst heq
     rw [hLi]
     cases hb:Nat.blt j j with
     | false=>rfl
     | true=>rw [Nat.blt_eq] at hb;omega
    ·have hbf:Nat.blt j i=false:=by cases hb:Nat.blt j i with|false=>rfl|true=>rw [Nat.blt_eq] at hb;omega
     cases hLj:L j with
     | false=>exact .inl hbf.symm
     | true=>exact .inr ⟨hbf,fun b hb=>(hal j s b hs hb).2 hgt hLj⟩)
  rw [hev] at hev2
  have hevm :∀ x,aa E (a8 (ao all o) tm x) (a.eval x):=fun x=>by
   cases x with
   | tmp t=>
    simp only [a8]
    cases hm:memN (ao all o) t with
    | false=>simp [aa]
    | true=>exact hlook t (memN_iff.1 hm)
   | const v=>exact gl v
   | func f=>simp only [a8,aa,Act.eval];exact ⟨#[],rfl,by simp [ab]⟩
   | _=>simp [a8,aa]
  exact dB hE (hC i).tb (hC i).K (hC i).Γ hfresh hevm hev2 hps fun v'' E' G hv'=>by
   have hw:E'.w=E'.w:=rfl
   exact hK _ _ (after E' _ G (HM hv hv'))
 | old hdo=>
 cases hdo with
 | skip _ hg=>
  rw [b9 hlook hg]
  simp only [Bool.false_eq_true,if_false]
  exact hK _ _ (after E undef ⟨hE,Ext.refl E,rfl,rfl,fun n h=> .inl h⟩ (by simp [aa,undef,ab]))
 | @dir ps v v' dh _ _ hg hdr hev hps hv=>
  rw [b9 hlook hg]
  simp only [if_true]
  left
  have hev2:=wc (C:=Cf i) (m:=lo i) (H1:=E.H) (H2:=H) hdr fun k hk=>by
   rw [hEH,hH]
   refine hLsel _ _ k Rec.dh rfl (fun j s hs hne hji hc=>?_)
   exact hc.sk k (eu hne) hk
  rw [hev] at hev2
  have hevm :∀ x,aa E (a8 (ao all o) tm x) (a.eval x):=fun x=>by
   cases x with
   | tmp t=>
    simp only [a8]
    cases hm:memN (ao all o) t with
    | false=>simp [aa]
    | true=>exact hlook t (memN_iff.1 hm)
   | const v=>exact gl v
   | func f=>simp only [a8,aa,Act.eval];exact ⟨#[],rfl,by simp [ab]⟩
   | _=>simp [a8,aa]
  exact dB hE (hC i).tb (hC i).K (hC i).Γ hfresh hevm hev2 hps fun v'' E' G hv'=>hK _ _ (after E' _ G (HM hv hv'))
 | @run ps v v' dh R _ hg hst hps hv=>
  rw [b9 hlook hg]
  simp only [if_true]
  left
  simp only [mH] at hst
  split at hst
  case h_2=>cases hst
  rename_i ps' v2 dh' hev
  cases hfr:gW H (nI H 8 (o.op.operands.toList.flatMap fun x=>(a8 (ao all o) tm x).hs) []) (lo i) (Cf i).K v2 dh' with
  | false=>rw [hfr] at hst;cases hst
  | true=>
   rw [hfr] at hst
   simp only [cond_true,Option.some.injEq,Prod.mk.injEq] at hst
   obtain ⟨rfl,rfl,rfl,hR⟩:=hst
   rw [hR] at hfr hev
   have hHR :∀ h∈R,E.H h=H h:=fun h hh=>by
    rw [hEH,hH]
    refine hLsel _ _ h Rec.dh rfl (fun j s hs hne hji hc=>?_)
    exact hc.sk h (eu hne) hh
   have hrest:restr H R=restr E.H R:=by
    funext h
    unfold restr
    cases hm:memN R h with
    | false=>rfl
    | true=>simp only [cond_true];exact (hHR h (memN_iff.1 hm)).symm
   simp only [gW,Bool.and_eq_true] at hfr
   obtain ⟨⟨f1,f2⟩,f3⟩:=hfr
   have fR :∀ h∈R,∃ b,H h=some b∧nt R (lo i) (Cf i).K b.hs=true:=fun h hh=>by
    have:=List.all_eq_true.1 f1 h hh
    split at this
    ·rename_i b hb;exact ⟨b,hb,this⟩
    ·cases this
   have hfresh :∀ n,lo i≤n→n<lo i +(Cf i).K→¬ E.U n:=fun n h1 h2 hu=>by
    rcases hU n hu with h3 |⟨j,h3,h4,h5,h6⟩
    ·exact hfr0 i hiL n h1 h2 h3
    ·have hji:j≠i:=fun e=>by subst e;rw [hLi] at h4;cases h4
     rcases Nat.lt_or_gt_of_ne hji with hlt|hgt
     ·have:=hlo j i hlt hiL;omega
     ·have:=hlo i j hgt h3;omega
   have hEs:=hE.restr R
   have Xs:=Ext.restr E R
   rw [hrest] at hev
   have hevm :∀ x,aa { E with H:=Mir.restr E.H R } (a8 (ao all o) tm x) (a.eval x):=fun x=>by
    cases x with
    | tmp t=>
     simp only [a8]
     cases hm:memN (ao all o) t with
     | false=>simp [aa]
     | true=>exact bb Xs _ _ (hlook t (memN_iff.1 hm))
    | const v=>exact gl v
    | func f=>simp only [a8,aa,Act.eval];exact ⟨#[],rfl,by simp [ab]⟩
    | _=>simp [a8,aa]
   exact dB (E:={ E with H:=Mir.restr E.H R }) hEs (hC i).tb (hC i).K (hC i).Γ hfresh hevm hev hps fun v'' Es G hv'=>by
    obtain ⟨E',G',tr⟩:=Nr hE hfresh G (fun h hh=>by obtain ⟨b,hb,_⟩:=fR h hh;exact ⟨b,by rw [hHR h hh];exact hb⟩)
     (fun h hh k hk x hx=>by
      obtain ⟨b,hb,hb2⟩:=fR h hh
      rw [hHR h hh,hb] at hk
      cases hk
      exact eU hb2 x hx)
     (fun h k hk=>by
      have hq:=ag hk
      have:=List.all_eq_true.1 f2 _ hq
      simp only [Bool.and_eq_true] at this
      exact ⟨eU this.1 h (by simp),eU this.2⟩)
    have hw:E'.w=Es.w:=G'.w
    have hv2:aa E' v2 v'':=tr _ _ (eU f3) hv'
    have:=hK _ _ (after E' _ (by rw [hw];exact G') (HM hv hv2))
    rw [hw] at this
    exact this
def AltOK (al:Nat→Option (Nat×(Blk→Bool))) (ms:List Nat) (rf:List Rec):Prop:=∀ i h0 okB,al i=some (h0,okB)→∀ j s b,rf[j]?=some s→find s.dh h0=some b→j≠i→
 (j<i→((ms[i]?).getD 0).testBit j=true)∧(i<j→((ms[j]?).getD 0).testBit i=true∨okB b=true)
theorem AltOK.none {ms:List Nat} {rf:List Rec}:AltOK (fun _=>Option.none) ms rf:=fun i h0 okB h=>by cases h
theorem G1 {Cf:Nat→Cfg} {lo:Nat→Nat} {al:Nat→Option (Nat×(Blk→Bool))} {N:Nat} (hC :∀ i,CfgOK P (Cf i)) (hN :∀ i,(Cf i).N=N) {B:Base} {E0:Env} {all:List Oper} {st:St} {df:Dl} {rf:List Rec} (hrun:RunV Cf lo al all st 0 all ⟨[],[]⟩ [] df rf) (hE:cF 0 all=true) (hck:dX (bK all []) 0 rf=true) (hal:AltOK al (bK all []) rf) {Q:Exit→Act→World→Prop}
  (hfr0 :∀ i,i<all.length→∀ n,lo i≤n→n<lo i +(Cf i).K→¬ E0.U n) (hlo :∀ i j,i<j→j<all.length→lo i +(Cf i).K≤lo j)
  (hQ :∀ E a,HRel B E→Ext E0 E→E.H=au st.H df.hp→(∀ n,E.U n→E0.U n∨∃ i,i<all.length∧lo i≤n∧n<lo i +(Cf i).K)→eJ E (find (df.tm++st.tm)) a→a.tmps.size=N→a.defers=[]→Q .normal a E.w) :
  ∀ (fuel:Nat) (listed:Array Bool) (a:Act) (w:World),listed.size=all.length→unl all.length listed=fuel→
   (∀ j oj,all[j]?=some oj→listed.getD j false=true→∀ e∈oj.after,Region.binds .any e=true→listed.getD e.on false=true)→
   InvV Cf lo N B E0 st rf (fun i=>listed.getD i false) a w→wpAny P .any all.toArray Q fuel listed a w:=by
 obtain ⟨⟨more,e1,e2⟩,g1,g2,g3⟩:=xU all 0 ⟨[],[]⟩ [] df rf hrun rfl rfl rfl
 have hlen:rf.length=all.length:=by rw [e1];simpa using e2
 have full :∀ (listed:Array Bool),listed.size=all.length→Region.ready .any all.toArray listed=[]→∀ i,i<all.length→listed.getD i false=true:=by
  intro listed hsz hrd i
  induction i using Nat.strongRecOn with
  | _ i ih=>
   intro hi
   cases hb:listed.getD i false with
   | true=>rfl
   | false=>
    have hun:listed.getD i true=false:=by
     have:i<listed.size:=by omega
     simp [this] at hb ⊢
     exact hb
    have hoi:all[i]?=some all[i]:=List.getElem?_eq_getElem hi
    have:i∈Region.ready .any all.toArray listed:=mem_ready.2 ⟨hun,all[i],by simp,fun e he hbd=>by
     have:=fm all 0 hE i _ hoi e he hbd
     exact ih e.on (by omega) (by omega)⟩
    rw [hrd] at this
    cases this
 have close :∀ (listed:Array Bool) (a:Act) (w:World),listed.size=all.length→(∀ i,i<all.length→listed.getD i false=true)→InvV Cf lo N B E0 st rf (fun i=>listed.getD i false) a w→Q .normal a w:=by
  intro listed a w hsz hall hI
  obtain ⟨⟨E,hE',rfl,hX,hEH,hU,hT⟩,hs,hd⟩:=hI
  have hsel :∀ {α:Type} (us:List (List (Nat×α))) (f:Nat→Option α),us.length=all.length→bG (fun i=>listed.getD i false) f 0 us=us.foldl du f:=fun us f hl=>by
   have h1:=la us f 0 us.length
   rw [List.take_of_length_le (Nat.le_refl _)] at h1
   rw [←h1]
   funext k
   refine fS us 0 f f rfl (fun j u hj _=>?_)
   have hjl:j<us.length:=(List.getElem?_eq_some_iff.1 hj).1
   rw [Nat.zero_add,hall j (by omega)]
   exact (by rw [Nat.blt_eq];omega:Nat.blt j (0+us.length)=true).symm
  refine hQ E a hE' hX ?_ (fun n hn=>?_) (fun s v hv=>?_) hs hd
  ·rw [hEH,hsel _ _ (by simp [hlen]),g2]
  ·rcases hU n hn with h |⟨i,h1,_,h3,h4⟩
   ·exact .inl h
   ·exact .inr ⟨i,by omega,h3,h4⟩
  ·refine hT s v ?_
   rw [hsel _ _ (by simp [hlen]),←g1]
   exact hv
 intro fuel
 induction fuel with
 | zero=>
  intro listed a w hsz hun _ hI
  have hall :∀ i,i<all.length→listed.getD i false=true:=fun i hi=>by
   have h0 :(List.range all.length).filter (fun i=>!listed.getD i true)=[]:=List.eq_nil_of_length_eq_zero hun
   have:=List.filter_eq_nil_iff.1 h0 i (List.mem_range.2 hi)
   have hi':i<listed.size:=by omega
   simp [hi'] at this ⊢
   exact this
  refine ⟨?_,close listed a w hsz hall hI⟩
  cases hr:Region.ready .any all.toArray listed with
  | nil=>rfl
  | cons i l=>
   have hm:i∈Region.ready .any all.toArray listed:=by rw [hr];exact List.mem_cons_self
   obtain ⟨h1,o,h2,_⟩:=mem_ready.1 hm
   have hi:i<all.length:=by
    have:=(Array.getElem?_eq_some_iff.1 h2).1
    simpa using this
   have h3:=hall i hi
   have hi':i<listed.size:=by omega
   simp [hi'] at h1 h3
   rw [h1] at h3;cases h3
 | succ fuel ih=>
  intro listed a w hsz hun hclosed hI
  refine ⟨fun hr=>close listed a w hsz (full listed hsz hr) hI,fun i hi=>?_⟩
  obtain ⟨h1,o,h2,hdir⟩:=mem_ready.1 hi
  have ho:all[i]?=some o:=by simpa using h2
  have hil:i<all.length:=(List.getElem?_eq_some_iff.1 ho).1
  have his:i<listed.size:=by omega
  have hLi:listed.getD i false=false:=by simp [his] at h1 ⊢;exact h1
  obtain ⟨r,tm,H,k1,k2,k3,k4⟩:=g3 i o ho
  simp only [Nat.zero_add] at k1 k2 k3 k4
  have hget :∀ j,(listed.setIfInBounds i true).getD j false=if j=i then true else listed.getD j false:=fun j=>by
   by_cases e:j=i
   ·subst e;simp [his]
   ·simp [e,Array.getElem?_setIfInBounds_ne (Ne.symm e),Array.getD_eq_getD_getElem?]
  have hgetT :∀ j,j≠i→(listed.setIfInBounds i true).getD j true=listed.getD j true:=fun j e=>by
   simp [Array.getElem?_setIfInBounds_ne (Ne.symm e),Array.getD_eq_getD_getElem?]
  refine Hf hC hN (E0:=E0) (by rw [hlen];exact hfr0) (by rw [hlen];exact hlo) (L:=fun i=>listed.getD i false) (L':=fun j=>(listed.setIfInBounds i true).getD j false) ho k1 hLi hget k2 ?_ ?_ (fun j s hs hor=>?_) (fun h0 okB ha j s b hs hb=>⟨fun hlt=>?_,fun hgt hLj=>?_⟩) hI (fun a w hI'=>ih _ a w (by simpa using hsz) ?_ ?_ hI')
  ·rw [k3]
   have:=la (rf.map eD) (find st.tm) 0 i
   rw [←List.map_take,] at this
   simpa using this.symm
  ·rw [k4]
   have:=la (rf.map Rec.dh) st.H 0 i
   rw [←List.map_take] at this
   simpa using this.symm
  ·rcases hor with ⟨hlt,hLj⟩ |⟨hgt,hLj⟩
   ·rcases gk rf 0 hck j i s r hlt hs k1 with h|h
    ·simp only [Nat.zero_add] at h
     have:=cQ hE hclosed i i (Nat.le_refl _) o ho hdir j h
     rw [this] at hLj;cases hLj
    ·exact h.symm
   ·rcases gk rf 0 hck i j r s hgt k1 hs with h|h
    ·simp only [Nat.zero_add] at h
     have hjl:j<all.length:=by rw [←hlen];exact (List.getElem?_eq_some_iff.1 hs).1
     have hoj:all[j]?=some all[j]:=List.getElem?_eq_getElem hjl
     have:=cQ hE hclosed j j (Nat.le_refl _) _ hoj (hclosed j _ hoj hLj) i h
     rw [this] at hLi;cases hLi
    ·exact h
  ·exact cQ hE hclosed i i (Nat.le_refl _) o ho hdir j ((hal i h0 okB ha j s b hs hb (by omega)).1 hlt)
  ·rcases (hal i h0 okB ha j s b hs hb (by omega)).2 hgt with h|h
   ·have hjl:j<all.length:=by rw [←hlen];exact (List.getElem?_eq_some_iff.1 hs).1
    have hoj:all[j]?=some all[j]:=List.getElem?_eq_getElem hjl
    have:=cQ hE hclosed j j (Nat.le_refl _) _ hoj (hclosed j _ hoj hLj) i h
    rw [this] at hLi;cases hLi
   ·exact h
  ·have:=n9 (p:=fun j=>!listed.getD j true) (q:=fun j=>!(listed.setIfInBounds i true).getD j true) (i:=i) (by simp [h1]) (by simp [his]) (fun j e=>by simp [hgetT j e]) (List.range all.length) List.nodup_range (List.mem_range.2 hil)
   unfold unl at hun ⊢
   omega
  ·intro j oj hj hlj e he hb
   rw [hget] at hlj ⊢
   by_cases e1:e.on=i
   ·rw [if_pos e1]
   ·rw [if_neg e1]
    by_cases e2:j=i
    ·subst e2
     rw [ho] at hj;cases hj
     exact hdir e he hb
    ·rw [if_neg e2] at hlj
     exact hclosed j oj hj hlj e he hb
theorem G3 {Cf:Nat→Cfg} {lo:Nat→Nat} {al:Nat→Option (Nat×(Blk→Bool))} {N:Nat} (hC :∀ i,CfgOK P (Cf i)) (hN :∀ i,(Cf i).N=N) (hP:P.follows .mixedOrders=true) {B:Base} {all:List Oper} {st:St} {df:Dl} {rf:List Rec} (hrun:RunV Cf lo al all st 0 all ⟨[],[]⟩ [] df rf) (hE:cF 0 all=true) (hck:dX (bK all []) 0 rf=true) (hal:AltOK al (bK all []) rf) {Q:Exit→Act→World→Prop}
  {E:Env} (hE':HRel B E) (hH:E.H=st.H) {a:Act} (hT:eJ E (find st.tm) a) (hsz:a.tmps.size=N) (hdf:a.defers=[])
  (hfr0 :∀ i,i<all.length→∀ n,lo i≤n→n<lo i +(Cf i).K→¬ E.U n) (hlo :∀ i j,i<j→j<all.length→lo i +(Cf i).K≤lo j)
  (hQ :∀ E' a,HRel B E'→Ext E E'→E'.H=au st.H df.hp→(∀ n,E'.U n→E.U n∨∃ i,i<all.length∧lo i≤n∧n<lo i +(Cf i).K)→eJ E' (find (df.tm++st.tm)) a→a.tmps.size=N→a.defers=[]→Q .normal a E'.w) (id:Nat) :
  (Code.region id all.toArray true).wp P Q a E.w:=by
 refine wp_region_any hP ?_
 obtain ⟨R,X⟩:=yb hE' { E.w with drawn:=E.w.drawn+1 } rfl rfl rfl rfl
 have hfalse :∀ i,(Array.replicate all.toArray.size false).getD i false=false:=fun i=>by
  rcases Nat.lt_or_ge i all.length with h|h
  ·simp [h]
  ·simp [h]
 have hno :∀ {α:Type} (us:List (List (Nat×α))) (f:Nat→Option α) (i:Nat),bG (fun i=>(Array.replicate all.toArray.size false).getD i false) f i us=f:=by
  intro α us
  induction us with
  | nil=>intro f i;rfl
  | cons u us ih=>intro f i;unfold bG;rw [hfalse];simp only [Bool.false_eq_true,if_false];exact ih f _
 refine G1 hC hN (E0:={ E with w:={ E.w with drawn:=E.w.drawn+1 } }) hrun hE hck hal hfr0 hlo (fun E1 a1 r1 x1 h1 u1 t1 s1 d1=>hQ E1 a1 r1 (X.trans x1) h1 u1 t1 s1 d1) _ _ a _ (by simp) ?_ (fun j oj hj hl=>by rw [hfalse] at hl;cases hl) ⟨⟨_,R,rfl,Ext.refl _,?_,fun n hn=> .inl hn,fun s v hv=>?_⟩,hsz,hdf⟩
 ·unfold unl
  have :(List.range all.length).filter (fun i=>!(Array.replicate all.toArray.size false).getD i true)=List.range all.length:=List.filter_eq_self.2 fun i hi=>by
   have:=List.mem_range.1 hi
   simp [this]
  rw [this]
  simp
 ·rw [hno _ _ _];exact hH
 ·rw [hno] at hv
  exact bb X _ _ (hT s v hv)
end
section
open Go.RowKit
variable {P:Program}
theorem lp {E:Env} {v:V} {u:Value} (h:aa E v u):aa E (jH v) u:=by
 cases v <;> first|exact h|simpa [jH,aa] using h
theorem LG {a:Act} {w:World} {c:Call} {o:Oper} (ho:o.op = .call c) {f:Operand} (hf:c.callee = .value f) {g:FuncId} {l:Array Value} (hfe:a.eval f = .func (.func g) #[] l)
  (hfn :∃ fn,P.funcs[g]?=some fn∧fn.body.isSome=true∧(fn.name == "runtime.NumGoroutine")=false) {R:Ending→World→Prop} (hcalls:Calls P g (c.args.toList.map a.eval++l.toList).toArray w R)
  {next:Act→World→Prop} {Q:Exit→Act→World→Prop} (hn :∀ e w',R e w'→∃ v',e = .returned v'∧next (a.put o.dst v') w'):o.wp P a w next Q:=by
 obtain ⟨fn,h1,h2,h3⟩:=hfn
 have hb :¬ fn.body=none:=by cases hb:fn.body with|none=>rw [hb] at h2;cases h2|some _=>simp
 have h4 :¬ fn.name = "runtime.NumGoroutine":=by simpa using h3
 have hrun :(execOp a.eval o).run P w = .ok (.enter g (c.args.toList.map a.eval++l.toList).toArray) w:=by
  have e :(c.args.toList.map a.eval++l.toList).toArray=#[]++c.args.map a.eval++l:=by
   apply Array.ext'
   simp
  rw [e]
  simp [execOp,ho,resolve,hf,Deferred.ofValue,hfe,invoke,callFunc,h1,h4,hb]
 unfold Oper.wp
 rw [hrun]
 simp only [Oper.upon]
 refine hcalls.mono fun e w' hh=>?_
 obtain ⟨v',rfl,h⟩:=hn e w' hh
 exact h
structure RR (B:Base) (E0:Env) (n0 N:Nat) (s:RS) (E:Env) (a:Act):Prop where
 rel:HRel B E
 ext:Ext E0 E
 h:E.H=s.hp.get
 u :∀ n,E.U n→E0.U n∨(n0≤n∧n<s.nx)
 le:n0≤s.nx
 tm:eJ E s.tm.get a
 size:a.tmps.size=N
 defers:a.defers=[]
structure Came (B:Base) (E:Env) (hp':aw) (nx nx':Nat) (v:V) (v':Value) (w':World) (E':Env):Prop where
 rel:HRel B E'
 w:E'.w=w'
 h:E'.H=hp'
 ext:Ext E E'
 u :∀ n,E'.U n→E.U n∨(nx≤n∧n<nx')
 v:aa E' v v'
variable {tb:Tbl} {N:Nat} {call:HO} {all:List Oper} {B:Base} {E0:Env} {n0:Nat}
theorem RR.put {s:RS} {E:Env} {a:Act} (hR:RR B E0 n0 N s E a) {E':Env} {hp:Tri Blk} {nx:Nat} (hrel:HRel B E') (hext:Ext E E') (hh:E'.H=hp.get) (hu :∀ n,E'.U n→E.U n∨(s.nx≤n∧n<nx)) (hle:s.nx≤nx)
  {d:Option Nat} (hd:dstIn N d=true) {v:V} {v':Value} (hv:aa E' v v') {tm:Tri V} (htm :∀ k,tm.get k=match find (cc d (jH v)) k with|some u=>some u|none=>s.tm.get k):RR B E0 n0 N ⟨tm,hp,nx⟩ E' (a.put d v'):=by
 have hle0:=hR.le
 refine ⟨hrel,hR.ext.trans hext,hh,fun n hn=>?_,Nat.le_trans hle0 hle,Ab hext hR.tm hR.size hd (lp hv) (fun k u hk=>?_),by rw [mr];exact hR.size,by rw [iP];exact hR.defers⟩
 ·show E0.U n∨(n0≤n∧n<nx)
  rcases hu n hn with h|h
  ·rcases hR.u n h with h|h
   ·exact .inl h
   ·exact .inr ⟨h.1,by omega⟩
  ·exact .inr ⟨by omega,h.2⟩
 ·rw [htm] at hk
  cases hf:find (cc d (jH v)) k with
  | some x=>rw [hf] at hk;exact .inl hk
  | none=>rw [hf] at hk;exact .inr ⟨rfl,hk⟩
end
section
open Go.RowKit
variable {P:Program}
theorem zg {α:Type} {l:List (Nat×α)} {k:Nat} (h:memN (l.map (·.1)) k=true):find l k≠none:=by
 induction l with
 | nil=>simp [memN] at h
 | cons q l ih=>
  obtain ⟨a,b⟩:=q
  simp only [List.map_cons,memN,Bool.or_eq_true] at h
  simp only [find]
  cases hb:Nat.beq a k with
  | true=>simp
  | false=>
   simp only [cond_false]
   refine ih ?_
   rcases h with h|h
   ·rw [hb] at h;cases h
   ·exact h
def Chain:Nat→List (Nat×Cfg)→Nat→Prop
 | n,[],e=>n=e
 | n,q::r,e=>q.1=n∧∃ n2,n+q.2.K≤n2∧Chain n2 r e
theorem Chain.le :∀ {n:Nat} {l:List (Nat×Cfg)} {e:Nat},Chain n l e→n≤e
 | n,[],e,h=>Nat.le_of_eq h
 | n,q::r,e,⟨_,n2,h1,h2⟩=>by have:=h2.le;omega
theorem Chain.at :∀ {n:Nat} {l:List (Nat×Cfg)} {e:Nat},Chain n l e→∀ (j:Nat) (q:Nat×Cfg),l[j]?=some q→n≤q.1∧q.1+q.2.K≤e
 | n,[],e,_,j,q,hq=>by simp at hq
 | n,p::r,e,⟨h0,n2,h1,h2⟩,j,q,hq=>by
  have hle:=h2.le
  cases j with
  | zero=>
   simp only [List.getElem?_cons_zero,Option.some.injEq] at hq
   subst hq
   omega
  | succ j=>
   have:=h2.at j q (by simpa using hq)
   omega
theorem Chain.lt :∀ {n:Nat} {l:List (Nat×Cfg)} {e:Nat},Chain n l e→∀ (i j:Nat) (p q:Nat×Cfg),i<j→l[i]?=some p→l[j]?=some q→p.1+p.2.K≤q.1
 | n,[],e,_,i,j,p,q,_,hp,_=>by simp at hp
 | n,x::r,e,⟨h0,n2,h1,h2⟩,i,j,p,q,hij,hp,hq=>by
  cases j with
  | zero=>omega
  | succ j=>
   cases i with
   | zero=>
    simp only [List.getElem?_cons_zero,Option.some.injEq] at hp
    subst hp
    have:=(h2.at j q (by simpa using hq)).1
    omega
   | succ i=>exact h2.lt i j p q (by omega) (by simpa using hp) (by simpa using hq)
variable {tb:Tbl} {N:Nat} {call:HO} {all:List Oper}
end
section
open Go.RowKit
variable {P:Program}
def Tri.toL {α:Type}:Tri α→List (Nat×α)
 | .lf=> []
 | .nd l v r=>(match v with|some x=> [(0,x)]|none=> []) ++((l.toL.map fun p=>(2*p.1+1,p.2)) ++(r.toL.map fun p=>(2*p.1+2,p.2)))
variable {tb:Tbl} {N:Nat} {call:HO} {B:Base} {E0:Env} {n0:Nat}
def US (td:TD):TD:=⟨td.kind,td.size,td.bytes,td.zero,none⟩
def HK (tb:Tbl):Tbl:=fun t=>match tb t with
 | some td=>some (US td)
 | none=>none
theorem M8 {tb:Tbl} (h:a6 P tb):a6 P (HK tb):=fun t td ht=>by
 unfold HK at ht
 split at ht
 case h_2=>cases ht
 rename_i td0 h0
 cases ht
 have:=h _ _ h0
 exact ⟨fun hp=>this.eqk hp,this.info,this.kind,this.zagg⟩
def FR (P:Program):Bool:=P.funcs.toList.all fun fn=>!(fn.name == "runtime.NumGoroutine")
theorem B4 (h:FR P=true) (f:FuncId) (fn:Func) (hf:P.funcs[f]?=some fn) :(fn.name == "runtime.NumGoroutine")=false:=by
 have:=List.all_eq_true.1 h fn (by
  obtain ⟨hl,he⟩:=Array.getElem?_eq_some_iff.1 hf
  rw [←he]
  exact Array.mem_toList_iff.2 (Array.getElem_mem hl))
 simpa using this
def fD (r:Rn (V×Tri Blk×Nat)):V:=match r with
 | .ok (v,_,_)=>v
 | .no _=> .any
end
end Go.Mir
