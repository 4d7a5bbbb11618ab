/- Texts of the mirror and contracts, put together. -/
import Derived.Test.YtjcbhomccohklaaGreatDoorPD6
import Derived.Test.YtjcbhomccohklaaGreatDoorTie
import Derived.SizedLaws
import Derived.LaidMore
import Derived.OpenShut
import Derived.ProofKit
import Derived.Test.YtjcbhomccohklaaGreatDoorPD2
import Derived.HandedShaped
import Derived.LaidSub
import Derived.Stop.LaidErr
import Derived.Lib.LaidTab
import Derived.Lay
import Derived.MakeChecks
namespace Go.Proofs.YtjcbhomccohklaaGreatDoor
section
open Go Go.aa Go.RowKit
attribute [local irreducible] Go.aa.DT.sat Go.aa.a8 Go.aa.RT.sat Go.aa.dD
abbrev ZR:List (Nat×PC):= [(7,.c (.osl 0 1)),(21,.h ze),(22,.h I),(23,.h I)]
abbrev aeN:bl:=⟨ZR++[(10,.c (.ptr 2 0)),(50,.h (.slice .str)),(51,.h I),(52,.h I)],JG,3⟩
abbrev afi:List (Lf×bl):= [(.ext 2,⟨ZR++[(10,.c (.ptr 2 0))],JG,3⟩)]
def tJ:Ro->Prop
 |(_,_,_,s,m,j,_,x,_)=>(m =(s.length:Int)/\s.length<=4000/\lE s)/\(0<=j/\j<=m)/\fU (16*j) x.Runs
abbrev aeO:bl:=⟨ZR,WZ,2⟩
def tK:Rp->Prop
 |(l,n,i,o,_)=>(n =(l.length:Int)/\xY l/\∀ x∈l,lE x.Symbols)/\(0<=i/\i<=n)/\(o.length:Int)<=i
def Qj:Den (bj ns)->List Prop×Den (bj Gw):=fun x=>([qe x.2.1],nU (bR x.1 x.2.1) x.2.1.Strips)
abbrev Tl:bl:=cQ [.slice Hf,.slice Hf]
def YN:Den (bj Tl)->List Prop×Den (bj cO):=fun x=>([x.1=x.2.1],(true,()))
abbrev aeV:bl:=⟨[(0,.h (.slice Hf)),(1,.h (.slice Hf)),(12,.h I),(13,.h I)],[],0⟩
abbrev acn:List (Lf×bl):= [(.ret,⟨[(4,.h .bool)],[],0⟩),(.ext 0,⟨[],[],0⟩)]
abbrev Wc:Type:=List aa.ah×List aa.ah×Int×Int×Unit
def tR (x:Wc):Prop:=x.2.2.1 =(x.1.length:Int)/\x.1=x.2.1/\0<=x.2.2.2.1/\x.2.2.2.1<=x.2.2.1/\x.1.length<=aW
def FM (x:Wc):Nat:=(x.2.2.1 - x.2.2.2.1).toNat
def pj (_:Wc):Sum (Bool×Unit) Unit:= .inr ()
abbrev Tk:bl:=cQ [.slice VY,.slice VY]
def YM:Den (bj Tk)->List Prop×Den (bj cO):=fun x=>([x.1=x.2.1],(true,()))
abbrev aeU:bl:=⟨[(0,.h (.slice VY)),(1,.h (.slice VY)),(12,.h I),(13,.h I)],[],0⟩
abbrev Wb:Type:=List aa.aF×List aa.aF×Int×Int×Unit
def tQ (x:Wb):Prop:=x.2.2.1 =(x.1.length:Int)/\x.1=x.2.1/\0<=x.2.2.2.1/\x.2.2.2.1<=x.2.2.1/\x.1.length<=aW
def FK (x:Wb):Nat:=(x.2.2.1 - x.2.2.2.1).toNat
def ph (_:Wb):Sum (Bool×Unit) Unit:= .inr ()
noncomputable def AP:Lp:=(⟨0,aI [iD] Tryz.f13,(fun _=>none),(bA Tryz.f13 0 0),aeN,afi⟩:Lp)
theorem TL (l:List aa.ak) (n:Int) (i:Int) (s:List ByteArray) (m:Int) (j:Int) (o:List aa.aF) (x:aa.aF) (hi:tJ (l,n,i,s,m,j,o,x,())) :(Go.aa.stepG AP fX (fun y:Den (bj AP.q)=>tJ y/\qn y<qn (l,n,i,s,m,j,o,x,())) (l,n,i,s,m,j,o,x,())/\Go.aa.bB AP fX (l,n,i,s,m,j,o,x,())=fX (l,n,i,s,m,j,o,x,())):=by
 refine cast (by kernel_rfl) (?_ :((decide (j<m)=true->(0<=j/\j <(↑s.length:Int))/\tJ (l,n,i,s,m,IntKind.i64.wrap (j+1),o,aa.aF.mk x.1 (IntKind.i64.wrap (x.2+gn (s.getD j.toNat (af Ty.str)))) x.3 x.4 x.5 x.6 x.7 x.8 x.9 x.10,())/\qn (l,n,i,s,m,IntKind.i64.wrap (j+1),o,aa.aF.mk x.1 (IntKind.i64.wrap (x.2+gn (s.getD j.toNat (af Ty.str)))) x.3 x.4 x.5 x.6 x.7 x.8 x.9 x.10,())<qn (l,n,i,s,m,j,o,x,()))/\(decide (j<m)=false->True))/\(cond (decide (j<m)) (fX (l,n,i,s,m,IntKind.i64.wrap (j+1),o,aa.aF.mk x.1 (IntKind.i64.wrap (x.2+gn (s.getD j.toNat (af Ty.str)))) x.3 x.4 x.5 x.6 x.7 x.8 x.9 x.10,())) (l,n,i,o,x,()))=fX (l,n,i,s,m,j,o,x,()));obtain ⟨⟨h1,h1b,hfs⟩,⟨h2,h3⟩,u0,u1⟩:=hi;have h1:m =(s.length:Int):=h1;have h1b:s.length<=4000:=h1b;have h2:0<=j:=h2;have h3:j<=m:=h3;have u0:0<=x.Runs:=u0;have u1:x.Runs<=16*j:=u1;refine dP (fun h=>?_) (fun h=>?_)
 ·have e1:IntKind.i64.wrap (j+1)=j+1:=a7 (by omega) (by omega);have hd:s.drop j.toNat=s.getD j.toNat (af Ty.str)::s.drop (j+1).toNat:=aY h2 (by omega) _;have hm:s.getD j.toNat (af Ty.str)∈s:=List.mem_of_mem_drop (i:=j.toNat) (by rw [hd];exact List.mem_cons_self);have hv:=Ko hfs _ hm;generalize s.getD j.toNat (af Ty.str)=w at *;have hf:=wH w
  have e2:IntKind.i64.wrap (x.2+gn w)=x.Runs +(cd w).1:=by rw [hv];exact bE (by show _<=x.Runs+_;omega) (by show x.Runs+_<=_;omega)
  rw [e1,e2];refine ⟨⟨⟨h2,by omega⟩,⟨⟨h1,h1b,hfs⟩,⟨?_,?_⟩,?_,?_⟩,?_⟩,?_⟩
  ·show 0<=j+1;omega
  ·show j+1<=m;omega
  ·show 0<=x.Runs +(cd w).1;omega
  ·show x.Runs +(cd w).1<=16 *(j+1);omega
  ·show (m - (j+1)).toNat <(m - j).toNat;omega
  ·show (l,n,i,o,fT (fT x (cd w).1) (eb (s.drop (j+1).toNat)),()) =(l,n,i,o,fT x (eb (s.drop j.toNat)),());rw [hd];show _ =(l,n,i,o,fT x ((cd w).1+eb (s.drop (j+1).toNat)),());unfold fT;simp only [Int.add_assoc]
 ·show (l,n,i,o,x,()) =(l,n,i,o,fT x (eb (s.drop j.toNat)),());rw [aN (l:=s) (by omega)];show _ =(l,n,i,o,fT x 0,());unfold fT;rw [Int.add_zero]
noncomputable def ZI:aw:=aq AP fX tJ
noncomputable def Yx:Nat:=fo (bA Tryz.f13 0 0)
theorem Sp:aJ Tryz.prog 0 Tryz.f13.ntmps (bA Tryz.f13 0 0) (aq AP fX tJ):=
 aD AP (az (.aP iH rfl .nil) _) mixed (fun b hb S hS=>by cases hS) fX tJ qn (fun |⟨l,n,i,s,m,j,o,x,⟨⟩⟩,hi=>TL l n i s m j o x hi)
noncomputable def AQ:Lp:=(⟨0,aI [iD] Tryz.f13,(find [(Yx,ZI)]),(aC Tryz.f13 0),aeO,acm⟩:Lp)
theorem TN (l:List aa.ak) (n:Int) (i:Int) (o:List aa.aF) (hi:tK (l,n,i,o,())) :(Go.aa.stepG AQ fY (fun y:Den (bj AQ.q)=>tK y/\qo y<qo (l,n,i,o,())) (l,n,i,o,())/\Go.aa.bB AQ fY (l,n,i,o,())=fY (l,n,i,o,())):=by
 refine cast (by kernel_rfl) (?_:let r1:Int:=(↑(l.getD i.toNat (af (Ty.nm Nm.ak))).2.length:Int);let r2:Bool:=(l.getD i.toNat (af (Ty.nm Nm.ak))).3 != 9;let r3:Bool:=(l.getD i.toNat (af (Ty.nm Nm.ak))).3 != 0;let r4:Int:=cond r2 0 0;let r5:List aa.aF:= [aa.aF.mk (cond r2 (l.getD i.toNat (af (Ty.nm Nm.ak))).1 (l.getD i.toNat (af (Ty.nm Nm.ak))).1) (r4+eb (List.drop (Int.toNat 0) (l.getD i.toNat (af (Ty.nm Nm.ak))).2)) (cond r2 r1 r1) r4 r4 (cond r2 r3 r3) (cond r2 (l.getD i.toNat (af (Ty.nm Nm.ak))).3 (l.getD i.toNat (af (Ty.nm Nm.ak))).3) (cond r2 (l.getD i.toNat (af (Ty.nm Nm.ak))).4 (l.getD i.toNat (af (Ty.nm Nm.ak))).4) r4 (cond r2 true (decide (r1>0)))];((decide (i<n)=true->(0<=i/\i <(↑l.length:Int))/\((cq fun x=>none)/\(r1 =(↑(l.getD i.toNat (af (Ty.nm Nm.ak))).2.length:Int)/\(l.getD i.toNat (af (Ty.nm Nm.ak))).2.length<=(4000:Nat)/\lE (l.getD i.toNat (af (Ty.nm Nm.ak))).2)/\((0:Int)<=0/\0<=r1)/\fU ((16:Int)*0) r4)/\(o.length+r5.length) *(72:Nat)<=(70368744177664:Nat)/\tK (l,n,IntKind.i64.wrap (i+1),o++r5,())/\qo (l,n,IntKind.i64.wrap (i+1),o++r5,())<qo (l,n,i,o,()))/\(decide (i<n)=false->True))/\(cond (decide (i<n)) (fY (l,n,IntKind.i64.wrap (i+1),o++r5,())) (o,()))=fY (l,n,i,o,()));intro r1 r2 r3 r4 r5
 clear_value (hr1:r1=_) (hr2:r2=_) (hr3:r3=_) (hr4:r4=_) (hr5:r5=_)
 obtain ⟨⟨h1,⟨h1a,h1b⟩,hfs⟩,⟨h2,h3⟩,h4⟩:=hi;have h1:n =(l.length:Int):=h1;have h1a:l.length<=4000:=h1a;have h2:0<=i:=h2;have h3:i<=n:=h3;have h4 :(o.length:Int)<=i:=h4;refine dP (fun h=>?_) (fun h=>?_)
 ·have e1:IntKind.i64.wrap (i+1)=i+1:=a7 (by omega) (by omega);have hd:l.drop i.toNat=l.getD i.toNat (af (Ty.nm Nm.ak))::l.drop (i+1).toNat:=aY h2 (by omega) _;have hm:l.getD i.toNat (af (Ty.nm Nm.ak))∈l:=List.mem_of_mem_drop (i:=i.toNat) (by rw [hd];exact List.mem_cons_self);have hs:=h1b _ hm;have hf:=hfs _ hm;generalize l.getD i.toNat (af (Ty.nm Nm.ak))=x at *;have e4:r4=0:=by rw [hr4];exact Bool.cond_self _ _
  have e5:r5=[jC x]:=by rw [hr5,e4];simp only [Bool.cond_self];rw [hr3,hr2,hr1];show _=[fT (Nl x) (eb x.Symbols)];unfold fT Nl Sm;cases x.How != 9 <;> rfl
  have l5:r5.length=1:=by rw [e5];rfl
  rw [e1,e4,e5];refine ⟨⟨⟨h2,by omega⟩,⟨rfl,⟨hr1,hs,hf⟩,⟨Int.le_refl _,by rw [hr1];omega⟩,Int.le_refl _,Int.le_refl _⟩,by rw [List.length_singleton];omega,⟨⟨h1,⟨h1a,h1b⟩,hfs⟩,⟨?_,?_⟩,?_⟩,?_⟩,?_⟩
  ·show 0<=i+1;omega
  ·show i+1<=n;omega
  ·show ((o++[jC x]).length:Int)<=i+1;rw [List.length_append,List.length_singleton];omega
  ·show (n - (i+1)).toNat <(n - i).toNat;omega
  ·show ((o++[jC x]) ++(l.drop (i+1).toNat).map jC,()) =(o ++(l.drop i.toNat).map jC,());rw [hd,List.map_cons,List.append_assoc];rfl
 ·show (o,()) =(o ++(l.drop i.toNat).map jC,());rw [aN (l:=l) (by omega),List.map_nil,List.append_nil]
noncomputable def QF:aw:=aq AQ fY tK
noncomputable def PZ:Nat:=fo (aC Tryz.f13 0)
theorem Sq:aJ Tryz.prog 0 Tryz.f13.ntmps (aC Tryz.f13 0) (aq AQ fY tK):=
 aD AQ (az (.aP iH rfl .nil) _) mixed (aL.cons (by kernel_rfl) Sp .nil) fY tK qo (fun |⟨l,n,i,o,⟨⟩⟩,hi=>TN l n i o hi)
theorem yZ (r:aj) (b:aa.ay) (hb:qe b) :(a8 (aI [pL] Tryz.f13) (find [(PZ,QF)]) Tryz.f13 ns Gw (r,b,())).sat fun z_=>z_ =(Qj (r,b,())).2:=by
 refine cast (by kernel_rfl) (?_:qe b/\((bR r b != 0)=true->([],bR r b,())=nU (bR r b) b.3)/\((bR r b != 0)=false->((cq fun x=>none)/\((↑b.3.length:Int) =(↑b.3.length:Int)/\xY b.3/\∀ (x:aa.ak),x∈b.3->lE x.Symbols)/\((0:Int)<=0/\0<=(↑b.3.length:Int))/\(↑(0:Nat):Int)<=0)/\([]++List.map jC (List.drop (Int.toNat 0) b.3),0,())=nU (bR r b) b.3));refine ⟨hb,fun h=>?_,fun h=>⟨⟨rfl,⟨rfl,hb.2,?_⟩,⟨Int.le_refl _,by omega⟩,Int.le_refl _⟩,?_⟩⟩
 ·unfold nU;rw [if_pos h]
 ·obtain ⟨_,_,_,_,_,_,hf⟩:=B2 hb (by simpa using h);exact hf
 ·unfold nU;rw [if_neg (by rw [h];exact Bool.false_ne_true)];rfl
def uN:FuncId×dR:=(13,ax KE ns Gw Qj)
theorem De:aR Tryz.prog KE 13 (ax KE ns Gw Qj):=by
 refine bh (C:=aI [pL] Tryz.f13) (az (.aP xr rfl .nil) _) mixed (fn:=Tryz.f13) Tryz.func13 (by kernel_rfl) (by kernel_rfl) (by kernel_rfl) (by kernel_rfl) (by kernel_rfl) (by kernel_rfl) (Λ:=fun x=>find [(PZ,QF)]) ?_ ?_
 ·rintro ⟨r,b,⟨⟩⟩ hw hn
  exact aL.at (by kernel_rfl) (.cons (by kernel_rfl) (Sq) .nil)
 ·rintro ⟨r,b,⟨⟩⟩ hw hn
  exact yZ r b (hn _ List.mem_cons_self)
noncomputable def AZ:Lp:=(⟨0,aI [] Tryz.f14,(fun _=>none),(aC Tryz.f14 0),aeV,acn⟩:Lp)
theorem TV (xs:List aa.ah) (zs:List aa.ah) (n:Int) (i:Int) (hi:tR (xs,zs,n,i,())) :(Go.aa.stepG AZ pj (fun y:Den (bj AZ.q)=>tR y/\FM y<FM (xs,zs,n,i,())) (xs,zs,n,i,())/\Go.aa.bB AZ pj (xs,zs,n,i,())=pj (xs,zs,n,i,())):=by
 refine cast (by kernel_rfl) (?_:let r1:Bool:=!((xs.getD i.toNat (af (Ty.nm Nm.ah))).1 ==(zs.getD i.toNat (af (Ty.nm Nm.ah))).1&&((xs.getD i.toNat (af (Ty.nm Nm.ah))).2 ==(zs.getD i.toNat (af (Ty.nm Nm.ah))).2&&((xs.getD i.toNat (af (Ty.nm Nm.ah))).3 ==(zs.getD i.toNat (af (Ty.nm Nm.ah))).3&&((xs.getD i.toNat (af (Ty.nm Nm.ah))).4 ==(zs.getD i.toNat (af (Ty.nm Nm.ah))).4&&((xs.getD i.toNat (af (Ty.nm Nm.ah))).5 ==(zs.getD i.toNat (af (Ty.nm Nm.ah))).5&&((xs.getD i.toNat (af (Ty.nm Nm.ah))).6 ==(zs.getD i.toNat (af (Ty.nm Nm.ah))).6&&((xs.getD i.toNat (af (Ty.nm Nm.ah))).7 ==(zs.getD i.toNat (af (Ty.nm Nm.ah))).7&&true)))))));((decide (i<n)=true->(0<=i/\i <(↑xs.length:Int))/\(0<=i/\i <(↑zs.length:Int))/\(r1=true->True)/\(r1=false->tR (xs,zs,n,IntKind.i64.wrap (i+1),())/\FM (xs,zs,n,IntKind.i64.wrap (i+1),())<FM (xs,zs,n,i,())))/\(decide (i<n)=false->True))/\(cond (decide (i<n)) (cond r1 (Sum.inl (false,())) (pj (xs,zs,n,IntKind.i64.wrap (i+1),()))) (Sum.inr ()))=pj (xs,zs,n,i,()));intro r1
 clear_value (hr1:r1=_)
 obtain ⟨h1,h2,h3,h4,h5⟩:=hi;have h1:n =(xs.length:Int):=h1;have h2:xs=zs:=h2;subst h2;have h3:0<=i:=h3;have h4:i<=n:=h4;have h5:xs.length<=140737488355328:=h5;have e1:r1=false:=by rw [hr1];simp
 by_cases h:i<n
 ·have ew:IntKind.i64.wrap (i+1)=i+1:=a7 (by omega) (by omega);rw [decide_eq_true h,ew,e1];refine ⟨⟨fun _=>⟨⟨h3,by omega⟩,⟨h3,by omega⟩,fun z=>Bool.noConfusion z,fun _=>⟨⟨h1,rfl,?_,?_,h5⟩,?_⟩⟩,fun z=>Bool.noConfusion z⟩,rfl⟩
  ·show 0<=i+1;omega
  ·show i+1<=n;omega
  ·show (n - (i+1)).toNat <(n - i).toNat;omega
 ·rw [decide_eq_false h];exact ⟨⟨fun z=>Bool.noConfusion z,fun _=>trivial⟩,rfl⟩
noncomputable def QJ:aw:=aq AZ pj tR
noncomputable def P3:Nat:=fo (aC Tryz.f14 0)
theorem Sz:aJ Tryz.prog 0 Tryz.f14.ntmps (aC Tryz.f14 0) (aq AZ pj tR):=
 aD AZ (az (aZ.nil) _) mixed (fun b hb S hS=>by cases hS) pj tR FM (fun |⟨xs,zs,n,i,⟨⟩⟩,hi=>TV xs zs n i hi)
theorem TE (a:List aa.ah) (b:List aa.ah) (he:a=b) (hx:a.length<=aW) :(a8 (aI [] Tryz.f14) (find [(P3,QJ)]) Tryz.f14 Tl cO (a,b,())).sat fun z_=>z_ =(YN (a,b,())).2:=by
 refine cast (by kernel_rfl) (?_:let r1:Bool:=(↑a.length:Int) !=(↑b.length:Int);(r1=true->(false,()) =(true,()))/\(r1=false->((cq fun x=>none)/\(↑a.length:Int) =(↑a.length:Int)/\a=b/\(0:Int)<=0/\0<=(↑a.length:Int)/\a.length<=aW)/\(false=true->(false,()) =(true,()))/\(false=false->(true,()) =(true,()))));intro r1
 clear_value (hr1:r1=_)
 subst he;have e1:r1=false:=by rw [hr1];simp
 rw [e1];exact ⟨fun z=>Bool.noConfusion z,fun _=>⟨⟨rfl,rfl,rfl,Int.le_refl _,by omega,hx⟩,fun z=>Bool.noConfusion z,fun _=>rfl⟩⟩
def UJ:FuncId×dR:=(14,ax KE Tl cO YN)
theorem Yc:aR Tryz.prog KE 14 (ax KE Tl cO YN):=by
 refine bh (C:=aI [] Tryz.f14) (az (aZ.nil) _) mixed (fn:=Tryz.f14) Tryz.func14 (by kernel_rfl) (by kernel_rfl) (by kernel_rfl) (by kernel_rfl) (by kernel_rfl) (by kernel_rfl) (Λ:=fun x=>find [(P3,QJ)]) ?_ ?_
 ·rintro ⟨a,b,⟨⟩⟩ hw hn
  exact aL.at (by kernel_rfl) (.cons (by kernel_rfl) (Sz) .nil)
 ·rintro ⟨a,b,⟨⟩⟩ hw hn
  exact TE a b (hn _ List.mem_cons_self) (mI (gD hw))
noncomputable def AY:Lp:=(⟨0,aI [] Tryz.f15,(fun _=>none),(aC Tryz.f15 0),aeU,acn⟩:Lp)
theorem TU (xs:List aa.aF) (zs:List aa.aF) (n:Int) (i:Int) (hi:tQ (xs,zs,n,i,())) :(Go.aa.stepG AY ph (fun y:Den (bj AY.q)=>tQ y/\FK y<FK (xs,zs,n,i,())) (xs,zs,n,i,())/\Go.aa.bB AY ph (xs,zs,n,i,())=ph (xs,zs,n,i,())):=by
 refine cast (by kernel_rfl) (?_:let r1:Bool:=!((xs.getD i.toNat (af (Ty.nm Nm.aF))).1 ==(zs.getD i.toNat (af (Ty.nm Nm.aF))).1&&((xs.getD i.toNat (af (Ty.nm Nm.aF))).2 ==(zs.getD i.toNat (af (Ty.nm Nm.aF))).2&&((xs.getD i.toNat (af (Ty.nm Nm.aF))).3 ==(zs.getD i.toNat (af (Ty.nm Nm.aF))).3&&((xs.getD i.toNat (af (Ty.nm Nm.aF))).4 ==(zs.getD i.toNat (af (Ty.nm Nm.aF))).4&&((xs.getD i.toNat (af (Ty.nm Nm.aF))).5 ==(zs.getD i.toNat (af (Ty.nm Nm.aF))).5&&((xs.getD i.toNat (af (Ty.nm Nm.aF))).6 ==(zs.getD i.toNat (af (Ty.nm Nm.aF))).6&&((xs.getD i.toNat (af (Ty.nm Nm.aF))).7 ==(zs.getD i.toNat (af (Ty.nm Nm.aF))).7&&((xs.getD i.toNat (af (Ty.nm Nm.aF))).8 ==(zs.getD i.toNat (af (Ty.nm Nm.aF))).8&&((xs.getD i.toNat (af (Ty.nm Nm.aF))).9 ==(zs.getD i.toNat (af (Ty.nm Nm.aF))).9&&((xs.getD i.toNat (af (Ty.nm Nm.aF))).10 ==(zs.getD i.toNat (af (Ty.nm Nm.aF))).10&&true))))))))));((decide (i<n)=true->(0<=i/\i <(↑xs.length:Int))/\(0<=i/\i <(↑zs.length:Int))/\(r1=true->True)/\(r1=false->tQ (xs,zs,n,IntKind.i64.wrap (i+1),())/\FK (xs,zs,n,IntKind.i64.wrap (i+1),())<FK (xs,zs,n,i,())))/\(decide (i<n)=false->True))/\(cond (decide (i<n)) (cond r1 (Sum.inl (false,())) (ph (xs,zs,n,IntKind.i64.wrap (i+1),()))) (Sum.inr ()))=ph (xs,zs,n,i,()));intro r1
 clear_value (hr1:r1=_)
 obtain ⟨h1,h2,h3,h4,h5⟩:=hi;have h1:n =(xs.length:Int):=h1;have h2:xs=zs:=h2;subst h2;have h3:0<=i:=h3;have h4:i<=n:=h4;have h5:xs.length<=140737488355328:=h5;have e1:r1=false:=by rw [hr1];simp
 by_cases h:i<n
 ·have ew:IntKind.i64.wrap (i+1)=i+1:=a7 (by omega) (by omega);rw [decide_eq_true h,ew,e1];refine ⟨⟨fun _=>⟨⟨h3,by omega⟩,⟨h3,by omega⟩,fun z=>Bool.noConfusion z,fun _=>⟨⟨h1,rfl,?_,?_,h5⟩,?_⟩⟩,fun z=>Bool.noConfusion z⟩,rfl⟩
  ·show 0<=i+1;omega
  ·show i+1<=n;omega
  ·show (n - (i+1)).toNat <(n - i).toNat;omega
 ·rw [decide_eq_false h];exact ⟨⟨fun z=>Bool.noConfusion z,fun _=>trivial⟩,rfl⟩
noncomputable def QI:aw:=aq AY ph tQ
noncomputable def P2:Nat:=fo (aC Tryz.f15 0)
theorem Sy:aJ Tryz.prog 0 Tryz.f15.ntmps (aC Tryz.f15 0) (aq AY ph tQ):=
 aD AY (az (aZ.nil) _) mixed (fun b hb S hS=>by cases hS) ph tQ FK (fun |⟨xs,zs,n,i,⟨⟩⟩,hi=>TU xs zs n i hi)
theorem TC (a:List aa.aF) (b:List aa.aF) (he:a=b) (hx:a.length<=aW) :(a8 (aI [] Tryz.f15) (find [(P2,QI)]) Tryz.f15 Tk cO (a,b,())).sat fun z_=>z_ =(YM (a,b,())).2:=by
 refine cast (by kernel_rfl) (?_:let r1:Bool:=(↑a.length:Int) !=(↑b.length:Int);(r1=true->(false,()) =(true,()))/\(r1=false->((cq fun x=>none)/\(↑a.length:Int) =(↑a.length:Int)/\a=b/\(0:Int)<=0/\0<=(↑a.length:Int)/\a.length<=aW)/\(false=true->(false,()) =(true,()))/\(false=false->(true,()) =(true,()))));intro r1
 clear_value (hr1:r1=_)
 subst he;have e1:r1=false:=by rw [hr1];simp
 rw [e1];exact ⟨fun z=>Bool.noConfusion z,fun _=>⟨⟨rfl,rfl,rfl,Int.le_refl _,by omega,hx⟩,fun z=>Bool.noConfusion z,fun _=>rfl⟩⟩
def UI:FuncId×dR:=(15,ax KE Tk cO YM)
theorem Yb:aR Tryz.prog KE 15 (ax KE Tk cO YM):=by
 refine bh (C:=aI [] Tryz.f15) (az (aZ.nil) _) mixed (fn:=Tryz.f15) Tryz.func15 (by kernel_rfl) (by kernel_rfl) (by kernel_rfl) (by kernel_rfl) (by kernel_rfl) (by kernel_rfl) (Λ:=fun x=>find [(P2,QI)]) ?_ ?_
 ·rintro ⟨a,b,⟨⟩⟩ hw hn
  exact aL.at (by kernel_rfl) (.cons (by kernel_rfl) (Sy) .nil)
 ·rintro ⟨a,b,⟨⟩⟩ hw hn
  exact TC a b (hn _ List.mem_cons_self) (mI (gD hw))
theorem GS (r:aj) (b:aa.ay) :(a8 (aI [AJ,JQ,wZ,uO,wY,uN,UJ,UI] Tryz.f4) (fun _=>none) Tryz.f4 ns cO (r,b,())).sat fun z_=>z_ =(Kp (r,b,())).2:=by
 refine cast (by kernel_rfl) (?_:let r1:aa.ay:=aa.ay.mk b.1 (List.map Cq (List.take (8:Nat) b.2)) (List.map wb (List.take (8:Nat) b.3)) b.4 b.5 b.6;let r2:List aa.ah×Int×Unit:=oU r r1;let r3:List aa.aF×Int×Unit:=nU (fL r r1) (List.map wb (List.take (8:Nat) b.3));let r4:List aa.aF×Int×Unit:=nU (bR r r1) (List.map wb (List.take (8:Nat) b.3));let r5:List aa.ah×Int×Unit:=Gh r r1 (fm r r1);let r6:Bool:=r5.2.1==r2.2.1;((!true)=true->(false,()) =(true,()))/\((!true)=false->qe r1/\qe r1/\qe r1/\qe r1/\(r5.1=r2.1/\(true=true->(r6=true->r3.1=r4.1/\(true=true->True)/\(true=false->True))/\(r6=false->True))/\(true=false->True))/\(true=true->(cond true (cond r6 (cond true (r3.2.1==r4.2.1) false) false) false,()) =(true,()))));intro r1 r2 r3 r4 r5 r6
 clear_value (hr1:r1=_) (hr2:r2=_) (hr3:r3=_) (hr4:r4=_) (hr5:r5=_) (hr6:r6=_)
 have hs:qe r1:=by have e:r1=HL b:=hr1;rw [e];obtain ⟨x1,x2⟩:=aaS b;obtain ⟨y1,y2⟩:=aaT b;exact ⟨⟨by omega,fun x hx=>Nat.le_trans (x2 x hx) (by decide)⟩,⟨by omega,fun x hx=>Nat.le_trans (y2 x hx) (by decide)⟩⟩
 have e52:r5=r2:=by rw [hr5,hr2];exact KX hs
 have e34:r3=r4:=by rw [hr3,hr4,s8 r hs.1.1]
 have e6:r6=true:=by rw [hr6,e52];exact beq_self_eq_true _
 refine ⟨fun h=>Bool.noConfusion h,fun _=>⟨hs,hs,hs,hs,⟨by rw [e52],fun _=>⟨fun _=>⟨by rw [e34],fun _=>trivial,fun _=>trivial⟩,fun _=>trivial⟩,fun _=>trivial⟩,fun _=>?_⟩⟩;rw [e6,e34,beq_self_eq_true];rfl
theorem It:aR Tryz.prog KE 4 (ax KE ns cO Kp):=by
 refine bh (C:=aI [AJ,JQ,wZ,uO,wY,uN,UJ,UI] Tryz.f4) (az (.aP Iu rfl (.aP Pt rfl (.aP F4 rfl (.aP Df rfl (.aP F1 rfl (.aP De rfl (.aP Yc rfl (.aP Yb rfl .nil)))))))) _) mixed (fn:=Tryz.f4) Tryz.func4 (by kernel_rfl) (by kernel_rfl) (by kernel_rfl) (by kernel_rfl) (by kernel_rfl) (by kernel_rfl) (Λ:=fun _ _=>none) ?_ ?_
 ·exact fun _ _ _ _ _ _ _ _ h=>by cases h
 ·rintro ⟨r,b,⟨⟩⟩ hw hn
  exact GS r b
end
section
open Go Go.ChangeShapes Go.WideShapes Go.ChangeAt Go.RowKit
theorem aeK:ownKnob Tryz.prog.godebug=none:=by kernel_rfl
end
section
open Go Go.aa Go.RowKit Go.Shelf Go.ChangeShapes Go.WideShapes Go.ChangeAt
theorem rE {H:Type} {enc:TypeId×Value->H} {a:Assume} {C:Checked} {os:Os} {f:FuncId} {fn:Func} {s:ChangeSpec} {conds:List PathCond} {apart fresh handsOn again:Bool} {X:World->Array Value->Prop}
  (hX :∀ (w w':World) (args:Array Value),w.heap=w'.heap->X w args->X w' args)
  (own:ownKnob C.prog.godebug=none) (started:os.Started) (noInit:C.prog.inits.idxOf? f=none) (hfn:C.prog.funcs[f]?=some fn)
  (witness :∃ (w:World) (tape:Tape) (i:Input),w.os=os/\(w.forCall tape i).Shaped C.prog/\i.vars=[]/\Input.okWide C.prog (w.forCall tape i) .any w.heap.size f i/\
   ((s.pre enc C.prog fn conds apart (w.forCall tape i).memory i.args/\X (w.forCall tape i).memory i.args)/\sizedMet enc C.prog fn (OpenSpec.ofChange s) apart (w.forCall tape i).memory i.args)/\a.holds C.prog (lone (Frame.enter C.prog f i.args .normal) [] (w.forCall tape i)))
  (contract :∀ (W:World) (base:Nat) (args:Array Value) (ds gs:List (DataW H)) (before:List MemPlace),
   (∀ (j:Nat) t v,fn.params[j]?=some t->args[j]?=some v->Value.okWide C.prog W .any base t v)->
   DataW.Whole enc C.prog fn.params.toList s.vars apart W args.toList ds gs before->
   conds.all (PathCond.test C.prog ⟨fn.params.toList,ds,s.plain.varTypes C.prog,gs⟩)=true->
   (DataW.weightsEach C.prog (fn.params.toList++s.plain.varTypes C.prog) (ds++gs)).all (·<=reachBytes)=true->X W args->W.ShapedOpen C.prog->
   a.holds C.prog (lone (Frame.enter C.prog f args .normal) [] W)->
   Calls C.prog f args W fun e W'=>∃ v,e = .returned v/\s.post enc C.prog fn apart fresh handsOn again W args v W') :
  ReturnsInHanded a C os f .any (fun w args=>(s.pre enc C.prog fn conds apart w args/\X w args)/\sizedMet enc C.prog fn (OpenSpec.ofChange s) apart w args) (s.post enc C.prog fn apart fresh handsOn again):=by
 refine returnsInHanded_of_calls own started noInit witness ?_;intro w tape i _ hsh _ hok hpre hholds;obtain ⟨_,_,_,fn',hfn',_,_,_,_,hval⟩:=hok;have e:fn'=fn:=Option.some.inj (hfn'.symm.trans hfn);subst e;obtain ⟨⟨⟨ds,gs,before,hw,hc⟩,hx⟩,hz⟩:=hpre;have hw':=DataW.Whole.of_heap (w':=w.forCall tape i) (by rfl) hw;refine (contract (w.forCall tape i) w.heap.size i.args ds gs before hval hw' hc (hz.weights hw) (hX _ _ _ (by rfl) hx) hsh hholds).mono fun e W' ⟨v,he,hp⟩=>?_;subst he;exact ChangeSpec.post_blind hp
abbrev nS:List (String×DataW Unit):= [("math/bits.deBruijn32tab",Rows.laid_math_bits_deBruijn32tab),("math/bits.deBruijn64tab",Rows.laid_math_bits_deBruijn64tab),("internal/strconv.uint64pow10",Rows.laid_internal_strconv_uint64pow10),("unicode/utf8.acceptRanges",Rows.laid_unicode_utf8_acceptRanges),("strconv.ErrRange",Rows.laid_strconv_ErrRange),("strconv.ErrSyntax",Rows.laid_strconv_ErrSyntax),("unicode/utf8.first",Rows.laid_unicode_utf8_first)]
theorem OC {w:World} (h:laidMetH Tryz.prog nS w):laidMet Tryz.prog nS w:=by
 have:=(laidMetH_iff.1 h).1
 exact this
theorem vU {w:World} {n:String} {g:Nat} (hg:Tryz.prog.globalNamed n=some g) {c:Array Value} (h:w.var? Tryz.prog n=some c) :∃ T fr,w.heap[g]?=some (.cells c T fr):=by
 unfold World.var? at h;rw [hg] at h;simp only [Option.bind_some] at h;split at h
 ·rename_i c' T fr hh;cases h;exact ⟨_,_,hh⟩
 ·cases h
theorem abU : "*" ++ "errors.errorString" = "*errors.errorString":=by decide
theorem Vq (u:TypeId) (h:Tryz.prog.typeName? 3 u=some "*errors.errorString"):u=298:=
 typeName_ptr_named (nm:="errors.errorString") (by rw [abU];kernel_rfl) (by kernel_rfl) (by decide) u (by rw [abU];exact h)
theorem QT {w:World} (h:laidMet Tryz.prog nS w):Lib.TabIs Tryz.prog w "internal/strconv.uint64pow10" .u64 Lib.pow10Tab:=
 Lib.tabIs_of_head (g:=2) (t:=311) (e:=242) (n:=20) (by kernel_rfl) (by kernel_rfl) Tryz.underlying311 Tryz.underlying242 (by kernel_rfl) (by kernel_rfl) h.tail.tail
theorem ML {w:World} (h:laidMet Tryz.prog nS w) :∃ T fr te pe,w.heap[0]?=some (.cells #[.iface te pe] T fr):=by obtain ⟨a,s,hv,-,-,-⟩:=laid_sentinel (g:=0) (ti:=196) h.tail.tail.tail.tail.tail (by kernel_rfl) (by kernel_rfl) Tryz.underlying196 Vq Tryz.underlying298 Tryz.underlying300 rfl rfl Tryz.underlying9 (by kernel_rfl) (by kernel_rfl);obtain ⟨T,fr,hb⟩:=vU (g:=0) (by kernel_rfl) hv;exact ⟨T,fr,_,_,hb⟩
theorem Mw {w:World} (h:laidMet Tryz.prog nS w) :∃ T fr te pe,w.heap[1]?=some (.cells #[.iface te pe] T fr):=by obtain ⟨a,s,hv,-,-,-⟩:=laid_sentinel (g:=1) (ti:=196) h.tail.tail.tail.tail (by kernel_rfl) (by kernel_rfl) Tryz.underlying196 Vq Tryz.underlying298 Tryz.underlying300 rfl rfl Tryz.underlying9 (by kernel_rfl) (by kernel_rfl);obtain ⟨T,fr,hb⟩:=vU (g:=1) (by kernel_rfl) hv;exact ⟨T,fr,_,_,hb⟩
theorem lU {P:Program} {w:World} {g:Nat} {t:TypeId} {zero:Array Value} {k:IntKind}
  (h:w.ShapedOpen P) (hg:g<P.globals.size)
  (h0 :((begin P (fun _ _=>0) default).world.heap[g]?).bind Obj.row?=some (zero,t)) (hz:zero.size=1)
  (hb:P.buildable t=true) (hc:P.cellTypes P.depth t=some [t]) (hu:P.underlying t=some (.int k)) :
  ∃ m T fr,w.heap[g]?=some (.cells #[.int k m] T fr):=by
 obtain ⟨cs,hh,hs,hr⟩:=h.1 g zero t hg h0;obtain ⟨ts,hts,_,hall⟩:=hr hb;rw [hc] at hts;cases hts;have hs1:cs.size=1:=by omega
 have h1:0<cs.size:=by omega
 obtain ⟨u,hu',hok⟩:=hall 0 cs[0] (by simp [h1])
 have:u=t:=by simpa using hu'.symm
 subst this;unfold Cell.ok at hok;rw [hu] at hok
 have hcs:cs=#[cs[0]]:=by
  apply Array.ext
  ·simp [hs1]
  ·intro i h1 h2
   have:i=0:=by omega
   subst this;rfl
 cases hv:cs[0] <;> rw [hv] at hok <;> simp at hok
 case int k' n=>
  refine ⟨n,u,(0,0),?_⟩;rw [hh,hcs,hv,hok.1]
theorem R8 {w:World} (h:laidMetH Tryz.prog nS w) (hs:w.ShapedOpen Tryz.prog):qG w fun _=>False:=by
 have h:=OC h;intro p hp;refine ⟨?_,fun h=>h⟩;unfold GL at hp;simp only [List.mem_cons,List.not_mem_nil,or_false] at hp;rcases hp with rfl|rfl|rfl|rfl
 ·have ht:=QT h;unfold Lib.TabIs at ht;obtain ⟨T,fr,hb⟩:=vU (g:=2) (by kernel_rfl) ht;exact ⟨_,hb,T,fr,rfl⟩
 ·obtain ⟨m,T,fr,hb⟩:=lU (g:=5) (k:= .i64) (zero:=#[.int .i64 0]) (t:=3) hs (of_decide_eq_true (by kernel_rfl)) (by kernel_rfl) rfl (by kernel_rfl) (by kernel_rfl) Tryz.underlying3;exact ⟨_,hb,m,T,fr,rfl⟩
 ·obtain ⟨T,fr,te,pe,hb⟩:=ML h;exact ⟨_,hb,te,pe,T,fr,rfl⟩
 ·obtain ⟨T,fr,te,pe,hb⟩:=Mw h;exact ⟨_,hb,te,pe,T,fr,rfl⟩
end
section
open Go Go.ChangeShapes Go.WideShapes Go.ChangeAt Go.RowKit
theorem Lk (os:Os) (args:Array Value):laidMetH Tryz.prog nS ((World.laidAll Tryz.prog os nS).forCall (fun _ _=>0) ⟨#[],args,[]⟩).memory:=by rw [MakeChecks.laidMetH_plain _ _ _ (by kernel_rfl)];exact laidMet_laidAll _ (by kernel_rfl) (by kernel_rfl)
end
end Go.Proofs.YtjcbhomccohklaaGreatDoor
namespace Go.aa
section
open Go.RowKit
variable {P:Program}
inductive PF where
 | dat
 | ptr
 | clo (g:FuncId)
def aU (E:Env):Env:=⟨fun _=>False,fun _=>none,fun b=>b<E.w.heap.size,E.w,fun _=>none⟩
end
section
open Go.RowKit Go.ChangeShapes Go.WideShapes
open Go.Proofs.YtjcbhomccohklaaGreatDoor.Rows (uptoBulk uptoBulkAll)
section
variable {H:Type} {enc:TypeId×Value->H} {P:Program} {w:World}
theorem H3 {K:Nat} {f:FuncId} {fn:Func} {c:dR} (hc:aR P K f c) {ps:Ty} (hps:xU P fn.params.toList ps=true) (hgl:qG w fun _=>False)
  (h :∀ x:Den ps,zg ps x->∃ ls,c (fq ps x) (fun _=>none) 0=some (ls,.bool true,[])/\∀ p∈ls,p)
  {args:Array Value} {ds:List (DataW H)} {p:List MemPlace} (hA:DataW.TrodAll enc P w 0 (fun _=>true) true fn.params.toList args.toList ds p) (hval :∀ (j:Nat) t v,fn.params[j]?=some t->args[j]?=some v->∃ r b,Value.okWide P w r b t v)
  (hw :∀ m∈DataW.weightsEach P fn.params.toList ds,m<=aW) :
  Calls P f args w fun e w'=>e = .returned (.bool true)/\dA w (fun _=>False) w':=by
 obtain ⟨x,k1,⟨cs,k2⟩,_,_,_⟩:=sW hA hps (fun j t v h1 h2=>hval j t v (by simpa using h1) (by simpa using h2)) hw;obtain ⟨ls,e1,e2⟩:=h x ⟨_,_,_,k2⟩;have hc:=hc.calls (Uv w hgl) (RO w) (NR w hgl) _ _ k1 0 (fun n _ _ hu=>hu) ls _ _ e1 e2;have e:args.toList.toArray=args:=by simp
 rw [e] at hc;refine Calls.mono hc fun e w' hr=>?_;obtain ⟨E',v',rfl,G,hv⟩:=hr;simp only [ae] at hv;subst hv;refine ⟨rfl,?_⟩
 have:=G.rel.keeps
 rw [G.w] at this;exact this
end
end
end Go.aa
