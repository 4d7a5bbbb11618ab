/- Texts of the mirror and contracts, put together. -/
import Derived.Test.YtffdpnmioidloaaGreatDoorPW4
namespace Go.Proofs.YtffdpnmioidloaaGreatDoor
section
open Go Go.Mir
attribute [local irreducible] Go.Mir.DT.sat Go.Mir.evPat Go.Mir.RT.sat Go.Mir.evFn
def gm (n:Int):Bool:=!inW n 0 1000000000
def S6:Den (tyP bb)→List Prop×Den (tyP ax):=fun x=>([],(gm x.1,()))
abbrev qNI (f:Nat):Pat:=⟨[(0,.h Is),(1,.c (.fn f [])),(7,.h I),(8,.h I)],[],0⟩
def lK (x:List Int×Int×Int×Unit):Sum (Int×Unit) Unit:=Ma (da gm (x.1.drop x.2.2.1.toNat) x.2.2.1)
abbrev qNF (f:Nat):Pat:=⟨[(0,.h Is),(1,.c (.fn f []))],[],0⟩
def eJ (l:List Int):Bool:=l.any gm
def sNI (f:Nat):Den (tyP (qNF f))→List Prop×Den (tyP bb):=fun x=>([],(rD (da gm x.1 0),()))
def sNC (f:Nat):Den (tyP (qNF f))→List Prop×Den (tyP ax):=fun x=>([],(eJ x.1,()))
def tg (most:Int):List Int→List Int→Bool
 | _,[]=>true
 | seen,n::r=>if !inW n 1 most||cO seen n then false else tg most (seen++[n]) r
def c9 (l:List Int) (most:Int):Bool:=tg most [] l
abbrev qLM:Pat:=bX [Is,I]
def AC:Den (tyP qLM)→List Prop×Den (tyP ax):=fun x=>([],(c9 x.1 x.2.1,()))
abbrev qDf:Pat:=⟨[(0,.h Is),(1,.h I),(7,.h Is),(8,.h I),(9,.h I)],[],0⟩
abbrev xDf:List (Lf×Pat):= [(.ret,⟨[(4,.h .bool)],[],0⟩),(.ext 0,⟨[],[],0⟩)]
abbrev TDf:Type:=List Int×Int×List Int×Int×Int×Unit
def mN (x:TDf):Prop:=x.2.2.1=x.1∧cH (x.1,x.2.2.2.1,x.2.2.2.2.1,())
def uk (x:TDf):Nat:=(x.2.2.2.1 - x.2.2.2.2.1).toNat
def yu (b:Bool):Sum (Bool×Unit) Unit:=if b then .inr () else .inl (false,())
def dE (x:TDf):Sum (Bool×Unit) Unit:=yu (tg x.2.1 (x.1.take x.2.2.2.2.1.toNat) (x.1.drop x.2.2.2.2.1.toNat))
abbrev qFi:Pat:=⟨[(0,.h Is),(1,.h I),(9,.h Is),(10,.h I),(11,.h I),(6,.h I),(22,.h Is),(23,.h I),(24,.h I)],[],0⟩
abbrev xFi:List (Lf×Pat):= [(.ret,⟨[(4,.h .bool)],[],0⟩),(.ext 2,⟨[(0,.h Is),(1,.h I),(9,.h Is),(10,.h I),(11,.h I)],[],0⟩)]
abbrev TFi:Type:=List Int×Int×List Int×Int×Int×Int×List Int×Int×Int×Unit
def QO (b:Bool) (y:List Int×Int×List Int×Int×Int×Unit):Sum (Bool×Unit) (List Int×Int×List Int×Int×Int×Unit):=if b then .inl (false,()) else .inr y
def y3 (x:TFi):Prop:=cH (x.2.2.2.2.2.2.1,x.2.2.2.2.2.2.2.1,x.2.2.2.2.2.2.2.2.1,())
def Ka (x:TFi):Nat:=(x.2.2.2.2.2.2.2.1 - x.2.2.2.2.2.2.2.2.1).toNat
def kQ (x:TFi):Sum (Bool×Unit) (List Int×Int×List Int×Int×Int×Unit):=
 QO (cO (x.2.2.2.2.2.2.1.drop x.2.2.2.2.2.2.2.2.1.toNat) x.2.2.2.2.2.1) (x.1,x.2.1,x.2.2.1,x.2.2.2.1,x.2.2.2.2.1,())
abbrev qFo:Pat:=⟨[(0,.h Is),(1,.h I),(9,.h Is),(10,.h I),(11,.h I)],[],0⟩
def qh (x:Innings):Bool:=!eJ ([x.Target,x.Runs,x.Extras.Wides,x.Extras.NoBalls,x.Extras.Byes,x.Extras.LegByes,x.Extras.Penalties,x.Complete,x.BallAge,x.Outside,x.Reviews.1,x.Reviews.2.1]++x.Bowled)
def N9:Den (tyP qIn)→List Prop×Den (tyP ax):=fun x=>([ai x.1],(qh x.1,()))
theorem Fa (n:Int) (lo:Int) (hi:Int) :(evPat (al [] Tryz.f298) (fun _=>none) Tryz.f298 q3 ax (n,lo,hi,())).sat fun z_=>z_ =(sIn (n,lo,hi,())).2:=by
 refine cast (by kernel_rfl) (?_ :(cond (decide (n≥lo)) (decide (n≤hi)) false,()) =(inW n lo hi,()))
 grind [inW]
def dn:FuncId×Ctr:=(298,ae KE q3 ax sIn)
theorem fV:CtrOK Tryz.prog KE 298 (ae KE q3 ax sIn):=by
 refine an (C:=al [] Tryz.f298) (aj (CtrsOK.nil) _) mixed (fn:=Tryz.f298) Tryz.func298 (by kernel_rfl) (by kernel_rfl) (by kernel_rfl) (by kernel_rfl) (by kernel_rfl) (by kernel_rfl) (Λ:=fun _ _=>none) ?_ ?_
 ·exact fun _ _ _ _ _ _ _ _ h=>by cases h
 ·rintro ⟨n,lo,hi,⟨⟩⟩ hw hn
  exact Fa n lo hi
theorem NX (n:Int) (lo:Int) (hi:Int) :(evPat (al [] Tryz.f311) (fun _=>none) Tryz.f311 q3 ax (n,lo,hi,())).sat fun z_=>z_ =(sIn (n,lo,hi,())).2:=by
 refine cast (by kernel_rfl) (?_ :(cond (decide (n≥lo)) (decide (n≤hi)) false,()) =(inW n lo hi,()))
 grind [inW]
def jU:FuncId×Ctr:=(311,ae KE q3 ax sIn)
theorem mm:CtrOK Tryz.prog KE 311 (ae KE q3 ax sIn):=by
 refine an (C:=al [] Tryz.f311) (aj (CtrsOK.nil) _) mixed (fn:=Tryz.f311) Tryz.func311 (by kernel_rfl) (by kernel_rfl) (by kernel_rfl) (by kernel_rfl) (by kernel_rfl) (by kernel_rfl) (Λ:=fun _ _=>none) ?_ ?_
 ·exact fun _ _ _ _ _ _ _ _ h=>by cases h
 ·rintro ⟨n,lo,hi,⟨⟩⟩ hw hn
  exact NX n lo hi
theorem NP (n:Int) :(evPat (al [dn] Tryz.f319) (fun _=>none) Tryz.f319 bb ax (n,())).sat fun z_=>z_ =(S6 (n,())).2:=by
 refine cast (by kernel_rfl) (?_ :(!inW n 0 1000000000,()) =(gm n,()))
 rfl
def Gj:FuncId×Ctr:=(319,ae KE bb ax S6)
theorem Jq:CtrOK Tryz.prog KE 319 (ae KE bb ax S6):=by
 refine an (C:=al [dn] Tryz.f319) (aj (.consU fV rfl .nil) _) mixed (fn:=Tryz.f319) Tryz.func319 (by kernel_rfl) (by kernel_rfl) (by kernel_rfl) (by kernel_rfl) (by kernel_rfl) (by kernel_rfl) (Λ:=fun _ _=>none) ?_ ?_
 ·exact fun _ _ _ _ _ _ _ _ h=>by cases h
 ·rintro ⟨n,⟨⟩⟩ hw hn
  exact NP n
noncomputable def lpNIl:Lp:=(⟨0,al [Gj] Tryz.f114,(fun _=>none),(az Tryz.f114 0),(qNI 319),xLI⟩:Lp)
theorem QA (xs:List Int) (n:Int) (i:Int) (hi:cH (xs,n,i,())) :(Go.Mir.stepG lpNIl lK (fun y:Den (tyP lpNIl.q)=>cH y∧mX y<mX (xs,n,i,())) (xs,n,i,())∧Go.Mir.stepE lpNIl lK (xs,n,i,())=lK (xs,n,i,())):=by
 refine cast (by kernel_rfl) (?_ :((decide (i<n)=true→(0≤i∧i <(↑xs.length:Int))∧(gm (xs.getD i.toNat (dflt (Ty.int IntKind.i64)))=true→True)∧(gm (xs.getD i.toNat (dflt (Ty.int IntKind.i64)))=false→cH (xs,n,IntKind.i64.wrap (i+1),())∧mX (xs,n,IntKind.i64.wrap (i+1),())<mX (xs,n,i,())))∧(decide (i<n)=false→True))∧(cond (decide (i<n)) (cond (gm (xs.getD i.toNat (dflt (Ty.int IntKind.i64)))) (Sum.inl (i,())) (lK (xs,n,IntKind.i64.wrap (i+1),()))) (Sum.inr ()))=lK (xs,n,i,()))
 obtain ⟨h1,h2,h3,h4⟩:=hi
 simp only at h1 h2 h3 h4
 have h5 :(xs.length:Int)≤140737488355328:=by have:xs.length≤140737488355328:=h4;omega
 refine ⟨⟨fun h=>?_,fun _=>trivial⟩,?_⟩
 ·have h:i<n:=of_decide_eq_true h
  rw [bc (n:=i+1) (by omega) (by omega)]
  refine ⟨⟨h2,by omega⟩,fun _=>trivial,fun _=>⟨⟨h1,by simp only;omega,by simp only;omega,h4⟩,by simp only [mX];omega⟩⟩
 ·by_cases h:i<n
  ·rw [decide_eq_true h,cond_true,bc (n:=i+1) (by omega) (by omega)]
   have e:xs.drop i.toNat=xs.getD i.toNat (dflt (Ty.int IntKind.i64))::xs.drop (i+1).toNat:=b8 h2 (by omega) _
   generalize xs.getD i.toNat (dflt (Ty.int IntKind.i64))=v at e ⊢
   simp only [lK,e,da]
   cases gm v <;> rfl
  ·rw [decide_eq_false h,cond_false]
   simp only [lK]
   rw [bJ (l:=xs) (by omega)]
   rfl
noncomputable def OA:LoopSum:=aM lpNIl lK cH
noncomputable def Nv:Nat:=rid (az Tryz.f114 0)
theorem O4:LoopOKp Tryz.prog 0 Tryz.f114.ntmps (az Tryz.f114 0) (aM lpNIl lK cH):=
 bk lpNIl (aj (.consU Jq rfl .nil) _) mixed (fun b hb S hS=>by cases hS) lK cH mX (fun |⟨xs,n,i,⟨⟩⟩,hi=>QA xs n i hi)
theorem NC (xs:List Int) (hx:xs.length≤aJ) :(evPat (al [Gj] Tryz.f114) (find [(Nv,OA)]) Tryz.f114 (qNF 319) bb (xs,())).sat fun z_=>z_ =((sNI 319) (xs,())).2:=by
 refine cast (by kernel_rfl) (?_:let r1:Bool:=isL (lK (xs,(↑xs.length:Int),0,()));((cZ fun x=>none)∧(↑xs.length:Int) =(↑xs.length:Int)∧(0:Int)≤0∧0≤(↑xs.length:Int)∧xs.length≤aJ)∧(r1=true→jm (dflt (I.prod Ty.unit)) (lK (xs,(↑xs.length:Int),0,())) =(rD (da gm xs 0),()))∧(r1=false→((-1:Int),()) =(rD (da gm xs 0),())))
 intro r1
 clear_value (hr1:r1=_)
 have e:lK (xs,(xs.length:Int),0,())=Ma (da gm xs 0):=rfl
 try subst hr1
 rw [e]
 refine ⟨⟨rfl,rfl,Int.le_refl _,by omega,hx⟩,fun h=>?_,fun h=>?_⟩ <;> cases hf:da gm xs 0 <;> rw [hf] at h <;> first|rfl|cases h
def Mg:FuncId×Ctr:=(114,ae KE (qNF 319) bb (sNI 319))
theorem Po:CtrOK Tryz.prog KE 114 (ae KE (qNF 319) bb (sNI 319)):=by
 refine an (C:=al [Gj] Tryz.f114) (aj (.consU Jq rfl .nil) _) mixed (fn:=Tryz.f114) Tryz.func114 (by kernel_rfl) (by kernel_rfl) (by kernel_rfl) (by kernel_rfl) (by kernel_rfl) (by kernel_rfl) (Λ:=fun x=>find [(Nv,OA)]) ?_ ?_
 ·rintro ⟨xs,⟨⟩⟩ hw hn
  exact LoopsOKp.at (by kernel_rfl) (.cons (by kernel_rfl) (O4) .nil)
 ·rintro ⟨xs,⟨⟩⟩ hw hn
  exact NC xs (cN (aU hw))
theorem Ny (xs:List Int) :(evPat (al [Mg] Tryz.f64) (fun _=>none) Tryz.f64 (qNF 319) ax (xs,())).sat fun z_=>z_ =((sNC 319) (xs,())).2:=by
 refine cast (by kernel_rfl) (?_ :(decide (rD (da gm xs 0)≥0),()) =(eJ xs,()))
 have e:=l6 (p:=gm) (l:=xs) (i:=0)
 unfold eJ
 rw [←e]
 cases hf:da gm xs 0 with
 | none=>rfl
 | some k=>
  have:=qR hf
  simp [this,rD]
def Md:FuncId×Ctr:=(64,ae KE (qNF 319) ax (sNC 319))
theorem Pl:CtrOK Tryz.prog KE 64 (ae KE (qNF 319) ax (sNC 319)):=by
 refine an (C:=al [Mg] Tryz.f64) (aj (.consU Po rfl .nil) _) mixed (fn:=Tryz.f64) Tryz.func64 (by kernel_rfl) (by kernel_rfl) (by kernel_rfl) (by kernel_rfl) (by kernel_rfl) (by kernel_rfl) (Λ:=fun _ _=>none) ?_ ?_
 ·exact fun _ _ _ _ _ _ _ _ h=>by cases h
 ·rintro ⟨xs,⟨⟩⟩ hw hn
  exact Ny xs
noncomputable def lpDf:Lp:=(⟨0,al [dn,k47] Tryz.f300,(fun _=>none),(az Tryz.f300 0),qDf,xDf⟩:Lp)
theorem Tw (l:List Int) (most:Int) (l2:List Int) (n:Int) (i:Int) (hi:mN (l,most,l2,n,i,())) :(Go.Mir.stepG lpDf dE (fun y:Den (tyP lpDf.q)=>mN y∧uk y<uk (l,most,l2,n,i,())) (l,most,l2,n,i,())∧Go.Mir.stepE lpDf dE (l,most,l2,n,i,())=dE (l,most,l2,n,i,())):=by
 refine cast (by kernel_rfl) (?_:let r1:Bool:=!inW (l2.getD i.toNat (dflt (Ty.int IntKind.i64))) 1 most;let r2:Bool:=cond r1 true (cO (List.drop (Int.toNat 0) (List.take i.toNat l)) (l2.getD i.toNat (dflt (Ty.int IntKind.i64))));((decide (i<n)=true→(0≤i∧i <(↑l2.length:Int))∧((r1=true→True)∧(r1=false→((0:Int)≤0∧0≤i∧i≤(↑l.length:Int))∧True))∧(true=true→(r2=true→True)∧(r2=false→mN (l,most,l2,n,IntKind.i64.wrap (i+1),())∧uk (l,most,l2,n,IntKind.i64.wrap (i+1),())<uk (l,most,l2,n,i,()))))∧(decide (i<n)=false→True))∧(cond (decide (i<n)) (cond (true&&true) (cond r2 (Sum.inl (false,())) (dE (l,most,l2,n,IntKind.i64.wrap (i+1),()))) (cond true (cond r2 (Sum.inl (false,())) (dE (l,most,l2,n,IntKind.i64.wrap (i+1),()))) (cond r1 (Sum.inl (dflt (Ty.bool.prod Ty.unit))) (Sum.inl (dflt (Ty.bool.prod Ty.unit)))))) (Sum.inr ()))=dE (l,most,l2,n,i,()))
 intro r1 r2
 clear_value (hr1:r1=_) (hr2:r2=_)
 obtain ⟨h0,h1,h2,h3,h4⟩:=hi
 simp only at h0 h1 h2 h3 h4
 subst h0
 have h5 :(l2.length:Int)≤140737488355328:=by have:l2.length≤140737488355328:=h4;omega
 refine ⟨⟨fun h=>?_,fun _=>trivial⟩,?_⟩
 ·have h:i<n:=of_decide_eq_true h
  rw [bc (n:=i+1) (by omega) (by omega)]
  exact ⟨⟨h2,by omega⟩,⟨fun _=>trivial,fun _=>⟨⟨Int.le_refl _,h2,by omega⟩,trivial⟩⟩,fun _=>⟨fun _=>trivial,fun _=>⟨⟨rfl,h1,by simp only;omega,by simp only;omega,h4⟩,by simp only [uk];omega⟩⟩⟩
 ·by_cases h:i<n
  ·rw [decide_eq_true h,cond_true,bc (n:=i+1) (by omega) (by omega)]
   have e:l2.drop i.toNat=l2.getD i.toNat (dflt (Ty.int IntKind.i64))::l2.drop (i+1).toNat:=b8 h2 (by omega) _
   have et:l2.take (i+1).toNat=l2.take i.toNat++[l2.getD i.toNat (dflt (Ty.int IntKind.i64))]:=JK h2 (by omega) _
   rw [hr2,hr1]
   generalize l2.getD i.toNat (dflt (Ty.int IntKind.i64))=v at e et ⊢
   simp only [dE,e,et,tg,Int.toNat_zero,List.drop_zero]
   cases inW v 1 most <;> cases cO (l2.take i.toNat) v <;> rfl
  ·rw [decide_eq_false h]
   show (Sum.inr ():Sum (Bool×Unit) Unit)=_
   simp only [dE]
   rw [bJ (l:=l2) (by omega)]
   rfl
noncomputable def RB:LoopSum:=aM lpDf dE mN
noncomputable def Ra:Nat:=rid (az Tryz.f300 0)
theorem Sp:LoopOKp Tryz.prog 0 Tryz.f300.ntmps (az Tryz.f300 0) (aM lpDf dE mN):=
 bk lpDf (aj (.consU fV rfl (.consU Pf rfl .nil)) _) mixed (fun b hb S hS=>by cases hS) dE mN uk (fun |⟨l,most,l2,n,i,⟨⟩⟩,hi=>Tw l most l2 n i hi)
theorem NO (l:List Int) (most:Int) (hx:l.length≤aJ) :(evPat (al [dn,k47] Tryz.f300) (find [(Ra,RB)]) Tryz.f300 qLM ax (l,most,())).sat fun z_=>z_ =(AC (l,most,())).2:=by
 refine cast (by kernel_rfl) (?_:let r1:Bool:=isL (dE (l,most,l,(↑l.length:Int),0,()));((cZ fun x=>none)∧l=l∧cH (l,(↑l.length:Int),0,()))∧(r1=true→jm (dflt (Ty.bool.prod Ty.unit)) (dE (l,most,l,(↑l.length:Int),0,())) =(c9 l most,()))∧(r1=false→(true,()) =(c9 l most,())))
 intro r1
 clear_value (hr1:r1=_)
 have e:dE (l,most,l,(l.length:Int),0,())=yu (c9 l most):=rfl
 try subst hr1
 rw [e]
 refine ⟨⟨rfl,rfl,rfl,Int.le_refl _,by simp only;omega,hx⟩,fun h=>?_,fun h=>?_⟩ <;> cases hf:c9 l most <;> rw [hf] at h <;> first|rfl|cases h
def Mr:FuncId×Ctr:=(300,ae KE qLM ax AC)
theorem Pz:CtrOK Tryz.prog KE 300 (ae KE qLM ax AC):=by
 refine an (C:=al [dn,k47] Tryz.f300) (aj (.consU fV rfl (.consU Pf rfl .nil)) _) mixed (fn:=Tryz.f300) Tryz.func300 (by kernel_rfl) (by kernel_rfl) (by kernel_rfl) (by kernel_rfl) (by kernel_rfl) (by kernel_rfl) (Λ:=fun x=>find [(Ra,RB)]) ?_ ?_
 ·rintro ⟨l,most,⟨⟩⟩ hw hn
  exact LoopsOKp.at (by kernel_rfl) (.cons (by kernel_rfl) (Sp) .nil)
 ·rintro ⟨l,most,⟨⟩⟩ hw hn
  exact NO l most (cN (aU hw))
noncomputable def lpFi:Lp:=(⟨0,al [jU] Tryz.f312,(fun _=>none),(Gq Tryz.f312 0 0),qFi,xFi⟩:Lp)
theorem Tz (l:List Int) (most:Int) (l2:List Int) (n:Int) (i:Int) (v:Int) (ys:List Int) (m:Int) (j:Int) (hi:y3 (l,most,l2,n,i,v,ys,m,j,())) :(Go.Mir.stepG lpFi kQ (fun y:Den (tyP lpFi.q)=>y3 y∧Ka y<Ka (l,most,l2,n,i,v,ys,m,j,())) (l,most,l2,n,i,v,ys,m,j,())∧Go.Mir.stepE lpFi kQ (l,most,l2,n,i,v,ys,m,j,())=kQ (l,most,l2,n,i,v,ys,m,j,())):=by
 refine cast (by kernel_rfl) (?_:let r1:Bool:=v==ys.getD j.toNat (dflt (Ty.int IntKind.i64));((decide (j<m)=true→(0≤j∧j <(↑ys.length:Int))∧(r1=true→True)∧(r1=false→y3 (l,most,l2,n,i,v,ys,m,IntKind.i64.wrap (j+1),())∧Ka (l,most,l2,n,i,v,ys,m,IntKind.i64.wrap (j+1),())<Ka (l,most,l2,n,i,v,ys,m,j,())))∧(decide (j<m)=false→True))∧(cond (decide (j<m)) (cond r1 (Sum.inl (false,())) (kQ (l,most,l2,n,i,v,ys,m,IntKind.i64.wrap (j+1),()))) (Sum.inr (l,most,l2,n,i,())))=kQ (l,most,l2,n,i,v,ys,m,j,()))
 intro r1
 clear_value (hr1:r1=_)
 obtain ⟨h1,h2,h3,h4⟩:=hi
 simp only at h1 h2 h3 h4
 have h5 :(ys.length:Int)≤140737488355328:=by have:ys.length≤140737488355328:=h4;omega
 refine ⟨⟨fun h=>?_,fun _=>trivial⟩,?_⟩
 ·have h:j<m:=of_decide_eq_true h
  rw [bc (n:=j+1) (by omega) (by omega)]
  refine ⟨⟨h2,by omega⟩,fun _=>trivial,fun _=>⟨⟨h1,by simp only;omega,by simp only;omega,h4⟩,by simp only [Ka];omega⟩⟩
 ·by_cases h:j<m
  ·rw [decide_eq_true h,cond_true,bc (n:=j+1) (by omega) (by omega)]
   have e:ys.drop j.toNat=ys.getD j.toNat (dflt (Ty.int IntKind.i64))::ys.drop (j+1).toNat:=b8 h2 (by omega) _
   rw [hr1]
   generalize ys.getD j.toNat (dflt (Ty.int IntKind.i64))=u at e ⊢
   simp only [kQ,e,cO,List.contains_cons]
   cases v==u <;> rfl
  ·rw [decide_eq_false h,cond_false]
   simp only [kQ]
   rw [bJ (l:=ys) (by omega)]
   rfl
noncomputable def Vt:LoopSum:=aM lpFi kQ y3
noncomputable def UF:Nat:=rid (Gq Tryz.f312 0 0)
theorem Sr:LoopOKp Tryz.prog 0 Tryz.f312.ntmps (Gq Tryz.f312 0 0) (aM lpFi kQ y3):=
 bk lpFi (aj (.consU mm rfl .nil) _) mixed (fun b hb S hS=>by cases hS) kQ y3 Ka (fun |⟨l,most,l2,n,i,v,ys,m,j,⟨⟩⟩,hi=>Tz l most l2 n i v ys m j hi)
noncomputable def lpFo:Lp:=(⟨0,al [jU] Tryz.f312,(find [(UF,Vt)]),(az Tryz.f312 0),qFo,xDf⟩:Lp)
theorem TC (l:List Int) (most:Int) (l2:List Int) (n:Int) (i:Int) (hi:mN (l,most,l2,n,i,())) :(Go.Mir.stepG lpFo dE (fun y:Den (tyP lpFo.q)=>mN y∧uk y<uk (l,most,l2,n,i,())) (l,most,l2,n,i,())∧Go.Mir.stepE lpFo dE (l,most,l2,n,i,())=dE (l,most,l2,n,i,())):=by
 refine cast (by kernel_rfl) (?_:let r1:List Int:=List.drop (Int.toNat 0) (List.take i.toNat l);let r2:Bool:=!inW (l2.getD i.toNat (dflt (Ty.int IntKind.i64))) 1 most;let r3:Int:=(↑r1.length:Int);let r4:Bool:=isL (kQ (l,most,l2,n,i,l2.getD i.toNat (dflt (Ty.int IntKind.i64)),r1,r3,0,()));let r5:List Int×Int×List Int×Int×Int×PUnit:=si (dflt (Is.prod (I.prod (Is.prod (I.prod (I.prod Ty.unit)))))) (kQ (l,most,l2,n,i,l2.getD i.toNat (dflt (Ty.int IntKind.i64)),r1,r3,0,()));((decide (i<n)=true→(0≤i∧i <(↑l2.length:Int))∧(r2=true→True)∧(r2=false→((0:Int)≤0∧0≤i∧i≤(↑l.length:Int))∧((cZ fun x=>none)∧r3 =(↑r1.length:Int)∧(0:Int)≤0∧0≤r3∧r1.length≤aJ)∧(r4=true→True)∧(r4=false→mN (r5.1,r5.2.1,r5.2.2.1,r5.2.2.2.1,IntKind.i64.wrap (r5.2.2.2.2.1+1),())∧uk (r5.1,r5.2.1,r5.2.2.1,r5.2.2.2.1,IntKind.i64.wrap (r5.2.2.2.2.1+1),())<uk (l,most,l2,n,i,()))))∧(decide (i<n)=false→True))∧(cond (decide (i<n)) (cond r2 (Sum.inl (false,())) (cond r4 (Sum.inl (jm (dflt (Ty.bool.prod Ty.unit)) (kQ (l,most,l2,n,i,l2.getD i.toNat (dflt (Ty.int IntKind.i64)),r1,r3,0,())))) (dE (r5.1,r5.2.1,r5.2.2.1,r5.2.2.2.1,IntKind.i64.wrap (r5.2.2.2.2.1+1),())))) (Sum.inr ()))=dE (l,most,l2,n,i,()))
 intro r1 r2 r3 r4 r5
 clear_value (hr1:r1=_) (hr2:r2=_) (hr3:r3=_) (hr4:r4=_) (hr5:r5=_)
 obtain ⟨h0,h1,h2,h3,h4⟩:=hi
 simp only at h0 h1 h2 h3 h4
 subst h0
 have h5 :(l2.length:Int)≤140737488355328:=by have:l2.length≤140737488355328:=h4;omega
 have e1:r1=l2.take i.toNat:=by rw [hr1];rfl
 have er:kQ (l2,most,l2,n,i,l2.getD i.toNat (dflt (Ty.int IntKind.i64)),r1,r3,(0:Int),())=QO (cO (l2.take i.toNat) (l2.getD i.toNat (dflt (Ty.int IntKind.i64)))) (l2,most,l2,n,i,()):=by rw [e1];rfl
 rw [er] at hr4 hr5 ⊢
 have hl:r1.length≤l2.length:=by rw [e1];simp;omega
 refine ⟨⟨fun h=>?_,fun _=>trivial⟩,?_⟩
 ·have h:i<n:=of_decide_eq_true h
  refine ⟨⟨h2,by omega⟩,fun _=>trivial,fun _=>⟨⟨Int.le_refl _,h2,by omega⟩,⟨rfl,hr3,Int.le_refl _,by omega,Nat.le_trans hl h4⟩,fun _=>trivial,fun hf=>?_⟩⟩
  cases hk:cO (l2.take i.toNat) (l2.getD i.toNat (dflt (Ty.int IntKind.i64))) with
  | true=>rw [hk] at hr4;rw [hr4] at hf;cases hf
  | false=>
   rw [hk] at hr5
   have e5:r5 =(l2,most,l2,n,i,()):=hr5
   rw [e5]
   simp only
   rw [bc (n:=i+1) (by omega) (by omega)]
   exact ⟨⟨rfl,h1,by simp only;omega,by simp only;omega,h4⟩,by simp only [uk];omega⟩
 ·by_cases h:i<n
  ·rw [decide_eq_true h,cond_true]
   have e:l2.drop i.toNat=l2.getD i.toNat (dflt (Ty.int IntKind.i64))::l2.drop (i+1).toNat:=b8 h2 (by omega) _
   have et:l2.take (i+1).toNat=l2.take i.toNat++[l2.getD i.toNat (dflt (Ty.int IntKind.i64))]:=JK h2 (by omega) _
   rw [hr2]
   generalize l2.getD i.toNat (dflt (Ty.int IntKind.i64))=v at e et hr4 hr5 ⊢
   cases hk:cO (l2.take i.toNat) v with
   | true=>
    rw [hk] at hr4
    have e4:r4=true:=hr4
    rw [e4]
    simp only [dE,e,tg,hk,Bool.or_true,if_true]
    cases inW v 1 most <;> rfl
   | false=>
    rw [hk] at hr4 hr5
    have e4:r4=false:=hr4
    have e5:r5 =(l2,most,l2,n,i,()):=hr5
    rw [e4,e5]
    simp only
    rw [bc (n:=i+1) (by omega) (by omega)]
    simp only [dE,e,et,tg,hk]
    cases inW v 1 most <;> rfl
  ·rw [decide_eq_false h]
   show (Sum.inr ():Sum (Bool×Unit) Unit)=_
   simp only [dE]
   rw [bJ (l:=l2) (by omega)]
   rfl
noncomputable def RE:LoopSum:=aM lpFo dE mN
noncomputable def Re:Nat:=rid (az Tryz.f312 0)
theorem Su:LoopOKp Tryz.prog 0 Tryz.f312.ntmps (az Tryz.f312 0) (aM lpFo dE mN):=
 bk lpFo (aj (.consU mm rfl .nil) _) mixed (LoopsOKp.cons (by kernel_rfl) Sr .nil) dE mN uk (fun |⟨l,most,l2,n,i,⟨⟩⟩,hi=>TC l most l2 n i hi)
theorem Lj (l:List Int) (most:Int) (hx:l.length≤aJ) :(evPat (al [jU] Tryz.f312) (find [(Re,RE)]) Tryz.f312 qLM ax (l,most,())).sat fun z_=>z_ =(AC (l,most,())).2:=by
 refine cast (by kernel_rfl) (?_:let r1:Bool:=isL (dE (l,most,l,(↑l.length:Int),0,()));((cZ fun x=>none)∧l=l∧cH (l,(↑l.length:Int),0,()))∧(r1=true→jm (dflt (Ty.bool.prod Ty.unit)) (dE (l,most,l,(↑l.length:Int),0,())) =(c9 l most,()))∧(r1=false→(true,()) =(c9 l most,())))
 intro r1
 clear_value (hr1:r1=_)
 have e:dE (l,most,l,(l.length:Int),0,())=yu (c9 l most):=rfl
 try subst hr1
 rw [e]
 refine ⟨⟨rfl,rfl,rfl,Int.le_refl _,by simp only;omega,hx⟩,fun h=>?_,fun h=>?_⟩ <;> cases hf:c9 l most <;> rw [hf] at h <;> first|rfl|cases h
def uV:FuncId×Ctr:=(312,ae KE qLM ax AC)
theorem Et:CtrOK Tryz.prog KE 312 (ae KE qLM ax AC):=by
 refine an (C:=al [jU] Tryz.f312) (aj (.consU mm rfl .nil) _) mixed (fn:=Tryz.f312) Tryz.func312 (by kernel_rfl) (by kernel_rfl) (by kernel_rfl) (by kernel_rfl) (by kernel_rfl) (by kernel_rfl) (Λ:=fun x=>find [(Re,RE)]) ?_ ?_
 ·rintro ⟨l,most,⟨⟩⟩ hw hn
  exact LoopsOKp.at (by kernel_rfl) (.cons (by kernel_rfl) (Su) .nil)
 ·rintro ⟨l,most,⟨⟩⟩ hw hn
  exact Lj l most (cN (aU hw))
theorem Fc (x:Innings) (hs:ai x) :(evPat (al [Md] Tryz.f301) (fun _=>none) Tryz.f301 qIn ax (x,())).sat fun z_=>z_ =(N9 (x,())).2:=by
 refine cast (by kernel_rfl) (?_:let r1:List Int:= [x.2,x.4,x.6.1,x.6.2,x.6.3,x.6.4,x.6.5,x.7,x.18,x.20,x.22.1,x.22.2.1];((0:Int)≤0∧0 <(↑(2:Nat):Int))∧((0:Int)≤1∧1 <(↑(2:Nat):Int))∧(r1.length+x.16.length) *(8:Nat)≤(70368744177664:Nat)∧(!eJ (r1++x.16),()) =(qh x,()))
 intro r1
 clear_value (hr1:r1=_)
 have hl:r1.length=12:=by rw [hr1];rfl
 have:=hs.2.2.2.1
 refine ⟨by omega,by omega,by omega,?_⟩
 rw [hr1];rfl
def zl:FuncId×Ctr:=(301,ae KE qIn ax N9)
theorem GA:CtrOK Tryz.prog KE 301 (ae KE qIn ax N9):=by
 refine an (C:=al [Md] Tryz.f301) (aj (.consU Pl rfl .nil) _) mixed (fn:=Tryz.f301) Tryz.func301 (by kernel_rfl) (by kernel_rfl) (by kernel_rfl) (by kernel_rfl) (by kernel_rfl) (by kernel_rfl) (Λ:=fun _ _=>none) ?_ ?_
 ·exact fun _ _ _ _ _ _ _ _ h=>by cases h
 ·rintro ⟨x,⟨⟩⟩ hw hn
  exact Fc x (hn _ List.mem_cons_self)
def iR (S O:Int):List Int→Int→Int→Int→Bool→Option (Int×Int×Bool)
 | [],_,o,b,g=>some (o,b,g)
 | s::r,i,o,b,g=>if s>3 then none
  else if s==1 then (if S != i+1&&O != i+1 then none else iR S O r (i+1) o (b+1) true)
  else iR S O r (i+1) (if s==2 then o+1 else o) b (g||s != 0)
def jH (S O:Int):List Int→Int→Int→Int→Option (Int×Int)
 | [],_,o,a=>some (o,a)
 | s::r,i,o,a=>if s>3 then none else if (s==1) !=(S==i+1||O==i+1) then none
  else jH S O r (i+1) (if s==2 then o+1 else o) (if s==1 then a+1 else a)
abbrev qBc:Pat:=⟨[(2,.c (.ptr 0 0)),(1,.h I),(5,.h I),(6,.h I),(7,.h .bool),(12,.h U8s),(13,.h I),(14,.h I)],[(0,.dat (.nm .Innings))],1⟩
abbrev xBc:List (Lf×Pat):= [(.ret,⟨[(4,.h .bool)],[],0⟩),(.ext 0,⟨[(2,.c (.ptr 0 0)),(1,.h I),(5,.h I),(6,.h I),(7,.h .bool)],[(0,.dat (.nm .Innings))],1⟩)]
abbrev TBc:Type:=Int×Int×Int×Bool×List Int×Int×Int×Innings×Unit
def wk (x:TBc):Prop:=cH (x.2.2.2.2.1,x.2.2.2.2.2.1,x.2.2.2.2.2.2.1,())∧x.2.2.2.2.1.length≤1000000∧(0≤x.2.1∧x.2.1≤x.2.2.2.2.2.2.1)∧(0≤x.2.2.1∧x.2.2.1≤x.2.2.2.2.2.2.1)
def D7 (x:TBc):Nat:=(x.2.2.2.2.2.1 - x.2.2.2.2.2.2.1).toNat
def Am (side:Int) (x:Innings):Option (Int×Int×Bool)→Sum (Bool×Unit) (Int×Int×Int×Bool×Innings×Unit)
 | none=> .inl (false,())
 | some (o,b,g)=> .inr (side,o,b,g,x,())
def iM (x:TBc):Sum (Bool×Unit) (Int×Int×Int×Bool×Innings×Unit):=
 Am x.1 x.2.2.2.2.2.2.2.1 (iR x.2.2.2.2.2.2.2.1.Striker x.2.2.2.2.2.2.2.1.Other (x.2.2.2.2.1.drop x.2.2.2.2.2.2.1.toNat) x.2.2.2.2.2.2.1 x.2.1 x.2.2.1 x.2.2.2.1)
def js (x:Innings):Int:=(if x.Striker != 0 then 1 else 0) +(if x.Other != 0 then 1 else 0)
def m1 (x:Innings) (side:Int):Option (Int×Int×Bool)→Bool
 | none=>false
 | some (o,b,g)=>if !inW x.Striker 0 side||!inW x.Other 0 side||x.Striker==x.Other&&x.Striker != 0 then false
  else js x==b&&(!g||decide (js x>0))&&o==x.Wickets
def mU (x:Innings) (side:Int):Bool:=m1 x side (iR x.Striker x.Other x.Batters 0 0 0 false)
def N2:Den (tyP fH)→List Prop×Den (tyP ax):=fun x=>([ai x.1],(mU x.1 x.2.1,()))
def uh (x:Innings):Bool:=match jH x.Striker x.Other x.Batters 0 0 0 with
 | none=>false
 | some (o,a)=>if cu x&&decide (a<1)||x.Striker != 0&&x.Striker==x.Other then false else x.Wickets==o
def N3:Den (tyP qIn)→List Prop×Den (tyP ax):=fun x=>([ai x.1],(uh x.1,()))
abbrev qBd:Pat:=⟨[(1,.c (.ptr 0 0)),(3,.h I),(4,.h I),(8,.h U8s),(9,.h I),(10,.h I)],[(0,.dat (.nm .Innings))],1⟩
abbrev xBd:List (Lf×Pat):= [(.ret,⟨[(2,.h .bool)],[],0⟩),(.ext 0,⟨[(1,.c (.ptr 0 0)),(3,.h I),(4,.h I)],[(0,.dat (.nm .Innings))],1⟩)]
abbrev TBd:Type:=Int×Int×List Int×Int×Int×Innings×Unit
def wm (x:TBd):Prop:=cH (x.2.2.1,x.2.2.2.1,x.2.2.2.2.1,())∧x.2.2.1.length≤1000000∧(0≤x.1∧x.1≤x.2.2.2.2.1)∧(0≤x.2.1∧x.2.1≤x.2.2.2.2.1)
def D8 (x:TBd):Nat:=(x.2.2.2.1 - x.2.2.2.2.1).toNat
def An (x:Innings):Option (Int×Int)→Sum (Bool×Unit) (Int×Int×Innings×Unit)
 | none=> .inl (false,())
 | some (o,a)=> .inr (o,a,x,())
def jg (x:TBd):Sum (Bool×Unit) (Int×Int×Innings×Unit):=
 An x.2.2.2.2.2.1 (jH x.2.2.2.2.2.1.Striker x.2.2.2.2.2.1.Other (x.2.2.1.drop x.2.2.2.2.1.toNat) x.2.2.2.2.1 x.1 x.2.1)
noncomputable def lpBc:Lp:=(⟨0,al [dn] Tryz.f299,(fun _=>none),(az Tryz.f299 0),qBc,xBc⟩:Lp)
theorem Tm (side:Int) (o:Int) (b:Int) (g:Bool) (xs:List Int) (n:Int) (i:Int) (x:Innings) (hi:wk (side,o,b,g,xs,n,i,x,())) :(Go.Mir.stepG lpBc iM (fun y:Den (tyP lpBc.q)=>wk y∧D7 y<D7 (side,o,b,g,xs,n,i,x,())) (side,o,b,g,xs,n,i,x,())∧Go.Mir.stepE lpBc iM (side,o,b,g,xs,n,i,x,())=iM (side,o,b,g,xs,n,i,x,())):=by
 refine cast (by kernel_rfl) (?_:let r1:Int:=IntKind.i64.wrap (i+1);let r2:Bool:=xs.getD i.toNat (dflt (Ty.int IntKind.u8))==1;let r3:Bool:=xs.getD i.toNat (dflt (Ty.int IntKind.u8))==2;let r4:Bool:=cond g true (xs.getD i.toNat (dflt (Ty.int IntKind.u8)) != 0);let r5:Bool:=decide (xs.getD i.toNat (dflt (Ty.int IntKind.u8))>3);let r6:Bool:=cond (x.9 != r1) (x.10 != r1) false;let r7:Bool:=cond r5 false (cond r2 (!r6) true);((decide (i<n)=true→(r7=true→((0≤i∧i <(↑xs.length:Int))∧(r5=true→False)∧(r5=false→(r2=true→(r6=true→False)∧(r6=false→True))∧(r2=false→(r3=true→True)∧(r3=false→True))))∧wk (side,cond r2 o (cond r3 (IntKind.i64.wrap (o+1)) o),cond r2 (IntKind.i64.wrap (b+1)) b,cond r2 r4 (cond r3 r4 r4),xs,n,r1,x,())∧D7 (side,cond r2 o (cond r3 (IntKind.i64.wrap (o+1)) o),cond r2 (IntKind.i64.wrap (b+1)) b,cond r2 r4 (cond r3 r4 r4),xs,n,r1,x,())<D7 (side,o,b,g,xs,n,i,x,()))∧(r7=false→(0≤i∧i <(↑xs.length:Int))∧(r5=true→True)∧(r5=false→(r2=true→(r6=true→True)∧(r6=false→True))∧(r2=false→(r3=true→True)∧(r3=false→True)))))∧(decide (i<n)=false→True))∧(cond (decide (i<n)) (cond (false&&(false&&true&&(true&&true))) (iM (side,cond r2 o (cond r3 (IntKind.i64.wrap (o+1)) o),cond r2 (IntKind.i64.wrap (b+1)) b,cond r2 r4 (cond r3 r4 r4),xs,n,r1,x,())) (cond r7 (iM (side,cond r2 o (cond r3 (IntKind.i64.wrap (o+1)) o),cond r2 (IntKind.i64.wrap (b+1)) b,cond r2 r4 (cond r3 r4 r4),xs,n,r1,x,())) (cond r5 (Sum.inl (false,())) (cond r2 (cond r6 (Sum.inl (false,())) (Sum.inl (dflt (Ty.bool.prod Ty.unit)))) (cond r3 (Sum.inl (dflt (Ty.bool.prod Ty.unit))) (Sum.inl (dflt (Ty.bool.prod Ty.unit)))))))) (Sum.inr (side,o,b,g,x,())))=iM (side,o,b,g,xs,n,i,x,()))
 intro r1 r2 r3 r4 r5 r6 r7
 clear_value (hr1:r1=_) (hr2:r2=_) (hr3:r3=_) (hr4:r4=_) (hr5:r5=_) (hr6:r6=_) (hr7:r7=_)
 obtain ⟨⟨h1,h2,h3,h4⟩,h6,⟨h7,h8⟩,⟨h9,h10⟩⟩:=hi
 simp only at h1 h2 h3 h4 h6 h7 h8 h9 h10
 by_cases h:i<n
 ·have e:xs.drop i.toNat=xs.getD i.toNat (dflt (Ty.int IntKind.u8))::xs.drop (i+1).toNat:=b8 h2 (by omega) _
  have hw:r1=i+1:=by rw [hr1];exact bc (by omega) (by omega)
  have ho:IntKind.i64.wrap (o+1)=o+1:=bc (by omega) (by omega)
  have hb:IntKind.i64.wrap (b+1)=b+1:=bc (by omega) (by omega)
  generalize xs.getD i.toNat (dflt (Ty.int IntKind.u8))=v at *
  have hx :(0:Int)≤i∧i <(xs.length:Int):=by omega
  have inv :∀ o' b' g',(o'=o∨o'=o+1)→(b'=b∨b'=b+1)→wk (side,o',b',g',xs,n,i+1,x,())∧D7 (side,o',b',g',xs,n,i+1,x,())<D7 (side,o,b,g,xs,n,i,x,()):=fun o' b' g' ho hb=>by
   refine ⟨⟨⟨h1,by simp only;omega,by simp only;omega,h4⟩,h6,⟨?_,?_⟩,⟨?_,?_⟩⟩,?_⟩ <;> simp only [D7] <;> omega
  have er:iM (side,o,b,g,xs,n,i,x,())=Am side x (iR x.Striker x.Other (v::xs.drop (i+1).toNat) i o b g):=by rw [←e];rfl
  have er2 :∀ o' b' g',iM (side,o',b',g',xs,n,i+1,x,())=Am side x (iR x.Striker x.Other (xs.drop (i+1).toNat) (i+1) o' b' g'):=fun _ _ _=>rfl
  rw [er,hw,ho,hb]
  rw [hw] at hr6
  by_cases hv:v>3
  ·have e5:r5=true:=by rw [hr5];simpa using hv
   subst hr7
   simp [e5,h,hx,iR,hv,Am]
  ·have e5:r5=false:=by rw [hr5];simpa using hv
   have hv2 :¬(3:Int)<v:=hv
   by_cases hs:v=1
   ·have e2:r2=true:=by rw [hr2,hs];rfl
    have e4:r4=true:=by rw [hr4,hs];cases g <;> rfl
    cases h6':r6 with
    | true=>
     have h6'' :(x.Striker != i+1&&x.Other != i+1)=true:=by grind
     have hn:iR x.Striker x.Other (v::xs.drop (i+1).toNat) i o b g=none:=by
      rw [hs];unfold iR;rw [if_neg (by omega),h6''];rfl
     rw [hn]
     subst hr7
     simp [e5,e2,h,hx,h6',Am]
    | false=>
     have h6'' :(x.Striker != i+1&&x.Other != i+1)=false:=by grind
     have hn:iR x.Striker x.Other (v::xs.drop (i+1).toNat) i o b g=iR x.Striker x.Other (xs.drop (i+1).toNat) (i+1) o (b+1) true:=by
      rw [hs]
      conv=>lhs;unfold iR
      rw [if_neg (by omega),h6''];rfl
     rw [hn,←er2]
     subst hr7
     have:=inv o (b+1) true (.inl rfl) (.inr rfl)
     simp [e5,e2,e4,h,hx,h6',this]
   ·have e2:r2=false:=by rw [hr2];simpa using hs
    have e4:r4 =(g||v != 0):=by rw [hr4];cases g <;> rfl
    have hn:iR x.Striker x.Other (v::xs.drop (i+1).toNat) i o b g=iR x.Striker x.Other (xs.drop (i+1).toNat) (i+1) (if r3 then o+1 else o) b r4:=by
     conv=>lhs;unfold iR
     rw [if_neg hv,←hr2,e2,←hr3,←e4];rfl
    rw [hn,←er2]
    subst hr7
    have:=inv (if r3 then o+1 else o) b r4 (by split <;> simp) (.inl rfl)
    cases h3':r3 <;> rw [h3'] at this <;> simp at this <;> simp [e5,e2,h,hx,this]
 ·have er:iM (side,o,b,g,xs,n,i,x,()) = .inr (side,o,b,g,x,()):=by
   simp only [iM]
   rw [bJ (l:=xs) (by omega)]
   rfl
  rw [er]
  simp [h]
noncomputable def Rv:LoopSum:=aM lpBc iM wk
noncomputable def Q4:Nat:=rid (az Tryz.f299 0)
theorem Sj:LoopOKp Tryz.prog 0 Tryz.f299.ntmps (az Tryz.f299 0) (aM lpBc iM wk):=
 bk lpBc (aj (.consU fV rfl .nil) _) mixed (fun b hb S hS=>by cases hS) iM wk D7 (fun |⟨side,o,b,g,xs,n,i,x,⟨⟩⟩,hi=>Tm side o b g xs n i x hi)
theorem E9 (x:Innings) (side:Int) (hs:ai x) :(evPat (al [dn] Tryz.f299) (find [(Q4,Rv)]) Tryz.f299 fH ax (x,side,())).sat fun z_=>z_ =(N2 (x,side,())).2:=by
 refine cast (by kernel_rfl) (?_:let r1:Bool:=isL (iM (side,0,0,false,x.11,(↑x.11.length:Int),0,x,()));let r2:Int×Int×Int×Bool×Innings×PUnit:=si (dflt (I.prod (I.prod (I.prod (Ty.bool.prod ((Ty.nm Nm.Innings).prod Ty.unit)))))) (iM (side,0,0,false,x.11,(↑x.11.length:Int),0,x,()));let r3:Bool:=r2.2.2.2.2.1.9 != 0;let r4:Int:=cond r3 (IntKind.i64.wrap ((0:Int)+1)) 0;let r5:Bool:=r2.2.1==r2.2.2.2.2.1.5;let r6:Int:=cond (r2.2.2.2.2.1.10 != 0) (IntKind.i64.wrap (r4+1)) r4;let r7:Bool:=cond (!inW r2.2.2.2.2.1.9 0 r2.1) true (cond (!inW r2.2.2.2.2.1.10 0 r2.1) true (cond (r2.2.2.2.2.1.9==r2.2.2.2.2.1.10) r3 false));((cZ fun x=>none)∧cH (x.11,(↑x.11.length:Int),0,())∧x.11.length≤(1000000:Nat)∧((0:Int)≤0∧(0:Int)≤0)∧(0:Int)≤0∧(0:Int)≤0)∧(r1=true→jm (dflt (Ty.bool.prod Ty.unit)) (iM (side,0,0,false,x.11,(↑x.11.length:Int),0,x,())) =(mU x side,()))∧(r1=false→(r7=true→(false,()) =(mU x side,()))∧(r7=false→(cond (r6==r2.2.2.1) (cond (!r2.2.2.2.1) r5 (cond (decide (r6>0)) r5 false)) false,()) =(mU x side,()))))
 intro r1 r2 r3 r4 r5 r6 r7
 clear_value (hr1:r1=_) (hr2:r2=_) (hr3:r3=_) (hr4:r4=_) (hr5:r5=_) (hr6:r6=_) (hr7:r7=_)
 have er:iM (side,0,0,false,x.Batters,(x.Batters.length:Int),0,x,())=Am side x (iR x.Striker x.Other x.Batters 0 0 0 false):=rfl
 try rw [er] at hr1
 try rw [er] at hr2
 try rw [er]
 have hw1:IntKind.i64.wrap ((0:Int)+1)=1:=rfl
 have hw2:IntKind.i64.wrap ((1:Int)+1)=2:=rfl
 refine ⟨⟨rfl,⟨rfl,Int.le_refl _,by simp only;omega,?_⟩,hs.1,⟨Int.le_refl _,Int.le_refl _⟩,Int.le_refl _,Int.le_refl _⟩,fun h=>?_,fun h=>?_⟩
 ·have:=hs.1
  show x.Batters.length≤140737488355328
  omega
 ·cases hb:iR x.Striker x.Other x.Batters 0 0 0 false with
  | none=>simp only [mU,hb];rfl
  | some q=>rw [hb] at hr1;rw [hr1] at h;cases h
 ·cases hb:iR x.Striker x.Other x.Batters 0 0 0 false with
  | none=>rw [hb] at hr1;rw [hr1] at h;cases h
  | some q=>
   obtain ⟨o,b,g⟩:=q
   rw [hb] at hr2
   have e2:r2 =(side,o,b,g,x,()):=hr2
   subst e2
   simp only at hr3 hr5 hr6 hr7 ⊢
   have e6:r6=js x:=by
    rw [hr6,hr4,hr3,hw1]
    unfold js
    cases x.Striker != 0 <;> cases x.Other != 0 <;> rfl
   have e7:r7 =(!inW x.Striker 0 side||!inW x.Other 0 side||x.Striker==x.Other&&x.Striker != 0):=by
    rw [hr7,hr3]
    cases inW x.Striker 0 side <;> cases inW x.Other 0 side <;> cases x.Striker==x.Other <;> rfl
   rw [e6,hr5]
   simp only [mU,hb,m1]
   rw [←e7]
   refine ⟨fun h7=>by rw [h7];rfl,fun h7=>?_⟩
   rw [h7]
   cases js x==b <;> cases g <;> cases decide (js x>0) <;> rfl
def zj:FuncId×Ctr:=(299,ae KE fH ax N2)
theorem Gy:CtrOK Tryz.prog KE 299 (ae KE fH ax N2):=by
 refine an (C:=al [dn] Tryz.f299) (aj (.consU fV rfl .nil) _) mixed (fn:=Tryz.f299) Tryz.func299 (by kernel_rfl) (by kernel_rfl) (by kernel_rfl) (by kernel_rfl) (by kernel_rfl) (by kernel_rfl) (Λ:=fun x=>find [(Q4,Rv)]) ?_ ?_
 ·rintro ⟨x,side,⟨⟩⟩ hw hn
  exact LoopsOKp.at (by kernel_rfl) (.cons (by kernel_rfl) (Sj) .nil)
 ·rintro ⟨x,side,⟨⟩⟩ hw hn
  exact E9 x side (hn _ List.mem_cons_self)
noncomputable def lpBd:Lp:=(⟨0,al [] Tryz.f313,(fun _=>none),(az Tryz.f313 0),qBd,xBd⟩:Lp)
theorem Tn (o:Int) (a:Int) (xs:List Int) (n:Int) (i:Int) (x:Innings) (hi:wm (o,a,xs,n,i,x,())) :(Go.Mir.stepG lpBd jg (fun y:Den (tyP lpBd.q)=>wm y∧D8 y<D8 (o,a,xs,n,i,x,())) (o,a,xs,n,i,x,())∧Go.Mir.stepE lpBd jg (o,a,xs,n,i,x,())=jg (o,a,xs,n,i,x,())):=by
 refine cast (by kernel_rfl) (?_:let r1:Int:=IntKind.i64.wrap (i+1);let r2:Bool:=xs.getD i.toNat (dflt (Ty.int IntKind.u8))==1;let r3:Bool:=decide (xs.getD i.toNat (dflt (Ty.int IntKind.u8))>3);let r4:Bool:=cond (x.9==r1) (!r2==true) (!r2 ==(x.10==r1));((decide (i<n)=true→(0≤i∧i <(↑xs.length:Int))∧(r3=true→True)∧(r3=false→(r4=true→True)∧(r4=false→wm (cond (xs.getD i.toNat (dflt (Ty.int IntKind.u8))==2) (IntKind.i64.wrap (o+1)) o,cond r2 (IntKind.i64.wrap (a+1)) a,xs,n,r1,x,())∧D8 (cond (xs.getD i.toNat (dflt (Ty.int IntKind.u8))==2) (IntKind.i64.wrap (o+1)) o,cond r2 (IntKind.i64.wrap (a+1)) a,xs,n,r1,x,())<D8 (o,a,xs,n,i,x,()))))∧(decide (i<n)=false→True))∧(cond (decide (i<n)) (cond r3 (Sum.inl (false,())) (cond r4 (Sum.inl (false,())) (jg (cond (xs.getD i.toNat (dflt (Ty.int IntKind.u8))==2) (IntKind.i64.wrap (o+1)) o,cond r2 (IntKind.i64.wrap (a+1)) a,xs,n,r1,x,())))) (Sum.inr (o,a,x,())))=jg (o,a,xs,n,i,x,()))
 intro r1 r2 r3 r4
 clear_value (hr1:r1=_) (hr2:r2=_) (hr3:r3=_) (hr4:r4=_)
 obtain ⟨⟨h1,h2,h3,h4⟩,h6,⟨h7,h8⟩,⟨h9,h10⟩⟩:=hi
 simp only at h1 h2 h3 h4 h6 h7 h8 h9 h10
 by_cases h:i<n
 ·have e:xs.drop i.toNat=xs.getD i.toNat (dflt (Ty.int IntKind.u8))::xs.drop (i+1).toNat:=b8 h2 (by omega) _
  have hw:r1=i+1:=by rw [hr1];exact bc (by omega) (by omega)
  have ho:IntKind.i64.wrap (o+1)=o+1:=bc (by omega) (by omega)
  have hb:IntKind.i64.wrap (a+1)=a+1:=bc (by omega) (by omega)
  generalize xs.getD i.toNat (dflt (Ty.int IntKind.u8))=v at *
  have hx :(0:Int)≤i∧i <(xs.length:Int):=by omega
  have inv :∀ o' a',(o'=o∨o'=o+1)→(a'=a∨a'=a+1)→wm (o',a',xs,n,i+1,x,())∧D8 (o',a',xs,n,i+1,x,())<D8 (o,a,xs,n,i,x,()):=fun o' a' ho hb=>by
   refine ⟨⟨⟨h1,by simp only;omega,by simp only;omega,h4⟩,h6,⟨?_,?_⟩,⟨?_,?_⟩⟩,?_⟩ <;> simp only [D8] <;> omega
  have er:jg (o,a,xs,n,i,x,())=An x (jH x.Striker x.Other (v::xs.drop (i+1).toNat) i o a):=by rw [←e];rfl
  have er2 :∀ o' a',jg (o',a',xs,n,i+1,x,())=An x (jH x.Striker x.Other (xs.drop (i+1).toNat) (i+1) o' a'):=fun _ _=>rfl
  rw [er,hw,ho,hb]
  rw [hw] at hr4
  have e4:r4 =((v==1) !=(x.Striker==i+1||x.Other==i+1)):=by
   rw [hr4,hr2]
   cases x.Striker==i+1 <;> rfl
  by_cases hv:v>3
  ·have e5:r3=true:=by rw [hr3];simpa using hv
   have hn:jH x.Striker x.Other (v::xs.drop (i+1).toNat) i o a=none:=by unfold jH;rw [if_pos hv]
   rw [hn]
   simp [e5,h,hx,An]
  ·have e5:r3=false:=by rw [hr3];simpa using hv
   cases h4':r4 with
   | true=>
    have hn:jH x.Striker x.Other (v::xs.drop (i+1).toNat) i o a=none:=by unfold jH;rw [if_neg hv,←e4,h4'];rfl
    rw [hn]
    simp [e5,h,hx,An]
   | false=>
    have hn:jH x.Striker x.Other (v::xs.drop (i+1).toNat) i o a=jH x.Striker x.Other (xs.drop (i+1).toNat) (i+1) (bif v==2 then o+1 else o) (bif v==1 then a+1 else a):=by
     conv=>lhs;unfold jH
     rw [if_neg hv,←e4,h4']
     cases v==2 <;> cases v==1 <;> rfl
    rw [hn,←er2,hr2]
    have:=inv (bif v==2 then o+1 else o) (bif v==1 then a+1 else a) (by cases v==2 <;> simp) (by cases v==1 <;> simp)
    simp [e5,h,hx,this]
 ·have er:jg (o,a,xs,n,i,x,()) = .inr (o,a,x,()):=by
   simp only [jg]
   rw [bJ (l:=xs) (by omega)]
   rfl
  rw [er]
  simp [h]
noncomputable def Rw:LoopSum:=aM lpBd jg wm
noncomputable def Q5:Nat:=rid (az Tryz.f313 0)
theorem Sk:LoopOKp Tryz.prog 0 Tryz.f313.ntmps (az Tryz.f313 0) (aM lpBd jg wm):=
 bk lpBd (aj (CtrsOK.nil) _) mixed (fun b hb S hS=>by cases hS) jg wm D8 (fun |⟨o,a,xs,n,i,x,⟨⟩⟩,hi=>Tn o a xs n i x hi)
theorem yE (x:Innings) (hs:ai x) :(evPat (al [gf] Tryz.f313) (find [(Q5,Rw)]) Tryz.f313 qIn ax (x,())).sat fun z_=>z_ =(N3 (x,())).2:=by
 refine cast (by kernel_rfl) (?_:let r1:Bool:=isL (jg (0,0,x.11,(↑x.11.length:Int),0,x,()));let r2:Int×Int×Innings×PUnit:=si (dflt (I.prod (I.prod ((Ty.nm Nm.Innings).prod Ty.unit)))) (jg (0,0,x.11,(↑x.11.length:Int),0,x,()));let r3:Bool:=cond (r2.2.2.1.9 != 0) (r2.2.2.1.9==r2.2.2.1.10) false;let r4:Bool:=cond (cu r2.2.2.1) (cond (decide (r2.2.1<1)) true r3) r3;((cZ fun x=>none)∧cH (x.11,(↑x.11.length:Int),0,())∧x.11.length≤(1000000:Nat)∧((0:Int)≤0∧(0:Int)≤0)∧(0:Int)≤0∧(0:Int)≤0)∧(r1=true→jm (dflt (Ty.bool.prod Ty.unit)) (jg (0,0,x.11,(↑x.11.length:Int),0,x,())) =(uh x,()))∧(r1=false→(r4=true→(false,()) =(uh x,()))∧(r4=false→(r2.2.2.1.5==r2.1,()) =(uh x,()))))
 intro r1 r2 r3 r4
 clear_value (hr1:r1=_) (hr2:r2=_) (hr3:r3=_) (hr4:r4=_)
 have er:jg (0,0,x.Batters,(x.Batters.length:Int),0,x,())=An x (jH x.Striker x.Other x.Batters 0 0 0):=rfl
 try rw [er] at hr1
 try rw [er] at hr2
 try rw [er]
 refine ⟨⟨rfl,⟨rfl,Int.le_refl _,by simp only;omega,?_⟩,hs.1,⟨Int.le_refl _,Int.le_refl _⟩,Int.le_refl _,Int.le_refl _⟩,fun h=>?_,fun h=>?_⟩
 ·have:=hs.1
  show x.Batters.length≤140737488355328
  omega
 ·cases hb:jH x.Striker x.Other x.Batters 0 0 0 with
  | none=>simp only [uh,hb];rfl
  | some q=>rw [hb] at hr1;rw [hr1] at h;cases h
 ·cases hb:jH x.Striker x.Other x.Batters 0 0 0 with
  | none=>rw [hb] at hr1;rw [hr1] at h;cases h
  | some q=>
   obtain ⟨o,a⟩:=q
   rw [hb] at hr2
   have e2:r2 =(o,a,x,()):=hr2
   subst e2
   simp only at hr3 hr4 ⊢
   have e4:r4 =(cu x&&decide (a<1)||x.Striker != 0&&x.Striker==x.Other):=by
    rw [hr4,hr3]
    cases cu x <;> cases decide (a<1) <;> cases x.Striker != 0 <;> rfl
   simp only [uh,hb]
   rw [←e4]
   exact ⟨fun h7=>by rw [h7];rfl,fun h7=>by rw [h7];rfl⟩
def kK:FuncId×Ctr:=(313,ae KE qIn ax N3)
theorem rH:CtrOK Tryz.prog KE 313 (ae KE qIn ax N3):=by
 refine an (C:=al [gf] Tryz.f313) (aj (.consU mj rfl .nil) _) mixed (fn:=Tryz.f313) Tryz.func313 (by kernel_rfl) (by kernel_rfl) (by kernel_rfl) (by kernel_rfl) (by kernel_rfl) (by kernel_rfl) (Λ:=fun x=>find [(Q5,Rw)]) ?_ ?_
 ·rintro ⟨x,⟨⟩⟩ hw hn
  exact LoopsOKp.at (by kernel_rfl) (.cons (by kernel_rfl) (Sk) .nil)
 ·rintro ⟨x,⟨⟩⟩ hw hn
  exact yE x (hn _ List.mem_cons_self)
end
section
open Go Go.Mir
def ay (n lo hi:Int):Bool:=decide (n≥lo)&&decide (n≤hi)
def cC (r:Rules):Bool:=
 ay r.Side 2 11&&(ay r.Innings 1 2&&(ay r.Overs 0 90&&(ay r.Balls 4 8&&(ay r.Quota 0 90&&(ay r.Wide 1 5&&(ay r.NoBall 1 5&&(
 ay r.NewBall 0 200&&(ay r.FollowOn 0 1000&&(ay r.Reviews 0 9&&ay r.Outside 0 11)))))))))
def bT (r:Rules) (i:Nat):Phase:=r.Power.getD i Phase.zero
def nK (r:Rules) (p:Phase):Bool:=decide (p.From<1) ||(decide (p.From>p.To) ||(decide (p.To>r.Overs)||!ay p.Outside 0 11))
def jf (r:Rules) (i:Nat):Int:=
 if nK r (bT r i) then 2 else if decide ((i:Int)>0)&&decide ((bT r i).From≤(bT r (i - 1)).To) then 8 else 0
def cD (r:Rules):Nat→Nat→Int
 | _,0=>0
 | i,n+1=>if jf r i != 0 then jf r i else cD r (i+1) n
def eI (r:Rules):Int:=if (r.Power.length:Int)>8 then 9 else cD r 0 r.Power.length
def lV (s:ByteArray) (i:Nat):Int:=((s.data.getD i 0).toNat:Int)
def oT (c:Int):Bool:=decide (c≥65)&&decide (c≤90)
def vm (i:Int) (c:Int):Bool:=!oT c&&(i==0 ||(c != 95&&(c != 45&&(decide (c<48)||decide (c>57)))))
def iH (s:ByteArray):Bool:=(List.range s.size).all (fun i=>!vm i (lV s i))&&(decide ((s.size:Int)≥1)&&decide ((s.size:Int)≤16))
def G2:Ty:= .prod (.int .i64) (.prod (.int .i64) (.prod (.int .i64) .unit))
def oq:Den G2→PRes:=fun x=>⟨[],.bool (ay x.1 x.2.1 x.2.2.1),[]⟩
def qx:Ty:= .prod (.nm .Rules) .unit
def CP:Den qx→PRes:=fun x=>⟨[],.bool (cC x.1),[]⟩
def CR:Den qx→PRes:=fun x=>⟨[],.int .i64 (eI x.1),[]⟩
def G5:Ty:= .prod .str .unit
def oo:Den G5→PRes:=fun x=>⟨[],.bool (iH x.1),[]⟩
def bG (x:Innings) (p:Int):Bool:=decide (p≥1)&&decide (p≤(x.Bowled.length:Int))
def oh:Den lj→PRes:=fun x=>⟨[],.bool (bG x.1 x.2.1),[]⟩
def k97:FuncId×Ctr:=(205,au K8 G2 oq)
def k96:FuncId×Ctr:=(203,au K8 G2 oq)
def k93:FuncId×Ctr:=(160,au K8 qx CP)
def k94:FuncId×Ctr:=(161,au K8 qx CR)
def k95:FuncId×Ctr:=(202,au K8 G5 oo)
def k92:FuncId×Ctr:=(159,au K8 G5 oo)
def k84:FuncId×Ctr:=(393,au K8 lj oh)
def k87:FuncId×Ctr:=(385,au K8 lj oh)
def k83:FuncId×Ctr:=(373,au K8 psI fw)
def k88:FuncId×Ctr:=(387,au K8 xj oc)
def IR (xs:List Int) (v:Int) (i:Nat):Prop:=i≤xs.length∧v∉xs.take i
def L88 (i:Nat):List (Lspec Nat):= [.out [true] [] [],.next (i+1) [] [],.out [false] [] []]
def J88 (xs:List Int) (v:Int) (i:Nat):St:=⟨[(1,.int .i64 v),(7,.fsl (.int .i64) xs),(8,.int .i64 xs.length),(9,.int .i64 i)],[],fun _=>none,0⟩
def T88 (xs:List Int) (v:Int):Tr:= .br (xs.contains v) (.leaf .ret ⟨[(4,.kb true)],[]⟩ 0) (.leaf (.ext 0) ⟨[],[]⟩ 0)
def Λ88 (xs:List Int) (v:Int):Nat→Option LoopSum:=find [(2,ck ⟨[],[],0⟩ (J88 xs v 0) (T88 xs v))]
def tB (r:Rules) (i:Nat):Prop:=i≤r.Power.length∧cD r 0 r.Power.length=cD r i (r.Power.length - i)
def L94 (i:Nat):List (Lspec Nat):= [.out [true] [] [],.out [true] [] [],.next (i+1) [] [],.out [false] [] []]
def J94 (r:Rules) (i:Nat):St:=⟨[(1,.ptr 0 0),(10,.fsl (.nm .Phase) r.Power),(11,.int .i64 r.Power.length),(12,.int .i64 i)],[(0,.cells (flat fP (.nm .Rules) r))],fun _=>none,8⟩
def T94 (r:Rules):Tr:= .br (cD r 0 r.Power.length != 0) (.leaf .ret ⟨[(2,.int .i64 (cD r 0 r.Power.length))],[]⟩ 8) (.leaf (.ext 0) ⟨[],[]⟩ 8)
def Λ94 (r:Rules):Nat→Option LoopSum:=find [(4,ck ⟨[],[],8⟩ (J94 r 0) (T94 r))]
def eM (s:ByteArray) (i:Nat):Bool:=(List.range i).all (fun k=>!vm k (lV s k))
def tC (s:ByteArray) (i:Nat):Prop:=i≤s.size∧eM s i=true
def L95 (i:Nat):List (Lspec Nat):= [.out [false] [] [],.next (i+1) [] [],.out [true] [] []]
def J95 (s:ByteArray) (i:Nat):St:=⟨[(0,.str s),(3,.int .i64 i)],[],fun _=>none,0⟩
def T95 (s:ByteArray):Tr:= .br (eM s s.size) (.leaf (.ext 0) ⟨[],[]⟩ 0) (.leaf .ret ⟨[(2,.kb false)],[]⟩ 0)
def Λ95 (s:ByteArray):Nat→Option LoopSum:=find [(4,ck ⟨[],[],0⟩ (J95 s 0) (T95 s))]
def rT (r:Rules):Bool:=(r.FollowOn != 0&&r.Innings==1) ||((r.Quota != 0||decide ((r.Power.length:Int)>0))&&r.Overs==0)
def A6 (r:Rules):Bool:=r.Quota != 0&&decide (IntKind.i64.wrap (r.Quota*r.Side)<r.Overs)
def aq (r:Rules):Int:=if !iH r.Name then 5 else if !cC r then 2 else if rT r then 1 else if A6 r then 13 else eI r
def om:Den qx→PRes:=fun x=>⟨[],.int .i64 (aq x.1),[]⟩
def k85:FuncId×Ctr:=(90,au K8 qx om)
def k86:FuncId×Ctr:=(154,au K8 qx om)
def tY:Ty:= .prod (.nm .Rules) (.prod (.nm .Innings) (.prod (.int .i64) .unit))
def dc (r:Rules) (x:Innings) (p:Int):Int:=
 if !bG x p||aq r != 0 then 0 else if r.Quota==0 then -1
 else wQ (IntKind.i64.wrap (IntKind.i64.wrap (r.Quota*r.Balls) - wQ (x.Bowled.getD (p - 1).toNat 0) 0)) 0
def CK:Den tY→PRes:=fun x=>⟨[],.int .i64 (dc x.1 x.2.1 x.2.2.1),[]⟩
def k81:FuncId×Ctr:=(394,au K8 tY CK)
def J86 (r:Rules) (i:Nat):St:=⟨[(1,.ptr 0 0),(115,.fsl (.nm .Phase) r.Power),(116,.int .i64 r.Power.length),(117,.int .i64 i)],[(0,.cells (flat fP (.nm .Rules) r))],fun _=>none,8⟩
def Λ86 (r:Rules):Nat→Option LoopSum:=find [(12,ck ⟨[],[],8⟩ (J86 r 0) (T94 r))]
def fT (r:Rules) (x:Innings) (p:Int):Int:=
 if !bG x p||aq r != 0 then 3
 else if p==x.Keeper ||(p==x.Bowler||aG x p) then 7
 else if cO x.Before p then 8
 else if dc r x p != -1&&decide (x.InOver<IntKind.i64.wrap (r.Balls - dc r x p)) then 9 else 0
def CL:Den tY→PRes:=fun x=>⟨[],.int .i64 (fT x.1 x.2.1 x.2.2.1),[]⟩
def k82:FuncId×Ctr:=(374,au K8 tY CL)
def ov (r:Rules) (x:Innings) (p:Int):Innings:=if fT r x p==0 then { x with Bowler:=p } else x
def zY (r:Rules) (x:Innings):Bool:=aq r != 0 ||(r.NewBall==0||decide (x.BallAge<IntKind.i64.wrap (r.NewBall*r.Balls)))
def ur (r:Rules) (x:Innings):Innings:=if zY r x then x else { x with BallAge:=0 }
def yt (r:Rules) (x:Innings):Int:=if zY r x then 22 else 0
def dH (x:Innings):List Int:=if cO x.Bowlers x.Bowler then x.Bowlers else x.Bowlers++[x.Bowler]
def m3 (x:Innings):List Int:=x.Bowled.set (x.Bowler - 1).toNat (IntKind.i64.wrap (x.Bowled.getD (x.Bowler - 1).toNat 0+1))
def cw (x:Innings) (c:Bool):Innings:=
 if c then { x with Bowlers:=dH x,Bowled:=m3 x,InOver:=IntKind.i64.wrap (x.InOver+1),BallAge:=IntKind.i64.wrap (x.BallAge+1) } else { x with Bowlers:=dH x }
def xa (y:Innings):Innings:={ y with Complete:=IntKind.i64.wrap (y.Complete+1),InOver:=0,Before:=y.Bowlers,Bowlers:= [],Bowler:=0 }
def fv (r:Rules) (x:Innings):Bool:=!bG x x.Bowler||aq r != 0
def aH (r:Rules) (x:Innings) (c:Bool):Innings:=if fv r x then x else if (cw x c).InOver<r.Balls then cw x c else xa (cw x c)
def fm (r:Rules) (x:Innings) (c:Bool):Bool:=if fv r x then false else if (cw x c).InOver<r.Balls then false else true
def J92 (s:ByteArray) (i:Nat):St:=⟨[(0,.str s),(7,.osl 16 16),(8,.int .i64 (bm s).length),(9,.int .i64 i)],[(16,.row 16 true (.int .u8) (bm s))],fun _=>none,40⟩
def T92 (s:ByteArray):Tr:= .br (eM s s.size) (.leaf (.ext 0) ⟨[(0,.str s)],[]⟩ 40) (.leaf .ret ⟨[(2,.kb false)],[]⟩ 40)
def Λ92 (s:ByteArray):Nat→Option LoopSum:=find [(2,ck ⟨[],[],40⟩ (J92 s 0) (T92 s))]
end
section
open Go Go.Mir
attribute [local irreducible] Go.Mir.RT.sat Go.Mir.evFn Go.Mir.stepObl
theorem Vp (n:Int) (lo:Int) (hi:Int) :(evFn (cf8 [] Tryz.f205) (fun _=>none) Tryz.f205 (bF G2 (n,lo,hi,()))).sat fun v' rows=>leV v' (oq (n,lo,hi,())).v∧rows =(oq (n,lo,hi,())).rows:=by
 refine cast (by kernel_rfl) (?_ :(cond (decide (n≥lo)) (decide (n≤hi)) false)=ay n lo hi∧([]:List RowD)=[])
 simp only [ay];grind
theorem SM:CtrOK Tryz.prog K8 205 (au K8 G2 oq):=by
 refine aV (C:=cf8 [] Tryz.f205) (bK (CtrsOK.nil) _) mixed (fn:=Tryz.f205) Tryz.func205 (by kernel_rfl) (by kernel_rfl) (by kernel_rfl) (Λ:=fun _ _=>none) ?_ ?_ ?_
 ·exact fun _ _ _ _ _ _ _ _ h=>by cases h
 ·rintro ⟨n,lo,hi,⟨⟩⟩
  exact of_decide_eq_true (by kernel_rfl)
 ·rintro ⟨n,lo,hi,⟨⟩⟩ hw hn
  exact Vp n lo hi
theorem Vo (n:Int) (lo:Int) (hi:Int) :(evFn (cf8 [] Tryz.f203) (fun _=>none) Tryz.f203 (bF G2 (n,lo,hi,()))).sat fun v' rows=>leV v' (oq (n,lo,hi,())).v∧rows =(oq (n,lo,hi,())).rows:=by
 refine cast (by kernel_rfl) (?_ :(cond (decide (n≥lo)) (decide (n≤hi)) false)=ay n lo hi∧([]:List RowD)=[])
 simp only [ay];grind
theorem UC:CtrOK Tryz.prog K8 203 (au K8 G2 oq):=by
 refine aV (C:=cf8 [] Tryz.f203) (bK (CtrsOK.nil) _) mixed (fn:=Tryz.f203) Tryz.func203 (by kernel_rfl) (by kernel_rfl) (by kernel_rfl) (Λ:=fun _ _=>none) ?_ ?_ ?_
 ·exact fun _ _ _ _ _ _ _ _ h=>by cases h
 ·rintro ⟨n,lo,hi,⟨⟩⟩
  exact of_decide_eq_true (by kernel_rfl)
 ·rintro ⟨n,lo,hi,⟨⟩⟩ hw hn
  exact Vo n lo hi
theorem Vc (x:Innings) (p:Int) :(evFn (cf8 [] Tryz.f393) (fun _=>none) Tryz.f393 (bF lj (x,p,()))).sat fun v' rows=>leV v' (oh (x,p,())).v∧rows =(oh (x,p,())).rows:=by
 refine cast (by kernel_rfl) (?_ :(cond (decide (p≥1)) (decide (p≤(↑x.16.length:Int))) false)=bG x p∧([]:List RowD)=[])
 simp only [bG];grind
theorem SK:CtrOK Tryz.prog K8 393 (au K8 lj oh):=by
 refine aV (C:=cf8 [] Tryz.f393) (bK (CtrsOK.nil) _) mixed (fn:=Tryz.f393) Tryz.func393 (by kernel_rfl) (by kernel_rfl) (by kernel_rfl) (Λ:=fun _ _=>none) ?_ ?_ ?_
 ·exact fun _ _ _ _ _ _ _ _ h=>by cases h
 ·rintro ⟨x,p,⟨⟩⟩
  exact of_decide_eq_true (by kernel_rfl)
 ·rintro ⟨x,p,⟨⟩⟩ hw hn
  exact Vc x p
theorem Vf (x:Innings) (p:Int) :(evFn (cf8 [] Tryz.f385) (fun _=>none) Tryz.f385 (bF lj (x,p,()))).sat fun v' rows=>leV v' (oh (x,p,())).v∧rows =(oh (x,p,())).rows:=by
 refine cast (by kernel_rfl) (?_ :(cond (decide (p≥1)) (decide (p≤(↑x.16.length:Int))) false)=bG x p∧([]:List RowD)=[])
 simp only [bG];grind
theorem SL:CtrOK Tryz.prog K8 385 (au K8 lj oh):=by
 refine aV (C:=cf8 [] Tryz.f385) (bK (CtrsOK.nil) _) mixed (fn:=Tryz.f385) Tryz.func385 (by kernel_rfl) (by kernel_rfl) (by kernel_rfl) (Λ:=fun _ _=>none) ?_ ?_ ?_
 ·exact fun _ _ _ _ _ _ _ _ h=>by cases h
 ·rintro ⟨x,p,⟨⟩⟩
  exact of_decide_eq_true (by kernel_rfl)
 ·rintro ⟨x,p,⟨⟩⟩ hw hn
  exact Vf x p
theorem Vb (x:Innings) (hs:ai x) :(evFn (cf8 [k45,k90,k91] Tryz.f373) (fun _=>none) Tryz.f373 (bF psI (x,()))).sat fun v' rows=>leV v' (fw (x,())).v∧rows =(fw (x,())).rows:=by
 refine cast (by kernel_rfl) (?_:x.11.length≤(1000000:Nat)∧x.13.length≤(1000000:Nat)∧x.14.length≤(1000000:Nat)∧x.16.length≤(1000000:Nat)∧x.21.length≤(1000000:Nat)∧(x.1=x.1∧x.2=x.2∧x.3=x.3∧x.4=x.4∧x.5=x.5∧x.6.1=x.6.1∧x.6.2=x.6.2∧x.6.3=x.6.3∧x.6.4=x.6.4∧x.6.5=x.6.5∧x.7=x.7∧x.8=x.8∧x.9=x.9∧x.10=x.10∧(nat_lit 0=nat_lit 0∧nat_lit 0=nat_lit 0)∧x.12=x.12∧(nat_lit 1=nat_lit 1∧nat_lit 1=nat_lit 1)∧(nat_lit 2=nat_lit 2∧nat_lit 2=nat_lit 2)∧x.15=x.15∧(nat_lit 3=nat_lit 3∧nat_lit 3=nat_lit 3)∧x.17=x.17∧x.18=x.18∧x.19=x.19∧x.20=x.20∧(nat_lit 4=nat_lit 4∧nat_lit 4=nat_lit 4)∧x.22.1=x.22.1∧x.22.2.1=x.22.2.1∧x.23=x.23∧True)∧ [RowD.mk (Ty.int IntKind.u8) x.11,RowD.mk (Ty.int IntKind.i64) x.13,RowD.mk (Ty.int IntKind.i64) x.14,RowD.mk (Ty.int IntKind.i64) x.16,RowD.mk Ty.bool x.21]=[RowD.mk (Ty.int IntKind.u8) x.11,RowD.mk (Ty.int IntKind.i64) x.13,RowD.mk (Ty.int IntKind.i64) x.14,RowD.mk (Ty.int IntKind.i64) x.16,RowD.mk Ty.bool x.21])
 obtain ⟨h1,h2,h3,h4,h5⟩:=hs
 simp [h1,h2,h3,h4,h5]
theorem SJ:CtrOK Tryz.prog K8 373 (au K8 psI fw):=by
 refine aV (C:=cf8 [k45,k90,k91] Tryz.f373) (bK (.cons Pe (.cons Pj (.cons Pk .nil))) _) mixed (fn:=Tryz.f373) Tryz.func373 (by kernel_rfl) (by kernel_rfl) (by kernel_rfl) (Λ:=fun _ _=>none) ?_ ?_ ?_
 ·exact fun _ _ _ _ _ _ _ _ h=>by cases h
 ·rintro ⟨x,⟨⟩⟩
  exact of_decide_eq_true (by kernel_rfl)
 ·rintro ⟨x,⟨⟩⟩ hw hn
  exact Vb x (hn _ (List.mem_singleton.2 rfl))
theorem Th (xs:List Int) (v:Int) (hx:xs.length≤aJ) (i:Nat) (hi:IR xs v i) :(stepObl (J88 xs v) (IR xs v) (fun i=>xs.length - i) i (T88 xs v) (bL (cf8 [] Tryz.f387) (fun _=>none) (az Tryz.f387 0) (J88 xs v i)) (L88 i)).1:=by
 refine cast (by kernel_rfl) (?_ :(decide ((↑i:Int) <(↑xs.length:Int))=true→(0≤(↑i:Int)∧(↑i:Int) <(↑xs.length:Int))∧((xs.getD (↑i:Int).toNat (dflt (Ty.int IntKind.i64))==v)=true→xs.contains v=true∧(true=true∧True)∧True)∧((xs.getD (↑i:Int).toNat (dflt (Ty.int IntKind.i64))==v)=false→IR xs v (i +(1:Nat))∧xs.length - (i +(1:Nat))<xs.length - i∧(v=v∧RowD.mk (Ty.int IntKind.i64) xs=RowD.mk (Ty.int IntKind.i64) xs∧(↑xs.length:Int) =(↑xs.length:Int)∧IntKind.i64.wrap ((↑i:Int)+1) =(↑(i +(1:Nat)):Int)∧True)∧True))∧(decide ((↑i:Int) <(↑xs.length:Int))=false→xs.contains v=false∧True∧True))
 have e :(i:Int).toNat=i:=by simp
 rw [e]
 refine ⟨fun h1=>?_,fun h1=>?_⟩
 ·have h1:i<xs.length:=by simpa using h1
  refine ⟨⟨by omega,by omega⟩,fun h2=>?_,fun h2=>?_⟩
  ·have h2:xs.getD i (0:Int)=v:=eq_of_beq h2
   have h3:xs[i]?=some v:=by rw [←h2];exact oG _ h1
   exact ⟨by simpa using List.mem_of_getElem? h3,⟨rfl,trivial⟩,trivial⟩
  ·have h2:xs.getD i (0:Int)≠v:=ne_of_beq_false h2
   have h3:xs.getD i (0:Int)=xs[i]:=by rw [List.getD_eq_getElem?_getD,List.getElem?_eq_getElem h1];rfl
   refine ⟨⟨by omega,?_⟩,by omega,⟨rfl,rfl,rfl,?_,trivial⟩,trivial⟩
   ·rw [List.take_succ_eq_append_getElem h1,List.mem_append,List.mem_singleton,not_or]
    exact ⟨hi.2,by rw [←h3];exact fun h=>h2 h.symm⟩
   ·have:xs.length≤140737488355328:=hx
    rw [de (by omega) (by omega)];omega
 ·have h1 :¬ i<xs.length:=by simpa using h1
  refine ⟨?_,trivial,trivial⟩
  have:=hi.2
  rw [List.take_of_length_le (by omega)] at this
  simpa using this
theorem Se (xs:List Int) (v:Int) (hx:xs.length≤aJ):LoopOK Tryz.prog Tryz.f387.ntmps (az Tryz.f387 0) (ck ⟨[],[],0⟩ (J88 xs v 0) (T88 xs v)):=
 gD (bK (CtrsOK.nil) _) mixed (J88 xs v) (fun _=>rfl) (IR xs v) (fun i=>xs.length - i) (fun _ _=>none) (fun _ _ _ _ _ h=>by cases h) (T88 xs v) [] [] 0 (⟨Nat.zero_le _,by simp⟩) L88 (fun i hi=>Th xs v hx i hi)
theorem Vg (xs:List Int) (v:Int) (hx:xs.length≤aJ) :(evFn (cf8 [] Tryz.f387) (Λ88 xs v) Tryz.f387 (bF xj (xs,v,()))).sat fun v' rows=>leV v' (oc (xs,v,())).v∧rows =(oc (xs,v,())).rows:=by
 refine cast (by kernel_rfl) (?_ :((cZ fun x=>none)∧(v=v∧RowD.mk (Ty.int IntKind.i64) xs=RowD.mk (Ty.int IntKind.i64) xs∧(↑xs.length:Int) =(↑xs.length:Int)∧0 =(↑(0:Nat):Int)∧True)∧True)∧(xs.contains v=true→true=cO xs v∧([]:List RowD)=[])∧(xs.contains v=false→false=cO xs v∧([]:List RowD)=[]))
 exact ⟨⟨rfl,⟨rfl,rfl,rfl,rfl,trivial⟩,trivial⟩,fun h=>⟨h.symm,rfl⟩,fun h=>⟨h.symm,rfl⟩⟩
theorem UA:CtrOK Tryz.prog K8 387 (au K8 xj oc):=by
 refine aV (C:=cf8 [] Tryz.f387) (bK (CtrsOK.nil) _) mixed (fn:=Tryz.f387) Tryz.func387 (by kernel_rfl) (by kernel_rfl) (by kernel_rfl) (Λ:=fun x=>Λ88 x.1 x.2.1) ?_ ?_ ?_
 ·rintro ⟨xs,v,⟨⟩⟩ hw hn
  exact LoopsOK.at (by kernel_rfl) (.cons (by kernel_rfl) (Se xs v (cN (aU hw))) .nil)
 ·rintro ⟨xs,v,⟨⟩⟩
  exact of_decide_eq_true (by kernel_rfl)
 ·rintro ⟨xs,v,⟨⟩⟩ hw hn
  exact Vg xs v (cN (aU hw))
theorem Vl (r:Rules) :(evFn (cf8 [k97] Tryz.f160) (fun _=>none) Tryz.f160 (bF qx (r,()))).sat fun v' rows=>leV v' (CP (r,())).v∧rows =(CP (r,())).rows:=by
 refine cast (by kernel_rfl) (?_ :(cond (ay r.2 2 11) (cond (ay r.3 1 2) (cond (ay r.4 0 90) (cond (ay r.5 4 8) (cond (ay r.6 0 90) (cond (ay r.7 1 5) (cond (ay r.8 1 5) (cond (ay r.10 0 200) (cond (ay r.11 0 1000) (cond (ay r.12 0 9) (ay r.13 0 11) false) false) false) false) false) false) false) false) false) false)=cC r∧([]:List RowD)=[])
 simp only [cC,Bool.cond_false_right,and_self]
theorem VY:CtrOK Tryz.prog K8 160 (au K8 qx CP):=by
 refine aV (C:=cf8 [k97] Tryz.f160) (bK (.cons SM .nil) _) mixed (fn:=Tryz.f160) Tryz.func160 (by kernel_rfl) (by kernel_rfl) (by kernel_rfl) (Λ:=fun _ _=>none) ?_ ?_ ?_
 ·exact fun _ _ _ _ _ _ _ _ h=>by cases h
 ·rintro ⟨r,⟨⟩⟩
  exact of_decide_eq_true (by kernel_rfl)
 ·rintro ⟨r,⟨⟩⟩ hw hn
  exact Vl r
theorem xG (r:Rules) (i n:Nat):cD r i (n+1)=if jf r i != 0 then jf r i else cD r (i+1) n:=rfl
theorem CZ {s:ByteArray} (h:wfD .str s):s.size≤aJ:=by
 obtain ⟨S,w,cs,h⟩:=h
 cases h with|str h=>exact h
theorem Tj (r:Rules) (hx:r.Power.length≤aJ) (i:Nat) (hi:tB r i) :(stepObl (J94 r) (tB r) (fun i=>r.Power.length - i) i (T94 r) (bL (cf8 [k97] Tryz.f161) (fun _=>none) (az Tryz.f161 0) (J94 r i)) (L94 i)).1:=by
 refine cast (by kernel_rfl) (?_ :(decide ((↑i:Int) <(↑r.14.length:Int))=true→(0≤(↑i:Int)∧(↑i:Int) <(↑r.14.length:Int))∧((cond (decide ((r.14.getD (↑i:Int).toNat (dflt (Ty.nm Nm.Phase))).1<1)) true (cond (decide ((r.14.getD (↑i:Int).toNat (dflt (Ty.nm Nm.Phase))).1 >(r.14.getD (↑i:Int).toNat (dflt (Ty.nm Nm.Phase))).2)) true (cond (decide ((r.14.getD (↑i:Int).toNat (dflt (Ty.nm Nm.Phase))).2>r.4)) true (!ay (r.14.getD (↑i:Int).toNat (dflt (Ty.nm Nm.Phase))).3 0 11))))=true→(cD r (0:Nat) r.14.length != 0)=true∧(2=cD r (0:Nat) r.14.length∧True)∧True)∧((cond (decide ((r.14.getD (↑i:Int).toNat (dflt (Ty.nm Nm.Phase))).1<1)) true (cond (decide ((r.14.getD (↑i:Int).toNat (dflt (Ty.nm Nm.Phase))).1 >(r.14.getD (↑i:Int).toNat (dflt (Ty.nm Nm.Phase))).2)) true (cond (decide ((r.14.getD (↑i:Int).toNat (dflt (Ty.nm Nm.Phase))).2>r.4)) true (!ay (r.14.getD (↑i:Int).toNat (dflt (Ty.nm Nm.Phase))).3 0 11))))=false→((decide ((↑i:Int)>0)=true→(0≤IntKind.i64.wrap ((↑i:Int) - 1)∧IntKind.i64.wrap ((↑i:Int) - 1) <(↑r.14.length:Int))∧True)∧(decide ((↑i:Int)>0)=false→True))∧(true=true→((cond (decide ((↑i:Int)>0)) (decide ((r.14.getD (↑i:Int).toNat (dflt (Ty.nm Nm.Phase))).1≤(r.14.getD (IntKind.i64.wrap ((↑i:Int) - 1)).toNat (dflt (Ty.nm Nm.Phase))).2)) false)=true→(cD r (0:Nat) r.14.length != 0)=true∧(8=cD r (0:Nat) r.14.length∧True)∧True)∧((cond (decide ((↑i:Int)>0)) (decide ((r.14.getD (↑i:Int).toNat (dflt (Ty.nm Nm.Phase))).1≤(r.14.getD (IntKind.i64.wrap ((↑i:Int) - 1)).toNat (dflt (Ty.nm Nm.Phase))).2)) false)=false→tB r (i +(1:Nat))∧r.14.length - (i +(1:Nat))<r.14.length - i∧(True∧RowD.mk (Ty.nm Nm.Phase) r.14=RowD.mk (Ty.nm Nm.Phase) r.14∧(↑r.14.length:Int) =(↑r.14.length:Int)∧IntKind.i64.wrap ((↑i:Int)+1) =(↑(i +(1:Nat)):Int)∧True)∧(r.1=r.1∧r.2=r.2∧r.3=r.3∧r.4=r.4∧r.5=r.5∧r.6=r.6∧r.7=r.7∧r.8=r.8∧r.9=r.9∧r.10=r.10∧r.11=r.11∧r.12=r.12∧r.13=r.13∧RowD.mk (Ty.nm Nm.Phase) r.14=RowD.mk (Ty.nm Nm.Phase) r.14∧True)∧True))))∧(decide ((↑i:Int) <(↑r.14.length:Int))=false→(cD r (0:Nat) r.14.length != 0)=false∧True∧True))
 have e :(i:Int).toNat=i:=by simp
 rw [e]
 have hb:r.Power.length≤140737488355328:=hx
 have hp:r.Power.getD i (dflt (Ty.nm Nm.Phase))=bT r i:=rfl
 rw [hp]
 have hpb :(bif decide ((bT r i).From<1) then true else bif decide ((bT r i).From >(bT r i).To) then true else bif decide ((bT r i).To>r.Overs) then true else !ay (bT r i).Outside 0 11)=nK r (bT r i):=by
  simp only [nK,Bool.cond_true_left]
 rw [hpb]
 obtain ⟨hi1,hi2⟩:=hi
 refine ⟨fun h1=>?_,fun h1=>?_⟩
 ·have h1:i<r.Power.length:=by simpa using h1
  have hn:r.Power.length - i =(r.Power.length - (i+1))+1:=by omega
  rw [hn,xG] at hi2
  have hw1:0<i→IntKind.i64.wrap ((i:Int) - 1) =((i - 1:Nat):Int):=fun h=>by rw [de (by omega) (by omega)];omega
  refine ⟨⟨by omega,by omega⟩,fun h2=>?_,fun h2=>⟨⟨fun h3=>?_,fun _=>trivial⟩,fun _=>⟨fun h3=>?_,fun h3=>?_⟩⟩⟩
  ·have hE:jf r i=2:=by simp only [jf,h2];rfl
   rw [hE] at hi2
   have hi2:cD r 0 r.Power.length=2:=hi2
   rw [hi2]
   exact ⟨rfl,⟨rfl,trivial⟩,trivial⟩
  ·have h3:0<i:=by simpa using h3
   rw [hw1 h3]
   exact ⟨⟨by omega,by omega⟩,trivial⟩
  ·have h4:0<i:=by
    by_cases h4:0<i
    ·exact h4
    ·have:i=0:=by omega
     subst this
     simp at h3
   rw [hw1 h4,Int.toNat_natCast] at h3
   have hq:r.Power.getD (i - 1) (dflt (Ty.nm Nm.Phase))=bT r (i - 1):=rfl
   rw [hq] at h3
   have h5 :(decide ((i:Int)>0)&&decide ((bT r i).From≤(bT r (i - 1)).To))=true:=by rw [←h3];cases decide ((i:Int)>0) <;> rfl
   have hE:jf r i=8:=by simp only [jf,h2,h5];rfl
   rw [hE] at hi2
   have hi2:cD r 0 r.Power.length=8:=hi2
   rw [hi2]
   exact ⟨rfl,⟨rfl,trivial⟩,trivial⟩
  ·have h5 :(decide ((i:Int)>0)&&decide ((bT r i).From≤(bT r (i - 1)).To))=false:=by
    by_cases h4:0<i
    ·rw [hw1 h4,Int.toNat_natCast] at h3
     have hq:r.Power.getD (i - 1) (dflt (Ty.nm Nm.Phase))=bT r (i - 1):=rfl
     rw [hq] at h3
     rw [←h3];cases decide ((i:Int)>0) <;> rfl
    ·have:i=0:=by omega
     subst this;rfl
   have hE:jf r i=0:=by simp only [jf,h2,h5];rfl
   rw [hE] at hi2
   have hi2:cD r 0 r.Power.length=cD r (i+1) (r.Power.length - (i+1)):=hi2
   exact ⟨⟨by omega,hi2⟩,by omega,⟨trivial,rfl,rfl,by rw [de (by omega) (by omega)];omega,trivial⟩,by simp⟩
 ·have h1:r.Power.length≤i:=by simpa using h1
  have h2:r.Power.length - i=0:=by omega
  rw [h2] at hi2
  have hi2:cD r 0 r.Power.length=0:=hi2
  rw [hi2]
  exact ⟨rfl,trivial,trivial⟩
theorem Sg (r:Rules) (hx:r.Power.length≤aJ):LoopOK Tryz.prog Tryz.f161.ntmps (az Tryz.f161 0) (ck ⟨[],[],8⟩ (J94 r 0) (T94 r)):=
 gD (bK (.cons SM .nil) _) mixed (J94 r) (fun _=>rfl) (tB r) (fun i=>r.Power.length - i) (fun _ _=>none) (fun _ _ _ _ _ h=>by cases h) (T94 r) [] [] 0 (⟨Nat.zero_le _,rfl⟩) L94 (fun i hi=>Tj r hx i hi)
theorem Vm (r:Rules) (hx:r.Power.length≤aJ) :(evFn (cf8 [k97] Tryz.f161) (Λ94 r) Tryz.f161 (bF qx (r,()))).sat fun v' rows=>leV v' (CR (r,())).v∧rows =(CR (r,())).rows:=by
 refine cast (by kernel_rfl) (?_ :(decide ((↑r.14.length:Int)>8)=true→9=eI r∧([]:List RowD)=[])∧(decide ((↑r.14.length:Int)>8)=false→((cZ fun x=>none)∧(True∧RowD.mk (Ty.nm Nm.Phase) r.14=RowD.mk (Ty.nm Nm.Phase) r.14∧(↑r.14.length:Int) =(↑r.14.length:Int)∧0 =(↑(0:Nat):Int)∧True)∧(r.1=r.1∧r.2=r.2∧r.3=r.3∧r.4=r.4∧r.5=r.5∧r.6=r.6∧r.7=r.7∧r.8=r.8∧r.9=r.9∧r.10=r.10∧r.11=r.11∧r.12=r.12∧r.13=r.13∧RowD.mk (Ty.nm Nm.Phase) r.14=RowD.mk (Ty.nm Nm.Phase) r.14∧True)∧True)∧((cD r (0:Nat) r.14.length != 0)=true→cD r (0:Nat) r.14.length=eI r∧([]:List RowD)=[])∧((cD r (0:Nat) r.14.length != 0)=false→0=eI r∧([]:List RowD)=[])))
 refine ⟨fun h=>⟨?_,rfl⟩,fun h=>⟨⟨rfl,⟨trivial,rfl,rfl,rfl,trivial⟩,by simp⟩,fun h2=>⟨?_,rfl⟩,fun h2=>⟨?_,rfl⟩⟩⟩
 ·simp only [eI];rw [if_pos (of_decide_eq_true h)]
 ·simp only [eI];rw [if_neg (of_decide_eq_false h)]
 ·simp only [eI];rw [if_neg (of_decide_eq_false h)]
  have h2:cD r 0 r.Power.length=0:=by simpa using h2
  exact h2.symm
theorem VZ:CtrOK Tryz.prog K8 161 (au K8 qx CR):=by
 refine aV (C:=cf8 [k97] Tryz.f161) (bK (.cons SM .nil) _) mixed (fn:=Tryz.f161) Tryz.func161 (by kernel_rfl) (by kernel_rfl) (by kernel_rfl) (Λ:=fun x=>Λ94 x.1) ?_ ?_ ?_
 ·rintro ⟨r,⟨⟩⟩ hw hn
  exact LoopsOK.at (by kernel_rfl) (.cons (by kernel_rfl) (Sg r (iQ (aU hw))) .nil)
 ·rintro ⟨r,⟨⟩⟩
  exact of_decide_eq_true (by kernel_rfl)
 ·rintro ⟨r,⟨⟩⟩ hw hn
  exact Vm r (iQ (aU hw))
theorem Tk (s:ByteArray) (hx:s.size≤aJ) (i:Nat) (hi:tC s i) :(stepObl (J95 s) (tC s) (fun i=>s.size - i) i (T95 s) (bL (cf8 [] Tryz.f202) (fun _=>none) (az Tryz.f202 0) (J95 s i)) (L95 i)).1:=by
 refine cast (by kernel_rfl) (?_ :(decide ((↑i:Int) <(↑s.size:Int))=true→((0≤(↑i:Int)∧(↑i:Int) <(↑s.size:Int))∧((cond (decide ((↑(s.1.getD (↑i:Int).toNat (0:UInt8)).toNat:Int)≥65)) (decide ((↑(s.1.getD (↑i:Int).toNat (0:UInt8)).toNat:Int)≤90)) false)=true→True)∧((cond (decide ((↑(s.1.getD (↑i:Int).toNat (0:UInt8)).toNat:Int)≥65)) (decide ((↑(s.1.getD (↑i:Int).toNat (0:UInt8)).toNat:Int)≤90)) false)=false→((cond ((↑i:Int)==0) true (cond ((↑(s.1.getD (↑i:Int).toNat (0:UInt8)).toNat:Int) != 95) (cond ((↑(s.1.getD (↑i:Int).toNat (0:UInt8)).toNat:Int) != 45) (cond (decide ((↑(s.1.getD (↑i:Int).toNat (0:UInt8)).toNat:Int)<48)) true (decide ((↑(s.1.getD (↑i:Int).toNat (0:UInt8)).toNat:Int)>57))) false) false))=true→eM s s.size=false∧(false=false∧True)∧True)∧((cond ((↑i:Int)==0) true (cond ((↑(s.1.getD (↑i:Int).toNat (0:UInt8)).toNat:Int) != 95) (cond ((↑(s.1.getD (↑i:Int).toNat (0:UInt8)).toNat:Int) != 45) (cond (decide ((↑(s.1.getD (↑i:Int).toNat (0:UInt8)).toNat:Int)<48)) true (decide ((↑(s.1.getD (↑i:Int).toNat (0:UInt8)).toNat:Int)>57))) false) false))=false→True)))∧((cond (cond (decide ((↑(s.1.getD (↑i:Int).toNat (0:UInt8)).toNat:Int)≥65)) (decide ((↑(s.1.getD (↑i:Int).toNat (0:UInt8)).toNat:Int)≤90)) false) true (!cond ((↑i:Int)==0) true (cond ((↑(s.1.getD (↑i:Int).toNat (0:UInt8)).toNat:Int) != 95) (cond ((↑(s.1.getD (↑i:Int).toNat (0:UInt8)).toNat:Int) != 45) (cond (decide ((↑(s.1.getD (↑i:Int).toNat (0:UInt8)).toNat:Int)<48)) true (decide ((↑(s.1.getD (↑i:Int).toNat (0:UInt8)).toNat:Int)>57))) false) false)))=true→tC s (i +(1:Nat))∧s.size - (i +(1:Nat))<s.size - i∧(s=s∧IntKind.i64.wrap ((↑i:Int)+1) =(↑(i +(1:Nat)):Int)∧True)∧True))∧(decide ((↑i:Int) <(↑s.size:Int))=false→eM s s.size=true∧True∧True))
 have e :(i:Int).toNat=i:=by simp
 rw [e]
 have hb:s.size≤140737488355328:=hx
 have hby :(((s.data.getD i 0).toNat:Nat):Int)=lV s i:=rfl
 rw [hby]
 generalize hc:lV s i=c
 have hl :(bif decide (c≥65) then decide (c≤90) else false)=oT c:=by simp only [oT,Bool.cond_false_right]
 rw [hl]
 have hr :(bif (i:Int)==0 then true else bif c != 95 then bif c != 45 then bif decide (c<48) then true else decide (c>57) else false else false) =((i:Int)==0 ||(c != 95&&(c != 45&&(decide (c<48)||decide (c>57))))):=by
  simp only [Bool.cond_true_left,Bool.cond_false_right]
 rw [hr]
 have hbad:vm i c =(!oT c&&((i:Int)==0 ||(c != 95&&(c != 45&&(decide (c<48)||decide (c>57)))))):=rfl
 generalize ((i:Int)==0 ||(c != 95&&(c != 45&&(decide (c<48)||decide (c>57)))))=q at hbad ⊢
 obtain ⟨hi1,hi2⟩:=hi
 refine ⟨fun h1=>?_,fun h1=>⟨?_,trivial,trivial⟩⟩
 ·have h1:i<s.size:=by simpa using h1
  refine ⟨⟨⟨by omega,by omega⟩,fun _=>trivial,fun h2=>⟨fun h3=>⟨?_,⟨rfl,trivial⟩,trivial⟩,fun _=>trivial⟩⟩,fun h2=>⟨⟨by omega,?_⟩,by omega,⟨rfl,by rw [de (by omega) (by omega)];omega,trivial⟩,trivial⟩⟩
  ·have hb2:vm i (lV s i)=true:=by rw [hc,hbad,h2,h3];rfl
   unfold eM
   rw [List.all_eq_false]
   exact ⟨i,List.mem_range.2 h1,by rw [hb2];decide⟩
  ·have hb2:vm i (lV s i)=false:=by
    rw [hc,hbad]
    cases hL:oT c with
    | true=>rfl
    | false=>rw [hL] at h2;simpa using h2
   unfold eM at hi2 ⊢
   rw [List.range_succ,List.all_append,hi2]
   simp [hb2]
 ·have h1:s.size≤i:=by simpa using h1
  have:i=s.size:=by omega
  rw [←this];exact hi2
theorem Sh (s:ByteArray) (hx:s.size≤aJ):LoopOK Tryz.prog Tryz.f202.ntmps (az Tryz.f202 0) (ck ⟨[],[],0⟩ (J95 s 0) (T95 s)):=
 gD (bK (CtrsOK.nil) _) mixed (J95 s) (fun _=>rfl) (tC s) (fun i=>s.size - i) (fun _ _=>none) (fun _ _ _ _ _ h=>by cases h) (T95 s) [] [] 0 (⟨Nat.zero_le _,rfl⟩) L95 (fun i hi=>Tk s hx i hi)
theorem Vn (s:ByteArray) (hx:s.size≤aJ) :(evFn (cf8 [] Tryz.f202) (Λ95 s) Tryz.f202 (bF G5 (s,()))).sat fun v' rows=>leV v' (oo (s,())).v∧rows =(oo (s,())).rows:=by
 refine cast (by kernel_rfl) (?_ :((cond (s.toList ==(ByteArray.mk #[]).toList) true (decide ((↑s.size:Int)>16)))=true→false=iH s∧([]:List RowD)=[])∧((cond (s.toList ==(ByteArray.mk #[]).toList) true (decide ((↑s.size:Int)>16)))=false→((cZ fun x=>none)∧(s=s∧0 =(↑(0:Nat):Int)∧True)∧True)∧(eM s s.size=true→true=iH s∧([]:List RowD)=[])∧(eM s s.size=false→false=iH s∧([]:List RowD)=[])))
 have hz :(s.toList ==(ByteArray.mk #[]).toList)=decide ((s.size:Int)<1):=by
  rw [Bool.eq_iff_iff,beq_iff_eq,decide_eq_true_eq,ByteArray.toList_eq,ByteArray.toList_eq]
  constructor
  ·intro h
   have:=congrArg List.length h
   simp at this
   have h2:s.size=0:=by rw [←ByteArray.size_data];simp [this]
   omega
  ·intro h
   have h2:s.data.size=0:=by rw [ByteArray.size_data];omega
   have h3:s.data=#[]:=Array.eq_empty_of_size_eq_zero h2
   rw [h3]
 have hn:iH s =(eM s s.size&&(decide ((s.size:Int)≥1)&&decide ((s.size:Int)≤16))):=rfl
 rw [hz,hn]
 refine ⟨fun h=>⟨?_,rfl⟩,fun h=>⟨⟨rfl,⟨rfl,rfl,trivial⟩,trivial⟩,fun h2=>⟨?_,rfl⟩,fun h2=>⟨?_,rfl⟩⟩⟩
 ·have :(decide ((s.size:Int)≥1)&&decide ((s.size:Int)≤16))=false:=by
   by_cases h1 :(s.size:Int)<1
   ·have :¬(s.size:Int)≥1:=by omega
    simp [this]
   ·rw [decide_eq_false h1] at h
    have h :(s.size:Int)>16:=of_decide_eq_true h
    have :¬(s.size:Int)≤16:=by omega
    simp [this]
  rw [this,Bool.and_false]
 ·have h1 :¬(s.size:Int)<1:=fun h1=>by rw [decide_eq_true h1] at h;cases h
  rw [decide_eq_false h1] at h
  have h :¬(s.size:Int)>16:=of_decide_eq_false h
  rw [h2,decide_eq_true (show (s.size:Int)≥1 by omega),decide_eq_true (show (s.size:Int)≤16 by omega)]
  rfl
 ·rw [h2];rfl
theorem UB:CtrOK Tryz.prog K8 202 (au K8 G5 oo):=by
 refine aV (C:=cf8 [] Tryz.f202) (bK (CtrsOK.nil) _) mixed (fn:=Tryz.f202) Tryz.func202 (by kernel_rfl) (by kernel_rfl) (by kernel_rfl) (Λ:=fun x=>Λ95 x.1) ?_ ?_ ?_
 ·rintro ⟨s,⟨⟩⟩ hw hn
  exact LoopsOK.at (by kernel_rfl) (.cons (by kernel_rfl) (Sh s (CZ (aU hw))) .nil)
 ·rintro ⟨s,⟨⟩⟩
  exact of_decide_eq_true (by kernel_rfl)
 ·rintro ⟨s,⟨⟩⟩ hw hn
  exact Vn s (CZ (aU hw))
theorem JU (s:ByteArray) :(bm s).length=s.size:=by
 have:s.data.size=s.size:=ByteArray.size_data
 simp [bm,this]
theorem LM (s:ByteArray) (i:Nat) (h:i<s.size) :(bm s).getD i (0:Int)=lV s i:=by
 have h1:i<s.data.size:=by rw [ByteArray.size_data];exact h
 simp [bm,lV,Array.getElem?_eq_getElem h1]
theorem Ti (s:ByteArray) (hx:s.size≤aJ) (i:Nat) (hi:tC s i) :(stepObl (J92 s) (tC s) (fun i=>s.size - i) i (T92 s) (bL (cf8 [] Tryz.f159) (fun _=>none) (az Tryz.f159 0) (J92 s i)) (L95 i)).1:=by
 refine cast (by kernel_rfl) (?_ :(decide ((↑i:Int) <(↑(bm s).length:Int))=true→(0≤(↑i:Int)∧(↑i:Int) <(↑(bm s).length:Int))∧((cond (!cond (decide ((bm s).getD (↑i:Int).toNat (dflt (Ty.int IntKind.u8))≥65)) (decide ((bm s).getD (↑i:Int).toNat (dflt (Ty.int IntKind.u8))≤90)) false) (cond ((↑i:Int)==0) true (cond ((bm s).getD (↑i:Int).toNat (dflt (Ty.int IntKind.u8)) != 95) (cond ((bm s).getD (↑i:Int).toNat (dflt (Ty.int IntKind.u8)) != 45) (cond (decide ((bm s).getD (↑i:Int).toNat (dflt (Ty.int IntKind.u8))<48)) true (decide ((bm s).getD (↑i:Int).toNat (dflt (Ty.int IntKind.u8))>57))) false) false)) false)=true→eM s s.size=false∧(false=false∧True)∧True)∧((cond (!cond (decide ((bm s).getD (↑i:Int).toNat (dflt (Ty.int IntKind.u8))≥65)) (decide ((bm s).getD (↑i:Int).toNat (dflt (Ty.int IntKind.u8))≤90)) false) (cond ((↑i:Int)==0) true (cond ((bm s).getD (↑i:Int).toNat (dflt (Ty.int IntKind.u8)) != 95) (cond ((bm s).getD (↑i:Int).toNat (dflt (Ty.int IntKind.u8)) != 45) (cond (decide ((bm s).getD (↑i:Int).toNat (dflt (Ty.int IntKind.u8))<48)) true (decide ((bm s).getD (↑i:Int).toNat (dflt (Ty.int IntKind.u8))>57))) false) false)) false)=false→tC s (i +(1:Nat))∧s.size - (i +(1:Nat))<s.size - i∧(s=s∧True∧(↑(bm s).length:Int) =(↑(bm s).length:Int)∧IntKind.i64.wrap ((↑i:Int)+1) =(↑(i +(1:Nat)):Int)∧True)∧RowD.mk (Ty.int IntKind.u8) (bm s)=RowD.mk (Ty.int IntKind.u8) (bm s)∧True))∧(decide ((↑i:Int) <(↑(bm s).length:Int))=false→eM s s.size=true∧(s=s∧True)∧True))
 have e :(i:Int).toNat=i:=by simp
 rw [e]
 have hb:s.size≤140737488355328:=hx
 have hlen:=JU s
 obtain ⟨hi1,hi2⟩:=hi
 have hbad :∀ c:Int,(bif !(bif decide (c≥65) then decide (c≤90) else false) then bif (i:Int)==0 then true else bif c != 95 then bif c != 45 then bif decide (c<48) then true else decide (c>57) else false else false else false)=vm i c:=fun c=>by
  simp only [vm,oT,Bool.cond_true_left,Bool.cond_false_right]
 rw [hbad]
 refine ⟨fun h1=>?_,fun h1=>⟨?_,⟨rfl,trivial⟩,trivial⟩⟩
 ·have h1:i <(bm s).length:=by simpa using h1
  have hat :(bm s).getD i (dflt (Ty.int IntKind.u8))=lV s i:=LM s i (by omega)
  rw [hat]
  refine ⟨⟨by omega,by omega⟩,fun h2=>⟨?_,⟨rfl,trivial⟩,trivial⟩,fun h2=>⟨⟨by omega,?_⟩,by omega,⟨rfl,trivial,rfl,by rw [de (by omega) (by omega)];omega,trivial⟩,rfl,trivial⟩⟩
  ·unfold eM
   rw [List.all_eq_false]
   exact ⟨i,List.mem_range.2 (by omega),by rw [h2];decide⟩
  ·unfold eM at hi2 ⊢
   rw [List.range_succ,List.all_append,hi2]
   simp [h2]
 ·have h1 :(bm s).length≤i:=by simpa using h1
  have:i=s.size:=by omega
  rw [←this];exact hi2
theorem Sf (s:ByteArray) (hx:s.size≤aJ):LoopOK Tryz.prog Tryz.f159.ntmps (az Tryz.f159 0) (ck ⟨[],[],40⟩ (J92 s 0) (T92 s)):=
 gD (bK (CtrsOK.nil) _) mixed (J92 s) (fun _=>rfl) (tC s) (fun i=>s.size - i) (fun _ _=>none) (fun _ _ _ _ _ h=>by cases h) (T92 s) [] [] 0 (⟨Nat.zero_le _,rfl⟩) L95 (fun i hi=>Ti s hx i hi)
theorem Vk (s:ByteArray) (hx:s.size≤aJ) :(evFn (cf8 [] Tryz.f159) (Λ92 s) Tryz.f159 (bF G5 (s,()))).sat fun v' rows=>leV v' (oo (s,())).v∧rows =(oo (s,())).rows:=by
 refine cast (by kernel_rfl) (?_ :((cZ fun x=>none)∧(s=s∧True∧(↑(bm s).length:Int) =(↑(bm s).length:Int)∧0 =(↑(0:Nat):Int)∧True)∧RowD.mk (Ty.int IntKind.u8) (bm s)=RowD.mk (Ty.int IntKind.u8) (bm s)∧True)∧(eM s s.size=true→(cond (decide ((↑s.size:Int)≥1)) (decide ((↑s.size:Int)≤16)) false)=iH s∧([]:List RowD)=[])∧(eM s s.size=false→false=iH s∧([]:List RowD)=[]))
 have hn:iH s =(eM s s.size&&(decide ((s.size:Int)≥1)&&decide ((s.size:Int)≤16))):=rfl
 refine ⟨⟨rfl,⟨rfl,trivial,rfl,rfl,trivial⟩,rfl,trivial⟩,fun h=>⟨?_,rfl⟩,fun h=>⟨?_,rfl⟩⟩
 ·rw [hn,h,Bool.true_and,Bool.cond_false_right]
 ·rw [hn,h,Bool.false_and]
theorem VX:CtrOK Tryz.prog K8 159 (au K8 G5 oo):=by
 refine aV (C:=cf8 [] Tryz.f159) (bK (CtrsOK.nil) _) mixed (fn:=Tryz.f159) Tryz.func159 (by kernel_rfl) (by kernel_rfl) (by kernel_rfl) (Λ:=fun x=>Λ92 x.1) ?_ ?_ ?_
 ·rintro ⟨s,⟨⟩⟩ hw hn
  exact LoopsOK.at (by kernel_rfl) (.cons (by kernel_rfl) (Sf s (CZ (aU hw))) .nil)
 ·rintro ⟨s,⟨⟩⟩
  exact of_decide_eq_true (by kernel_rfl)
 ·rintro ⟨s,⟨⟩⟩ hw hn
  exact Vk s (CZ (aU hw))
theorem LJ (r:Rules) :(bif bif r.FollowOn != 0 then r.Innings==1 else false then bif r.FollowOn != 0 then r.Innings==1 else false else bif r.Quota != 0 then r.Overs==0 else bif decide ((r.Power.length:Int)>0) then r.Overs==0 else false)=rT r:=by
 simp only [rT]
 generalize (r.FollowOn != 0)=a
 generalize (r.Innings==1)=b
 generalize (r.Quota != 0)=c
 generalize decide ((r.Power.length:Int)>0)=d
 generalize (r.Overs==0)=e
 cases a <;> cases b <;> cases c <;> cases d <;> cases e <;> rfl
theorem JP (r:Rules) :(bif r.FollowOn != 0 then bif r.Innings==1 then true else bif r.Overs==0 then bif r.Quota != 0 then true else decide ((r.Power.length:Int)>0) else false else bif r.Overs==0 then bif r.Quota != 0 then true else decide ((r.Power.length:Int)>0) else false)=rT r:=by
 simp only [rT]
 generalize (r.FollowOn != 0)=a
 generalize (r.Innings==1)=b
 generalize (r.Quota != 0)=c
 generalize decide ((r.Power.length:Int)>0)=d
 generalize (r.Overs==0)=e
 cases a <;> cases b <;> cases c <;> cases d <;> cases e <;> rfl
theorem vx (r:Rules) :(bif r.Quota != 0 then decide (IntKind.i64.wrap (r.Quota*r.Side)<r.Overs) else false)=A6 r:=by
 simp only [A6,Bool.cond_false_right]
theorem Tg (r:Rules) (hx:r.Power.length≤aJ) (i:Nat) (hi:tB r i) :(stepObl (J86 r) (tB r) (fun i=>r.Power.length - i) i (T94 r) (bL (cf8 [k95,k96] Tryz.f154) (fun _=>none) (az Tryz.f154 0) (J86 r i)) (L94 i)).1:=by
 refine cast (by kernel_rfl) (?_ :(decide ((↑i:Int) <(↑r.14.length:Int))=true→(0≤(↑i:Int)∧(↑i:Int) <(↑r.14.length:Int))∧((cond (decide ((r.14.getD (↑i:Int).toNat (dflt (Ty.nm Nm.Phase))).1<1)) true (cond (decide ((r.14.getD (↑i:Int).toNat (dflt (Ty.nm Nm.Phase))).2 <(r.14.getD (↑i:Int).toNat (dflt (Ty.nm Nm.Phase))).1)) true (cond (decide ((r.14.getD (↑i:Int).toNat (dflt (Ty.nm Nm.Phase))).2>r.4)) true (!ay (r.14.getD (↑i:Int).toNat (dflt (Ty.nm Nm.Phase))).3 0 11))))=true→(cD r (0:Nat) r.14.length != 0)=true∧(2=cD r (0:Nat) r.14.length∧True)∧True)∧((cond (decide ((r.14.getD (↑i:Int).toNat (dflt (Ty.nm Nm.Phase))).1<1)) true (cond (decide ((r.14.getD (↑i:Int).toNat (dflt (Ty.nm Nm.Phase))).2 <(r.14.getD (↑i:Int).toNat (dflt (Ty.nm Nm.Phase))).1)) true (cond (decide ((r.14.getD (↑i:Int).toNat (dflt (Ty.nm Nm.Phase))).2>r.4)) true (!ay (r.14.getD (↑i:Int).toNat (dflt (Ty.nm Nm.Phase))).3 0 11))))=false→((decide ((↑i:Int)>0)=true→(0≤IntKind.i64.wrap ((↑i:Int) - 1)∧IntKind.i64.wrap ((↑i:Int) - 1) <(↑r.14.length:Int))∧True)∧(decide ((↑i:Int)>0)=false→True))∧(true=true→((cond (decide ((↑i:Int)>0)) (decide ((r.14.getD (↑i:Int).toNat (dflt (Ty.nm Nm.Phase))).1≤(r.14.getD (IntKind.i64.wrap ((↑i:Int) - 1)).toNat (dflt (Ty.nm Nm.Phase))).2)) false)=true→(cD r (0:Nat) r.14.length != 0)=true∧(8=cD r (0:Nat) r.14.length∧True)∧True)∧((cond (decide ((↑i:Int)>0)) (decide ((r.14.getD (↑i:Int).toNat (dflt (Ty.nm Nm.Phase))).1≤(r.14.getD (IntKind.i64.wrap ((↑i:Int) - 1)).toNat (dflt (Ty.nm Nm.Phase))).2)) false)=false→tB r (i +(1:Nat))∧r.14.length - (i +(1:Nat))<r.14.length - i∧(True∧RowD.mk (Ty.nm Nm.Phase) r.14=RowD.mk (Ty.nm Nm.Phase) r.14∧(↑r.14.length:Int) =(↑r.14.length:Int)∧IntKind.i64.wrap ((↑i:Int)+1) =(↑(i +(1:Nat)):Int)∧True)∧(r.1=r.1∧r.2=r.2∧r.3=r.3∧r.4=r.4∧r.5=r.5∧r.6=r.6∧r.7=r.7∧r.8=r.8∧r.9=r.9∧r.10=r.10∧r.11=r.11∧r.12=r.12∧r.13=r.13∧RowD.mk (Ty.nm Nm.Phase) r.14=RowD.mk (Ty.nm Nm.Phase) r.14∧True)∧True))))∧(decide ((↑i:Int) <(↑r.14.length:Int))=false→(cD r (0:Nat) r.14.length != 0)=false∧True∧True))
 have e :(i:Int).toNat=i:=by simp
 rw [e]
 have hb:r.Power.length≤140737488355328:=hx
 have hp:r.Power.getD i (dflt (Ty.nm Nm.Phase))=bT r i:=rfl
 rw [hp]
 have hpb :(bif decide ((bT r i).From<1) then true else bif decide ((bT r i).To <(bT r i).From) then true else bif decide ((bT r i).To>r.Overs) then true else !ay (bT r i).Outside 0 11)=nK r (bT r i):=by
  simp only [nK,Bool.cond_true_left,gt_iff_lt]
 rw [hpb]
 obtain ⟨hi1,hi2⟩:=hi
 refine ⟨fun h1=>?_,fun h1=>?_⟩
 ·have h1:i<r.Power.length:=by simpa using h1
  have hn:r.Power.length - i =(r.Power.length - (i+1))+1:=by omega
  rw [hn,xG] at hi2
  have hw1:0<i→IntKind.i64.wrap ((i:Int) - 1) =((i - 1:Nat):Int):=fun h=>by rw [de (by omega) (by omega)];omega
  refine ⟨⟨by omega,by omega⟩,fun h2=>?_,fun h2=>⟨⟨fun h3=>?_,fun _=>trivial⟩,fun _=>⟨fun h3=>?_,fun h3=>?_⟩⟩⟩
  ·have hE:jf r i=2:=by simp only [jf,h2];rfl
   rw [hE] at hi2
   have hi2:cD r 0 r.Power.length=2:=hi2
   rw [hi2]
   exact ⟨rfl,⟨rfl,trivial⟩,trivial⟩
  ·have h3:0<i:=by simpa using h3
   rw [hw1 h3]
   exact ⟨⟨by omega,by omega⟩,trivial⟩
  ·have h4:0<i:=by
    by_cases h4:0<i
    ·exact h4
    ·have:i=0:=by omega
     subst this
     simp at h3
   rw [hw1 h4,Int.toNat_natCast] at h3
   have hq:r.Power.getD (i - 1) (dflt (Ty.nm Nm.Phase))=bT r (i - 1):=rfl
   rw [hq] at h3
   have h5 :(decide ((i:Int)>0)&&decide ((bT r i).From≤(bT r (i - 1)).To))=true:=by rw [←h3];cases decide ((i:Int)>0) <;> rfl
   have hE:jf r i=8:=by simp only [jf,h2,h5];rfl
   rw [hE] at hi2
   have hi2:cD r 0 r.Power.length=8:=hi2
   rw [hi2]
   exact ⟨rfl,⟨rfl,trivial⟩,trivial⟩
  ·have h5 :(decide ((i:Int)>0)&&decide ((bT r i).From≤(bT r (i - 1)).To))=false:=by
    by_cases h4:0<i
    ·rw [hw1 h4,Int.toNat_natCast] at h3
     have hq:r.Power.getD (i - 1) (dflt (Ty.nm Nm.Phase))=bT r (i - 1):=rfl
     rw [hq] at h3
     rw [←h3];cases decide ((i:Int)>0) <;> rfl
    ·have:i=0:=by omega
     subst this;rfl
   have hE:jf r i=0:=by simp only [jf,h2,h5];rfl
   rw [hE] at hi2
   have hi2:cD r 0 r.Power.length=cD r (i+1) (r.Power.length - (i+1)):=hi2
   exact ⟨⟨by omega,hi2⟩,by omega,⟨trivial,rfl,rfl,by rw [de (by omega) (by omega)];omega,trivial⟩,by simp⟩
 ·have h1:r.Power.length≤i:=by simpa using h1
  have h2:r.Power.length - i=0:=by omega
  rw [h2] at hi2
  have hi2:cD r 0 r.Power.length=0:=hi2
  rw [hi2]
  exact ⟨rfl,trivial,trivial⟩
theorem Sc (r:Rules) (hx:r.Power.length≤aJ):LoopOK Tryz.prog Tryz.f154.ntmps (az Tryz.f154 0) (ck ⟨[],[],8⟩ (J86 r 0) (T94 r)):=
 gD (bK (.cons UB (.cons UC .nil)) _) mixed (J86 r) (fun _=>rfl) (tB r) (fun i=>r.Power.length - i) (fun _ _=>none) (fun _ _ _ _ _ h=>by cases h) (T94 r) [] [] 0 (⟨Nat.zero_le _,rfl⟩) L94 (fun i hi=>Tg r hx i hi)
theorem Ve (r:Rules) (hx:r.Power.length≤aJ) :(evFn (cf8 [k95,k96] Tryz.f154) (Λ86 r) Tryz.f154 (bF qx (r,()))).sat fun v' rows=>leV v' (om (r,())).v∧rows =(om (r,())).rows:=by
 refine cast (by kernel_rfl) (?_ :((!iH r.1)=true→5=aq r∧([]:List RowD)=[])∧((!iH r.1)=false→((cond (!ay r.2 2 11) true (cond (!ay r.3 1 2) true (cond (!ay r.4 0 90) true (cond (!ay r.5 4 8) true (cond (!ay r.6 0 90) true (cond (!ay r.7 1 5) true (cond (!ay r.8 1 5) true (cond (!ay r.10 0 200) true (cond (!ay r.11 0 1000) true (cond (!ay r.12 0 9) true (!ay r.13 0 11)))))))))))=true→2=aq r∧([]:List RowD)=[])∧((cond (!ay r.2 2 11) true (cond (!ay r.3 1 2) true (cond (!ay r.4 0 90) true (cond (!ay r.5 4 8) true (cond (!ay r.6 0 90) true (cond (!ay r.7 1 5) true (cond (!ay r.8 1 5) true (cond (!ay r.10 0 200) true (cond (!ay r.11 0 1000) true (cond (!ay r.12 0 9) true (!ay r.13 0 11)))))))))))=false→((cond (r.11 != 0) (cond (r.3==1) true (cond (r.4==0) (cond (r.6 != 0) true (decide ((↑r.14.length:Int)>0))) false)) (cond (r.4==0) (cond (r.6 != 0) true (decide ((↑r.14.length:Int)>0))) false))=true→1=aq r∧([]:List RowD)=[])∧((cond (r.11 != 0) (cond (r.3==1) true (cond (r.4==0) (cond (r.6 != 0) true (decide ((↑r.14.length:Int)>0))) false)) (cond (r.4==0) (cond (r.6 != 0) true (decide ((↑r.14.length:Int)>0))) false))=false→((cond (r.6 != 0) (decide (IntKind.i64.wrap (r.6*r.2)<r.4)) false)=true→13=aq r∧([]:List RowD)=[])∧((cond (r.6 != 0) (decide (IntKind.i64.wrap (r.6*r.2)<r.4)) false)=false→(decide ((↑r.14.length:Int)>8)=true→9=aq r∧([]:List RowD)=[])∧(decide ((↑r.14.length:Int)>8)=false→((cZ fun x=>none)∧(True∧RowD.mk (Ty.nm Nm.Phase) r.14=RowD.mk (Ty.nm Nm.Phase) r.14∧(↑r.14.length:Int) =(↑r.14.length:Int)∧0 =(↑(0:Nat):Int)∧True)∧(r.1=r.1∧r.2=r.2∧r.3=r.3∧r.4=r.4∧r.5=r.5∧r.6=r.6∧r.7=r.7∧r.8=r.8∧r.9=r.9∧r.10=r.10∧r.11=r.11∧r.12=r.12∧r.13=r.13∧RowD.mk (Ty.nm Nm.Phase) r.14=RowD.mk (Ty.nm Nm.Phase) r.14∧True)∧True)∧((cD r (0:Nat) r.14.length != 0)=true→cD r (0:Nat) r.14.length=aq r∧([]:List RowD)=[])∧((cD r (0:Nat) r.14.length != 0)=false→0=aq r∧([]:List RowD)=[])))))))
 have hR :(bif !ay r.Side 2 11 then true else bif !ay r.Innings 1 2 then true else bif !ay r.Overs 0 90 then true else bif !ay r.Balls 4 8 then true else bif !ay r.Quota 0 90 then true else bif !ay r.Wide 1 5 then true else bif !ay r.NoBall 1 5 then true else bif !ay r.NewBall 0 200 then true else bif !ay r.FollowOn 0 1000 then true else bif !ay r.Reviews 0 9 then true else !ay r.Outside 0 11)=!cC r:=by
  simp only [cC,Bool.cond_true_left,Bool.not_and]
 rw [hR,JP,vx]
 have hP1 :(r.Power.length:Int)>8→eI r=9:=fun h=>by simp only [eI];rw [if_pos h]
 have hP2 :¬(r.Power.length:Int)>8→eI r=cD r 0 r.Power.length:=fun h=>by simp only [eI];rw [if_neg h]
 refine ⟨fun h1=>⟨?_,rfl⟩,fun h1=>⟨fun h2=>⟨?_,rfl⟩,fun h2=>⟨fun h3=>⟨?_,rfl⟩,fun h3=>⟨fun h4=>⟨?_,rfl⟩,fun h4=>⟨fun h5=>⟨?_,rfl⟩,fun h5=>⟨⟨rfl,⟨trivial,rfl,rfl,rfl,trivial⟩,by simp⟩,fun h6=>⟨?_,rfl⟩,fun h6=>⟨?_,rfl⟩⟩⟩⟩⟩⟩⟩
 ·simp only [aq,h1,if_true]
 ·simp only [aq,h1,h2,if_true];rfl
 ·simp only [aq,h1,h2,h3,if_true];rfl
 ·simp only [aq,h1,h2,h3,h4,if_true];rfl
 ·simp only [aq,h1,h2,h3,h4];rw [hP1 (of_decide_eq_true h5)];rfl
 ·simp only [aq,h1,h2,h3,h4];rw [hP2 (of_decide_eq_false h5)];rfl
 ·simp only [aq,h1,h2,h3,h4];rw [hP2 (of_decide_eq_false h5)]
  have h6:cD r 0 r.Power.length=0:=by simpa using h6
  rw [h6];rfl
theorem wS:CtrOK Tryz.prog K8 154 (au K8 qx om):=by
 refine aV (C:=cf8 [k95,k96] Tryz.f154) (bK (.cons UB (.cons UC .nil)) _) mixed (fn:=Tryz.f154) Tryz.func154 (by kernel_rfl) (by kernel_rfl) (by kernel_rfl) (Λ:=fun x=>Λ86 x.1) ?_ ?_ ?_
 ·rintro ⟨r,⟨⟩⟩ hw hn
  exact LoopsOK.at (by kernel_rfl) (.cons (by kernel_rfl) (Sc r (iQ (aU hw))) .nil)
 ·rintro ⟨r,⟨⟩⟩
  exact of_decide_eq_true (by kernel_rfl)
 ·rintro ⟨r,⟨⟩⟩ hw hn
  exact Ve r (iQ (aU hw))
theorem Vd (r:Rules) :(evFn (cf8 [k92,k93,k94] Tryz.f90) (fun _=>none) Tryz.f90 (bF qx (r,()))).sat fun v' rows=>leV v' (om (r,())).v∧rows =(om (r,())).rows:=by
 refine cast (by kernel_rfl) (?_ :((!iH r.1)=true→5=aq r∧([]:List RowD)=[])∧((!iH r.1)=false→((!cC r)=true→2=aq r∧([]:List RowD)=[])∧((!cC r)=false→((cond (cond (r.11 != 0) (r.3==1) false) (cond (r.11 != 0) (r.3==1) false) (cond (r.6 != 0) (r.4==0) (cond (decide ((↑r.14.length:Int)>0)) (r.4==0) false)))=true→1=aq r∧([]:List RowD)=[])∧((cond (cond (r.11 != 0) (r.3==1) false) (cond (r.11 != 0) (r.3==1) false) (cond (r.6 != 0) (r.4==0) (cond (decide ((↑r.14.length:Int)>0)) (r.4==0) false)))=false→((cond (r.6 != 0) (decide (IntKind.i64.wrap (r.6*r.2)<r.4)) false)=true→13=aq r∧([]:List RowD)=[])∧((cond (r.6 != 0) (decide (IntKind.i64.wrap (r.6*r.2)<r.4)) false)=false→eI r=aq r∧([]:List RowD)=[])))))
 rw [LJ,vx]
 simp only [aq]
 repeat' first|refine And.intro ?_ ?_|intro _
 all_goals first|rfl |(simp_all;done)|grind
theorem wR:CtrOK Tryz.prog K8 90 (au K8 qx om):=by
 refine aV (C:=cf8 [k92,k93,k94] Tryz.f90) (bK (.cons VX (.cons VY (.cons VZ .nil))) _) mixed (fn:=Tryz.f90) Tryz.func90 (by kernel_rfl) (by kernel_rfl) (by kernel_rfl) (Λ:=fun _ _=>none) ?_ ?_ ?_
 ·exact fun _ _ _ _ _ _ _ _ h=>by cases h
 ·rintro ⟨r,⟨⟩⟩
  exact of_decide_eq_true (by kernel_rfl)
 ·rintro ⟨r,⟨⟩⟩ hw hn
  exact Vd r
theorem oL {x:Innings} {p:Int} (hp:gP p) (h:bG x p=true):IntKind.i64.wrap (p - 1)=p - 1∧0≤p - 1∧p - 1 <(x.Bowled.length:Int):=by
 simp only [bG,Bool.and_eq_true,decide_eq_true_eq] at h
 have:=hp.2
 exact ⟨de (by omega) (by omega),by omega,by omega⟩
theorem U9 (r:Rules) (x:Innings) (p:Int) (hp:gP p) :(evFn (cf8 [k84,k85] Tryz.f394) (fun _=>none) Tryz.f394 (bF tY (r,x,p,()))).sat fun v' rows=>leV v' (CK (r,x,p,())).v∧rows =(CK (r,x,p,())).rows:=by
 refine cast (by kernel_rfl) (?_ :((cond (!bG x p) true (aq r != 0))=true→0=dc r x p∧([]:List RowD)=[])∧((cond (!bG x p) true (aq r != 0))=false→((r.6==0)=true→(-1:Int)=dc r x p∧([]:List RowD)=[])∧((r.6==0)=false→(0≤IntKind.i64.wrap (p - 1)∧IntKind.i64.wrap (p - 1) <(↑x.16.length:Int))∧(if 0>IntKind.i64.wrap (IntKind.i64.wrap (r.6*r.5) - if 0>x.16.getD (IntKind.i64.wrap (p - 1)).toNat (dflt (Ty.int IntKind.i64)) then 0 else x.16.getD (IntKind.i64.wrap (p - 1)).toNat (dflt (Ty.int IntKind.i64))) then 0 else IntKind.i64.wrap (IntKind.i64.wrap (r.6*r.5) - if 0>x.16.getD (IntKind.i64.wrap (p - 1)).toNat (dflt (Ty.int IntKind.i64)) then 0 else x.16.getD (IntKind.i64.wrap (p - 1)).toNat (dflt (Ty.int IntKind.i64))))=dc r x p∧([]:List RowD)=[])))
 have h0 :(bif !bG x p then true else aq r != 0) =(!bG x p||aq r != 0):=by cases bG x p <;> rfl
 rw [h0]
 refine ⟨fun h=>⟨?_,rfl⟩,fun h=>⟨fun h2=>⟨?_,rfl⟩,fun h2=>⟨?_,?_,rfl⟩⟩⟩
 ·simp only [dc,h,if_true]
 ·simp only [dc,h,h2,if_true];rfl
 ·have hk:bG x p=true:=by
   cases hk:bG x p with
   | true=>rfl
   | false=>rw [hk] at h;cases h
  obtain ⟨e,h3,h4⟩:=oL hp hk
  rw [e];exact ⟨h3,h4⟩
 ·have hk:bG x p=true:=by
   cases hk:bG x p with
   | true=>rfl
   | false=>rw [hk] at h;cases h
  obtain ⟨e,h3,h4⟩:=oL hp hk
  rw [e]
  simp only [dc,h,h2]
  rfl
theorem VU:CtrOK Tryz.prog K8 394 (au K8 tY CK):=by
 refine aV (C:=cf8 [k84,k85] Tryz.f394) (bK (.cons SK (.cons wR .nil)) _) mixed (fn:=Tryz.f394) Tryz.func394 (by kernel_rfl) (by kernel_rfl) (by kernel_rfl) (Λ:=fun _ _=>none) ?_ ?_ ?_
 ·exact fun _ _ _ _ _ _ _ _ h=>by cases h
 ·rintro ⟨r,x,p,⟨⟩⟩
  exact of_decide_eq_true (by kernel_rfl)
 ·rintro ⟨r,x,p,⟨⟩⟩ hw hn
  exact U9 r x p (dk (aU (aN (aN hw))))
theorem Va (r:Rules) (x:Innings) (p:Int) (hp:gP p) :(evFn (cf8 [k47,k81,k84,k85] Tryz.f374) (fun _=>none) Tryz.f374 (bF tY (r,x,p,()))).sat fun v' rows=>leV v' (CL (r,x,p,())).v∧rows =(CL (r,x,p,())).rows:=by
 refine cast (by kernel_rfl) (?_ :((cond (!bG x p) true (aq r != 0))=true→3=fT r x p∧([]:List RowD)=[])∧((cond (!bG x p) true (aq r != 0))=false→((decide (p≤(↑x.21.length:Int))=true→(0≤IntKind.i64.wrap (p - 1)∧IntKind.i64.wrap (p - 1) <(↑x.21.length:Int))∧True)∧(decide (p≤(↑x.21.length:Int))=false→True))∧(true=true→((cond (p==x.19) true (cond (p==x.12) true (cond (decide (p≤(↑x.21.length:Int))) (x.21.getD (IntKind.i64.wrap (p - 1)).toNat (dflt Ty.bool)) false)))=true→7=fT r x p∧([]:List RowD)=[])∧((cond (p==x.19) true (cond (p==x.12) true (cond (decide (p≤(↑x.21.length:Int))) (x.21.getD (IntKind.i64.wrap (p - 1)).toNat (dflt Ty.bool)) false)))=false→(cO x.14 p=true→8=fT r x p∧([]:List RowD)=[])∧(cO x.14 p=false→((cond (dc r x p !=(-1:Int)) (decide (x.8<IntKind.i64.wrap (r.5 - dc r x p))) false)=true→9=fT r x p∧([]:List RowD)=[])∧((cond (dc r x p !=(-1:Int)) (decide (x.8<IntKind.i64.wrap (r.5 - dc r x p))) false)=false→0=fT r x p∧([]:List RowD)=[]))))))
 have h0 :(bif !bG x p then true else aq r != 0) =(!bG x p||aq r != 0):=by cases bG x p <;> rfl
 rw [h0]
 refine ⟨fun h=>⟨?_,rfl⟩,fun h=>?_⟩
 ·simp only [fT,h,if_true]
 ·have hk:bG x p=true:=by
   cases hk:bG x p with
   | true=>rfl
   | false=>rw [hk] at h;cases h
  have hp1:p≥1:=by
   simp only [bG,Bool.and_eq_true,decide_eq_true_eq] at hk
   exact hk.1
  have hw:IntKind.i64.wrap (p - 1)=p - 1:=by have:=hp.2;exact de (by omega) (by omega)
  rw [hw]
  have hrep :(bif decide (p≤(x.Subs.length:Int)) then x.Subs.getD (p - 1).toNat (dflt Ty.bool) else false)=aG x p:=by
   simp only [aG,bC,decide_eq_true hp1,Bool.true_and]
   cases decide (p≤(x.Subs.length:Int)) <;> rfl
  rw [hrep]
  have hq :(bif p==x.Keeper then true else bif p==x.Bowler then true else aG x p) =(p==x.Keeper ||(p==x.Bowler||aG x p)):=by simp only [Bool.cond_true_left]
  rw [hq,Bool.cond_false_right]
  refine ⟨⟨fun h1=>⟨?_,trivial⟩,fun _=>trivial⟩,fun _=>⟨fun h1=>⟨?_,rfl⟩,fun h1=>⟨fun h2=>⟨?_,rfl⟩,fun h2=>⟨fun h3=>⟨?_,rfl⟩,fun h3=>⟨?_,rfl⟩⟩⟩⟩⟩
  ·have h1:p≤(x.Subs.length:Int):=of_decide_eq_true h1
   exact ⟨by omega,by omega⟩
  ·simp only [fT,h,h1];rfl
  ·simp only [fT,h,h1,h2];rfl
  ·simp only [fT,h,h1,h2,h3];rfl
  ·simp only [fT,h,h1,h2,h3];rfl
theorem VV:CtrOK Tryz.prog K8 374 (au K8 tY CL):=by
 refine aV (C:=cf8 [k47,k81,k84,k85] Tryz.f374) (bK (.cons Pf (.cons VU (.cons SK (.cons wR .nil)))) _) mixed (fn:=Tryz.f374) Tryz.func374 (by kernel_rfl) (by kernel_rfl) (by kernel_rfl) (Λ:=fun _ _=>none) ?_ ?_ ?_
 ·exact fun _ _ _ _ _ _ _ _ h=>by cases h
 ·rintro ⟨r,x,p,⟨⟩⟩
  exact of_decide_eq_true (by kernel_rfl)
 ·rintro ⟨r,x,p,⟨⟩⟩ hw hn
  exact Va r x p (dk (aU (aN (aN hw))))
theorem AY {x:Innings} (h:wfD (.nm .Innings) x):gP x.Bowler:=
 dk (aU (aN (aN (aN (aN (aN (aN (aN (aN (aN (aN (aN (JM h)))))))))))))
theorem Df (x:Innings) (c:Bool) :(cw x c).InOver =(bif c then IntKind.i64.wrap (x.InOver+1) else x.InOver):=by cases c <;> rfl
theorem uH {r:Rules} {x:Innings} (c:Bool) (h:fv r x=true):aH r x c=x∧fm r x c=false:=by
 unfold aH fm
 rw [if_pos h,if_pos h]
 exact ⟨rfl,rfl⟩
theorem kC {r:Rules} {x:Innings} {c:Bool} (h:fv r x=false) (h2:decide ((bif c then IntKind.i64.wrap (x.InOver+1) else x.InOver)<r.Balls)=true):aH r x c=cw x c∧fm r x c=false:=by
 have h3 :(cw x c).InOver<r.Balls:=by rw [Df];exact of_decide_eq_true h2
 unfold aH fm
 simp only [h,h3,if_true,Bool.false_eq_true,if_false,and_self]
theorem gb {r:Rules} {x:Innings} {c:Bool} (h:fv r x=false) (h2:decide ((bif c then IntKind.i64.wrap (x.InOver+1) else x.InOver)<r.Balls)=false):aH r x c=xa (cw x c)∧fm r x c=true:=by
 have h3 :¬(cw x c).InOver<r.Balls:=by rw [Df];exact of_decide_eq_false h2
 unfold aH fm
 simp only [h,h3,Bool.false_eq_true,if_false,and_self]
end
section
open Go Go.Mir
attribute [local irreducible] Go.Mir.DT.sat Go.Mir.evPat Go.Mir.RT.sat Go.Mir.evFn
abbrev qRI:Pat:=bX [.nm .Rules,.nm .Innings]
def xc (r:Rules) (x:Innings):Bool:=r.Overs==0&&x.Overs==0||r.Overs != 0&&inW x.Overs 1 r.Overs
def rq (r:Rules) (x:Innings):Bool:=(x.Batters.length:Int)==r.Side&&((x.Bowled.length:Int)==r.Side&&(x.Subs.length:Int)==r.Side)
def xY (x:Innings):List Int:= [x.Target,x.Runs,x.Extras.Wides,x.Extras.NoBalls,x.Extras.Byes,x.Extras.LegByes,x.Extras.Penalties,x.Complete,x.BallAge,x.Outside,x.Reviews.1,x.Reviews.2.1]
def aW (r:Rules) (x:Innings):Bool:=
 aq r==0&&(inW x.Side 1 2&&(rq r x&&(decide (x.Ending≤5)&&(mU x r.Side&&(inW x.Bowler 0 r.Side&&(inW x.Keeper 0 r.Side&&(c9 x.Bowlers r.Side&&(c9 x.Before r.Side&&(xc r x&&(inW x.InOver 0 (W (r.Balls - 1))&&qh x))))))))))
def sY:Den (tyP qRI)→List Prop×Den (tyP ax):=fun x=>([ai x.2.1],(aW x.1 x.2.1,()))
def pq (r:Rules) (x:Innings):Int:=
 if !aW r x then 0 else if decide (x.Target>0)&&decide (x.Runs≥x.Target) then 3 else if cf x&&jZ x then 1 else if decide (x.Overs>0)&&decide (x.Complete≥x.Overs) then 2 else 0
def Lt:Den (tyP qRI)→List Prop×Den (tyP qH):=fun x=>([ai x.2.1],(pq x.1 x.2.1,()))
def rW (r:Rules) (x:Innings):Int:=W (W (x.Complete*r.Balls)+x.InOver)
def sN:Den (tyP qRI)→List Prop×Den (tyP bb):=fun x=>([],(rW x.1 x.2.1,()))
def yw (x:Innings):Innings:={ x with Runs:=W (x.Runs+5),Extras:={ x.Extras with Penalties:=W (x.Extras.Penalties+5) } }
def AG:Den (tyP qIn)→List Prop×Den (tyP qIn):=fun x=>([ai x.1],(yw x.1,()))
def pf:Den (tyP qIn)→List Prop×Den (tyP qIn):=fun x=>([ai x.1],(x.1,()))
def xb (r:Rules) (x:Innings):Bool:=!(r.Overs==0&&x.Overs != 0||decide (r.Overs>0)&&!inW x.Overs 1 r.Overs)
def It (r:Rules) (x:Innings):Bool:=
 aq r==0&&(inW x.Side 1 2&&(rq r x&&(decide (x.Ending≤5)&&(inW x.Striker 0 r.Side&&(inW x.Other 0 r.Side&&(inW x.Bowler 0 r.Side&&(inW x.Keeper 0 r.Side&&(c9 x.Bowlers r.Side&&(c9 x.Before r.Side&&(uh x&&(xb r x&&(inW x.InOver 0 (W (r.Balls - 1))&&(!eJ (xY x)&&!eJ x.Bowled)))))))))))))
abbrev gZ:Pat:=bX [.nm .Rules,.nm .Innings,.nm .Event]
abbrev qIE:Pat:=bX [.nm .Innings,.nm .Event]
abbrev JE:Pat:=bX [.nm .Rules,.nm .Innings,I,I]
abbrev JD:Pat:=bX [.nm .Rules,.nm .Innings,I,.bool]
def jK (r:Rules) (x:Innings) (e:Mir.Event):Int:=if e.Side != x.Side then 2 else if r.Overs != 0 then 20 else 0
def lr (r:Rules) (x:Innings) (e:Mir.Event):Innings:=if jK r x e != 0 then x else { x with Ending:=4 }
def N4:Den (tyP gZ)→List Prop×Den (tyP q2L):=fun x=>([ai x.2.1],(lr x.1 x.2.1 x.2.2.1,jK x.1 x.2.1 x.2.2.1,()))
def lI (e:Mir.Event):Int:=if e.Runs != 5 then 23 else 0
def qu (x:Innings) (e:Mir.Event):Innings:=if lI e != 0 then x else if e.Side==x.Side then yw x else if x.Target>0 then { x with Target:=W (x.Target+5) } else x
def xC:Den (tyP qIE)→List Prop×Den (tyP q2L):=fun x=>([ai x.1],(qu x.1 x.2.1,lI x.2.1,()))
def EX (x:Innings) (s:Int):Int:=if s==1 then x.Reviews.1 else x.Reviews.2.1
def fI (r:Rules) (x:Innings) (s:Int):Int:=if !x.Fresh||decide (EX x s≥r.Reviews) then 24 else 0
def rJ (x:Innings) (s:Int):Innings:={ x with Reviews:=if s==1 then (W (x.Reviews.1+1),x.Reviews.2.1,()) else (x.Reviews.1,W (x.Reviews.2.1+1),()) }
def gI (r:Rules) (x:Innings) (s:Int) (k:Bool):Innings:=if fI r x s != 0 then x else if k then x else rJ x s
def gJ (s:Int):Prop:=s=1∨s=2
def Cl:Den (tyP gZ)→List Prop×Den (tyP q2L):=fun x=>([ai x.2.1,gJ x.2.2.1.Side],(gI x.1 x.2.1 x.2.2.1.Side x.2.2.1.Yes,fI x.1 x.2.1 x.2.2.1.Side,()))
def sU:Den (tyP JD)→List Prop×Den (tyP q2L):=fun x=>([gJ x.2.2.1],(gI x.1 x.2.1 x.2.2.1 x.2.2.2.1,fI x.1 x.2.1 x.2.2.1,()))
def iY (r:Rules) (x:Innings) (t o:Int):Bool:=
 r.Overs==0 ||(t==0&&o==0 ||(decide (t>0)&&(x.Target==0||decide (t≤x.Runs))||decide (o>0)&&(decide (o>r.Overs)||decide (W (o*r.Balls)<rW r x))))
def nW (r:Rules) (x:Innings) (t o:Int):Int:=if iY r x t o then 25 else 0
def N0 (x:Innings) (t:Int):Innings:=if t>0 then { x with Target:=t } else x
def Qt (x:Innings) (o:Int):Innings:=if o>0 then { x with Overs:=o } else x
def mw (r:Rules) (x:Innings) (t o:Int):Innings:=if iY r x t o then x else Qt (N0 x t) o
def Cm:Den (tyP gZ)→List Prop×Den (tyP q2L):=fun x=>([ai x.2.1],(mw x.1 x.2.1 x.2.2.1.Runs x.2.2.1.Overs,nW x.1 x.2.1 x.2.2.1.Runs x.2.2.1.Overs,()))
def sV:Den (tyP JE)→List Prop×Den (tyP q2L):=fun x=>([],(mw x.1 x.2.1 x.2.2.1 x.2.2.2.1,nW x.1 x.2.1 x.2.2.1 x.2.2.2.1,()))
theorem KZ (x:Innings) (hs:ai x) :(evPat (al [k45,k90,k91] Tryz.f278) (fun _=>none) Tryz.f278 qIn qIn (x,())).sat fun z_=>z_ =(pf (x,())).2:=by
 refine cast (by kernel_rfl) (?_:x.11.length≤(1000000:Nat)∧x.13.length≤(1000000:Nat)∧x.14.length≤(1000000:Nat)∧x.16.length≤(1000000:Nat)∧x.21.length≤(1000000:Nat)∧(x,()) =(x,()))
 obtain ⟨h1,h2,h3,h4,h5⟩:=hs
 simp [h1,h2,h3,h4,h5]
def dU:FuncId×Ctr:=(278,ae KE qIn qIn pf)
theorem iI:CtrOK Tryz.prog KE 278 (ae KE qIn qIn pf):=by
 refine an (C:=al [k45,k90,k91] Tryz.f278) (aj (.consU Pe rfl (.consU Pj rfl (.consU Pk rfl .nil))) _) mixed (fn:=Tryz.f278) Tryz.func278 (by kernel_rfl) (by kernel_rfl) (by kernel_rfl) (by kernel_rfl) (by kernel_rfl) (by kernel_rfl) (Λ:=fun _ _=>none) ?_ ?_
 ·exact fun _ _ _ _ _ _ _ _ h=>by cases h
 ·rintro ⟨x,⟨⟩⟩ hw hn
  exact KZ x (hn _ List.mem_cons_self)
theorem Fx (x:Innings) (hs:ai x) :(evPat (al [k44] Tryz.f238) (fun _=>none) Tryz.f238 qIn qIn (x,())).sat fun z_=>z_ =(pf (x,())).2:=by
 refine cast (by kernel_rfl) (?_:ai x∧(x,()) =(x,()))
 exact ⟨hs,rfl⟩
def lD:FuncId×Ctr:=(238,ae KE qIn qIn pf)
theorem qo:CtrOK Tryz.prog KE 238 (ae KE qIn qIn pf):=by
 refine an (C:=al [k44] Tryz.f238) (aj (.consU sC rfl .nil) _) mixed (fn:=Tryz.f238) Tryz.func238 (by kernel_rfl) (by kernel_rfl) (by kernel_rfl) (by kernel_rfl) (by kernel_rfl) (by kernel_rfl) (Λ:=fun _ _=>none) ?_ ?_
 ·exact fun _ _ _ _ _ _ _ _ h=>by cases h
 ·rintro ⟨x,⟨⟩⟩ hw hn
  exact Fx x (hn _ List.mem_cons_self)
theorem K0 (r:Rules) (x:Innings) (hs:ai x) :(evPat (al [k85,dn,zj,Mr,zl] Tryz.f272) (fun _=>none) Tryz.f272 qRI ax (r,x,())).sat fun z_=>z_ =(sY (r,x,())).2:=by
 refine cast (by kernel_rfl) (?_:let r1:Bool:=inW x.8 0 (IntKind.i64.wrap (r.5 - 1));let r2:Bool:=cond (r.4 != 0) (inW x.3 1 r.4) false;let r3:Bool:=cond (aq r != 0) true (!inW x.1 1 2);let r4:Bool:=cond (!mU x r.2) true (cond (!inW x.12 0 r.2) true (cond (!inW x.19 0 r.2) true (cond (!c9 x.13 r.2) true (!c9 x.14 r.2))));let r5:Bool:=cond ((↑x.11.length:Int) != r.2) true (cond ((↑x.16.length:Int) != r.2) true (cond ((↑x.21.length:Int) != r.2) true (decide (x.23>5))));let r6:Bool:=cond (r.4==0) (cond (x.3==0) true r2) r2;(r3=true→(false,()) =(aW r x,()))∧(r3=false→(r5=true→(false,()) =(aW r x,()))∧(r5=false→(ai x∧((!mU x r.2)=true→True)∧((!mU x r.2)=false→((!inW x.12 0 r.2)=true→True)∧((!inW x.12 0 r.2)=false→((!inW x.19 0 r.2)=true→True)∧((!inW x.19 0 r.2)=false→((!c9 x.13 r.2)=true→True)∧((!c9 x.13 r.2)=false→True)))))∧(true=true→(r4=true→(false,()) =(aW r x,()))∧(r4=false→((r6=true→(r1=true→ai x∧True)∧(r1=false→True))∧(r6=false→True))∧(true=true→(cond r6 (cond r1 (qh x) false) false,()) =(aW r x,())))))))
 intro r1 r2 r3 r4 r5 r6
 clear_value (hr1:r1=_) (hr2:r2=_) (hr3:r3=_) (hr4:r4=_) (hr5:r5=_) (hr6:r6=_)
 have e3:r3=!(aq r==0&&inW x.Side 1 2):=by grind
 have e5:r5=!(rq r x&&decide (x.Ending≤5)):=by
  have hd:decide (x.Ending>5)=!decide (x.Ending≤5):=by by_cases h:x.Ending≤5 <;> simp [h] <;> omega
  rw [hr5,hd]
  unfold rq
  cases h1 :(x.Batters.length:Int)==r.Side <;> cases h2 :(x.Bowled.length:Int)==r.Side <;> cases h3 :(x.Subs.length:Int)==r.Side <;> simp [bne,h1,h2,h3]
 have e4:r4=!(mU x r.Side&&(inW x.Bowler 0 r.Side&&(inW x.Keeper 0 r.Side&&(c9 x.Bowlers r.Side&&c9 x.Before r.Side)))):=by rw [hr4];cases mU x r.Side <;> cases inW x.Bowler 0 r.Side <;> cases inW x.Keeper 0 r.Side <;> cases c9 x.Bowlers r.Side <;> rfl
 have e6:r6=xc r x:=by grind [xc]
 have hv:aW r x =(!r3&&(!r5&&(!r4&&(r6&&(r1&&qh x))))):=by rw [e3,e5,e4,e6,hr1];unfold aW;simp only [Bool.not_not,Bool.and_assoc]
 rw [hv]
 cases r3 <;> cases r5 <;> cases r4 <;> cases r6 <;> cases r1 <;> simp [hs]
def ra:FuncId×Ctr:=(272,ae KE qRI ax sY)
theorem wW:CtrOK Tryz.prog KE 272 (ae KE qRI ax sY):=by
 refine an (C:=al [k85,dn,zj,Mr,zl] Tryz.f272) (aj (.consU wR rfl (.consU fV rfl (.consU Gy rfl (.consU Pz rfl (.consU GA rfl .nil))))) _) mixed (fn:=Tryz.f272) Tryz.func272 (by kernel_rfl) (by kernel_rfl) (by kernel_rfl) (by kernel_rfl) (by kernel_rfl) (by kernel_rfl) (Λ:=fun _ _=>none) ?_ ?_
 ·exact fun _ _ _ _ _ _ _ _ h=>by cases h
 ·rintro ⟨r,x,⟨⟩⟩ hw hn
  exact K0 r x (hn _ List.mem_cons_self)
theorem KW (r:Rules) (x:Innings) :(evPat (al [] Tryz.f384) (fun _=>none) Tryz.f384 qRI bb (r,x,())).sat fun z_=>z_ =(sN (r,x,())).2:=by
 refine cast (by kernel_rfl) (?_ :(IntKind.i64.wrap (IntKind.i64.wrap (x.7*r.5)+x.8),()) =(rW r x,()))
 rfl
def I1:FuncId×Ctr:=(384,ae KE qRI bb sN)
theorem MV:CtrOK Tryz.prog KE 384 (ae KE qRI bb sN):=by
 refine an (C:=al [] Tryz.f384) (aj (CtrsOK.nil) _) mixed (fn:=Tryz.f384) Tryz.func384 (by kernel_rfl) (by kernel_rfl) (by kernel_rfl) (by kernel_rfl) (by kernel_rfl) (by kernel_rfl) (Λ:=fun _ _=>none) ?_ ?_
 ·exact fun _ _ _ _ _ _ _ _ h=>by cases h
 ·rintro ⟨r,x,⟨⟩⟩ hw hn
  exact KW r x
theorem Fv (r:Rules) (x:Innings) :(evPat (al [] Tryz.f368) (fun _=>none) Tryz.f368 qRI bb (r,x,())).sat fun z_=>z_ =(sN (r,x,())).2:=by
 refine cast (by kernel_rfl) (?_ :(IntKind.i64.wrap (IntKind.i64.wrap (x.7*r.5)+x.8),()) =(rW r x,()))
 rfl
def zI:FuncId×Ctr:=(368,ae KE qRI bb sN)
theorem GN:CtrOK Tryz.prog KE 368 (ae KE qRI bb sN):=by
 refine an (C:=al [] Tryz.f368) (aj (CtrsOK.nil) _) mixed (fn:=Tryz.f368) Tryz.func368 (by kernel_rfl) (by kernel_rfl) (by kernel_rfl) (by kernel_rfl) (by kernel_rfl) (by kernel_rfl) (Λ:=fun _ _=>none) ?_ ?_
 ·exact fun _ _ _ _ _ _ _ _ h=>by cases h
 ·rintro ⟨r,x,⟨⟩⟩ hw hn
  exact Fv r x
theorem Fe (x:Innings) (hs:ai x) :(evPat (al [dU] Tryz.f323) (fun _=>none) Tryz.f323 qIn qIn (x,())).sat fun z_=>z_ =(AG (x,())).2:=by
 refine cast (by kernel_rfl) (?_:ai x∧(Innings.mk x.1 x.2 x.3 (IntKind.i64.wrap (x.4+5)) x.5 (Extras.mk x.6.1 x.6.2 x.6.3 x.6.4 (IntKind.i64.wrap (x.6.5+5))) x.7 x.8 x.9 x.10 x.11 x.12 x.13 x.14 x.15 x.16 x.17 x.18 x.19 x.20 x.21 x.22 x.23,()) =(yw x,()))
 exact ⟨hs,rfl⟩
def lB:FuncId×Ctr:=(323,ae KE qIn qIn AG)
theorem qn:CtrOK Tryz.prog KE 323 (ae KE qIn qIn AG):=by
 refine an (C:=al [dU] Tryz.f323) (aj (.consU iI rfl .nil) _) mixed (fn:=Tryz.f323) Tryz.func323 (by kernel_rfl) (by kernel_rfl) (by kernel_rfl) (by kernel_rfl) (by kernel_rfl) (by kernel_rfl) (Λ:=fun _ _=>none) ?_ ?_
 ·exact fun _ _ _ _ _ _ _ _ h=>by cases h
 ·rintro ⟨x,⟨⟩⟩ hw hn
  exact Fe x (hn _ List.mem_cons_self)
theorem yD (x:Innings) (hs:ai x) :(evPat (al [lD] Tryz.f291) (fun _=>none) Tryz.f291 qIn qIn (x,())).sat fun z_=>z_ =(AG (x,())).2:=by
 refine cast (by kernel_rfl) (?_:ai x∧(Innings.mk x.1 x.2 x.3 (IntKind.i64.wrap (x.4+5)) x.5 (Extras.mk x.6.1 x.6.2 x.6.3 x.6.4 (IntKind.i64.wrap (x.6.5+5))) x.7 x.8 x.9 x.10 x.11 x.12 x.13 x.14 x.15 x.16 x.17 x.18 x.19 x.20 x.21 x.22 x.23,()) =(yw x,()))
 exact ⟨hs,rfl⟩
def iG:FuncId×Ctr:=(291,ae KE qIn qIn AG)
theorem ml:CtrOK Tryz.prog KE 291 (ae KE qIn qIn AG):=by
 refine an (C:=al [lD] Tryz.f291) (aj (.consU qo rfl .nil) _) mixed (fn:=Tryz.f291) Tryz.func291 (by kernel_rfl) (by kernel_rfl) (by kernel_rfl) (by kernel_rfl) (by kernel_rfl) (by kernel_rfl) (Λ:=fun _ _=>none) ?_ ?_
 ·exact fun _ _ _ _ _ _ _ _ h=>by cases h
 ·rintro ⟨x,⟨⟩⟩ hw hn
  exact yD x (hn _ List.mem_cons_self)
theorem Ho (r:Rules) (x:Innings) (hs:ai x) :(evPat (al [ra,iE,Bu] Tryz.f322) (fun _=>none) Tryz.f322 qRI qH (r,x,())).sat fun z_=>z_ =(Lt (r,x,())).2:=by
 refine cast (by kernel_rfl) (?_:let r1:Bool:=cond (cf x) ((↑(tK x).length:Int)==0) false;let r2:Bool:=cond (decide (x.2>0)) (decide (x.4≥x.2)) false;let r3:Bool:=cond (decide (x.3>0)) (decide (x.7≥x.3)) false;ai x∧((!aW r x)=true→(0,()) =(pq r x,()))∧((!aW r x)=false→(r2=true→(3,()) =(pq r x,()))∧(r2=false→((cf x=true→ai x∧True)∧(cf x=false→True))∧(true=true→(r1=true→(1,()) =(pq r x,()))∧(r1=false→(r3=true→(2,()) =(pq r x,()))∧(r3=false→(0,()) =(pq r x,())))))))
 intro r1 r2 r3
 clear_value (hr1:r1=_) (hr2:r2=_) (hr3:r3=_)
 grind [pq,jZ]
def DJ:FuncId×Ctr:=(322,ae KE qRI qH Lt)
theorem Ko:CtrOK Tryz.prog KE 322 (ae KE qRI qH Lt):=by
 refine an (C:=al [ra,iE,Bu] Tryz.f322) (aj (.consU wW rfl (.consU oZ rfl (.consU Jp rfl .nil))) _) mixed (fn:=Tryz.f322) Tryz.func322 (by kernel_rfl) (by kernel_rfl) (by kernel_rfl) (by kernel_rfl) (by kernel_rfl) (by kernel_rfl) (Λ:=fun _ _=>none) ?_ ?_
 ·exact fun _ _ _ _ _ _ _ _ h=>by cases h
 ·rintro ⟨r,x,⟨⟩⟩ hw hn
  exact Ho r x (hn _ List.mem_cons_self)
theorem Fb (r:Rules) (x:Innings) (e:Mir.Event) (hs:ai x) :(evPat (al [dU] Tryz.f351) (fun _=>none) Tryz.f351 gZ q2L (r,x,e,())).sat fun z_=>z_ =(N4 (r,x,e,())).2:=by
 refine cast (by kernel_rfl) (?_:ai x∧((e.2 != x.1)=true→(x,2,()) =(lr r x e,jK r x e,()))∧((e.2 != x.1)=false→((r.4 != 0)=true→(x,20,()) =(lr r x e,jK r x e,()))∧((r.4 != 0)=false→(Innings.mk x.1 x.2 x.3 x.4 x.5 x.6 x.7 x.8 x.9 x.10 x.11 x.12 x.13 x.14 x.15 x.16 x.17 x.18 x.19 x.20 x.21 x.22 4,0,()) =(lr r x e,jK r x e,()))))
 grind [lr,jK]
def zk:FuncId×Ctr:=(351,ae KE gZ q2L N4)
theorem Gz:CtrOK Tryz.prog KE 351 (ae KE gZ q2L N4):=by
 refine an (C:=al [dU] Tryz.f351) (aj (.consU iI rfl .nil) _) mixed (fn:=Tryz.f351) Tryz.func351 (by kernel_rfl) (by kernel_rfl) (by kernel_rfl) (by kernel_rfl) (by kernel_rfl) (by kernel_rfl) (Λ:=fun _ _=>none) ?_ ?_
 ·exact fun _ _ _ _ _ _ _ _ h=>by cases h
 ·rintro ⟨r,x,e,⟨⟩⟩ hw hn
  exact Fb r x e (hn _ List.mem_cons_self)
theorem Qn (x:Innings) (e:Mir.Event) (hs:ai x) :(evPat (al [dU,lB] Tryz.f352) (fun _=>none) Tryz.f352 qIE q2L (x,e,())).sat fun z_=>z_ =(xC (x,e,())).2:=by
 refine cast (by kernel_rfl) (?_:let r1:Bool:=decide (x.2>0);ai x∧((e.6 != 5)=true→(x,23,()) =(qu x e,lI e,()))∧((e.6 != 5)=false→((e.2==x.1)=true→ai x∧(Innings.mk x.1 x.2 x.3 (W (x.4+5)) x.5 (Extras.mk x.6.1 x.6.2 x.6.3 x.6.4 (W (x.6.5+5))) x.7 x.8 x.9 x.10 x.11 x.12 x.13 x.14 x.15 x.16 x.17 x.18 x.19 x.20 x.21 x.22 x.23,0,()) =(qu x e,lI e,()))∧((e.2==x.1)=false→(Innings.mk (cond r1 x.1 x.1) (cond r1 (IntKind.i64.wrap (x.2+5)) x.2) (cond r1 x.3 x.3) (cond r1 x.4 x.4) (cond r1 x.5 x.5) (Extras.mk (cond r1 x.6.1 x.6.1) (cond r1 x.6.2 x.6.2) (cond r1 x.6.3 x.6.3) (cond r1 x.6.4 x.6.4) (cond r1 x.6.5 x.6.5)) (cond r1 x.7 x.7) (cond r1 x.8 x.8) (cond r1 x.9 x.9) (cond r1 x.10 x.10) (cond r1 x.11 x.11) (cond r1 x.12 x.12) (cond r1 x.13 x.13) (cond r1 x.14 x.14) (cond r1 x.15 x.15) (cond r1 x.16 x.16) (cond r1 x.17 x.17) (cond r1 x.18 x.18) (cond r1 x.19 x.19) (cond r1 x.20 x.20) (cond r1 x.21 x.21) (cond r1 x.22.1 x.22.1,cond r1 x.22.2.1 x.22.2.1,()) (cond r1 x.23 x.23),0,()) =(qu x e,lI e,()))))
 intro r1
 clear_value (hr1:r1=_)
 simp only [Bool.cond_self]
 refine ⟨hs,fun h=>?_,fun h=>⟨fun h2=>⟨hs,?_⟩,fun h2=>?_⟩⟩
 ·have e1:lI e=23:=by simp only [lI,h];rfl
  simp only [qu,e1];rfl
 ·have e1:lI e=0:=by simp only [lI,h];rfl
  simp only [qu,e1,h2];rfl
 ·have e1:lI e=0:=by simp only [lI,h];rfl
  simp only [qu,e1,h2]
  cases r1 with
  | true=>have:x.Target>0:=of_decide_eq_true hr1.symm;simp only [if_pos this];rfl
  | false=>have :¬ x.Target>0:=of_decide_eq_false hr1.symm;simp only [if_neg this];rfl
def QQ:FuncId×Ctr:=(352,ae KE qIE q2L xC)
theorem SS:CtrOK Tryz.prog KE 352 (ae KE qIE q2L xC):=by
 refine an (C:=al [dU,lB] Tryz.f352) (aj (.consU iI rfl (.consU qn rfl .nil)) _) mixed (fn:=Tryz.f352) Tryz.func352 (by kernel_rfl) (by kernel_rfl) (by kernel_rfl) (by kernel_rfl) (by kernel_rfl) (by kernel_rfl) (Λ:=fun _ _=>none) ?_ ?_
 ·exact fun _ _ _ _ _ _ _ _ h=>by cases h
 ·rintro ⟨x,e,⟨⟩⟩ hw hn
  exact Qn x e (hn _ List.mem_cons_self)
theorem Hp (r:Rules) (x:Innings) (e:Mir.Event) (hs:ai x) (h2:gJ e.Side) :(evPat (al [dU] Tryz.f353) (fun _=>none) Tryz.f353 gZ q2L (r,x,e,())).sat fun z_=>z_ =(Cl (r,x,e,())).2:=by
 refine cast (by kernel_rfl) (?_:let r1:Bool:=decide (x.22.1≥r.12);let r2:Int:=IntKind.i64.wrap (e.2 - 1);let r3:Bool:=decide (x.22.2.1≥r.12);let r4:Bool:=r2==0;let r5:Bool:=r2==1;ai x∧((!x.15)=true→(x,24,()) =(gI r x e.2 e.5,fI r x e.2,()))∧((!x.15)=false→(r4=true→((0:Int)≤0∧0 <(↑(2:Nat):Int))∧(r1=true→(x,24,()) =(gI r x e.2 e.5,fI r x e.2,()))∧(r1=false→((!e.5)=true→(r4=true→((0:Int)≤0∧0 <(↑(2:Nat):Int))∧((0:Int)≤0∧0 <(↑(2:Nat):Int))∧(Innings.mk x.1 x.2 x.3 x.4 x.5 x.6 x.7 x.8 x.9 x.10 x.11 x.12 x.13 x.14 x.15 x.16 x.17 x.18 x.19 x.20 x.21 (IntKind.i64.wrap (x.22.1+1),x.22.2) x.23,0,()) =(gI r x e.2 e.5,fI r x e.2,()))∧(r4=false→(r5=true→((0:Int)≤1∧1 <(↑(2:Nat):Int))∧((0:Int)≤1∧1 <(↑(2:Nat):Int))∧(Innings.mk x.1 x.2 x.3 x.4 x.5 x.6 x.7 x.8 x.9 x.10 x.11 x.12 x.13 x.14 x.15 x.16 x.17 x.18 x.19 x.20 x.21 (x.22.1,IntKind.i64.wrap (x.22.2.1+1),()) x.23,0,()) =(gI r x e.2 e.5,fI r x e.2,()))∧(r5=false→False∧True)))∧((!e.5)=false→(x,0,()) =(gI r x e.2 e.5,fI r x e.2,()))))∧(r4=false→(r5=true→((0:Int)≤1∧1 <(↑(2:Nat):Int))∧(r3=true→(x,24,()) =(gI r x e.2 e.5,fI r x e.2,()))∧(r3=false→((!e.5)=true→(r4=true→((0:Int)≤0∧0 <(↑(2:Nat):Int))∧((0:Int)≤0∧0 <(↑(2:Nat):Int))∧(Innings.mk x.1 x.2 x.3 x.4 x.5 x.6 x.7 x.8 x.9 x.10 x.11 x.12 x.13 x.14 x.15 x.16 x.17 x.18 x.19 x.20 x.21 (IntKind.i64.wrap (x.22.1+1),x.22.2) x.23,0,()) =(gI r x e.2 e.5,fI r x e.2,()))∧(r4=false→(r5=true→((0:Int)≤1∧1 <(↑(2:Nat):Int))∧((0:Int)≤1∧1 <(↑(2:Nat):Int))∧(Innings.mk x.1 x.2 x.3 x.4 x.5 x.6 x.7 x.8 x.9 x.10 x.11 x.12 x.13 x.14 x.15 x.16 x.17 x.18 x.19 x.20 x.21 (x.22.1,IntKind.i64.wrap (x.22.2.1+1),()) x.23,0,()) =(gI r x e.2 e.5,fI r x e.2,()))∧(r5=false→False∧True)))∧((!e.5)=false→(x,0,()) =(gI r x e.2 e.5,fI r x e.2,()))))∧(r5=false→False∧True))))
 intro r1 r2 r3 r4 r5
 clear_value (hr1:r1=_) (hr2:r2=_) (hr3:r3=_) (hr4:r4=_) (hr5:r5=_)
 rcases h2 with hS|hS
 ·have e4:r4=true:=by rw [hr4,hr2,hS];rfl
  have hL:fI r x e.Side=if !x.Fresh||r1 then 24 else 0:=by simp only [fI,EX,hS];rw [hr1];rfl
  have hU:rJ x e.Side={ x with Reviews:=(W (x.Reviews.1+1),x.Reviews.2.1,()) }:=by simp only [rJ,hS];rfl
  clear hr1 hr2 hr3 hr4 hr5
  cases hf:x.Fresh <;> cases r1 <;> cases hk:e.Yes <;> simp [e4,hs,gI,hL,hU,hf,hk]
 ·have e4:r4=false:=by rw [hr4,hr2,hS];rfl
  have e5:r5=true:=by rw [hr5,hr2,hS];rfl
  have hL:fI r x e.Side=if !x.Fresh||r3 then 24 else 0:=by simp only [fI,EX,hS];rw [hr3];rfl
  have hU:rJ x e.Side={ x with Reviews:=(x.Reviews.1,W (x.Reviews.2.1+1),()) }:=by simp only [rJ,hS];rfl
  clear hr1 hr2 hr3 hr4 hr5
  cases hf:x.Fresh <;> cases r3 <;> cases hk:e.Yes <;> simp [e4,e5,hs,gI,hL,hU,hf,hk]
def DK:FuncId×Ctr:=(353,ae KE gZ q2L Cl)
theorem Kp:CtrOK Tryz.prog KE 353 (ae KE gZ q2L Cl):=by
 refine an (C:=al [dU] Tryz.f353) (aj (.consU iI rfl .nil) _) mixed (fn:=Tryz.f353) Tryz.func353 (by kernel_rfl) (by kernel_rfl) (by kernel_rfl) (by kernel_rfl) (by kernel_rfl) (by kernel_rfl) (Λ:=fun _ _=>none) ?_ ?_
 ·exact fun _ _ _ _ _ _ _ _ h=>by cases h
 ·rintro ⟨r,x,e,⟨⟩⟩ hw hn
  exact Hp r x e (hn _ List.mem_cons_self) (hn _ (List.mem_cons_of_mem _ List.mem_cons_self))
theorem B8 (r:Rules) (x:Innings) (s:Int) (k:Bool) (h2:gJ s) :(evPat (al [] Tryz.f334) (fun _=>none) Tryz.f334 JD q2L (r,x,s,k,())).sat fun z_=>z_ =(sU (r,x,s,k,())).2:=by
 refine cast (by kernel_rfl) (?_:let r1:Int:=IntKind.i64.wrap (s - 1);let r2:Bool:=decide (x.22.1≥r.12);let r3:Bool:=decide (x.22.2.1≥r.12);let r4:Bool:=r1==0;let r5:Bool:=r1==1;((!x.15)=true→(x,24,()) =(gI r x s k,fI r x s,()))∧((!x.15)=false→(r4=true→((0:Int)≤0∧0 <(↑(2:Nat):Int))∧(r2=true→(x,24,()) =(gI r x s k,fI r x s,()))∧(r2=false→((!k)=true→(r4=true→((0:Int)≤0∧0 <(↑(2:Nat):Int))∧((0:Int)≤0∧0 <(↑(2:Nat):Int))∧(Innings.mk x.1 x.2 x.3 x.4 x.5 x.6 x.7 x.8 x.9 x.10 x.11 x.12 x.13 x.14 x.15 x.16 x.17 x.18 x.19 x.20 x.21 (IntKind.i64.wrap (x.22.1+1),x.22.2) x.23,0,()) =(gI r x s k,fI r x s,()))∧(r4=false→(r5=true→((0:Int)≤1∧1 <(↑(2:Nat):Int))∧((0:Int)≤1∧1 <(↑(2:Nat):Int))∧(Innings.mk x.1 x.2 x.3 x.4 x.5 x.6 x.7 x.8 x.9 x.10 x.11 x.12 x.13 x.14 x.15 x.16 x.17 x.18 x.19 x.20 x.21 (x.22.1,IntKind.i64.wrap (x.22.2.1+1),()) x.23,0,()) =(gI r x s k,fI r x s,()))∧(r5=false→False∧True)))∧((!k)=false→(x,0,()) =(gI r x s k,fI r x s,()))))∧(r4=false→(r5=true→((0:Int)≤1∧1 <(↑(2:Nat):Int))∧(r3=true→(x,24,()) =(gI r x s k,fI r x s,()))∧(r3=false→((!k)=true→(r4=true→((0:Int)≤0∧0 <(↑(2:Nat):Int))∧((0:Int)≤0∧0 <(↑(2:Nat):Int))∧(Innings.mk x.1 x.2 x.3 x.4 x.5 x.6 x.7 x.8 x.9 x.10 x.11 x.12 x.13 x.14 x.15 x.16 x.17 x.18 x.19 x.20 x.21 (IntKind.i64.wrap (x.22.1+1),x.22.2) x.23,0,()) =(gI r x s k,fI r x s,()))∧(r4=false→(r5=true→((0:Int)≤1∧1 <(↑(2:Nat):Int))∧((0:Int)≤1∧1 <(↑(2:Nat):Int))∧(Innings.mk x.1 x.2 x.3 x.4 x.5 x.6 x.7 x.8 x.9 x.10 x.11 x.12 x.13 x.14 x.15 x.16 x.17 x.18 x.19 x.20 x.21 (x.22.1,IntKind.i64.wrap (x.22.2.1+1),()) x.23,0,()) =(gI r x s k,fI r x s,()))∧(r5=false→False∧True)))∧((!k)=false→(x,0,()) =(gI r x s k,fI r x s,()))))∧(r5=false→False∧True))))
 intro r1 r2 r3 r4 r5
 clear_value (hr1:r1=_) (hr2:r2=_) (hr3:r3=_) (hr4:r4=_) (hr5:r5=_)
 rcases h2 with hS|hS
 ·have e4:r4=true:=by rw [hr4,hr1,hS];rfl
  have hL:fI r x s=if !x.Fresh||r2 then 24 else 0:=by simp only [fI,EX,hS];rw [hr2];rfl
  have hU:rJ x s={ x with Reviews:=(W (x.Reviews.1+1),x.Reviews.2.1,()) }:=by simp only [rJ,hS];rfl
  clear hr1 hr2 hr3 hr4 hr5
  cases hf:x.Fresh <;> cases r2 <;> cases hk:k <;> simp [e4,gI,hL,hU,hf,hk]
 ·have e4:r4=false:=by rw [hr4,hr1,hS];rfl
  have e5:r5=true:=by rw [hr5,hr1,hS];rfl
  have hL:fI r x s=if !x.Fresh||r3 then 24 else 0:=by simp only [fI,EX,hS];rw [hr3];rfl
  have hU:rJ x s={ x with Reviews:=(x.Reviews.1,W (x.Reviews.2.1+1),()) }:=by simp only [rJ,hS];rfl
  clear hr1 hr2 hr3 hr4 hr5
  cases hf:x.Fresh <;> cases r3 <;> cases hk:k <;> simp [e4,e5,gI,hL,hU,hf,hk]
def wz:FuncId×Ctr:=(334,ae KE JD q2L sU)
theorem Eu:CtrOK Tryz.prog KE 334 (ae KE JD q2L sU):=by
 refine an (C:=al [] Tryz.f334) (aj (CtrsOK.nil) _) mixed (fn:=Tryz.f334) Tryz.func334 (by kernel_rfl) (by kernel_rfl) (by kernel_rfl) (by kernel_rfl) (by kernel_rfl) (by kernel_rfl) (Λ:=fun _ _=>none) ?_ ?_
 ·exact fun _ _ _ _ _ _ _ _ h=>by cases h
 ·rintro ⟨r,x,s,k,⟨⟩⟩ hw hn
  exact B8 r x s k (hn _ List.mem_cons_self)
theorem Hq (r:Rules) (x:Innings) (e:Mir.Event) (hs:ai x) :(evPat (al [dU,I1] Tryz.f354) (fun _=>none) Tryz.f354 gZ q2L (r,x,e,())).sat fun z_=>z_ =(Cm (r,x,e,())).2:=by
 refine cast (by kernel_rfl) (?_:let r1:Bool:=decide (e.6>0);let r2:Bool:=decide (e.7>0);let r3:Int:=cond r1 x.1 x.1;let r4:Int:=cond r1 e.6 x.2;let r5:Int:=cond r1 x.4 x.4;let r6:Int:=cond r1 x.5 x.5;let r7:Int:=cond r1 x.7 x.7;let r8:Int:=cond r1 x.8 x.8;let r9:Int:=cond r1 x.9 x.9;let r10:Int:=cond r1 x.10 x.10;let r11:Int:=cond r1 x.12 x.12;let r12:Bool:=cond r1 x.15 x.15;let r13:Bool:=cond r1 x.17 x.17;let r14:Int:=cond r1 x.18 x.18;let r15:Int:=cond r1 x.19 x.19;let r16:Int:=cond r1 x.20 x.20;let r17:Int:=cond r1 x.23 x.23;let r18:Int:=cond r1 x.6.1 x.6.1;let r19:Int:=cond r1 x.6.2 x.6.2;let r20:Int:=cond r1 x.6.3 x.6.3;let r21:Int:=cond r1 x.6.4 x.6.4;let r22:Int:=cond r1 x.6.5 x.6.5;let r23:List Bool:=cond r1 x.21 x.21;let r24:Int:=cond r1 x.22.1 x.22.1;let r25:List Int:=cond r1 x.11 x.11;let r26:List Int:=cond r1 x.13 x.13;let r27:List Int:=cond r1 x.14 x.14;let r28:List Int:=cond r1 x.16 x.16;let r29:Int:=cond r1 x.22.2.1 x.22.2.1;let r30:Bool:=cond (r.4==0) true (cond (e.6==0) (e.7==0) false);let r31:Bool:=cond r1 (cond (x.2==0) true (decide (e.6≤x.4))) false;let r32:Bool:=cond r2 (cond (decide (e.7>r.4)) true (decide (IntKind.i64.wrap (e.7*r.5)<rW r x))) false;ai x∧(r30=true→(x,25,()) =(mw r x e.6 e.7,nW r x e.6 e.7,()))∧(r30=false→(r31=true→(x,25,()) =(mw r x e.6 e.7,nW r x e.6 e.7,()))∧(r31=false→(r32=true→(x,25,()) =(mw r x e.6 e.7,nW r x e.6 e.7,()))∧(r32=false→(Innings.mk (cond r2 r3 r3) (cond r2 r4 r4) (cond r2 e.7 (cond r1 x.3 x.3)) (cond r2 r5 r5) (cond r2 r6 r6) (Extras.mk (cond r2 r18 r18) (cond r2 r19 r19) (cond r2 r20 r20) (cond r2 r21 r21) (cond r2 r22 r22)) (cond r2 r7 r7) (cond r2 r8 r8) (cond r2 r9 r9) (cond r2 r10 r10) (cond r2 r25 r25) (cond r2 r11 r11) (cond r2 r26 r26) (cond r2 r27 r27) (cond r2 r12 r12) (cond r2 r28 r28) (cond r2 r13 r13) (cond r2 r14 r14) (cond r2 r15 r15) (cond r2 r16 r16) (cond r2 r23 r23) (cond r2 r24 r24,cond r2 r29 r29,()) (cond r2 r17 r17),0,()) =(mw r x e.6 e.7,nW r x e.6 e.7,())))))
 intro r1 r2 r3 r4 r5 r6 r7 r8 r9 r10 r11 r12 r13 r14 r15 r16 r17 r18 r19 r20 r21 r22 r23 r24 r25 r26 r27 r28 r29 r30 r31 r32
 clear_value (hr1:r1=_) (hr2:r2=_) (hr3:r3=_) (hr4:r4=_) (hr5:r5=_) (hr6:r6=_) (hr7:r7=_) (hr8:r8=_) (hr9:r9=_) (hr10:r10=_) (hr11:r11=_) (hr12:r12=_) (hr13:r13=_) (hr14:r14=_) (hr15:r15=_) (hr16:r16=_) (hr17:r17=_) (hr18:r18=_) (hr19:r19=_) (hr20:r20=_) (hr21:r21=_) (hr22:r22=_) (hr23:r23=_) (hr24:r24=_) (hr25:r25=_) (hr26:r26=_) (hr27:r27=_) (hr28:r28=_) (hr29:r29=_) (hr30:r30=_) (hr31:r31=_) (hr32:r32=_)
 simp only [Bool.cond_self] at *
 have hb:iY r x e.Runs e.Overs =(r30 ||(r31||r32)):=by grind [iY]
 clear hr30 hr31 hr32
 subst hr3 hr5 hr6 hr7 hr8 hr9 hr10 hr11 hr12 hr13 hr14 hr15 hr16 hr17 hr18 hr19 hr20 hr21 hr22 hr23 hr24 hr25 hr26 hr27 hr28 hr29
 subst hr4
 refine ⟨hs,fun h=>?_,fun h=>⟨fun h2=>?_,fun h2=>⟨fun h3=>?_,fun h3=>?_⟩⟩⟩
 ·have hb':iY r x e.Runs e.Overs=true:=by rw [hb,h];rfl
  simp only [mw,nW,hb'];rfl
 ·have hb':iY r x e.Runs e.Overs=true:=by rw [hb,h,h2];rfl
  simp only [mw,nW,hb'];rfl
 ·have hb':iY r x e.Runs e.Overs=true:=by rw [hb,h,h2,h3];rfl
  simp only [mw,nW,hb'];rfl
 ·have hb':iY r x e.Runs e.Overs=false:=by rw [hb,h,h2,h3];rfl
  simp only [mw,nW,hb',N0,Qt]
  cases r1 with
  | true=>
   have h1:e.Runs>0:=of_decide_eq_true hr1.symm
   cases r2 with
   | true=>have h2:e.Overs>0:=of_decide_eq_true hr2.symm;simp only [if_pos h1,if_pos h2];rfl
   | false=>have h2 :¬ e.Overs>0:=of_decide_eq_false hr2.symm;simp only [if_pos h1,if_neg h2];rfl
  | false=>
   have h1 :¬ e.Runs>0:=of_decide_eq_false hr1.symm
   cases r2 with
   | true=>have h2:e.Overs>0:=of_decide_eq_true hr2.symm;simp only [if_neg h1,if_pos h2];rfl
   | false=>have h2 :¬ e.Overs>0:=of_decide_eq_false hr2.symm;simp only [if_neg h1,if_neg h2];rfl
def DL:FuncId×Ctr:=(354,ae KE gZ q2L Cm)
theorem Kq:CtrOK Tryz.prog KE 354 (ae KE gZ q2L Cm):=by
 refine an (C:=al [dU,I1] Tryz.f354) (aj (.consU iI rfl (.consU MV rfl .nil)) _) mixed (fn:=Tryz.f354) Tryz.func354 (by kernel_rfl) (by kernel_rfl) (by kernel_rfl) (by kernel_rfl) (by kernel_rfl) (by kernel_rfl) (Λ:=fun _ _=>none) ?_ ?_
 ·exact fun _ _ _ _ _ _ _ _ h=>by cases h
 ·rintro ⟨r,x,e,⟨⟩⟩ hw hn
  exact Hq r x e (hn _ List.mem_cons_self)
theorem B9 (r:Rules) (x:Innings) (t:Int) (o:Int) :(evPat (al [zI] Tryz.f335) (fun _=>none) Tryz.f335 JE q2L (r,x,t,o,())).sat fun z_=>z_ =(sV (r,x,t,o,())).2:=by
 refine cast (by kernel_rfl) (?_:let r1:Bool:=decide (t>0);let r2:Bool:=decide (o>0);let r3:Int:=cond r1 t x.2;let r4:Int:=cond r1 x.1 x.1;let r5:Int:=cond r1 x.4 x.4;let r6:Int:=cond r1 x.5 x.5;let r7:Int:=cond r1 x.7 x.7;let r8:Int:=cond r1 x.8 x.8;let r9:Int:=cond r1 x.9 x.9;let r10:Int:=cond r1 x.10 x.10;let r11:Int:=cond r1 x.12 x.12;let r12:Bool:=cond r1 x.15 x.15;let r13:Bool:=cond r1 x.17 x.17;let r14:Int:=cond r1 x.18 x.18;let r15:Int:=cond r1 x.19 x.19;let r16:Int:=cond r1 x.20 x.20;let r17:Int:=cond r1 x.23 x.23;let r18:Int:=cond r1 x.6.1 x.6.1;let r19:Int:=cond r1 x.6.2 x.6.2;let r20:Int:=cond r1 x.6.3 x.6.3;let r21:Int:=cond r1 x.6.4 x.6.4;let r22:Int:=cond r1 x.6.5 x.6.5;let r23:List Bool:=cond r1 x.21 x.21;let r24:Int:=cond r1 x.22.1 x.22.1;let r25:List Int:=cond r1 x.11 x.11;let r26:List Int:=cond r1 x.13 x.13;let r27:List Int:=cond r1 x.14 x.14;let r28:List Int:=cond r1 x.16 x.16;let r29:Int:=cond r1 x.22.2.1 x.22.2.1;let r30:Bool:=cond r1 (cond (x.2==0) true (decide (t≤x.4))) false;let r31:Bool:=cond r2 (cond (decide (o>r.4)) true (decide (IntKind.i64.wrap (o*r.5)<rW r x))) false;let r32:Bool:=cond (r.4==0) (r.4==0) (cond r30 r30 (cond r31 r31 (cond (t==0) (o==0) false)));(r32=true→(x,25,()) =(mw r x t o,nW r x t o,()))∧(r32=false→(Innings.mk (cond r2 r4 r4) (cond r2 r3 r3) (cond r2 o (cond r1 x.3 x.3)) (cond r2 r5 r5) (cond r2 r6 r6) (Extras.mk (cond r2 r18 r18) (cond r2 r19 r19) (cond r2 r20 r20) (cond r2 r21 r21) (cond r2 r22 r22)) (cond r2 r7 r7) (cond r2 r8 r8) (cond r2 r9 r9) (cond r2 r10 r10) (cond r2 r25 r25) (cond r2 r11 r11) (cond r2 r26 r26) (cond r2 r27 r27) (cond r2 r12 r12) (cond r2 r28 r28) (cond r2 r13 r13) (cond r2 r14 r14) (cond r2 r15 r15) (cond r2 r16 r16) (cond r2 r23 r23) (cond r2 r24 r24,cond r2 r29 r29,()) (cond r2 r17 r17),0,()) =(mw r x t o,nW r x t o,())))
 intro r1 r2 r3 r4 r5 r6 r7 r8 r9 r10 r11 r12 r13 r14 r15 r16 r17 r18 r19 r20 r21 r22 r23 r24 r25 r26 r27 r28 r29 r30 r31 r32
 clear_value (hr1:r1=_) (hr2:r2=_) (hr3:r3=_) (hr4:r4=_) (hr5:r5=_) (hr6:r6=_) (hr7:r7=_) (hr8:r8=_) (hr9:r9=_) (hr10:r10=_) (hr11:r11=_) (hr12:r12=_) (hr13:r13=_) (hr14:r14=_) (hr15:r15=_) (hr16:r16=_) (hr17:r17=_) (hr18:r18=_) (hr19:r19=_) (hr20:r20=_) (hr21:r21=_) (hr22:r22=_) (hr23:r23=_) (hr24:r24=_) (hr25:r25=_) (hr26:r26=_) (hr27:r27=_) (hr28:r28=_) (hr29:r29=_) (hr30:r30=_) (hr31:r31=_) (hr32:r32=_)
 simp only [Bool.cond_self] at *
 have hb:iY r x t o=r32:=by grind [iY]
 clear hr30 hr31 hr32
 subst hr4 hr5 hr6 hr7 hr8 hr9 hr10 hr11 hr12 hr13 hr14 hr15 hr16 hr17 hr18 hr19 hr20 hr21 hr22 hr23 hr24 hr25 hr26 hr27 hr28 hr29
 subst hr3
 refine ⟨fun h=>?_,fun h=>?_⟩
 ·have hb':iY r x t o=true:=by rw [hb,h]
  simp only [mw,nW,hb'];rfl
 ·have hb':iY r x t o=false:=by rw [hb,h]
  simp only [mw,nW,hb',N0,Qt]
  cases r1 with
  | true=>
   have h1:t>0:=of_decide_eq_true hr1.symm
   cases r2 with
   | true=>have h2:o>0:=of_decide_eq_true hr2.symm;simp only [if_pos h1,if_pos h2];rfl
   | false=>have h2 :¬ o>0:=of_decide_eq_false hr2.symm;simp only [if_pos h1,if_neg h2];rfl
  | false=>
   have h1 :¬ t>0:=of_decide_eq_false hr1.symm
   cases r2 with
   | true=>have h2:o>0:=of_decide_eq_true hr2.symm;simp only [if_neg h1,if_pos h2];rfl
   | false=>have h2 :¬ o>0:=of_decide_eq_false hr2.symm;simp only [if_neg h1,if_neg h2];rfl
def wA:FuncId×Ctr:=(335,ae KE JE q2L sV)
theorem Ev:CtrOK Tryz.prog KE 335 (ae KE JE q2L sV):=by
 refine an (C:=al [zI] Tryz.f335) (aj (.consU GN rfl .nil) _) mixed (fn:=Tryz.f335) Tryz.func335 (by kernel_rfl) (by kernel_rfl) (by kernel_rfl) (by kernel_rfl) (by kernel_rfl) (by kernel_rfl) (Λ:=fun _ _=>none) ?_ ?_
 ·exact fun _ _ _ _ _ _ _ _ h=>by cases h
 ·rintro ⟨r,x,t,o,⟨⟩⟩ hw hn
  exact B9 r x t o
end
section
open Go Go.Mir
theorem Kg (h:Int) :(ofW h).either =(h==6||h==8)∧(ofW h).fielder=pz h:=by
 by_cases h0:h=0;· subst h0;exact ⟨rfl,rfl⟩
 by_cases h1:h=1;· subst h1;exact ⟨rfl,rfl⟩
 by_cases h2:h=2;· subst h2;exact ⟨rfl,rfl⟩
 by_cases h3:h=3;· subst h3;exact ⟨rfl,rfl⟩
 by_cases h4:h=4;· subst h4;exact ⟨rfl,rfl⟩
 by_cases h5:h=5;· subst h5;exact ⟨rfl,rfl⟩
 by_cases h6:h=6;· subst h6;exact ⟨rfl,rfl⟩
 by_cases h7:h=7;· subst h7;exact ⟨rfl,rfl⟩
 by_cases h8:h=8;· subst h8;exact ⟨rfl,rfl⟩
 by_cases h9:h=9;· subst h9;exact ⟨rfl,rfl⟩
 by_cases h10:h=10;· subst h10;exact ⟨rfl,rfl⟩
 have e:ofW h=dismissal_way.zero:=by
  unfold ofW
  rw [List.find?_eq_none.2]
  ·rfl
  ·intro x hx
   simp only [wtab,List.mem_cons,List.not_mem_nil,or_false] at hx
   rcases hx with rfl|rfl|rfl|rfl|rfl|rfl|rfl|rfl|rfl|rfl|rfl <;> simp <;> omega
 rw [e]
 constructor
 ·simp [dismissal_way.zero,h6,h8]
 ·simp [dismissal_way.zero,pz,h2,h4,h6]
theorem OJ (t h:Int) (free:Bool):qa (jj t free) h =(onR h t&&(!free||gE h)):=by
 have key :∀ t:Int,(t=1∨t=2∨t=3)∨(t≠1∧t≠2∧t≠3):=fun t=>by omega
 rcases key t with (rfl|rfl|rfl) |⟨h1,h2,h3⟩
 ·have e:jj 1 free=bif free then [6,7,8] else [1,2,3,4,5,6,7,8]:=by cases free <;> rfl
  rw [e];cases free <;> simp [qa,onR,gE] <;> grind
 ·have e:jj 2 free=bif free then [6,8] else [4,5,6,8]:=by cases free <;> rfl
  rw [e];cases free <;> simp [qa,onR,gE] <;> grind
 ·have e:jj 3 free=bif free then [6,7,8] else [6,7,8]:=by cases free <;> rfl
  rw [e];cases free <;> simp [qa,onR,gE] <;> grind
 ·have hn :∀ w,qW w t free=false:=fun w=>by simp [qW,onW,h1,h2,h3]
  have e:jj t free=[]:=by unfold jj;rw [List.filter_eq_nil_iff.2 (fun w _=>by rw [hn w];simp)];rfl
  rw [e]
  simp [qa,onR,h1,h2,h3]
theorem yx (d:Delivery) (free:Bool):ca d free=cr d free:=by
 obtain ⟨h1,h2⟩:=Kg d.How
 have h3:=OJ d.Typ d.How free
 simp only [qa] at h3
 simp only [ca,cr,gd,mr,h1,h2,h3]
 generalize onR d.How d.Typ=a
 generalize gE d.How=b
 generalize pz d.How=c
 by_cases h0:d.How=0
 ·simp [h0]
 ·by_cases h6:d.How=6
  ·simp only [h6];cases a <;> cases b <;> cases c <;> cases free <;> simp <;> grind
  ·by_cases h8:d.How=8
   ·simp only [h8];cases a <;> cases b <;> cases c <;> cases free <;> simp <;> grind
   ·simp only [beq_eq_false_iff_ne.2 h0,beq_eq_false_iff_ne.2 h6,beq_eq_false_iff_ne.2 h8];cases a <;> cases b <;> cases c <;> cases free <;> simp <;> grind
def inR (p i:Int) (n:Nat):Int:=if i<p∧p≤i+n then 1 else 0
theorem Dz (p i:Int) (n:Nat):inR p i (n+1) =(if p=i+1 then 1 else 0)+inR p (i+1) n:=by
 unfold inR
 repeat' split
 all_goals omega
def rR (S O:Int) (l:List Int) (i o b a:Int) (g:Bool):Prop:=
 match iR S O l i o b g with
 | none=>jH S O l i o a=none
 | some (o',b',g')=>g' =(g||dT l)∧b'≤b+inR S i l.length+inR O i l.length∧
  (match jH S O l i o a with
  | some (o2,a2)=>o2=o'∧a2 - a=b' - b∧b'=b+inR S i l.length+inR O i l.length
  | none=>b'<b+inR S i l.length+inR O i l.length)
theorem vo {S O:Int} (nd:S=O→S=0) :∀ (l:List Int) (i o b a:Int) (g:Bool),0≤i→rR S O l i o b a g
 | [],i,o,b,a,g,hi=>by
  have e :∀ p,inR p i 0=0:=fun p=>by unfold inR;split <;> omega
  simp only [rR,iR,jH,dT,List.any_nil,Bool.or_false,List.length_nil,e]
  refine ⟨trivial,by omega,trivial,by omega,by omega⟩
 | s::r,i,o,b,a,g,hi=>by
  have eS:=Dz S i r.length
  have eO:=Dz O i r.length
  have hb:dT (s::r) =(cQ s||dT r):=rfl
  unfold rR iR jH
  by_cases h3:s>3
  ·simp only [if_pos h3]
  ·simp only [if_neg h3]
   by_cases h1:s=1
   ·subst h1
    have hw:cQ 1=true:=rfl
    by_cases hs:S=i+1∨O=i+1
    ·have k1 :(S != i+1&&O != i+1)=false:=by rcases hs with h|h <;> simp [h]
     have k2 :(S==i+1||O==i+1)=true:=by rcases hs with h|h <;> simp [h]
     have ih:=vo nd r (i+1) o (b+1) (a+1) true (by omega)
     unfold rR at ih
     simp only [List.length_cons,eS,eO,hb,hw,k1,k2]
     have hone :(if S=i+1 then (1:Int) else 0) +(if O=i+1 then 1 else 0)=1:=by
      rcases hs with h|h
      ·have:O≠i+1:=fun h2=>by have:=nd (by omega);omega
       simp [h,this]
      ·have:S≠i+1:=fun h2=>by have:=nd (by omega);omega
       simp [h,this]
     simp at ih ⊢
     revert ih
     cases iR S O r (i+1) o (b+1) true with
     | none=>exact fun h=>h
     | some q=>
      obtain ⟨o',b',g'⟩:=q
      cases jH S O r (i+1) o (a+1) with
      | none=>simp only;intro ih;refine ⟨?_,?_,?_⟩ <;> first|exact ih.1|omega
      | some q=>obtain ⟨o2,a2⟩:=q;simp only;intro ih;refine ⟨ih.1,?_,ih.2.2.1,?_,?_⟩ <;> omega
    ·have k1 :(S != i+1&&O != i+1)=true:=by simp [not_or] at hs;simp [hs]
     have k2 :(S==i+1||O==i+1)=false:=by simp [not_or] at hs;simp [hs]
     simp [k1,k2]
   ·have k0 :(s==1)=false:=by simpa using h1
    have ih:=vo nd r (i+1) (if s==2 then o+1 else o) b a (g||s != 0) (by omega)
    unfold rR at ih
    simp only [List.length_cons,eS,eO,hb,k0]
    have hg :((g||s != 0)||dT r) =(g ||(cQ s||dT r)):=by rw [Bool.or_assoc];rfl
    by_cases hs:S=i+1∨O=i+1
    ·have k2 :(S==i+1||O==i+1)=true:=by rcases hs with h|h <;> simp [h]
     have hone :(1:Int)≤(if S=i+1 then (1:Int) else 0) +(if O=i+1 then 1 else 0):=by
      rcases hs with h|h <;> simp only [h,if_true] <;> split <;> omega
     simp only [k2]
     simp at ih ⊢
     revert ih
     cases iR S O r (i+1) (if s=2 then o+1 else o) b (g||s != 0) with
     | none=>exact fun _=>trivial
     | some q=>
      obtain ⟨o',b',g'⟩:=q
      intro ih
      simp only at ih ⊢
      refine ⟨by rw [ih.1,hg],by omega,by omega⟩
    ·have k2 :(S==i+1||O==i+1)=false:=by simp [not_or] at hs;simp [hs]
     have hz :(if S=i+1 then (1:Int) else 0) +(if O=i+1 then 1 else 0)=0:=by
      simp only [not_or] at hs;simp [hs.1,hs.2]
     simp only [k2]
     simp at ih ⊢
     revert ih
     cases iR S O r (i+1) (if s=2 then o+1 else o) b (g||s != 0) with
     | none=>exact fun h=>h
     | some q=>
      obtain ⟨o',b',g'⟩:=q
      cases jH S O r (i+1) (if s=2 then o+1 else o) a with
      | none=>simp only;intro ih;refine ⟨by rw [ih.1,hg],?_,?_⟩ <;> omega
      | some q=>obtain ⟨o2,a2⟩:=q;simp only;intro ih;refine ⟨by rw [ih.1,hg],?_,ih.2.2.1,?_,?_⟩ <;> omega
theorem RY (x:Innings) (n:Int) (hl :(x.Batters.length:Int)=n) (hS:inW x.Striker 0 n=true) (hO:inW x.Other 0 n=true):mU x n=uh x:=by
 simp only [inW,Bool.and_eq_true,decide_eq_true_eq] at hS hO
 have iS:inW x.Striker 0 n=true:=by simp [inW];omega
 have iO:inW x.Other 0 n=true:=by simp [inW];omega
 unfold mU uh
 by_cases nd:x.Striker=x.Other→x.Striker=0
 ·have h:=vo nd x.Batters 0 0 0 0 false (Int.le_refl _)
  have pS:inR x.Striker 0 x.Batters.length=if x.Striker != 0 then 1 else 0:=by
   unfold inR
   by_cases h0:x.Striker=0
   ·simp [h0]
   ·simp [h0];omega
  have pO:inR x.Other 0 x.Batters.length=if x.Other != 0 then 1 else 0:=by
   unfold inR
   by_cases h0:x.Other=0
   ·simp [h0]
   ·simp [h0];omega
  have hp:inR x.Striker 0 x.Batters.length+inR x.Other 0 x.Batters.length=js x:=by rw [pS,pO];rfl
  have k :(x.Striker==x.Other&&x.Striker != 0)=false:=by
   cases hk:x.Striker==x.Other&&x.Striker != 0 with
   | false=>rfl
   | true=>simp at hk;exact absurd (nd hk.1) hk.2
  have k' :(x.Striker != 0&&x.Striker==x.Other)=false:=by rw [Bool.and_comm];exact k
  unfold rR at h
  have bg:cu x=dT x.Batters:=rfl
  revert h
  cases iR x.Striker x.Other x.Batters 0 0 0 false with
  | none=>intro h;rw [h];rfl
  | some q=>
   obtain ⟨o',b',g'⟩:=q
   cases jH x.Striker x.Other x.Batters 0 0 0 with
   | none=>
    intro h
    simp only [m1,iS,iO,k] at h ⊢
    have :(js x==b')=false:=by simp;omega
    simp [this]
   | some q=>
    obtain ⟨o2,a2⟩:=q
    intro h
    simp only [m1,iS,iO,k,k',bg] at h ⊢
    obtain ⟨h1,h2,h3,h4,h5⟩:=h
    have e1:js x=b':=by omega
    have e2:a2=b':=by omega
    have e3:g'=dT x.Batters:=by rw [h1];rfl
    rw [e1,e2,e3,h3]
    cases dT x.Batters <;> cases hd:decide (b'<1) <;> cases hd2:decide (b'>0) <;> simp at hd hd2 <;>(try omega) <;> simp [eq_comm,BEq.comm]
 ·have nd':x.Striker=x.Other∧x.Striker≠0:=by
   refine ⟨?_,?_⟩ <;> · apply Classical.byContradiction;intro h;exact nd (fun e=>by first|exact absurd e h|exact Classical.byContradiction h)
  have k :(x.Striker==x.Other&&x.Striker != 0)=true:=by simp [nd'.1];rw [←nd'.1];exact nd'.2
  have k' :(x.Striker != 0&&x.Striker==x.Other)=true:=by rw [Bool.and_comm];exact k
  have l :∀ q,m1 x n q=false:=fun q=>by
   cases q with
   | none=>rfl
   | some q=>simp only [m1,iS,iO,k];rfl
  rw [l]
  cases jH x.Striker x.Other x.Batters 0 0 0 with
  | none=>rfl
  | some q=>simp only [k',Bool.or_true,if_true]
theorem Pd (x:Innings):qh x =(!eJ (xY x)&&!eJ x.Bowled):=by
 unfold qh eJ xY
 rw [List.any_append,Bool.not_or]
theorem Nh {r:Rules} (h:0≤r.Overs) (x:Innings):xb r x=xc r x:=by
 unfold xb xc
 by_cases h0:r.Overs=0
 ·simp only [h0];simp [bne]
 ·have:r.Overs>0:=by omega
  have h1 :(r.Overs==0)=false:=by simpa using h0
  simp [h1,this,bne]
theorem vX :∀ (m:Nat) (l:List Int),l.Nodup→(∀ x∈l,1≤x∧x≤(m:Int))→l.length≤m
 | 0,l,_,h=>by
  cases l with
  | nil=>simp
  | cons x l=>have:=h x List.mem_cons_self;omega
 | m+1,l,hn,h=>by
  have ih:=vX m (l.erase ((m+1:Nat):Int)) (hn.erase _) (fun x hx=>by
   have h1:=(hn.mem_erase_iff).1 hx
   have h2:=h x h1.2
   have:=h1.1
   omega)
  by_cases hm :((m+1:Nat):Int)∈l
  ·rw [List.length_erase_of_mem hm] at ih;omega
  ·rw [List.erase_of_not_mem hm] at ih;omega
theorem vA {most:Int} :∀ (l seen:List Int),tg most seen l=true→seen.Nodup→(∀ x∈seen,1≤x∧x≤most)→(seen++l).Nodup∧(∀ x∈seen++l,1≤x∧x≤most)
 | [],seen,_,h1,h2=>by simpa using ⟨h1,h2⟩
 | n::r,seen,h,h1,h2=>by
  unfold tg at h
  split at h
  ·cases h
  ·rename_i hc
   have hc :(!inW n 1 most||cO seen n)=false:=by simpa using hc
   simp only [Bool.or_eq_false_iff,Bool.not_eq_false',inW,Bool.and_eq_true,decide_eq_true_eq] at hc
   obtain ⟨⟨c1,c2⟩,c3⟩:=hc
   have c4:n∉seen:=fun hm=>by
    have:cO seen n=true:=by unfold cO;simpa using hm
    rw [this] at c3;cases c3
   have:=vA r (seen++[n]) h (by
    rw [List.nodup_append]
    refine ⟨h1,by simp,?_⟩
    intro a ha b hb e
    simp only [List.mem_singleton] at hb
    subst hb;subst e;exact c4 ha) (fun x hx=>by
    rcases List.mem_append.1 hx with hx|hx
    ·exact h2 x hx
    ·simp only [List.mem_singleton] at hx;subst hx;exact ⟨c1,c2⟩)
   rwa [List.append_assoc] at this
theorem th {most:Int} {l:List Int} (h:c9 l most=true) :(l.length:Int)≤most∨l=[]:=by
 cases l with
 | nil=>exact .inr rfl
 | cons n r=>
  left
  obtain ⟨h1,h2⟩:=vA (n::r) [] h .nil (fun x hx=>by cases hx)
  simp only [List.nil_append] at h1 h2
  have h3:=h2 n List.mem_cons_self
  have:=vX most.toNat (n::r) h1 (fun x hx=>by have:=h2 x hx;omega)
  omega
theorem iB {r:Rules} (h:aq r=0) :(2≤r.Side∧r.Side≤11)∧(0≤r.Overs∧r.Overs≤90)∧(4≤r.Balls∧r.Balls≤8):=by
 have hr:cC r=true:=by
  cases hr:cC r with
  | true=>rfl
  | false=>
   unfold aq at h
   cases hn:iH r.Name <;> simp [hn,hr] at h
 simp only [cC,ay,Bool.and_eq_true,decide_eq_true_eq] at hr
 omega
theorem Dd {r:Rules} (h:aq r=0):0≤r.Overs:=(iB h).2.1.1
theorem OH (r:Rules) (x:Innings):It r x=aW r x:=by
 unfold It aW
 cases hc:aq r==0 with
 | false=>rfl
 | true=>
  have ho:0≤r.Overs:=Dd (by simpa using hc)
  rw [Nh ho,Pd]
  cases inW x.Side 1 2 with
  | false=>rfl
  | true=>
   cases hl:rq r x with
   | false=>rfl
   | true=>
    have hl2 :(x.Batters.length:Int)=r.Side:=by
     simp only [rq,Bool.and_eq_true,beq_iff_eq] at hl
     exact hl.1
    cases hS:inW x.Striker 0 r.Side with
    | false=>
     have:mU x r.Side=false:=by
      unfold mU m1
      split
      ·rfl
      ·simp only [hS];rfl
     rw [this]
     simp
    | true=>
     cases hO:inW x.Other 0 r.Side with
     | false=>
      have:mU x r.Side=false:=by
       unfold mU m1
       split
       ·rfl
       ·simp only [hS,hO];rfl
      rw [this]
      simp
     | true=>
      rw [RY x r.Side hl2 hS hO]
      cases uh x <;> simp
end
section
open Go Go.Mir
attribute [local irreducible] Go.Mir.DT.sat Go.Mir.evPat Go.Mir.RT.sat Go.Mir.evFn
abbrev qNv:Pat:=⟨[(168,.h Is),(169,.h I),(170,.h I)],[],0⟩
abbrev xNv:List (Lf×Pat):= [(.ret,⟨[(4,.h .bool)],[],0⟩),(.ext 2,⟨[],[],0⟩)]
def lL (x:List Int×Int×Int×Unit):Sum (Bool×Unit) Unit:=yu (!eJ (x.1.drop x.2.2.1.toNat))
def Kc (x:List Int×Int×Int×Unit):Nat:=(x.2.1 - x.2.2.1).toNat
noncomputable def lpNv:Lp:=(⟨0,al [jU] Tryz.f286,(fun _=>none),(az Tryz.f286 1),qNv,xNv⟩:Lp)
theorem TE (xs:List Int) (n:Int) (i:Int) (hi:cH (xs,n,i,())) :(Go.Mir.stepG lpNv lL (fun y:Den (tyP lpNv.q)=>cH y∧Kc y<Kc (xs,n,i,())) (xs,n,i,())∧Go.Mir.stepE lpNv lL (xs,n,i,())=lL (xs,n,i,())):=by
 refine cast (by kernel_rfl) (?_:let r1:Bool:=!inW (xs.getD i.toNat (dflt (Ty.int IntKind.i64))) 0 1000000000;((decide (i<n)=true→(0≤i∧i <(↑xs.length:Int))∧(r1=true→True)∧(r1=false→cH (xs,n,IntKind.i64.wrap (i+1),())∧Kc (xs,n,IntKind.i64.wrap (i+1),())<Kc (xs,n,i,())))∧(decide (i<n)=false→True))∧(cond (decide (i<n)) (cond r1 (Sum.inl (false,())) (lL (xs,n,IntKind.i64.wrap (i+1),()))) (Sum.inr ()))=lL (xs,n,i,()))
 intro r1
 clear_value (hr1:r1=_)
 obtain ⟨h1,h2,h3,h4⟩:=hi
 simp only at h1 h2 h3 h4
 have h5 :(xs.length:Int)≤140737488355328:=by have:xs.length≤140737488355328:=h4;omega
 refine ⟨⟨fun h=>?_,fun _=>trivial⟩,?_⟩
 ·have h:i<n:=of_decide_eq_true h
  rw [bc (n:=i+1) (by omega) (by omega)]
  refine ⟨⟨h2,by omega⟩,fun _=>trivial,fun _=>⟨⟨h1,by simp only;omega,by simp only;omega,h4⟩,by simp only [Kc];omega⟩⟩
 ·by_cases h:i<n
  ·rw [decide_eq_true h,cond_true,bc (n:=i+1) (by omega) (by omega)]
   have e:xs.drop i.toNat=xs.getD i.toNat (dflt (Ty.int IntKind.i64))::xs.drop (i+1).toNat:=b8 h2 (by omega) _
   try rw [hr1]
   generalize xs.getD i.toNat (dflt (Ty.int IntKind.i64))=v at e ⊢
   simp only [lL,e,eJ,List.any_cons]
   show _=yu (!(gm v||_))
   unfold gm
   cases inW v 0 1000000000 <;> rfl
  ·rw [decide_eq_false h,cond_false]
   simp only [lL]
   rw [bJ (l:=xs) (by omega)]
   rfl
noncomputable def RF:LoopSum:=aM lpNv lL cH
noncomputable def Rf:Nat:=rid (az Tryz.f286 1)
theorem Sv:LoopOKp Tryz.prog 0 Tryz.f286.ntmps (az Tryz.f286 1) (aM lpNv lL cH):=
 bk lpNv (aj (.consU mm rfl .nil) _) mixed (fun b hb S hS=>by cases hS) lL cH Kc (fun |⟨xs,n,i,⟨⟩⟩,hi=>TE xs n i hi)
theorem Fy (r:Rules) (x:Innings) (hs:ai x) :(evPat (al [k86,jU,uV,kK] Tryz.f286) (find [(rid (az Tryz.f286 0),c7 13 (al [k86,jU,uV,kK] Tryz.f286) (fun _=>none) (az Tryz.f286 0)),(Rf,RF)]) Tryz.f286 qRI ax (r,x,())).sat fun z_=>z_ =(sY (r,x,())).2:=by
 refine cast (by kernel_rfl) (?_:let r1:Int:=IntKind.i64.wrap ((0:Int)+1);let r2:Bool:=!inW x.8 0 (IntKind.i64.wrap (r.5 - 1));let r3:Int:=IntKind.i64.wrap (r1+1);let r4:Int:=IntKind.i64.wrap (r3+1);let r5:Int:=IntKind.i64.wrap (r4+1);let r6:Int:=IntKind.i64.wrap (r5+1);let r7:Bool:=cond (!inW x.9 0 r.2) true (cond (!inW x.10 0 r.2) true (cond (!inW x.12 0 r.2) true (cond (!inW x.19 0 r.2) true (cond (!c9 x.13 r.2) true (cond (!c9 x.14 r.2) true (!uh x))))));let r8:List Int:= [x.2,x.4,x.6.1,x.6.2,x.6.3,x.6.4,x.6.5,x.7,x.18,x.20,x.22.1,x.22.2.1];let r9:Bool:=cond (decide (r.4>0)) (cond (!inW x.3 1 r.4) true r2) r2;let r10:Int:=IntKind.i64.wrap (r6+1);let r11:Int:=(↑r8.length:Int);let r12:Int:=IntKind.i64.wrap (r10+1);let r13:Bool:=cond (aq r != 0) true (cond (!inW x.1 1 2) true (cond ((↑x.11.length:Int) != r.2) true (cond ((↑x.16.length:Int) != r.2) true (cond ((↑x.21.length:Int) != r.2) true (decide (x.23>5))))));let r14:Bool:=!inW (r8.getD (Int.toNat 0) (dflt (Ty.int IntKind.i64))) 0 1000000000;let r15:Int:=IntKind.i64.wrap (r12+1);let r16:Bool:=!inW (r8.getD r1.toNat (dflt (Ty.int IntKind.i64))) 0 1000000000;let r17:Int:=IntKind.i64.wrap (r15+1);let r18:Bool:=!inW (r8.getD r3.toNat (dflt (Ty.int IntKind.i64))) 0 1000000000;let r19:Int:=IntKind.i64.wrap (r17+1);let r20:Bool:=!inW (r8.getD r4.toNat (dflt (Ty.int IntKind.i64))) 0 1000000000;let r21:Int:=IntKind.i64.wrap (r19+1);let r22:Bool:=!inW (r8.getD r5.toNat (dflt (Ty.int IntKind.i64))) 0 1000000000;let r23:Bool:=isL (lL (x.16,(↑x.16.length:Int),0,()));let r24:Bool:=!inW (r8.getD r6.toNat (dflt (Ty.int IntKind.i64))) 0 1000000000;let r25:Bool:=!inW (r8.getD r10.toNat (dflt (Ty.int IntKind.i64))) 0 1000000000;let r26:Bool:=cond (r.4==0) (cond (x.3 != 0) true r9) r9;let r27:Bool:=!inW (r8.getD r12.toNat (dflt (Ty.int IntKind.i64))) 0 1000000000;let r28:Bool:=!inW (r8.getD r15.toNat (dflt (Ty.int IntKind.i64))) 0 1000000000;let r29:Bool:=!inW (r8.getD r17.toNat (dflt (Ty.int IntKind.i64))) 0 1000000000;let r30:Bool:=!inW (r8.getD r19.toNat (dflt (Ty.int IntKind.i64))) 0 1000000000;let r31:Bool:=!inW (r8.getD r21.toNat (dflt (Ty.int IntKind.i64))) 0 1000000000;(r13=true→(false,()) =(aW r x,()))∧(r13=false→(((!inW x.9 0 r.2)=true→True)∧((!inW x.9 0 r.2)=false→((!inW x.10 0 r.2)=true→True)∧((!inW x.10 0 r.2)=false→((!inW x.12 0 r.2)=true→True)∧((!inW x.12 0 r.2)=false→((!inW x.19 0 r.2)=true→True)∧((!inW x.19 0 r.2)=false→((!c9 x.13 r.2)=true→True)∧((!c9 x.13 r.2)=false→((!c9 x.14 r.2)=true→True)∧((!c9 x.14 r.2)=false→ai x∧True)))))))∧(true=true→(r7=true→(false,()) =(aW r x,()))∧(r7=false→(r26=true→(false,()) =(aW r x,()))∧(r26=false→((0:Int)≤0∧0 <(↑(2:Nat):Int))∧((0:Int)≤1∧1 <(↑(2:Nat):Int))∧True∧((0:Int)≤0∧0<r11)∧(r14=true→(false,()) =(aW r x,()))∧(r14=false→(0≤r1∧r1<r11)∧(r16=true→(false,()) =(aW r x,()))∧(r16=false→(0≤r3∧r3<r11)∧(r18=true→(false,()) =(aW r x,()))∧(r18=false→(0≤r4∧r4<r11)∧(r20=true→(false,()) =(aW r x,()))∧(r20=false→(0≤r5∧r5<r11)∧(r22=true→(false,()) =(aW r x,()))∧(r22=false→(0≤r6∧r6<r11)∧(r24=true→(false,()) =(aW r x,()))∧(r24=false→(0≤r10∧r10<r11)∧(r25=true→(false,()) =(aW r x,()))∧(r25=false→(0≤r12∧r12<r11)∧(r27=true→(false,()) =(aW r x,()))∧(r27=false→(0≤r15∧r15<r11)∧(r28=true→(false,()) =(aW r x,()))∧(r28=false→(0≤r17∧r17<r11)∧(r29=true→(false,()) =(aW r x,()))∧(r29=false→(0≤r19∧r19<r11)∧(r30=true→(false,()) =(aW r x,()))∧(r30=false→(0≤r21∧r21<r11)∧(r31=true→(false,()) =(aW r x,()))∧(r31=false→((cZ fun x=>none)∧(↑x.16.length:Int) =(↑x.16.length:Int)∧(0:Int)≤0∧0≤(↑x.16.length:Int)∧x.16.length≤aJ)∧(r23=true→jm (dflt (Ty.bool.prod Ty.unit)) (lL (x.16,(↑x.16.length:Int),0,())) =(aW r x,()))∧(r23=false→(true,()) =(aW r x,())))))))))))))))))))
 intro r1 r2 r3 r4 r5 r6 r7 r8 r9 r10 r11 r12 r13 r14 r15 r16 r17 r18 r19 r20 r21 r22 r23 r24 r25 r26 r27 r28 r29 r30 r31
 clear_value (hr1:r1=_) (hr2:r2=_) (hr3:r3=_) (hr4:r4=_) (hr5:r5=_) (hr6:r6=_) (hr7:r7=_) (hr8:r8=_) (hr9:r9=_) (hr10:r10=_) (hr11:r11=_) (hr12:r12=_) (hr13:r13=_) (hr14:r14=_) (hr15:r15=_) (hr16:r16=_) (hr17:r17=_) (hr18:r18=_) (hr19:r19=_) (hr20:r20=_) (hr21:r21=_) (hr22:r22=_) (hr23:r23=_) (hr24:r24=_) (hr25:r25=_) (hr26:r26=_) (hr27:r27=_) (hr28:r28=_) (hr29:r29=_) (hr30:r30=_) (hr31:r31=_)
 have e13:r13=!(aq r==0&&(inW x.Side 1 2&&(rq r x&&decide (x.Ending≤5)))):=by
  have hd:decide (x.Ending>5)=!decide (x.Ending≤5):=by by_cases h:x.Ending≤5 <;> simp [h] <;> omega
  rw [hr13,hd];unfold rq
  cases h0:aq r==0 <;> cases inW x.Side 1 2 <;> cases h1 :(x.Batters.length:Int)==r.Side <;> cases h2 :(x.Bowled.length:Int)==r.Side <;> cases h3 :(x.Subs.length:Int)==r.Side <;> simp [bne,h0,h1,h2,h3]
 have e7:r7=!(inW x.Striker 0 r.Side&&(inW x.Other 0 r.Side&&(inW x.Bowler 0 r.Side&&(inW x.Keeper 0 r.Side&&(c9 x.Bowlers r.Side&&(c9 x.Before r.Side&&uh x)))))):=by
  rw [hr7];cases inW x.Striker 0 r.Side <;> cases inW x.Other 0 r.Side <;> cases inW x.Bowler 0 r.Side <;> cases inW x.Keeper 0 r.Side <;> cases c9 x.Bowlers r.Side <;> cases c9 x.Before r.Side <;> rfl
 have e26:r26=!(xb r x&&inW x.InOver 0 (W (r.Balls - 1))):=by
  rw [hr26,hr9,hr2];unfold xb;cases r.Overs==0 <;> cases hx :(x.Overs==0) <;> cases decide (r.Overs>0) <;> cases inW x.Overs 1 r.Overs <;> simp [bne,hx]
 have n11:r11=12:=by rw [hr11,hr8];rfl
 have n1:r1=1:=by rw [hr1];rfl
 have n3:r3=2:=by rw [hr3,n1];rfl
 have n4:r4=3:=by rw [hr4,n3];rfl
 have n5:r5=4:=by rw [hr5,n4];rfl
 have n6:r6=5:=by rw [hr6,n5];rfl
 have n10:r10=6:=by rw [hr10,n6];rfl
 have n12:r12=7:=by rw [hr12,n10];rfl
 have n15:r15=8:=by rw [hr15,n12];rfl
 have n17:r17=9:=by rw [hr17,n15];rfl
 have n19:r19=10:=by rw [hr19,n17];rfl
 have n21:r21=11:=by rw [hr21,n19];rfl
 have f14:r14=gm x.Target:=by rw [hr14,hr8];rfl
 have f16:r16=gm x.Runs:=by rw [hr16,hr8,n1];rfl
 have f18:r18=gm x.Extras.Wides:=by rw [hr18,hr8,n3];rfl
 have f20:r20=gm x.Extras.NoBalls:=by rw [hr20,hr8,n4];rfl
 have f22:r22=gm x.Extras.Byes:=by rw [hr22,hr8,n5];rfl
 have f24:r24=gm x.Extras.LegByes:=by rw [hr24,hr8,n6];rfl
 have f25:r25=gm x.Extras.Penalties:=by rw [hr25,hr8,n10];rfl
 have f27:r27=gm x.Complete:=by rw [hr27,hr8,n12];rfl
 have f28:r28=gm x.BallAge:=by rw [hr28,hr8,n15];rfl
 have f29:r29=gm x.Outside:=by rw [hr29,hr8,n17];rfl
 have f30:r30=gm x.Reviews.1:=by rw [hr30,hr8,n19];rfl
 have f31:r31=gm x.Reviews.2.1:=by rw [hr31,hr8,n21];rfl
 have hf:eJ (xY x) =(r14 ||(r16 ||(r18 ||(r20 ||(r22 ||(r24 ||(r25 ||(r27 ||(r28 ||(r29 ||(r30 ||(r31||false)))))))))))):=by rw [f14,f16,f18,f20,f22,f24,f25,f27,f28,f29,f30,f31];rfl
 have er:lL (x.Bowled,(x.Bowled.length:Int),0,())=yu (!eJ x.Bowled):=rfl
 have hv:aW r x =(!r13&&(!r7&&(!r26&&(!eJ (xY x)&&!eJ x.Bowled)))):=by rw [←OH,e13,e7,e26];unfold It;simp only [Bool.not_not,Bool.and_assoc]
 have hb:x.Bowled.length≤aJ:=by have:=hs.2.2.2.1;show x.Bowled.length≤140737488355328;omega
 rw [er] at hr23
 rw [er,hv,hf,n11,n1,n3,n4,n5,n6,n10,n12,n15,n17,n19,n21]
 clear hr13 hr7 hr26 hr9 hr2 hv hf e13 e7 e26 f14 f16 f18 f20 f22 f24 f25 f27 f28 f29 f30 f31 hr14 hr16 hr18 hr20 hr22 hr24 hr25 hr27 hr28 hr29 hr30 hr31 hr8
 cases r13 with
 | true=>simp [hs]
 | false=>
 cases r7 with
 | true=>simp [hs]
 | false=>
 cases r26 with
 | true=>simp [hs]
 | false=>
 cases r14 with
 | true=>simp [hs]
 | false=>
 cases r16 with
 | true=>simp [hs]
 | false=>
 cases r18 with
 | true=>simp [hs]
 | false=>
 cases r20 with
 | true=>simp [hs]
 | false=>
 cases r22 with
 | true=>simp [hs]
 | false=>
 cases r24 with
 | true=>simp [hs]
 | false=>
 cases r25 with
 | true=>simp [hs]
 | false=>
 cases r27 with
 | true=>simp [hs]
 | false=>
 cases r28 with
 | true=>simp [hs]
 | false=>
 cases r29 with
 | true=>simp [hs]
 | false=>
 cases r30 with
 | true=>simp [hs]
 | false=>
 cases r31 with
 | true=>simp [hs]
 | false=>
 cases hF:eJ x.Bowled with
 | true=>rw [hF] at hr23;have e:r23=true:=hr23;simp [hs,e,yu,jm,cZ,hb];rfl
 | false=>rw [hF] at hr23;have e:r23=false:=hr23;simp [hs,e,yu,jm,cZ,hb]
def lE:FuncId×Ctr:=(286,ae KE qRI ax sY)
theorem qp:CtrOK Tryz.prog KE 286 (ae KE qRI ax sY):=by
 refine an (C:=al [k86,jU,uV,kK] Tryz.f286) (aj (.consU wS rfl (.consU mm rfl (.consU Et rfl (.consU rH rfl .nil)))) _) mixed (fn:=Tryz.f286) Tryz.func286 (by kernel_rfl) (by kernel_rfl) (by kernel_rfl) (by kernel_rfl) (by kernel_rfl) (by kernel_rfl) (Λ:=fun x=>find [(rid (az Tryz.f286 0),c7 13 (al [k86,jU,uV,kK] Tryz.f286) (fun _=>none) (az Tryz.f286 0)),(Rf,RF)]) ?_ ?_
 ·rintro ⟨r,x,⟨⟩⟩ hw hn
  exact LoopsOKp.at (by kernel_rfl) (.cons (by kernel_rfl) (jG 13 (aj (.consU wS rfl (.consU mm rfl (.consU Et rfl (.consU rH rfl .nil)))) _) mixed (Λ:=fun _=>none) (b:=az Tryz.f286 0) rfl (fun _ _ _ h=>by cases h)) (.cons (by kernel_rfl) (Sv) .nil))
 ·rintro ⟨r,x,⟨⟩⟩ hw hn
  exact Fy r x (hn _ List.mem_cons_self)
theorem B7 (r:Rules) (x:Innings) (hs:ai x) :(evPat (al [lE,gX,rh] Tryz.f316) (fun _=>none) Tryz.f316 qRI qH (r,x,())).sat fun z_=>z_ =(Lt (r,x,())).2:=by
 refine cast (by kernel_rfl) (?_:let r1:Bool:=cond (cf x) ((↑(tK x).length:Int)==0) false;let r2:Bool:=cond (decide (x.2>0)) (decide (x.4≥x.2)) false;let r3:Bool:=cond (decide (x.3>0)) (decide (x.7≥x.3)) false;ai x∧((!aW r x)=true→(0,()) =(pq r x,()))∧((!aW r x)=false→(r2=true→(3,()) =(pq r x,()))∧(r2=false→((cf x=true→ai x∧True)∧(cf x=false→True))∧(true=true→(r1=true→(1,()) =(pq r x,()))∧(r1=false→(r3=true→(2,()) =(pq r x,()))∧(r3=false→(0,()) =(pq r x,())))))))
 intro r1 r2 r3
 clear_value (hr1:r1=_) (hr2:r2=_) (hr3:r3=_)
 grind [pq,jZ]
def wy:FuncId×Ctr:=(316,ae KE qRI qH Lt)
theorem Er:CtrOK Tryz.prog KE 316 (ae KE qRI qH Lt):=by
 refine an (C:=al [lE,gX,rh] Tryz.f316) (aj (.consU qp rfl (.consU nD rfl (.consU Ac rfl .nil))) _) mixed (fn:=Tryz.f316) Tryz.func316 (by kernel_rfl) (by kernel_rfl) (by kernel_rfl) (by kernel_rfl) (by kernel_rfl) (by kernel_rfl) (Λ:=fun _ _=>none) ?_ ?_
 ·exact fun _ _ _ _ _ _ _ _ h=>by cases h
 ·rintro ⟨r,x,⟨⟩⟩ hw hn
  exact B7 r x (hn _ List.mem_cons_self)
end
end Go.Proofs.YtffdpnmioidloaaGreatDoor
