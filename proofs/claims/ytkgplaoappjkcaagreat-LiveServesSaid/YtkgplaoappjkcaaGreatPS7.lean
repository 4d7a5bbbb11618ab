/- Texts of the mirror and contracts, put together. -/
import Derived.Test.YtkgplaoappjkcaaGreatPS6
namespace Go.Proofs.YtkgplaoappjkcaaGreat
open Go Go.Mir
attribute [local irreducible] Go.Mir.DT.sat Go.Mir.evPat Go.Mir.RT.sat Go.Mir.evFn
def uP (st n i:Int):Bool:=st==3&&i==W (n - 1)
def wx (st n:Int):List Innings→Int→Bool
 | [],_=>true
 | x::l,i=>if (x.Ending==0) != uP st n i then false else wx st n l (i+1)
def jZ (m:Match):Bool:=wx m.Stage m.Innings.length m.Innings 0&&(m.Stage != 3||decide ((m.Innings.length:Int)>0))
def Fr:Den (tyP qM)→List Prop×Den (tyP ax):=fun x=>([],(jZ x.1,()))
abbrev qEn:Pat:=⟨[(1,.c (.ptr 0 0)),(3,.h I),(10,.h I4),(11,.h I),(12,.h I)],[(0,.dat (.nm .Match))],1⟩
abbrev xEn:List (Lf×Pat):= [(.ret,⟨[(2,.h .bool)],[],0⟩),(.ext 0,⟨[(1,.c (.ptr 0 0)),(3,.h I)],[(0,.dat (.nm .Match))],1⟩)]
abbrev TEn:Type:=Int×List Innings×Int×Int×Match×Unit
def xu (x:TEn):Prop:=gQ (0,0,x.2.1,x.2.2.1,x.2.2.2.1,())
def HB (x:TEn):Nat:=(x.2.2.1 - x.2.2.2.1).toNat
def NG (n:Int) (m:Match) (b:Bool):Sum (Bool×Unit) (Int×Match×Unit):=if b then .inr (n,m,()) else .inl (false,())
def jS (x:TEn):Sum (Bool×Unit) (Int×Match×Unit):=NG x.1 x.2.2.2.2.1 (wx x.2.2.2.2.1.Stage x.1 (x.2.1.drop x.2.2.2.1.toNat) x.2.2.2.1)
noncomputable def lpEn:Lp:=(⟨0,ao [] Tryz.f61,(fun _=>none),(aA Tryz.f61 0),qEn,xEn⟩:Lp)
theorem P9 (k:Int) (xs:List Innings) (n:Int) (i:Int) (m:Match) (hi:xu (k,xs,n,i,m,())) :(Go.Mir.stepG lpEn jS (fun y:Den (tyP lpEn.q)=>xu y∧HB y<HB (k,xs,n,i,m,())) (k,xs,n,i,m,())∧Go.Mir.stepE lpEn jS (k,xs,n,i,m,())=jS (k,xs,n,i,m,())):=by
 refine cast (by kernel_rfl) (?_:let r1:Bool:=(xs.getD i.toNat (dflt (Ty.nm Nm.Innings))).23 ==(0:Int);let r2:Bool:=bif m.2 ==(3:Int) then !r1 ==(i==IntKind.i64.wrap (k - (1:Int))) else !r1==false;((decide (i<n)=true→((0:Int)≤i∧i <(↑xs.length:Int))∧(r2=true→True)∧(r2=false→xu (k,xs,n,IntKind.i64.wrap (i +(1:Int)),m,())∧HB (k,xs,n,IntKind.i64.wrap (i +(1:Int)),m,())<HB (k,xs,n,i,m,())))∧(decide (i<n)=false→True))∧(bif decide (i<n) then bif r2 then Sum.inl (false,()) else jS (k,xs,n,IntKind.i64.wrap (i +(1:Int)),m,()) else Sum.inr (k,m,()))=jS (k,xs,n,i,m,()))
 intro r1 r2
 clear_value (hr1:r1=_) (hr2:r2=_)
 obtain ⟨h1,h2,h3,h4⟩:=hi
 simp only at h1 h2 h3 h4
 have h5 :(xs.length:Int)≤140737488355328:=by have:xs.length≤140737488355328:=h4;omega
 refine ⟨⟨fun h=>?_,fun _=>trivial⟩,?_⟩
 ·have h:i<n:=of_decide_eq_true h
  rw [bi (n:=i+1) (by omega) (by omega)]
  exact ⟨⟨h2,by omega⟩,fun _=>trivial,fun _=>⟨⟨h1,by simp only;omega,by simp only;omega,h4⟩,by simp only [HB];omega⟩⟩
 ·by_cases h:i<n
  ·have e:xs.drop i.toNat=xs.getD i.toNat (dflt (Ty.nm Nm.Innings))::xs.drop (i+1).toNat:=b7 h2 (by omega) _
   rw [decide_eq_true h,cond_true,bi (n:=i+1) (by omega) (by omega)]
   generalize xs.getD i.toNat (dflt (Ty.nm Nm.Innings))=v at e hr1
   have e2:r2 =((v.Ending==0) != uP m.Stage k i):=by
    rw [hr2,hr1]
    unfold uP
    cases m.Stage==3 <;> cases v.Ending==0 <;> cases i==IntKind.i64.wrap (k - 1) <;> rfl
   simp only [jS,e,wx]
   rw [←e2]
   cases r2 <;> rfl
  ·rw [decide_eq_false h,cond_false]
   simp only [jS]
   rw [bK (l:=xs) (by omega)]
   rfl
noncomputable def Oh:LoopSum:=aI lpEn jS xu
noncomputable def NT:Nat:=rid (aA Tryz.f61 0)
theorem O9:LoopOKp Tryz.prog 0 Tryz.f61.ntmps (aA Tryz.f61 0) (aI lpEn jS xu):=
 bj lpEn (al (CtrsOK.nil) _) mixed (fun b hb S hS=>by cases hS) jS xu HB (fun |⟨k,xs,n,i,m,⟨⟩⟩,hi=>P9 k xs n i m hi)
theorem Iw (m:Match) (hx:m.Innings.length≤aS) :(evPat (ao [] Tryz.f61) (find [(NT,Oh)]) Tryz.f61 qM ax (m,())).sat fun z_=>z_ =(Fr (m,())).2:=by
 refine cast (by kernel_rfl) (?_:let r1:Bool:=isL (jS ((↑m.5.length:Int),m.5,(↑m.5.length:Int),(0:Int),m,()));let r2:Int×Match×PUnit:=pN (dflt (I.prod ((Ty.nm Nm.Match).prod Ty.unit))) (jS ((↑m.5.length:Int),m.5,(↑m.5.length:Int),(0:Int),m,()));((cR fun x=>none)∧(↑m.5.length:Int) =(↑m.5.length:Int)∧(0:Int)≤(0:Int)∧(0:Int)≤(↑m.5.length:Int)∧m.5.length≤aS)∧(r1=true→ij (dflt (Ty.bool.prod Ty.unit)) (jS ((↑m.5.length:Int),m.5,(↑m.5.length:Int),(0:Int),m,())) =(jZ m,()))∧(r1=false→(bif r2.2.1.2 !=(3:Int) then true else decide (r2.1 >(0:Int)),()) =(jZ m,())))
 intro r1 r2
 clear_value (hr1:r1=_) (hr2:r2=_)
 have er:jS ((m.Innings.length:Int),m.Innings,(m.Innings.length:Int),0,m,())=NG m.Innings.length m (wx m.Stage m.Innings.length m.Innings 0):=rfl
 rw [er] at hr1 hr2 ⊢
 refine ⟨⟨rfl,rfl,Int.le_refl _,by omega,hx⟩,fun h=>?_,fun h=>?_⟩
 ·cases hE:wx m.Stage m.Innings.length m.Innings 0 with
  | true=>rw [hE] at hr1;rw [hr1] at h;cases h
  | false=>simp only [jZ,hE];rfl
 ·cases hE:wx m.Stage m.Innings.length m.Innings 0 with
  | false=>rw [hE] at hr1;rw [hr1] at h;cases h
  | true=>
   rw [hE] at hr2
   have e2:r2 =((m.Innings.length:Int),m,()):=hr2
   rw [e2]
   simp only [jZ,hE]
   cases m.Stage != 3 <;> rfl
def tp:FuncId×Ctr:=(61,ae KE qM ax Fr)
theorem Ci:CtrOK Tryz.prog KE 61 (ae KE qM ax Fr):=by
 refine aq (C:=ao [] Tryz.f61) (al (CtrsOK.nil) _) mixed (fn:=Tryz.f61) Tryz.func61 (by kernel_rfl) (by kernel_rfl) (by kernel_rfl) (by kernel_rfl) (by kernel_rfl) (by kernel_rfl) (Λ:=fun x=>find [(NT,Oh)]) ?_ ?_
 ·rintro ⟨m,⟨⟩⟩ hw hn
  exact LoopsOKp.at (by kernel_rfl) (.cons (by kernel_rfl) (O9) .nil)
 ·rintro ⟨m,⟨⟩⟩ hw hn
  exact Iw m (qx (aY hw))
end Go.Proofs.YtkgplaoappjkcaaGreat
namespace Go.Proofs.YtkgplaoappjkcaaGreat
open Go Go.Mir
attribute [local irreducible] Go.Mir.DT.sat Go.Mir.evPat Go.Mir.RT.sat Go.Mir.evFn
def dX (l:List Innings):Prop:=∀ z∈l,aj z
def c9 (m:Match):Prop:=dX m.Innings
def okF (m:Match):List Innings→Int→Bool
 | [],_=>true
 | x::l,i=>if !aZ m.Rules x||x.Side != cC m i then false else okF m l (i+1)
abbrev qVa:Pat:=⟨[(1,.c (.ptr 0 0)),(122,.h I4),(123,.h I),(124,.h I)],[(0,.dat (.nm .Match))],1⟩
abbrev xVa:List (Lf×Pat):= [(.ret,⟨[(2,.h .bool)],[],0⟩),(.ext 3,⟨[(1,.c (.ptr 0 0))],[(0,.dat (.nm .Match))],1⟩)]
abbrev TVa:Type:=List Innings×Int×Int×Match×Unit
def lZ (x:TVa):Prop:=gQ (0,0,x.1,x.2.1,x.2.2.1,())∧dX x.1
def sP (x:TVa):Nat:=(x.2.1 - x.2.2.1).toNat
def GN (m:Match) (b:Bool):Sum (Bool×Unit) (Match×Unit):=if b then .inr (m,()) else .inl (false,())
def jp (x:TVa):Sum (Bool×Unit) (Match×Unit):=GN x.2.2.2.1 (okF x.2.2.2.1 (x.1.drop x.2.2.1.toNat) x.2.2.1)
def gh (m:Match):Bool:=
 let n:Int:=m.Innings.length
 (decide (m.First<0) ||(decide (m.First>2)||decide (n>W (2*m.Rules.Innings))))
 ||(m.First==0&&(decide (n>0)||m.Stage != 1&&m.Stage != 5))
 ||(m.Stage==1&&m.First != 0)
 ||(m.Stage==2&&n==W (2*m.Rules.Innings))
 ||(m.Stage==4&&(!(m.Rules.Innings==2)||n != 2))
 ||(m.Follow&&(!(m.Rules.Innings==2)||decide (n<2)))
def rk (m:Match):Bool:=!inW m.Penalty.1 0 1000000||!inW m.Penalty.2.1 0 1000000
def aO (m:Match):Bool:=ar m.Rules==0&&(inW m.Stage 1 5&&(!rk m&&(!gh m&&(okF m m.Innings 0&&jZ m))))
def AD:Den (tyP qM)→List Prop×Den (tyP ax):=fun x=>([c9 x.1],(aO x.1,()))
theorem fZ {α:Type} {xs:List α} {i:Nat} (h:i<xs.length) (d:α):xs.getD i d∈xs:=by
 rw [List.getD_eq_getElem?_getD,List.getElem?_eq_getElem h]
 exact List.getElem_mem h
noncomputable def lpVa:Lp:=(⟨0,ao [pT,zw] Tryz.f44,(fun _=>none),(aA Tryz.f44 1),qVa,xVa⟩:Lp)
theorem Qk (xs:List Innings) (n:Int) (i:Int) (m:Match) (hi:lZ (xs,n,i,m,())) :(Go.Mir.stepG lpVa jp (fun y:Den (tyP lpVa.q)=>lZ y∧sP y<sP (xs,n,i,m,())) (xs,n,i,m,())∧Go.Mir.stepE lpVa jp (xs,n,i,m,())=jp (xs,n,i,m,())):=by
 refine cast (by kernel_rfl) (?_:let r1:Bool:=!aZ m.1 (xs.getD i.toNat (dflt (Ty.nm Nm.Innings)));let r2:Bool:=bif r1 then true else (xs.getD i.toNat (dflt (Ty.nm Nm.Innings))).1 != cC m i;((decide (i<n)=true→((0:Int)≤i∧i <(↑xs.length:Int))∧(aj (xs.getD i.toNat (dflt (Ty.nm Nm.Innings)))∧(r1=true→True)∧(r1=false→True))∧(true=true→(r2=true→True)∧(r2=false→lZ (xs,n,IntKind.i64.wrap (i +(1:Int)),m,())∧sP (xs,n,IntKind.i64.wrap (i +(1:Int)),m,())<sP (xs,n,i,m,()))))∧(decide (i<n)=false→True))∧(bif decide (i<n) then bif true&&true then bif r2 then Sum.inl (false,()) else jp (xs,n,IntKind.i64.wrap (i +(1:Int)),m,()) else bif true then bif r2 then Sum.inl (false,()) else jp (xs,n,IntKind.i64.wrap (i +(1:Int)),m,()) else bif r1 then Sum.inl (dflt (Ty.bool.prod Ty.unit)) else Sum.inl (dflt (Ty.bool.prod Ty.unit)) else Sum.inr (m,()))=jp (xs,n,i,m,()))
 intro r1 r2
 clear_value (hr1:r1=_) (hr2:r2=_)
 obtain ⟨⟨h1,h2,h3,h4⟩,hs⟩:=hi
 simp only at h1 h2 h3 h4 hs
 have h5 :(xs.length:Int)≤140737488355328:=by have:xs.length≤140737488355328:=h4;omega
 refine ⟨⟨fun h=>?_,fun _=>trivial⟩,?_⟩
 ·have h:i<n:=of_decide_eq_true h
  rw [bi (n:=i+1) (by omega) (by omega)]
  refine ⟨⟨h2,by omega⟩,⟨hs _ ?_,fun _=>trivial,fun _=>trivial⟩,fun _=>⟨fun _=>trivial,fun _=>⟨⟨⟨h1,by simp only;omega,by simp only;omega,h4⟩,hs⟩,by simp only [sP];omega⟩⟩⟩
  have hl:i.toNat<xs.length:=by omega
  exact fZ hl _
 ·by_cases h:i<n
  ·have e:xs.drop i.toNat=xs.getD i.toNat (dflt (Ty.nm Nm.Innings))::xs.drop (i+1).toNat:=b7 h2 (by omega) _
   rw [decide_eq_true h,bi (n:=i+1) (by omega) (by omega)]
   generalize xs.getD i.toNat (dflt (Ty.nm Nm.Innings))=v at e hr1 hr2
   have e2:r2 =(!aZ m.Rules v||v.Side != cC m i):=by
    rw [hr2,hr1]
    cases aZ m.Rules v <;> rfl
   simp only [jp,e,okF]
   rw [←e2]
   cases r2 <;> rfl
  ·rw [decide_eq_false h,cond_false]
   simp only [jp]
   rw [bK (l:=xs) (by omega)]
   rfl
noncomputable def Or:LoopSum:=aI lpVa jp lZ
noncomputable def N2:Nat:=rid (aA Tryz.f44 1)
theorem Pj:LoopOKp Tryz.prog 0 Tryz.f44.ntmps (aA Tryz.f44 1) (aI lpVa jp lZ):=
 bj lpVa (al (.consU ve rfl (.consU Cj rfl .nil)) _) mixed (fun b hb S hS=>by cases hS) jp lZ sP (fun |⟨xs,n,i,m,⟨⟩⟩,hi=>Qk xs n i m hi)
theorem IA (m:Match) (hm:c9 m) (hx:m.Innings.length≤aS) :(evPat (ao [k85,tp] Tryz.f44) (find [(rid (aA Tryz.f44 0),cX 3 (ao [k85,tp] Tryz.f44) (fun _=>none) (aA Tryz.f44 0)),(N2,Or)]) Tryz.f44 qM ax (m,())).sat fun z_=>z_ =(AD (m,())).2:=by
 refine cast (by kernel_rfl) (?_:let r1:Bool:=!m.1.3 ==(2:Int);let r2:Int:=IntKind.i64.wrap ((2:Int)*m.1.3);let r3:Int:=IntKind.i64.wrap ((0:Int) +(1:Int));let r4:Bool:=bif m.2 ==(1:Int) then m.3 !=(0:Int) else false;let r5:Bool:=bif decide (m.6.1 <(0:Int)) then true else decide (m.6.1 >(1000000:Int));let r6:Bool:=bif m.2 ==(2:Int) then (↑m.5.length:Int)==r2 else false;let r7:Bool:=bif decide (m.6.2.1 <(0:Int)) then true else decide (m.6.2.1 >(1000000:Int));let r8:Bool:=bif m.2 ==(4:Int) then bif r1 then true else (↑m.5.length:Int) !=(2:Int) else false;let r9:Bool:=bif m.4 then bif r1 then true else decide ((↑m.5.length:Int) <(2:Int)) else false;let r10:Bool:=bif ar m.1 !=(0:Int) then true else bif decide (m.2 <(1:Int)) then true else decide (m.2 >(5:Int));let r11:Bool:=bif m.3 ==(0:Int) then bif decide ((↑m.5.length:Int) >(0:Int)) then true else bif m.2 !=(1:Int) then m.2 !=(5:Int) else false else false;let r12:Bool:=bif decide (m.3 <(0:Int)) then true else bif decide (m.3 >(2:Int)) then true else decide ((↑m.5.length:Int)>r2);let r13:Bool:=isL (jp (m.5,(↑m.5.length:Int),(0:Int),m,()));(r10=true→(false,()) =(aO m,()))∧(r10=false→True∧((0:Int)≤(0:Int)∧(0:Int) <(↑(2:Nat):Int))∧(r5=true→(false,()) =(aO m,()))∧(r5=false→((0:Int)≤r3∧r3 <(↑(2:Nat):Int))∧(r7=true→(false,()) =(aO m,()))∧(r7=false→(r12=true→(false,()) =(aO m,()))∧(r12=false→(r11=true→(false,()) =(aO m,()))∧(r11=false→(r4=true→(false,()) =(aO m,()))∧(r4=false→(r6=true→(false,()) =(aO m,()))∧(r6=false→(r8=true→(false,()) =(aO m,()))∧(r8=false→(r9=true→(false,()) =(aO m,()))∧(r9=false→((cR fun x=>none)∧gQ ((0:Int),(0:Int),m.5,(↑m.5.length:Int),(0:Int),())∧dX m.5)∧(r13=true→ij (dflt (Ty.bool.prod Ty.unit)) (jp (m.5,(↑m.5.length:Int),(0:Int),m,())) =(aO m,()))∧(r13=false→(jZ (pN (dflt ((Ty.nm Nm.Match).prod Ty.unit)) (jp (m.5,(↑m.5.length:Int),(0:Int),m,()))).1,()) =(aO m,()))))))))))))
 intro r1 r2 r3 r4 r5 r6 r7 r8 r9 r10 r11 r12 r13
 clear_value (hr1:r1=_) (hr2:r2=_) (hr3:r3=_) (hr4:r4=_) (hr5:r5=_) (hr6:r6=_) (hr7:r7=_) (hr8:r8=_) (hr9:r9=_) (hr10:r10=_) (hr11:r11=_) (hr12:r12=_) (hr13:r13=_)
 have er:jp (m.Innings,(m.Innings.length:Int),0,m,())=GN m (okF m m.Innings 0):=rfl
 have n3:r3=1:=by rw [hr3];rfl
 have e10:r10=!(ar m.Rules==0&&inW m.Stage 1 5):=by
  have h1:decide (m.Stage<1)=!decide (m.Stage≥1):=by by_cases h:m.Stage≥1 <;> simp [h] <;> omega
  have h2:decide (m.Stage>5)=!decide (m.Stage≤5):=by by_cases h:m.Stage≤5 <;> simp [h] <;> omega
  rw [hr10,h1,h2]
  unfold inW
  cases hc:ar m.Rules==0 <;> cases decide (m.Stage≥1) <;> cases decide (m.Stage≤5) <;> simp [bne,hc]
 have hq :∀ k:Int,(bif decide (k<0) then true else decide (k>1000000))=!inW k 0 1000000:=fun k=>by
  have h1:decide (k<0)=!decide (k≥0):=by by_cases h:k≥0 <;> simp [h] <;> omega
  have h2:decide (k>1000000)=!decide (k≤1000000):=by by_cases h:k≤1000000 <;> simp [h] <;> omega
  rw [h1,h2]
  unfold inW
  cases decide (k≥0) <;> cases decide (k≤1000000) <;> rfl
 have ep:rk m =(r5||r7):=by rw [hr5,hr7,hq,hq];rfl
 have es:gh m =(((((r12||r11)||r4)||r6)||r8)||r9):=by
  rw [hr12,hr11,hr4,hr6,hr8,hr9,hr1,hr2]
  simp only [gh,Bool.cond_true_left,Bool.cond_false_right]
 have hv:aO m =(!r10&&(!rk m&&(!gh m&&(okF m m.Innings 0&&jZ m)))):=by rw [e10];unfold aO;simp only [Bool.not_not,Bool.and_assoc]
 rw [er] at hr13
 rw [er,hv,ep,es,n3]
 clear hr1 hr2 hr3 hr4 hr5 hr6 hr7 hr8 hr9 hr10 hr11 hr12 ep es hv e10 hq
 have hi:gQ (0,0,m.Innings,(m.Innings.length:Int),0,()):=⟨rfl,Int.le_refl _,by simp only;omega,hx⟩
 have hm':dX m.Innings:=hm
 cases r10 with
 | true=>simp
 | false=>
 cases r5 with
 | true=>simp
 | false=>
 cases r7 with
 | true=>simp
 | false=>
 cases r12 with
 | true=>simp
 | false=>
 cases r11 with
 | true=>simp
 | false=>
 cases r4 with
 | true=>simp
 | false=>
 cases r6 with
 | true=>simp
 | false=>
 cases r8 with
 | true=>simp
 | false=>
 cases r9 with
 | true=>simp
 | false=>
 cases hF:okF m m.Innings 0 with
 | true=>rw [hF] at hr13;have e:r13=false:=hr13;simp [e,GN,pN,cR,hi,hm']
 | false=>rw [hF] at hr13;have e:r13=true:=hr13;simp [e,GN,ij,cR,hi,hm'];rfl
def tq:FuncId×Ctr:=(44,ae KE qM ax AD)
theorem Ck:CtrOK Tryz.prog KE 44 (ae KE qM ax AD):=by
 refine aq (C:=ao [k85,tp] Tryz.f44) (al (.consU zK rfl (.consU Ci rfl .nil)) _) mixed (fn:=Tryz.f44) Tryz.func44 (by kernel_rfl) (by kernel_rfl) (by kernel_rfl) (by kernel_rfl) (by kernel_rfl) (by kernel_rfl) (Λ:=fun x=>find [(rid (aA Tryz.f44 0),cX 3 (ao [k85,tp] Tryz.f44) (fun _=>none) (aA Tryz.f44 0)),(N2,Or)]) ?_ ?_
 ·rintro ⟨m,⟨⟩⟩ hw hn
  exact LoopsOKp.at (by kernel_rfl) (.cons (by kernel_rfl) (iY 3 (al (.consU zK rfl (.consU Ci rfl .nil)) _) mixed (Λ:=fun _=>none) (b:=aA Tryz.f44 0) rfl (fun _ _ _ h=>by cases h)) (.cons (by kernel_rfl) (Pj) .nil))
 ·rintro ⟨m,⟨⟩⟩ hw hn
  exact IA m (hn _ List.mem_cons_self) (qx (aY hw))
end Go.Proofs.YtkgplaoappjkcaaGreat
namespace Go.Proofs.YtkgplaoappjkcaaGreat
open Go Go.Mir
attribute [local irreducible] Go.Mir.DT.sat Go.Mir.evPat Go.Mir.RT.sat Go.Mir.evFn
def okR (m:Match):List Innings→Int→Bool
 | [],_=>true
 | x::l,i=>if !aZ m.Rules x ||(x.Side != gb m i ||(x.Ending==0) != uP m.Stage m.Innings.length i) then false else okR m l (i+1)
def PO:Den (tyP qM)→List Prop×Den (tyP ax):=fun x=>([c9 x.1],(okR x.1 x.1.Innings 0,()))
abbrev qVr:Pat:=⟨[(1,.c (.ptr 0 0)),(7,.h I4),(8,.h I),(9,.h I)],[(0,.dat (.nm .Match))],1⟩
abbrev xVr:List (Lf×Pat):= [(.ret,⟨[(2,.h .bool)],[],0⟩),(.ext 0,⟨[],[],0⟩)]
def jV (x:TVa):Sum (Bool×Unit) Unit:=qe (okR x.2.2.2.1 (x.1.drop x.2.2.1.toNat) x.2.2.1)
noncomputable def lpVr:Lp:=(⟨0,ao [kx,pa] Tryz.f114,(fun _=>none),(aA Tryz.f114 0),qVr,xVr⟩:Lp)
theorem Ql (xs:List Innings) (n:Int) (i:Int) (m:Match) (hi:lZ (xs,n,i,m,())) :(Go.Mir.stepG lpVr jV (fun y:Den (tyP lpVr.q)=>lZ y∧sP y<sP (xs,n,i,m,())) (xs,n,i,m,())∧Go.Mir.stepE lpVr jV (xs,n,i,m,())=jV (xs,n,i,m,())):=by
 refine cast (by kernel_rfl) (?_:let r1:Bool:=!aZ m.1 (xs.getD i.toNat (dflt (Ty.nm Nm.Innings)));let r2:Bool:=(xs.getD i.toNat (dflt (Ty.nm Nm.Innings))).1 != gb m i;let r3:Bool:=bif r1 then true else bif r2 then true else !((xs.getD i.toNat (dflt (Ty.nm Nm.Innings))).23 ==(0:Int))==bif m.2 ==(3:Int) then i==IntKind.i64.wrap ((↑m.5.length:Int) - (1:Int)) else false;((decide (i<n)=true→((0:Int)≤i∧i <(↑xs.length:Int))∧(aj (xs.getD i.toNat (dflt (Ty.nm Nm.Innings)))∧(r1=true→True)∧(r1=false→(r2=true→True)∧(r2=false→True)))∧(true=true→(r3=true→True)∧(r3=false→lZ (xs,n,IntKind.i64.wrap (i +(1:Int)),m,())∧sP (xs,n,IntKind.i64.wrap (i +(1:Int)),m,())<sP (xs,n,i,m,()))))∧(decide (i<n)=false→True))∧(bif decide (i<n) then bif true&&(true&&true) then bif r3 then Sum.inl (false,()) else jV (xs,n,IntKind.i64.wrap (i +(1:Int)),m,()) else bif true then bif r3 then Sum.inl (false,()) else jV (xs,n,IntKind.i64.wrap (i +(1:Int)),m,()) else bif r1 then Sum.inl (dflt (Ty.bool.prod Ty.unit)) else bif r2 then Sum.inl (dflt (Ty.bool.prod Ty.unit)) else Sum.inl (dflt (Ty.bool.prod Ty.unit)) else Sum.inr ())=jV (xs,n,i,m,()))
 intro r1 r2 r3
 clear_value (hr1:r1=_) (hr2:r2=_) (hr3:r3=_)
 obtain ⟨⟨h1,h2,h3,h4⟩,hs⟩:=hi
 simp only at h1 h2 h3 h4 hs
 have h5 :(xs.length:Int)≤140737488355328:=by have:xs.length≤140737488355328:=h4;omega
 refine ⟨⟨fun h=>?_,fun _=>trivial⟩,?_⟩
 ·have h:i<n:=of_decide_eq_true h
  rw [bi (n:=i+1) (by omega) (by omega)]
  refine ⟨⟨h2,by omega⟩,⟨hs _ ?_,fun _=>trivial,fun _=>⟨fun _=>trivial,fun _=>trivial⟩⟩,fun _=>⟨fun _=>trivial,fun _=>⟨⟨⟨h1,by simp only;omega,by simp only;omega,h4⟩,hs⟩,by simp only [sP];omega⟩⟩⟩
  have hl:i.toNat<xs.length:=by omega
  exact fZ hl _
 ·by_cases h:i<n
  ·have e:xs.drop i.toNat=xs.getD i.toNat (dflt (Ty.nm Nm.Innings))::xs.drop (i+1).toNat:=b7 h2 (by omega) _
   rw [decide_eq_true h,bi (n:=i+1) (by omega) (by omega)]
   generalize xs.getD i.toNat (dflt (Ty.nm Nm.Innings))=v at e hr1 hr2 hr3
   have e3:r3 =(!aZ m.Rules v ||(v.Side != gb m i ||(v.Ending==0) != uP m.Stage m.Innings.length i)):=by
    rw [hr3,hr2,hr1]
    unfold uP
    cases aZ m.Rules v <;> cases v.Side != gb m i <;> cases m.Stage==3 <;> cases v.Ending==0 <;> cases i==IntKind.i64.wrap ((m.Innings.length:Int) - 1) <;> rfl
   simp only [jV,e,okR]
   rw [←e3]
   cases r3 <;> rfl
  ·rw [decide_eq_false h,cond_false]
   simp only [jV]
   rw [bK (l:=xs) (by omega)]
   rfl
noncomputable def Ot:LoopSum:=aI lpVr jV lZ
noncomputable def N3:Nat:=rid (aA Tryz.f114 0)
theorem Pk:LoopOKp Tryz.prog 0 Tryz.f114.ntmps (aA Tryz.f114 0) (aI lpVr jV lZ):=
 bj lpVr (al (.consU pp rfl (.consU sn rfl .nil)) _) mixed (fun b hb S hS=>by cases hS) jV lZ sP (fun |⟨xs,n,i,m,⟨⟩⟩,hi=>Ql xs n i m hi)
theorem s6 (m:Match) (hm:c9 m) (hx:m.Innings.length≤aS) :(evPat (ao [] Tryz.f114) (find [(N3,Ot)]) Tryz.f114 qM ax (m,())).sat fun z_=>z_ =(PO (m,())).2:=by
 refine cast (by kernel_rfl) (?_:let r1:Bool:=isL (jV (m.5,(↑m.5.length:Int),(0:Int),m,()));((cR fun x=>none)∧gQ ((0:Int),(0:Int),m.5,(↑m.5.length:Int),(0:Int),())∧dX m.5)∧(r1=true→ij (dflt (Ty.bool.prod Ty.unit)) (jV (m.5,(↑m.5.length:Int),(0:Int),m,())) =(okR m m.5 (0:Int),()))∧(r1=false→(true,()) =(okR m m.5 (0:Int),())))
 intro r1
 clear_value (hr1:r1=_)
 have er:jV (m.Innings,(m.Innings.length:Int),0,m,())=qe (okR m m.Innings 0):=rfl
 rw [er] at hr1 ⊢
 refine ⟨⟨rfl,⟨rfl,Int.le_refl _,by simp only;omega,hx⟩,hm⟩,fun h=>?_,fun h=>?_⟩
 ·cases hE:okR m m.Innings 0 with
  | true=>rw [hE] at hr1;rw [hr1] at h;cases h
  | false=>rfl
 ·cases hE:okR m m.Innings 0 with
  | true=>rfl
  | false=>rw [hE] at hr1;rw [hr1] at h;cases h
def gH:FuncId×Ctr:=(114,ae KE qM ax PO)
theorem mS:CtrOK Tryz.prog KE 114 (ae KE qM ax PO):=by
 refine aq (C:=ao [] Tryz.f114) (al (CtrsOK.nil) _) mixed (fn:=Tryz.f114) Tryz.func114 (by kernel_rfl) (by kernel_rfl) (by kernel_rfl) (by kernel_rfl) (by kernel_rfl) (by kernel_rfl) (Λ:=fun x=>find [(N3,Ot)]) ?_ ?_
 ·rintro ⟨m,⟨⟩⟩ hw hn
  exact LoopsOKp.at (by kernel_rfl) (.cons (by kernel_rfl) (Pk) .nil)
 ·rintro ⟨m,⟨⟩⟩ hw hn
  exact s6 m (hn _ List.mem_cons_self) (qx (aY hw))
end Go.Proofs.YtkgplaoappjkcaaGreat
namespace Go.Proofs.YtkgplaoappjkcaaGreat
open Go Go.Mir
attribute [local irreducible] Go.Mir.DT.sat Go.Mir.evPat Go.Mir.RT.sat Go.Mir.evFn
def mM (m:Match):Int:=W (2*m.Rules.Innings)
def Bi (m:Match):Bool:=ar m.Rules != 0 ||(decide (m.Stage<1) ||(decide (m.Stage>5)||decide ((m.Innings.length:Int)>mM m)))
def FO (m:Match):Bool:=decide (m.First<0) ||(decide (m.First>2) ||(m.First==0&&(decide ((m.Innings.length:Int)>0)||m.Stage != 1&&m.Stage != 5)||m.Stage==1&&m.First != 0))
def FP (m:Match):Bool:=
 m.Stage==3&&(m.Innings.length:Int)==0 ||(m.Stage==2&&(m.Innings.length:Int)==mM m ||(m.Stage==4&&((m.Innings.length:Int) != 2||mM m != 4)||m.Follow&&(decide ((m.Innings.length:Int)<2)||mM m != 4)))
def cS (m:Match):Bool:=!Bi m&&(!rk m&&(!FO m&&(!FP m&&okR m m.Innings 0)))
def vU:Den (tyP qM)→List Prop×Den (tyP ax):=fun x=>([c9 x.1],(cS x.1,()))
theorem Dn (m:Match) (hm:c9 m) :(evPat (ao [k86,gH] Tryz.f99) (find [(rid (aA Tryz.f99 0),cX 3 (ao [k86,gH] Tryz.f99) (fun _=>none) (aA Tryz.f99 0))]) Tryz.f99 qM ax (m,())).sat fun z_=>z_ =(vU (m,())).2:=by
 refine cast (by kernel_rfl) (?_:let r1:Int:=IntKind.i64.wrap ((2:Int)*m.1.3);let r2:Int:=IntKind.i64.wrap ((0:Int) +(1:Int));let r3:Bool:=bif m.2 ==(1:Int) then m.3 !=(0:Int) else false;let r4:Bool:=r1 !=(4:Int);let r5:Bool:=bif decide (m.6.1 <(0:Int)) then true else decide (m.6.1 >(1000000:Int));let r6:Bool:=bif decide (m.6.2.1 <(0:Int)) then true else decide (m.6.2.1 >(1000000:Int));let r7:Bool:=bif m.4 then bif decide ((↑m.5.length:Int) <(2:Int)) then true else r4 else false;let r8:Bool:=bif ar m.1 !=(0:Int) then true else bif decide (m.2 <(1:Int)) then true else bif decide (m.2 >(5:Int)) then true else decide ((↑m.5.length:Int)>r1);let r9:Bool:=bif m.2 ==(4:Int) then bif (↑m.5.length:Int) !=(2:Int) then true else bif r4 then true else r7 else r7;let r10:Bool:=bif decide (m.3 <(0:Int)) then true else bif decide (m.3 >(2:Int)) then true else bif m.3 ==(0:Int) then bif decide ((↑m.5.length:Int) >(0:Int)) then true else bif m.2 !=(1:Int) then bif m.2 !=(5:Int) then true else r3 else r3 else r3;let r11:Bool:=bif m.2 ==(2:Int) then bif (↑m.5.length:Int)==r1 then true else r9 else r9;let r12:Bool:=bif m.2 ==(3:Int) then bif (↑m.5.length:Int) ==(0:Int) then true else r11 else r11;(r8=true→(false,()) =(cS m,()))∧(r8=false→True∧((0:Int)≤(0:Int)∧(0:Int) <(↑(2:Nat):Int))∧(r5=true→(false,()) =(cS m,()))∧(r5=false→((0:Int)≤r2∧r2 <(↑(2:Nat):Int))∧(r6=true→(false,()) =(cS m,()))∧(r6=false→(r10=true→(false,()) =(cS m,()))∧(r10=false→(r12=true→(false,()) =(cS m,()))∧(r12=false→c9 m∧(okR m m.5 (0:Int),()) =(cS m,())))))))
 intro r1 r2 r3 r4 r5 r6 r7 r8 r9 r10 r11 r12
 clear_value (hr1:r1=_) (hr2:r2=_) (hr3:r3=_) (hr4:r4=_) (hr5:r5=_) (hr6:r6=_) (hr7:r7=_) (hr8:r8=_) (hr9:r9=_) (hr10:r10=_) (hr11:r11=_) (hr12:r12=_)
 have n2:r2=1:=by rw [hr2];rfl
 have hq :∀ k:Int,(bif decide (k<0) then true else decide (k>1000000))=!inW k 0 1000000:=fun k=>by
  have h1:decide (k<0)=!decide (k≥0):=by by_cases h:k≥0 <;> simp [h] <;> omega
  have h2:decide (k>1000000)=!decide (k≤1000000):=by by_cases h:k≤1000000 <;> simp [h] <;> omega
  rw [h1,h2]
  unfold inW
  cases decide (k≥0) <;> cases decide (k≤1000000) <;> rfl
 have ep:rk m =(r5||r6):=by rw [hr5,hr6,hq,hq];rfl
 have e8:Bi m=r8:=by
  rw [hr8,hr1];unfold Bi mM
  cases ar m.Rules != 0 <;> cases decide (m.Stage<1) <;> cases decide (m.Stage>5) <;> rfl
 have e10:FO m=r10:=by
  rw [hr10,hr3];unfold FO
  cases decide (m.First<0) <;> cases decide (m.First>2) <;> cases m.First==0 <;> cases decide ((m.Innings.length:Int)>0) <;> cases m.Stage != 1 <;> cases m.Stage != 5 <;> cases m.Stage==1 <;> rfl
 have e12:FP m=r12:=by
  rw [hr12,hr11,hr9,hr7,hr4,hr1];unfold FP mM W
  generalize IntKind.i64.wrap (2*m.Rules.Innings)=k
  cases m.Stage==3 <;> cases (m.Innings.length:Int)==0 <;> cases m.Stage==2 <;> cases (m.Innings.length:Int)==k <;> cases m.Stage==4 <;> cases (m.Innings.length:Int) != 2 <;> cases k != 4 <;> cases m.Follow <;> cases decide ((m.Innings.length:Int)<2) <;> rfl
 unfold cS
 rw [e8,ep,e10,e12,n2]
 clear hr1 hr2 hr3 hr4 hr5 hr6 hr7 hr8 hr9 hr10 hr11 hr12 ep e8 e10 e12 hq
 cases r8 with
 | true=>simp
 | false=>
 cases r5 with
 | true=>simp
 | false=>
 cases r6 with
 | true=>simp
 | false=>
 cases r10 with
 | true=>simp
 | false=>
 cases r12 with
 | true=>simp
 | false=>
 simp [hm]
def iW:FuncId×Ctr:=(99,ae KE qM ax vU)
theorem pu:CtrOK Tryz.prog KE 99 (ae KE qM ax vU):=by
 refine aq (C:=ao [k86,gH] Tryz.f99) (al (.consU u9 rfl (.consU mS rfl .nil)) _) mixed (fn:=Tryz.f99) Tryz.func99 (by kernel_rfl) (by kernel_rfl) (by kernel_rfl) (by kernel_rfl) (by kernel_rfl) (by kernel_rfl) (Λ:=fun x=>find [(rid (aA Tryz.f99 0),cX 3 (ao [k86,gH] Tryz.f99) (fun _=>none) (aA Tryz.f99 0))]) ?_ ?_
 ·rintro ⟨m,⟨⟩⟩ hw hn
  exact LoopsOKp.at (by kernel_rfl) (.cons (by kernel_rfl) (iY 3 (al (.consU u9 rfl (.consU mS rfl .nil)) _) mixed (Λ:=fun _=>none) (b:=aA Tryz.f99 0) rfl (fun _ _ _ h=>by cases h)) .nil)
 ·rintro ⟨m,⟨⟩⟩ hw hn
  exact Dn m (hn _ List.mem_cons_self)
end Go.Proofs.YtkgplaoappjkcaaGreat
namespace Go.Proofs.YtkgplaoappjkcaaGreat
open Go Go.Mir
theorem Cx (m:Match) {i:Int} (h0:0≤i) (h:i<4):cC m i=gb m i:=by
 have hs:tB m i=tC m i:=by
  unfold tB tC
  have:i=0∨i=1∨i=2∨i=3:=by omega
  rcases this with rfl|rfl|rfl|rfl <;> cases m.Follow <;> rfl
 unfold cC gb
 rw [hs]
theorem NF (m:Match) :∀ (l:List Innings) (i:Int),0≤i→i+l.length≤4→okR m l i =(okF m l i&&wx m.Stage m.Innings.length l i)
 | [],_,_,_=>rfl
 | x::l,i,h0,h=>by
  simp only [List.length_cons] at h
  have ih:=NF m l (i+1) (by omega) (by omega)
  unfold okR okF wx
  rw [Cx m h0 (by omega),ih]
  cases aZ m.Rules x <;> cases x.Side != gb m i <;> cases (x.Ending==0) != uP m.Stage m.Innings.length i <;> simp
theorem Ho {r:Rules} (h:ar r=0):1≤r.Innings∧r.Innings≤2:=by
 have hr:cp r=true:=by
  cases hr:cp r with
  | true=>rfl
  | false=>
   unfold ar at h
   cases hn:gX r.Name <;> simp [hn,hr] at h
 simp only [cp,az,Bool.and_eq_true,decide_eq_true_eq] at hr
 omega
theorem rG (m:Match):aO m=cS m:=by
 by_cases hc:ar m.Rules=0
 ·obtain ⟨i1,i2⟩:=Ho hc
  have hw:W (2*m.Rules.Innings)=2*m.Rules.Innings:=bi (by omega) (by omega)
  have hb :(ar m.Rules==0)=true:=by simp [hc]
  have hb2 :(ar m.Rules != 0)=false:=by simp [hc]
  unfold aO cS Bi FO FP gh jZ mM inW
  rw [hw,hb,hb2]
  by_cases hn :(m.Innings.length:Int)>2*m.Rules.Innings
  ·simp [hn]
  ·rw [NF m m.Innings 0 (Int.le_refl _) (by omega)]
   have hm:m.Rules.Innings=1∨m.Rules.Innings=2:=by omega
   generalize okF m m.Innings 0=A
   generalize wx m.Stage m.Innings.length m.Innings 0=B
   generalize rk m=C
   have hl :(0:Int)≤(m.Innings.length:Int):=by omega
   generalize (m.Innings.length:Int)=n at *
   cases A <;> cases B <;> cases C <;> simp
   grind
 ·have hb :(ar m.Rules==0)=false:=by simp [hc]
  have hb2 :(ar m.Rules != 0)=true:=by simp [hc]
  unfold aO cS Bi
  rw [hb,hb2]
  rfl
end Go.Proofs.YtkgplaoappjkcaaGreat
namespace Go.Proofs.YtkgplaoappjkcaaGreat
open Go Go.Mir
attribute [local irreducible] Go.Mir.DT.sat Go.Mir.evPat Go.Mir.RT.sat Go.Mir.evFn
abbrev qRu:Pat:=cg [.nm .Rules]
def cL (r:Rules):Int:=if r.Overs==0 then 5 else 6
def FC:Den (tyP qRu)→List Prop×Den (tyP qH):=fun x=>([],(cL x.1,()))
theorem vL (r:Rules) :(evPat (ao [] Tryz.f96) (fun _=>none) Tryz.f96 qRu qH (r,())).sat fun z_=>z_ =(FC (r,())).2:=by
 refine cast (by kernel_rfl) (?_ :((r.4 ==(0:Int))=true→((5:Int),()) =(cL r,()))∧((r.4 ==(0:Int))=false→((6:Int),()) =(cL r,())))
 grind [cL]
def iD:FuncId×Ctr:=(96,ae KE qRu qH FC)
theorem oD:CtrOK Tryz.prog KE 96 (ae KE qRu qH FC):=by
 refine aq (C:=ao [] Tryz.f96) (al (CtrsOK.nil) _) mixed (fn:=Tryz.f96) Tryz.func96 (by kernel_rfl) (by kernel_rfl) (by kernel_rfl) (by kernel_rfl) (by kernel_rfl) (by kernel_rfl) (Λ:=fun _ _=>none) ?_ ?_
 ·exact fun _ _ _ _ _ _ _ _ h=>by cases h
 ·rintro ⟨r,⟨⟩⟩ hw hn
  exact vL r
end Go.Proofs.YtkgplaoappjkcaaGreat
namespace Go.Proofs.YtkgplaoappjkcaaGreat
open Go Go.Mir
attribute [local irreducible] Go.Mir.DT.sat Go.Mir.evPat Go.Mir.RT.sat Go.Mir.evFn
def aE (m:Match):Prop:=c9 m∧m.Innings.length≤1000000∧m.Rules.Power.length≤1000000
abbrev oR (s:PC0):List PC0:= [.h .str,.h I,.h I,.h I,.h I,.h I,.h I,.h I,.h .bool,.h I,.h I,.h I,.h I,.h (.slice (.nm .Phase)),.h U8,.h I,.h .bool,s,.h I,.h I,.h U8,.h I,.h I]
abbrev qMo:Pat:=⟨[(0,.a (oR (.c (.osl 0 1))))],[(0,.row 1 (.nm .Innings))],2⟩
abbrev mc:Pat:=cg [.nm .Match,I]
def _root_.Go.Mir.mkM (v1:ByteArray) (v2:Int) (v3:Int) (v4:Int) (v5:Int) (v6:Int) (v7:Int) (v8:Int) (v9:Bool) (v10:Int) (v11:Int) (v12:Int) (v13:Int) (v14:List Phase) (v15:Int) (v16:Int) (v17:Bool) (v18:Int) (v19:Int) (v20:Int) (v21:Int) (v22:Int) (xs:List Innings):Match:=
 { Rules:={ Name:=v1,Side:=v2,Innings:=v3,Overs:=v4,Balls:=v5,Quota:=v6,Wide:=v7,NoBall:=v8,FreeHit:=v9,NewBall:=v10,FollowOn:=v11,Reviews:=v12,Outside:=v13,Power:=v14 },Stage:=v15,First:=v16,Follow:=v17,Innings:=xs,Penalty:=(v18,v19,()),Result:={ Win:=v20,Side:=v21,Margin:=v22 } }
abbrev TM:Type:=ByteArray×Int×Int×Int×Int×Int×Int×Int×Bool×Int×Int×Int×Int×List Phase×Int×Int×Bool×Int×Int×Int×Int×Int×List Innings×Unit
def _root_.Go.Mir.mkX (x:TM):Match:=(mkM x.1 x.2.1 x.2.2.1 x.2.2.2.1 x.2.2.2.2.1 x.2.2.2.2.2.1 x.2.2.2.2.2.2.1 x.2.2.2.2.2.2.2.1 x.2.2.2.2.2.2.2.2.1 x.2.2.2.2.2.2.2.2.2.1 x.2.2.2.2.2.2.2.2.2.2.1 x.2.2.2.2.2.2.2.2.2.2.2.1 x.2.2.2.2.2.2.2.2.2.2.2.2.1 x.2.2.2.2.2.2.2.2.2.2.2.2.2.1 x.2.2.2.2.2.2.2.2.2.2.2.2.2.2.1 x.2.2.2.2.2.2.2.2.2.2.2.2.2.2.2.1 x.2.2.2.2.2.2.2.2.2.2.2.2.2.2.2.2.1 x.2.2.2.2.2.2.2.2.2.2.2.2.2.2.2.2.2.1 x.2.2.2.2.2.2.2.2.2.2.2.2.2.2.2.2.2.2.1 x.2.2.2.2.2.2.2.2.2.2.2.2.2.2.2.2.2.2.2.1 x.2.2.2.2.2.2.2.2.2.2.2.2.2.2.2.2.2.2.2.2.1 x.2.2.2.2.2.2.2.2.2.2.2.2.2.2.2.2.2.2.2.2.2.1 x.2.2.2.2.2.2.2.2.2.2.2.2.2.2.2.2.2.2.2.2.2.2.1)
def MT:Ty:= .prod (.slice (.nm .Phase)) .unit
def A5:Den MT→PRes:=fun x=>⟨[x.1.length≤1000000],.osl 0 0,[⟨.nm .Phase,x.1⟩]⟩
def BL:FuncId×Ctr:=(58,ap KE MT A5)
def kL:Den (tyP qRu)→List Prop×Den (tyP qRu):=fun x=>([x.1.Power.length≤1000000],(x.1,()))
def nY:Den (tyP qM)→List Prop×Den (tyP qMo):=fun x=>([aE x.1],(x.1.Rules.Name,x.1.Rules.Side,x.1.Rules.Innings,x.1.Rules.Overs,x.1.Rules.Balls,x.1.Rules.Quota,x.1.Rules.Wide,x.1.Rules.NoBall,x.1.Rules.FreeHit,x.1.Rules.NewBall,x.1.Rules.FollowOn,x.1.Rules.Reviews,x.1.Rules.Outside,x.1.Rules.Power,x.1.Stage,x.1.First,x.1.Follow,x.1.Penalty.1,x.1.Penalty.2.1,x.1.Result.Win,x.1.Result.Side,x.1.Result.Margin,x.1.Innings,()))
def gY (r:Rules):Match:=if ar r != 0 then Match.zero else { Match.zero with Rules:=r,Stage:=1 }
def IS:Den (tyP qRu)→List Prop×Den (tyP mc):=fun x=>([],(gY x.1,ar x.1,()))
abbrev Qx:List (Nat×PB):= [(0,.dat (.nm .Match)),(1,.dat (.nm .Match)),(2,.row 3 (.nm .Innings))]
abbrev qCl:Pat:=⟨[(1,.c (.ptr 0 0)),(2,.c (.ptr 1 0)),(3,.c (.osl 2 3)),(11,.h I4),(12,.h I),(13,.h I)],Qx,4⟩
abbrev xCl:List (Lf×Pat):= [(.ext 0,⟨[(1,.c (.ptr 0 0)),(2,.c (.ptr 1 0)),(3,.c (.osl 2 3))],Qx,4⟩)]
abbrev TCl:Type:=List Innings×Int×Int×Match×Match×List Innings×Unit
def lX (x:TCl):Prop:=(x.2.1 =(x.1.length:Int)∧0≤x.2.2.1∧x.2.2.1≤x.2.1∧x.1.length≤1000000)∧dX x.1∧(x.2.2.2.2.2.1.length:Int)≤x.2.2.1
def sL (x:TCl):Nat:=(x.2.1 - x.2.2.1).toNat
def fM (x:TCl):Match×Match×List Innings×Unit:=(x.2.2.2.1,x.2.2.2.2.1,x.2.2.2.2.2.1++x.1.drop x.2.2.1.toNat,())
theorem kX {r:Rules} (h:ar r=0):1≤r.Innings∧r.Innings≤2:=by
 have hr:cp r=true:=by
  cases hr:cp r with
  | true=>rfl
  | false=>
   unfold ar at h
   cases hn:gX r.Name <;> simp [hn,hr] at h
 simp only [cp,az,Bool.and_eq_true,decide_eq_true_eq] at hr
 omega
theorem mm {r:Rules} (h:ar r=0):r.Power.length≤8:=by
 unfold ar at h
 cases hn:gX r.Name with
 | false=>simp [hn] at h
 | true=>
  cases hr:cp r with
  | false=>simp [hn,hr] at h
  | true=>
   cases ha:qI r with
   | true=>simp [hn,hr,ha] at h
   | false=>
    cases hc:yW r with
    | true=>simp [hn,hr,ha,hc] at h
    | false=>
     simp [hn,hr,ha,hc] at h
     unfold dZ at h
     split at h
     ·cases h
     ·omega
theorem ES (x:List Phase) (hs:x.length≤1000000) :(evFn (ao [] Tryz.f58) (fun _=>none) Tryz.f58 (bh MT (x,()))).sat fun v' rows=>leV v' (A5 (x,())).v∧rows =(A5 (x,())).rows:=by
 refine cast (by kernel_rfl) (?_ :(x.isEmpty=true→(nat_lit 0=nat_lit 0∧nat_lit 0=nat_lit 0)∧ [RowD.mk (Ty.nm Nm.Phase) []]=[RowD.mk (Ty.nm Nm.Phase) x])∧((0:Nat)+x.length) *(24:Nat)≤(70368744177664:Nat)∧(nat_lit 0=nat_lit 0∧nat_lit 0=nat_lit 0)∧ [RowD.mk (Ty.nm Nm.Phase) ([]++x)]=[RowD.mk (Ty.nm Nm.Phase) x])
 refine ⟨fun h=>⟨⟨rfl,rfl⟩,?_⟩,?_,⟨rfl,rfl⟩,rfl⟩
 ·have:x=[]:=List.isEmpty_iff.1 h
  subst this;rfl
 ·omega
theorem HL:CtrOK Tryz.prog KE 58 (ap KE MT A5):=by
 refine aJ (C:=ao [] Tryz.f58) (al (CtrsOK.nil) _) mixed (fn:=Tryz.f58) Tryz.func58 (by kernel_rfl) (by kernel_rfl) (by kernel_rfl) (Λ:=fun _ _=>none) ?_ ?_ ?_
 ·exact fun _ _ _ _ _ _ _ _ h=>by cases h
 ·rintro ⟨x,⟨⟩⟩
  exact of_decide_eq_true (by kernel_rfl)
 ·rintro ⟨x,⟨⟩⟩ hw hn
  exact ES x (hn _ (List.mem_singleton.2 rfl))
theorem Fl (r:Rules) (hs:r.Power.length≤1000000) :(evPat (ao [BL] Tryz.f41) (fun _=>none) Tryz.f41 qRu qRu (r,())).sat fun z_=>z_ =(kL (r,())).2:=by
 refine cast (by kernel_rfl) (?_:r.14.length≤(1000000:Nat)∧(r,()) =(r,()))
 exact ⟨hs,rfl⟩
def pY:FuncId×Ctr:=(41,ae KE qRu qRu kL)
theorem yc:CtrOK Tryz.prog KE 41 (ae KE qRu qRu kL):=by
 refine aq (C:=ao [BL] Tryz.f41) (al (.consU HL rfl .nil) _) mixed (fn:=Tryz.f41) Tryz.func41 (by kernel_rfl) (by kernel_rfl) (by kernel_rfl) (by kernel_rfl) (by kernel_rfl) (by kernel_rfl) (Λ:=fun _ _=>none) ?_ ?_
 ·exact fun _ _ _ _ _ _ _ _ h=>by cases h
 ·rintro ⟨r,⟨⟩⟩ hw hn
  exact Fl r (hn _ List.mem_cons_self)
theorem Dc (r:Rules) (hs:r.Power.length≤1000000) :(evPat (ao [] Tryz.f72) (fun _=>none) Tryz.f72 qRu qRu (r,())).sat fun z_=>z_ =(kL (r,())).2:=by
 refine cast (by kernel_rfl) (?_ :((0:Nat)+r.14.length) *(24:Nat)≤(70368744177664:Nat)∧(Rules.mk r.1 r.2 r.3 r.4 r.5 r.6 r.7 r.8 r.9 r.10 r.11 r.12 r.13 ([]++r.14),()) =(r,()))
 exact ⟨by omega,rfl⟩
def nH:FuncId×Ctr:=(72,ae KE qRu qRu kL)
theorem vh:CtrOK Tryz.prog KE 72 (ae KE qRu qRu kL):=by
 refine aq (C:=ao [] Tryz.f72) (al (CtrsOK.nil) _) mixed (fn:=Tryz.f72) Tryz.func72 (by kernel_rfl) (by kernel_rfl) (by kernel_rfl) (by kernel_rfl) (by kernel_rfl) (by kernel_rfl) (Λ:=fun _ _=>none) ?_ ?_
 ·exact fun _ _ _ _ _ _ _ _ h=>by cases h
 ·rintro ⟨r,⟨⟩⟩ hw hn
  exact Dc r (hn _ List.mem_cons_self)
noncomputable def lpCl:Lp:=(⟨0,ao [dJ] Tryz.f39,(fun _=>none),(aA Tryz.f39 0),qCl,xCl⟩:Lp)
theorem P6 (xs:List Innings) (n:Int) (i:Int) (m:Match) (z:Match) (l:List Innings) (hi:lX (xs,n,i,m,z,l,())) :(Go.Mir.stepG lpCl fM (fun y:Den (tyP lpCl.q)=>lX y∧sL y<sL (xs,n,i,m,z,l,())) (xs,n,i,m,z,l,())∧Go.Mir.stepE lpCl fM (xs,n,i,m,z,l,())=fM (xs,n,i,m,z,l,())):=by
 refine cast (by kernel_rfl) (?_:let r1:List Innings:= [xs.getD i.toNat (dflt (Ty.nm Nm.Innings))];((decide (i<n)=true→((0:Int)≤i∧i <(↑xs.length:Int))∧aj (xs.getD i.toNat (dflt (Ty.nm Nm.Innings)))∧(l.length+r1.length) *(304:Nat)≤(70368744177664:Nat)∧lX (xs,n,IntKind.i64.wrap (i +(1:Int)),m,z,l++r1,())∧sL (xs,n,IntKind.i64.wrap (i +(1:Int)),m,z,l++r1,())<sL (xs,n,i,m,z,l,()))∧(decide (i<n)=false→True))∧(bif decide (i<n) then fM (xs,n,IntKind.i64.wrap (i +(1:Int)),m,z,l++r1,()) else (m,z,l,()))=fM (xs,n,i,m,z,l,()))
 intro r1
 clear_value (hr1:r1=_)
 obtain ⟨⟨h1,h2,h3,h4⟩,hs,h5⟩:=hi
 simp only at h1 h2 h3 h4 h5 hs
 refine ⟨⟨fun h=>?_,fun _=>trivial⟩,?_⟩
 ·have h:i<n:=of_decide_eq_true h
  rw [bi (n:=i+1) (by omega) (by omega),hr1]
  have hl:i.toNat<xs.length:=by omega
  refine ⟨⟨h2,by omega⟩,hs _ (fZ hl _),?_,⟨⟨h1,by simp only;omega,by simp only;omega,h4⟩,hs,?_⟩,by simp only [sL];omega⟩
  ·simp only [List.length_singleton];omega
  ·simp only [List.length_append,List.length_singleton];omega
 ·by_cases h:i<n
  ·have e:xs.drop i.toNat=xs.getD i.toNat (dflt (Ty.nm Nm.Innings))::xs.drop (i+1).toNat:=b7 h2 (by omega) _
   rw [decide_eq_true h,cond_true,bi (n:=i+1) (by omega) (by omega)]
   simp only [fM]
   rw [e,hr1,List.append_assoc,List.singleton_append]
  ·rw [decide_eq_false h,cond_false]
   simp only [fM]
   rw [bK (l:=xs) (by omega),List.append_nil]
noncomputable def Od:LoopSum:=aI lpCl fM lX
noncomputable def NQ:Nat:=rid (aA Tryz.f39 0)
theorem O6:LoopOKp Tryz.prog 0 Tryz.f39.ntmps (aA Tryz.f39 0) (aI lpCl fM lX):=
 bj lpCl (al (.consU gZ rfl .nil) _) mixed (fun b hb S hS=>by cases hS) fM lX sL (fun |⟨xs,n,i,m,z,l,⟨⟩⟩,hi=>P6 xs n i m z l hi)
theorem Iv (m:Match) (hs:aE m) :(evPat (ao [pY] Tryz.f39) (find [(NQ,Od)]) Tryz.f39 qM qMo (m,())).sat fun z_=>z_ =(nY (m,())).2:=by
 refine cast (by kernel_rfl) (?_:m.1.14.length≤(1000000:Nat)∧((cR fun x=>none)∧((↑m.5.length:Int) =(↑m.5.length:Int)∧(0:Int)≤(0:Int)∧(0:Int)≤(↑m.5.length:Int)∧m.5.length≤(1000000:Nat))∧dX m.5∧(↑(0:Nat):Int)≤(0:Int))∧(m.1.1,m.1.2,m.1.3,m.1.4,m.1.5,m.1.6,m.1.7,m.1.8,m.1.9,m.1.10,m.1.11,m.1.12,m.1.13,m.1.14,m.2,m.3,m.4,m.6.1,m.6.2.1,m.7.1,m.7.2,m.7.3,[]++List.drop (Int.toNat (0:Int)) m.5,()) =(m.1.1,m.1.2,m.1.3,m.1.4,m.1.5,m.1.6,m.1.7,m.1.8,m.1.9,m.1.10,m.1.11,m.1.12,m.1.13,m.1.14,m.2,m.3,m.4,m.6.1,m.6.2.1,m.7.1,m.7.2,m.7.3,m.5,()))
 exact ⟨hs.2.2,⟨rfl,⟨rfl,Int.le_refl _,by omega,hs.2.1⟩,hs.1,Int.le_refl _⟩,rfl⟩
def Gj:FuncId×Ctr:=(39,ae KE qM qMo nY)
theorem Kg:CtrOK Tryz.prog KE 39 (ae KE qM qMo nY):=by
 refine aq (C:=ao [pY] Tryz.f39) (al (.consU yc rfl .nil) _) mixed (fn:=Tryz.f39) Tryz.func39 (by kernel_rfl) (by kernel_rfl) (by kernel_rfl) (by kernel_rfl) (by kernel_rfl) (by kernel_rfl) (Λ:=fun x=>find [(NQ,Od)]) ?_ ?_
 ·rintro ⟨m,⟨⟩⟩ hw hn
  exact LoopsOKp.at (by kernel_rfl) (.cons (by kernel_rfl) (O6) .nil)
 ·rintro ⟨m,⟨⟩⟩ hw hn
  exact Iv m (hn _ List.mem_cons_self)
noncomputable def lpCr:Lp:=(⟨0,ao [kw] Tryz.f98,(fun _=>none),(aA Tryz.f98 0),qCl,xCl⟩:Lp)
theorem P7 (xs:List Innings) (n:Int) (i:Int) (m:Match) (z:Match) (l:List Innings) (hi:lX (xs,n,i,m,z,l,())) :(Go.Mir.stepG lpCr fM (fun y:Den (tyP lpCr.q)=>lX y∧sL y<sL (xs,n,i,m,z,l,())) (xs,n,i,m,z,l,())∧Go.Mir.stepE lpCr fM (xs,n,i,m,z,l,())=fM (xs,n,i,m,z,l,())):=by
 refine cast (by kernel_rfl) (?_:let r1:List Innings:= [xs.getD i.toNat (dflt (Ty.nm Nm.Innings))];((decide (i<n)=true→((0:Int)≤i∧i <(↑xs.length:Int))∧aj (xs.getD i.toNat (dflt (Ty.nm Nm.Innings)))∧(l.length+r1.length) *(304:Nat)≤(70368744177664:Nat)∧lX (xs,n,IntKind.i64.wrap (i +(1:Int)),m,z,l++r1,())∧sL (xs,n,IntKind.i64.wrap (i +(1:Int)),m,z,l++r1,())<sL (xs,n,i,m,z,l,()))∧(decide (i<n)=false→True))∧(bif decide (i<n) then fM (xs,n,IntKind.i64.wrap (i +(1:Int)),m,z,l++r1,()) else (m,z,l,()))=fM (xs,n,i,m,z,l,()))
 intro r1
 clear_value (hr1:r1=_)
 obtain ⟨⟨h1,h2,h3,h4⟩,hs,h5⟩:=hi
 simp only at h1 h2 h3 h4 h5 hs
 refine ⟨⟨fun h=>?_,fun _=>trivial⟩,?_⟩
 ·have h:i<n:=of_decide_eq_true h
  rw [bi (n:=i+1) (by omega) (by omega),hr1]
  have hl:i.toNat<xs.length:=by omega
  refine ⟨⟨h2,by omega⟩,hs _ (fZ hl _),?_,⟨⟨h1,by simp only;omega,by simp only;omega,h4⟩,hs,?_⟩,by simp only [sL];omega⟩
  ·simp only [List.length_singleton];omega
  ·simp only [List.length_append,List.length_singleton];omega
 ·by_cases h:i<n
  ·have e:xs.drop i.toNat=xs.getD i.toNat (dflt (Ty.nm Nm.Innings))::xs.drop (i+1).toNat:=b7 h2 (by omega) _
   rw [decide_eq_true h,cond_true,bi (n:=i+1) (by omega) (by omega)]
   simp only [fM]
   rw [e,hr1,List.append_assoc,List.singleton_append]
  ·rw [decide_eq_false h,cond_false]
   simp only [fM]
   rw [bK (l:=xs) (by omega),List.append_nil]
noncomputable def Oe:LoopSum:=aI lpCr fM lX
noncomputable def NR:Nat:=rid (aA Tryz.f98 0)
theorem O7:LoopOKp Tryz.prog 0 Tryz.f98.ntmps (aA Tryz.f98 0) (aI lpCr fM lX):=
 bj lpCr (al (.consU po rfl .nil) _) mixed (fun b hb S hS=>by cases hS) fM lX sL (fun |⟨xs,n,i,m,z,l,⟨⟩⟩,hi=>P7 xs n i m z l hi)
theorem Dk (m:Match) (hs:aE m) :(evPat (ao [nH] Tryz.f98) (find [(NR,Oe)]) Tryz.f98 qM qMo (m,())).sat fun z_=>z_ =(nY (m,())).2:=by
 refine cast (by kernel_rfl) (?_:m.1.14.length≤(1000000:Nat)∧((cR fun x=>none)∧((↑m.5.length:Int) =(↑m.5.length:Int)∧(0:Int)≤(0:Int)∧(0:Int)≤(↑m.5.length:Int)∧m.5.length≤(1000000:Nat))∧dX m.5∧(↑(0:Nat):Int)≤(0:Int))∧(m.1.1,m.1.2,m.1.3,m.1.4,m.1.5,m.1.6,m.1.7,m.1.8,m.1.9,m.1.10,m.1.11,m.1.12,m.1.13,m.1.14,m.2,m.3,m.4,m.6.1,m.6.2.1,m.7.1,m.7.2,m.7.3,[]++List.drop (Int.toNat (0:Int)) m.5,()) =(m.1.1,m.1.2,m.1.3,m.1.4,m.1.5,m.1.6,m.1.7,m.1.8,m.1.9,m.1.10,m.1.11,m.1.12,m.1.13,m.1.14,m.2,m.3,m.4,m.6.1,m.6.2.1,m.7.1,m.7.2,m.7.3,m.5,()))
 exact ⟨hs.2.2,⟨rfl,⟨rfl,Int.le_refl _,by omega,hs.2.1⟩,hs.1,Int.le_refl _⟩,rfl⟩
def xT:FuncId×Ctr:=(98,ae KE qM qMo nY)
theorem EB:CtrOK Tryz.prog KE 98 (ae KE qM qMo nY):=by
 refine aq (C:=ao [nH] Tryz.f98) (al (.consU vh rfl .nil) _) mixed (fn:=Tryz.f98) Tryz.func98 (by kernel_rfl) (by kernel_rfl) (by kernel_rfl) (by kernel_rfl) (by kernel_rfl) (by kernel_rfl) (Λ:=fun x=>find [(NR,Oe)]) ?_ ?_
 ·rintro ⟨m,⟨⟩⟩ hw hn
  exact LoopsOKp.at (by kernel_rfl) (.cons (by kernel_rfl) (O7) .nil)
 ·rintro ⟨m,⟨⟩⟩ hw hn
  exact Dk m (hn _ List.mem_cons_self)
theorem Nb (r:Rules) :(evPat (ao [k85,pY] Tryz.f27) (fun _=>none) Tryz.f27 qRu mc (r,())).sat fun z_=>z_ =(IS (r,())).2:=by
 refine cast (by kernel_rfl) (?_:let r1:Mir.Result:=Result.mk (0:Int) (0:Int) (0:Int);((ar r !=(0:Int))=true→(Match.mk (Rules.mk ByteArray.empty (0:Int) (0:Int) (0:Int) (0:Int) (0:Int) (0:Int) (0:Int) false (0:Int) (0:Int) (0:Int) (0:Int) []) (0:Int) (0:Int) false [] ((0:Int),(0:Int),()) r1,ar r,()) =(gY r,ar r,()))∧((ar r !=(0:Int))=false→r.14.length≤(1000000:Nat)∧(Match.mk r (1:Int) (0:Int) false [] ((0:Int),(0:Int),()) r1,(0:Int),()) =(gY r,ar r,())))
 intro r1
 clear_value (hr1:r1=_)
 subst hr1
 refine ⟨fun h=>?_,fun h=>⟨?_,?_⟩⟩
 ·simp only [gY,h,if_true];rfl
 ·have:=mm (r:=r) (by simpa using h);omega
 ·have h0:ar r=0:=by simpa using h
  simp only [gY,h0];rfl
def sa:FuncId×Ctr:=(27,ae KE qRu mc IS)
theorem zO:CtrOK Tryz.prog KE 27 (ae KE qRu mc IS):=by
 refine aq (C:=ao [k85,pY] Tryz.f27) (al (.consU zK rfl (.consU yc rfl .nil)) _) mixed (fn:=Tryz.f27) Tryz.func27 (by kernel_rfl) (by kernel_rfl) (by kernel_rfl) (by kernel_rfl) (by kernel_rfl) (by kernel_rfl) (Λ:=fun _ _=>none) ?_ ?_
 ·exact fun _ _ _ _ _ _ _ _ h=>by cases h
 ·rintro ⟨r,⟨⟩⟩ hw hn
  exact Nb r
theorem IH (r:Rules) :(evPat (ao [k86,nH] Tryz.f48) (fun _=>none) Tryz.f48 qRu mc (r,())).sat fun z_=>z_ =(IS (r,())).2:=by
 refine cast (by kernel_rfl) (?_:let r1:Mir.Result:=Result.mk (0:Int) (0:Int) (0:Int);((ar r !=(0:Int))=true→(Match.mk (Rules.mk ByteArray.empty (0:Int) (0:Int) (0:Int) (0:Int) (0:Int) (0:Int) (0:Int) false (0:Int) (0:Int) (0:Int) (0:Int) []) (0:Int) (0:Int) false [] ((0:Int),(0:Int),()) r1,ar r,()) =(gY r,ar r,()))∧((ar r !=(0:Int))=false→r.14.length≤(1000000:Nat)∧(Match.mk r (1:Int) (0:Int) false [] ((0:Int),(0:Int),()) r1,(0:Int),()) =(gY r,ar r,())))
 intro r1
 clear_value (hr1:r1=_)
 subst hr1
 refine ⟨fun h=>?_,fun h=>⟨?_,?_⟩⟩
 ·simp only [gY,h,if_true];rfl
 ·have:=mm (r:=r) (by simpa using h);omega
 ·have h0:ar r=0:=by simpa using h
  simp only [gY,h0];rfl
def Gn:FuncId×Ctr:=(48,ae KE qRu mc IS)
theorem Kk:CtrOK Tryz.prog KE 48 (ae KE qRu mc IS):=by
 refine aq (C:=ao [k86,nH] Tryz.f48) (al (.consU u9 rfl (.consU vh rfl .nil)) _) mixed (fn:=Tryz.f48) Tryz.func48 (by kernel_rfl) (by kernel_rfl) (by kernel_rfl) (by kernel_rfl) (by kernel_rfl) (by kernel_rfl) (Λ:=fun _ _=>none) ?_ ?_
 ·exact fun _ _ _ _ _ _ _ _ h=>by cases h
 ·rintro ⟨r,⟨⟩⟩ hw hn
  exact IH r
end Go.Proofs.YtkgplaoappjkcaaGreat
namespace Go.Proofs.YtkgplaoappjkcaaGreat
open Go Go.Mir
def bt (m:Match):Innings:=m.Innings.getD (m.Innings.length - 1) Innings.zero
def ox (w s k:Int):Mir.Result:={ Win:=w,Side:=s,Margin:=k }
def mA (m:Match):Bool:=(m.Innings.length:Int)==mM m
def fT (m:Match):Bool:=(m.Innings.length:Int)==3&&decide (fD m (bt m).Side<fD m (bX (bt m).Side))
def BC (m:Match) (x:Innings):Mir.Result:=
 if decide (x.Runs≥x.Target) then ox 2 x.Side (W (W (m.Rules.Side - 1) - x.Wickets))
 else if x.Runs==W (x.Target - 1) then ox 4 0 0 else ox 1 (bX x.Side) (W (W (x.Target - 1) - x.Runs))
def bE (m:Match):Mir.Result:=
 if !aO m ||(m.Innings.length:Int)==0 then Mir.Result.zero
 else if (bt m).Ending==5 then ox (cL m.Rules) 0 0
 else if (bt m).Ending==0 then Mir.Result.zero
 else if mA m then BC m (bt m)
 else if fT m then ox 3 (bX (bt m).Side) (W (fD m (bX (bt m).Side) - fD m (bt m).Side))
 else Mir.Result.zero
def JT (m:Match):Int:=W (fD m m.First - fD m (bX m.First))
def nr (m:Match):Bool:=(m.Innings.length:Int)==2&&(decide (m.Rules.FollowOn>0)&&decide (JT m≥m.Rules.FollowOn))
def lQ (m:Match) (s:Int):Match:={ m with Stage:=s }
def FR (m:Match):Match:={ m with Stage:=5,Result:=bE (lQ m 5) }
def aw (m:Match):Match:=
 if m.Stage != 3 ||(bt m).Ending==0 then m
 else if mA m||fT m then FR m
 else if nr m then lQ m 4 else lQ m 2
def d7 (s:Int) (xs:List Innings):Nat→Option Nat
 | 0=>none
 | k+1=>if (xs.getD k Innings.zero).Side==s then some k else d7 s xs k
def DG (m:Match) (s:Int):Match:={ m with Penalty:=if s==1 then (W (m.Penalty.1+5),m.Penalty.2.1,()) else (m.Penalty.1,W (m.Penalty.2.1+5),()) }
def Dv (m:Match) (k:Nat) (x:Innings):Match:={ m with Innings:=m.Innings.set k x }
def OC (m:Match) (s:Int):Option Nat→Match
 | some k=>Dv m k (wR (m.Innings.getD k Innings.zero))
 | none=>DG m s
def ay (m:Match) (s:Int):Match:=OC m s (d7 s m.Innings m.Innings.length)
def Cc (m:Match):Nat:=m.Innings.length - 1
def cb (m:Match) (e:Mir.Event):Int:=if m.Stage != 3 then 1 else bZ m.Rules (bt m) e
def rl (m:Match) (e:Mir.Event):Match:=Dv m (Cc m) (cK m.Rules (bt m) e)
def qK (m:Match) (e:Mir.Event):Bool:=e.Kind==13&&e.Side !=(cK m.Rules (bt m) e).Side
def ag (m:Match) (e:Mir.Event):Match:=if cb m e != 0 then m else if qK m e then ay (rl m e) e.Side else rl m e
def cj (m:Match):Int:=cC m m.Innings.length
def oE (m:Match) (s:Int):Int:=if s==1 then m.Penalty.1 else m.Penalty.2.1
def kU (m:Match):Int:=gn m.Rules (cj m) (fv m (cj m)) (oE m (cj m))
def sG (m:Match):Innings:=gM m.Rules (cj m) (fv m (cj m)) (oE m (cj m))
def aN (m:Match) (e:Mir.Event):Int:=if m.Stage != 2 then 1 else if kU m != 0 then 1 else bZ m.Rules (sG m) e
def qy (m:Match) (s:Int):Match:={ m with Penalty:=if s==1 then (0,m.Penalty.2.1,()) else (m.Penalty.1,0,()) }
def lB (m:Match) (e:Mir.Event):Match:={ qy m (cj m) with Innings:=m.Innings++[cK m.Rules (sG m) e],Stage:=3 }
def aa (m:Match) (e:Mir.Event):Match:=if aN m e != 0 then m else lB m e
def Dy (m:Match) (e:Mir.Event):Match:={ m with First:=if e.Yes then e.Side else bX e.Side,Stage:=2 }
def zj (m:Match) (e:Mir.Event):Match:={ m with Follow:=e.Yes,Stage:=2 }
def bN (m:Match):Match:=if m.Stage==3 then Dv m (Cc m) { bt m with Ending:=5 } else m
def dz (m:Match):Match:={ bN m with Stage:=5,Result:=ox (cL m.Rules) 0 0 }
def aM (m:Match) (e:Mir.Event):Int:=
 if e.Kind==1 then (if m.Stage != 1 then 1 else 0) else if e.Kind==2 then aN m e
 else if e.Kind==12 then (if m.Stage != 4 then 1 else if e.Side != m.First then 2 else 0) else if e.Kind==16 then 0 else cb m e
def gd (m:Match) (e:Mir.Event):Match:=
 if e.Kind==1 then Dy m e else if e.Kind==2 then aa m e else if e.Kind==12 then zj m e else if e.Kind==16 then dz m else ag m e
def ab (m:Match) (e:Mir.Event):Match:=if aM m e != 0 then m else gd m e
def aV (m:Match) (e:Mir.Event):Int:=if !aO m||bk e != 0 then 1 else if m.Stage==5 then 26 else aM m e
def bF (m:Match) (e:Mir.Event):Match:=if aV m e != 0 then m else aw (ab m e)
theorem np {m:Match} (h:aO m=true):ar m.Rules=0:=by
 simp only [aO,Bool.and_eq_true,beq_iff_eq] at h
 exact h.1
theorem JY {m:Match} (h:ar m.Rules=0):mM m=2*m.Rules.Innings:=by
 have:=kX h
 unfold mM
 exact bi (by omega) (by omega)
theorem nq {m:Match} (h:aO m=true):gh m=false:=by
 simp only [aO,Bool.and_eq_true,Bool.not_eq_true'] at h
 exact h.2.2.2.1
theorem kQ {m:Match} (h:aO m=true) :(m.Innings.length:Int)≤2*m.Rules.Innings∧m.Innings.length≤4:=by
 have hc:=np h
 have h1:=nq h
 have h2:=kX hc
 have h3:=JY hc
 unfold mM W at h3
 simp only [gh,Bool.or_eq_false_iff,decide_eq_false_iff_not,W,h3] at h1
 omega
theorem dL {m:Match} (h:aO m=true) (h3:m.Stage=3):0<m.Innings.length:=by
 simp only [aO,jZ,Bool.and_eq_true] at h
 have h4:=h.2.2.2.2.2
 simp only [h3,Bool.or_eq_true,bne_iff_ne,ne_eq,not_true_eq_false,false_or,decide_eq_true_eq] at h4
 omega
theorem DB {m:Match} (h:aO m=true) (h2:m.Stage=2):m.First=1∨m.First=2:=by
 have h1:=nq h
 simp only [gh,Bool.or_eq_false_iff,Bool.and_eq_false_iff,decide_eq_false_iff_not,h2] at h1
 obtain ⟨⟨⟨⟨⟨⟨q1,q2,_⟩,q3⟩,_⟩,_⟩,_⟩,_⟩:=h1
 simp at q3
 omega
theorem Bk {m:Match} (h:aO m=true) (h2:m.Stage=2):cj m=1∨cj m=2:=by
 unfold cj cC bX W
 rcases DB h h2 with h|h <;> rw [h] <;> split <;> decide
theorem rE {l:List Innings} (h:dX l) (k:Nat) {y:Innings} (hy:aj y):dX (l.set k y):=fun z hz=>by
 rcases List.mem_or_eq_of_mem_set hz with h1|h1
 ·exact h z h1
 ·rw [h1];exact hy
theorem IV {l:List Innings} (h:dX l) {y:Innings} (hy:aj y):dX (l++[y]):=fun z hz=>by
 rcases List.mem_append.1 hz with h1|h1
 ·exact h z h1
 ·rw [List.mem_singleton.1 h1];exact hy
theorem FE {x:Innings} (h:aj x):aj (wR x):=h
theorem jX {r:Rules} {x:Innings} (e:Mir.Event) (h:aj x):aj (cK r x e):=by
 cases hL:bZ r x e != 0 with
 | true=>rw [iI hL];exact h
 | false=>
  have h0:bZ r x e=0:=by simpa using hL
  have hv:aZ r x=true:=by
   cases hv:aZ r x with
   | true=>rfl
   | false=>simp [bZ,hv] at h0
  have hp:aj (uo (aB r x e) e):=px e (jY hv)
  have:cK r x e=tR r (uo (aB r x e) e):=by unfold cK;rw [hL];rfl
  rw [this]
  unfold tR
  split
  ·exact hp
  ·exact hp
theorem i3 (r:Rules) (s t p:Int):aj (gM r s t p):=by
 unfold gM
 split
 ·simp [aj,Innings.zero]
 ·rename_i h
  have h0:gn r s t p=0:=by simpa using h
  have hc:ar r=0:=by
   unfold gn at h0
   split at h0
   ·exact h0
   ·rename_i h1;simpa using h1
  have:=(gP hc).1
  simp only [aj,LR,gk,Innings.zero,List.length_replicate,List.length_nil]
  omega
theorem go {m:Match} (h:c9 m):aj (bt m):=by
 unfold bt
 by_cases hl:m.Innings.length - 1<m.Innings.length
 ·exact h _ (fZ hl _)
 ·rw [List.getD_eq_getElem?_getD,List.getElem?_eq_none (by omega)];simp [aj,Innings.zero]
theorem zJ {xs:List Innings} (h:0<xs.length) (h2:xs.length≤1000000) :(W ((xs.length:Int) - 1)).toNat=xs.length - 1:=by
 unfold W
 rw [bi (n:=(xs.length:Int) - 1) (by omega) (by omega)]
 omega
end Go.Proofs.YtkgplaoappjkcaaGreat
namespace Go.Proofs.YtkgplaoappjkcaaGreat
open Go Go.Mir
attribute [local irreducible] Go.Mir.DT.sat Go.Mir.evPat Go.Mir.RT.sat Go.Mir.evFn
abbrev EO:Pat:=cg [.nm .Result]
def kK:Den (tyP qM)→List Prop×Den (tyP EO):=fun x=>([c9 x.1],(bE x.1,()))
def kM (m:Match):Prop:=0<m.Innings.length∧m.Innings.length≤1000000
def Lh:Den (tyP qM)→List Prop×Den (tyP qIn):=fun x=>([kM x.1],(bt x.1,()))
theorem C9 (m:Match) (hm:c9 m) :(evPat (ao [tq,gG,iD,nF] Tryz.f71) (fun _=>none) Tryz.f71 qM EO (m,())).sat fun z_=>z_ =(kK (m,())).2:=by
 refine cast (by kernel_rfl) (?_:let r1:Int:=IntKind.i64.wrap ((↑m.5.length:Int) - (1:Int));let r2:Bool:=bif !aO m then true else (↑m.5.length:Int) ==(0:Int);let r3:Bool:=(↑m.5.length:Int)==IntKind.i64.wrap ((2:Int)*m.1.3);let r4:Innings:=m.5.getD r1.toNat (dflt (Ty.nm Nm.Innings));let r5:Int:=bX r4.1;let r6:Int:=fD m r4.1;let r7:Int:=fD m r5;let r8:Bool:=r4.23 ==(5:Int);let r9:Bool:=r4.23 ==(0:Int);let r10:Int:=IntKind.i64.wrap (r4.2 - (1:Int));let r11:Bool:=bif r3 then r4.4==r10 else false;let r12:Bool:=bif (↑m.5.length:Int) ==(3:Int) then decide (r6<r7) else false;let r13:Bool:=bif r3 then decide (r4.4≥r4.2) else false;(c9 m∧((!aO m)=true→True)∧((!aO m)=false→True))∧(true=true→(r2=true→(Result.mk (0:Int) (0:Int) (0:Int),()) =(bE m,()))∧(r2=false→((0:Int)≤r1∧r1 <(↑m.5.length:Int))∧(r8=true→(Result.mk (cL m.1) (0:Int) (0:Int),()) =(bE m,()))∧(r8=false→(r9=true→(Result.mk (0:Int) (0:Int) (0:Int),()) =(bE m,()))∧(r9=false→(r13=true→(Result.mk (2:Int) r4.1 (IntKind.i64.wrap (IntKind.i64.wrap (m.1.2 - (1:Int)) - r4.5)),()) =(bE m,()))∧(r13=false→(r11=true→(Result.mk (4:Int) (0:Int) (0:Int),()) =(bE m,()))∧(r11=false→(r3=true→(Result.mk (1:Int) r5 (IntKind.i64.wrap (r10 - r4.4)),()) =(bE m,()))∧(r3=false→(r12=true→(Result.mk (3:Int) r5 (IntKind.i64.wrap (r7 - r6)),()) =(bE m,()))∧(r12=false→(Result.mk (0:Int) (0:Int) (0:Int),()) =(bE m,()))))))))))
 intro r1 r2 r3 r4 r5 r6 r7 r8 r9 r10 r11 r12 r13
 clear_value (hr1:r1=_) (hr2:r2=_) (hr3:r3=_) (hr4:r4=_) (hr5:r5=_) (hr6:r6=_) (hr7:r7=_) (hr8:r8=_) (hr9:r9=_) (hr10:r10=_) (hr11:r11=_) (hr12:r12=_) (hr13:r13=_)
 have ev:r2 =(!aO m ||(m.Innings.length:Int)==0):=by rw [hr2];cases aO m <;> rfl
 refine ⟨⟨hm,fun _=>trivial,fun _=>trivial⟩,fun _=>⟨fun h=>?_,fun h=>?_⟩⟩
 ·have:bE m=Mir.Result.zero:=by unfold bE;rw [←ev,h];rfl
  rw [this];rfl
 ·have hv:aO m=true∧m.Innings.length≠0:=by rw [ev] at h;simpa using h
  have h4:=(kQ hv.1).2
  have e1:r1.toNat=m.Innings.length - 1:=by rw [hr1];exact zJ (by omega) (by omega)
  have e0:r1 =(m.Innings.length:Int) - 1:=by rw [hr1];exact bi (by omega) (by omega)
  have e4:r4=bt m:=by rw [hr4,e1];rfl
  subst e4
  have e12:r12=fT m:=by rw [hr12,hr6,hr7,hr5];unfold fT;cases (m.Innings.length:Int)==3 <;> rfl
  have e3:r3=mA m:=hr3
  have hO:bE m=if r8 then ox (cL m.Rules) 0 0 else if r9 then Mir.Result.zero else if r3 then BC m (bt m) else if r12 then ox 3 r5 (W (r7 - r6)) else Mir.Result.zero:=by
   rw [e12,e3,hr8,hr9,hr5,hr6,hr7,hr5];unfold bE;rw [←ev,h];rfl
  have hF:BC m (bt m)=if decide ((bt m).Runs≥(bt m).Target) then ox 2 (bt m).Side (W (W (m.Rules.Side - 1) - (bt m).Wickets)) else if (bt m).Runs==r10 then ox 4 0 0 else ox 1 r5 (W (r10 - (bt m).Runs)):=by rw [hr10,hr5];rfl
  rw [hO,hF]
  clear hO hF e12 e3 hr1 hr2 hr3 hr4 hr5 hr6 hr7 hr8 hr9 hr10 hr12 ev
  refine ⟨⟨by omega,by omega⟩,fun a=>?_,fun a=>⟨fun b=>?_,fun b=>⟨fun c=>?_,fun c=>⟨fun d=>?_,fun d=>⟨fun f=>?_,fun f=>⟨fun g=>?_,fun g=>?_⟩⟩⟩⟩⟩⟩
  ·rw [a];rfl
  ·rw [a,b];rfl
  ·rw [c] at hr13
   cases r3 with
   | false=>cases hr13
   | true=>rw [a,b];simp only [cond_true] at hr13;rw [←hr13];rfl
  ·rw [c] at hr13
   rw [d] at hr11
   cases r3 with
   | false=>cases hr11
   | true=>rw [a,b];simp only [cond_true] at hr13 hr11;rw [←hr13,←hr11];rfl
  ·subst f
   rw [c] at hr13
   rw [d] at hr11
   rw [a,b];simp only [cond_true] at hr13 hr11;rw [←hr13,←hr11];rfl
  ·rw [a,b,f,g];rfl
  ·rw [a,b,f,g];rfl
def xN:FuncId×Ctr:=(71,ae KE qM EO kK)
theorem Ev:CtrOK Tryz.prog KE 71 (ae KE qM EO kK):=by
 refine aq (C:=ao [tq,gG,iD,nF] Tryz.f71) (al (.consU Ck rfl (.consU mQ rfl (.consU oD rfl (.consU vf rfl .nil)))) _) mixed (fn:=Tryz.f71) Tryz.func71 (by kernel_rfl) (by kernel_rfl) (by kernel_rfl) (by kernel_rfl) (by kernel_rfl) (by kernel_rfl) (Λ:=fun _ _=>none) ?_ ?_
 ·exact fun _ _ _ _ _ _ _ _ h=>by cases h
 ·rintro ⟨m,⟨⟩⟩ hw hn
  exact C9 m (hn _ List.mem_cons_self)
theorem Fe (m:Match) (hm:kM m) :(evPat (ao [] Tryz.f102) (fun _=>none) Tryz.f102 qM qIn (m,())).sat fun z_=>z_ =(Lh (m,())).2:=by
 refine cast (by kernel_rfl) (?_:let r1:Int:=IntKind.i64.wrap ((↑m.5.length:Int) - (1:Int));((0:Int)≤r1∧r1 <(↑m.5.length:Int))∧(m.5.getD r1.toNat (dflt (Ty.nm Nm.Innings)),()) =(bt m,()))
 intro r1
 clear_value (hr1:r1=_)
 have e1:r1.toNat=m.Innings.length - 1:=by rw [hr1];exact zJ hm.1 hm.2
 have e0:r1 =(m.Innings.length:Int) - 1:=by have:=hm.1;have:=hm.2;rw [hr1];exact bi (by omega) (by omega)
 have:=hm.1
 exact ⟨⟨by omega,by omega⟩,by rw [e1];rfl⟩
def pW:FuncId×Ctr:=(102,ae KE qM qIn Lh)
theorem ya:CtrOK Tryz.prog KE 102 (ae KE qM qIn Lh):=by
 refine aq (C:=ao [] Tryz.f102) (al (CtrsOK.nil) _) mixed (fn:=Tryz.f102) Tryz.func102 (by kernel_rfl) (by kernel_rfl) (by kernel_rfl) (by kernel_rfl) (by kernel_rfl) (by kernel_rfl) (Λ:=fun _ _=>none) ?_ ?_
 ·exact fun _ _ _ _ _ _ _ _ h=>by cases h
 ·rintro ⟨m,⟨⟩⟩ hw hn
  exact Fe m (hn _ List.mem_cons_self)
theorem w3 (m:Match) (hm:c9 m) :(evPat (ao [iW,pW,dV,iV] Tryz.f123) (fun _=>none) Tryz.f123 qM EO (m,())).sat fun z_=>z_ =(kK (m,())).2:=by
 refine cast (by kernel_rfl) (?_:let r1:Int:=IntKind.i64.wrap ((bt m).2 - (1:Int));let r2:Bool:=bif !cS m then true else (↑m.5.length:Int) ==(0:Int);let r3:Bool:=bif (bt m).23 ==(5:Int) then m.1.4 ==(0:Int) else false;let r4:Bool:=(↑m.5.length:Int)==IntKind.i64.wrap ((2:Int)*m.1.3);let r5:Bool:=bif (↑m.5.length:Int) ==(3:Int) then decide (fD m (bt m).1<fD m (bX (bt m).1)) else false;let r6:Bool:=bif r4 then decide ((bt m).4≥(bt m).2) else false;let r7:Bool:=bif r4 then (bt m).4==r1 else false;(c9 m∧((!cS m)=true→True)∧((!cS m)=false→True))∧(true=true→(r2=true→(Result.mk (0:Int) (0:Int) (0:Int),()) =(bE m,()))∧(r2=false→kM m∧(r3=true→(Result.mk (5:Int) (0:Int) (0:Int),()) =(bE m,()))∧(r3=false→(((bt m).23 ==(5:Int))=true→(Result.mk (6:Int) (0:Int) (0:Int),()) =(bE m,()))∧(((bt m).23 ==(5:Int))=false→(((bt m).23 ==(0:Int))=true→(Result.mk (0:Int) (0:Int) (0:Int),()) =(bE m,()))∧(((bt m).23 ==(0:Int))=false→(r6=true→(Result.mk (2:Int) (bt m).1 (IntKind.i64.wrap (IntKind.i64.wrap (m.1.2 - (1:Int)) - (bt m).5)),()) =(bE m,()))∧(r6=false→(r7=true→(Result.mk (4:Int) (0:Int) (0:Int),()) =(bE m,()))∧(r7=false→(r4=true→(Result.mk (1:Int) (bX (bt m).1) (IntKind.i64.wrap (r1 - (bt m).4)),()) =(bE m,()))∧(r4=false→(r5=true→(Result.mk (3:Int) (bX (bt m).1) (IntKind.i64.wrap (fD m (bX (bt m).1) - fD m (bt m).1)),()) =(bE m,()))∧(r5=false→(Result.mk (0:Int) (0:Int) (0:Int),()) =(bE m,())))))))))))
 intro r1 r2 r3 r4 r5 r6 r7
 clear_value (hr1:r1=_) (hr2:r2=_) (hr3:r3=_) (hr4:r4=_) (hr5:r5=_) (hr6:r6=_) (hr7:r7=_)
 rw [←rG] at *
 have ev:r2 =(!aO m ||(m.Innings.length:Int)==0):=by rw [hr2];cases aO m <;> rfl
 refine ⟨⟨hm,fun _=>trivial,fun _=>trivial⟩,fun _=>⟨fun h=>?_,fun h=>?_⟩⟩
 ·have:bE m=Mir.Result.zero:=by unfold bE;rw [←ev,h];rfl
  rw [this];rfl
 ·have hv:aO m=true∧m.Innings.length≠0:=by rw [ev] at h;simpa using h
  have h4:=(kQ hv.1).2
  have e5:r5=fT m:=by rw [hr5];unfold fT;cases (m.Innings.length:Int)==3 <;> rfl
  have e4:r4=mA m:=hr4
  have hO:bE m=if (bt m).Ending==5 then ox (cL m.Rules) 0 0 else if (bt m).Ending==0 then Mir.Result.zero else if r4 then BC m (bt m) else if r5 then ox 3 (bX (bt m).Side) (W (fD m (bX (bt m).Side) - fD m (bt m).Side)) else Mir.Result.zero:=by
   rw [e5,e4];unfold bE;rw [←ev,h];rfl
  have hF:BC m (bt m)=if decide ((bt m).Runs≥(bt m).Target) then ox 2 (bt m).Side (W (W (m.Rules.Side - 1) - (bt m).Wickets)) else if (bt m).Runs==r1 then ox 4 0 0 else ox 1 (bX (bt m).Side) (W (r1 - (bt m).Runs)):=by rw [hr1];rfl
  rw [hO,hF]
  clear hO hF e5 e4 hr1 hr2 hr4 hr5 ev
  refine ⟨⟨by omega,by omega⟩,fun z=>?_,fun z=>⟨fun a=>?_,fun a=>⟨fun b=>?_,fun b=>⟨fun c=>?_,fun c=>⟨fun d=>?_,fun d=>⟨fun f=>?_,fun f=>⟨fun g=>?_,fun g=>?_⟩⟩⟩⟩⟩⟩⟩
  ·rw [z] at hr3
   cases hE :(bt m).Ending==5 with
   | false=>rw [hE] at hr3;cases hr3
   | true=>rw [hE] at hr3;simp only [cond_true] at hr3;simp only [cL,←hr3];rfl
  ·rw [z,a] at hr3
   simp only [cond_true] at hr3
   rw [a];simp only [cL,←hr3];rfl
  ·rw [a,b];rfl
  ·rw [c] at hr6
   cases r4 with
   | false=>cases hr6
   | true=>rw [a,b];simp only [cond_true] at hr6;rw [←hr6];rfl
  ·rw [c] at hr6
   rw [d] at hr7
   cases r4 with
   | false=>cases hr7
   | true=>rw [a,b];simp only [cond_true] at hr6 hr7;rw [←hr6,←hr7];rfl
  ·subst f
   rw [c] at hr6
   rw [d] at hr7
   rw [a,b];simp only [cond_true] at hr6 hr7;rw [←hr6,←hr7];rfl
  ·rw [a,b,f,g];rfl
  ·rw [a,b,f,g];rfl
def sg:FuncId×Ctr:=(123,ae KE qM EO kK)
theorem zR:CtrOK Tryz.prog KE 123 (ae KE qM EO kK):=by
 refine aq (C:=ao [iW,pW,dV,iV] Tryz.f123) (al (.consU pu rfl (.consU ya rfl (.consU jm rfl (.consU pq rfl .nil)))) _) mixed (fn:=Tryz.f123) Tryz.func123 (by kernel_rfl) (by kernel_rfl) (by kernel_rfl) (by kernel_rfl) (by kernel_rfl) (by kernel_rfl) (Λ:=fun _ _=>none) ?_ ?_
 ·exact fun _ _ _ _ _ _ _ _ h=>by cases h
 ·rintro ⟨m,⟨⟩⟩ hw hn
  exact w3 m (hn _ List.mem_cons_self)
end Go.Proofs.YtkgplaoappjkcaaGreat
namespace Go.Proofs.YtkgplaoappjkcaaGreat
open Go Go.Mir
attribute [local irreducible] Go.Mir.DT.sat Go.Mir.evPat Go.Mir.RT.sat Go.Mir.evFn
abbrev BH:List (Nat×PB):= [(0,.cells (oR (.c (.osl 1 2)))),(1,.row 2 (.nm .Innings))]
abbrev qPM:Pat:=⟨[(0,.c (.ptr 0 0))],BH,3⟩
abbrev qPI:Pat:=⟨[(0,.c (.ptr 0 0)),(1,.h I)],BH,3⟩
abbrev sY:Pat:=⟨[],BH,3⟩
def Fn:Den (tyP qPI)→List Prop×Den (tyP sY):=fun x=>([aE (mkX x.2),gg x.1],((ay (mkX x.2) x.1).Rules.Name,(ay (mkX x.2) x.1).Rules.Side,(ay (mkX x.2) x.1).Rules.Innings,(ay (mkX x.2) x.1).Rules.Overs,(ay (mkX x.2) x.1).Rules.Balls,(ay (mkX x.2) x.1).Rules.Quota,(ay (mkX x.2) x.1).Rules.Wide,(ay (mkX x.2) x.1).Rules.NoBall,(ay (mkX x.2) x.1).Rules.FreeHit,(ay (mkX x.2) x.1).Rules.NewBall,(ay (mkX x.2) x.1).Rules.FollowOn,(ay (mkX x.2) x.1).Rules.Reviews,(ay (mkX x.2) x.1).Rules.Outside,(ay (mkX x.2) x.1).Rules.Power,(ay (mkX x.2) x.1).Stage,(ay (mkX x.2) x.1).First,(ay (mkX x.2) x.1).Follow,(ay (mkX x.2) x.1).Penalty.1,(ay (mkX x.2) x.1).Penalty.2.1,(ay (mkX x.2) x.1).Result.Win,(ay (mkX x.2) x.1).Result.Side,(ay (mkX x.2) x.1).Result.Margin,(ay (mkX x.2) x.1).Innings,()))
def iz (m:Match):Prop:=m.Stage=3→0<m.Innings.length
def Ln:Den (tyP qPM)→List Prop×Den (tyP sY):=fun x=>([aE (mkX x),iz (mkX x)],((dz (mkX x)).Rules.Name,(dz (mkX x)).Rules.Side,(dz (mkX x)).Rules.Innings,(dz (mkX x)).Rules.Overs,(dz (mkX x)).Rules.Balls,(dz (mkX x)).Rules.Quota,(dz (mkX x)).Rules.Wide,(dz (mkX x)).Rules.NoBall,(dz (mkX x)).Rules.FreeHit,(dz (mkX x)).Rules.NewBall,(dz (mkX x)).Rules.FollowOn,(dz (mkX x)).Rules.Reviews,(dz (mkX x)).Rules.Outside,(dz (mkX x)).Rules.Power,(dz (mkX x)).Stage,(dz (mkX x)).First,(dz (mkX x)).Follow,(dz (mkX x)).Penalty.1,(dz (mkX x)).Penalty.2.1,(dz (mkX x)).Result.Win,(dz (mkX x)).Result.Side,(dz (mkX x)).Result.Margin,(dz (mkX x)).Innings,()))
def Fp:Den (tyP qPM)→List Prop×Den (tyP sY):=fun x=>([aE (mkX x),iz (mkX x)],((aw (mkX x)).Rules.Name,(aw (mkX x)).Rules.Side,(aw (mkX x)).Rules.Innings,(aw (mkX x)).Rules.Overs,(aw (mkX x)).Rules.Balls,(aw (mkX x)).Rules.Quota,(aw (mkX x)).Rules.Wide,(aw (mkX x)).Rules.NoBall,(aw (mkX x)).Rules.FreeHit,(aw (mkX x)).Rules.NewBall,(aw (mkX x)).Rules.FollowOn,(aw (mkX x)).Rules.Reviews,(aw (mkX x)).Rules.Outside,(aw (mkX x)).Rules.Power,(aw (mkX x)).Stage,(aw (mkX x)).First,(aw (mkX x)).Follow,(aw (mkX x)).Penalty.1,(aw (mkX x)).Penalty.2.1,(aw (mkX x)).Result.Win,(aw (mkX x)).Result.Side,(aw (mkX x)).Result.Margin,(aw (mkX x)).Innings,()))
abbrev qAw:Pat:=⟨[(0,.c (.ptr 0 0)),(1,.h I),(4,.h I)],BH,3⟩
abbrev xAw:List (Lf×Pat):= [(.ret,⟨[],BH,3⟩),(.ext 0,⟨[(0,.c (.ptr 0 0)),(1,.h I)],BH,3⟩)]
abbrev TAw:Type:=Int×Int×TM
def xt (x:TAw):Prop:=(-1≤x.2.1∧x.2.1 <(x.2.2.2.2.2.2.2.2.2.2.2.2.2.2.2.2.2.2.2.2.2.2.2.2.1.length:Int)∧x.2.2.2.2.2.2.2.2.2.2.2.2.2.2.2.2.2.2.2.2.2.2.2.2.1.length≤1000000)∧dX x.2.2.2.2.2.2.2.2.2.2.2.2.2.2.2.2.2.2.2.2.2.2.2.2.1
def HA (x:TAw):Nat:=(x.2.1+1).toNat
def SM (y:TM) (xs:List Innings):TM:=(y.1,y.2.1,y.2.2.1,y.2.2.2.1,y.2.2.2.2.1,y.2.2.2.2.2.1,y.2.2.2.2.2.2.1,y.2.2.2.2.2.2.2.1,y.2.2.2.2.2.2.2.2.1,y.2.2.2.2.2.2.2.2.2.1,y.2.2.2.2.2.2.2.2.2.2.1,y.2.2.2.2.2.2.2.2.2.2.2.1,y.2.2.2.2.2.2.2.2.2.2.2.2.1,y.2.2.2.2.2.2.2.2.2.2.2.2.2.1,y.2.2.2.2.2.2.2.2.2.2.2.2.2.2.1,y.2.2.2.2.2.2.2.2.2.2.2.2.2.2.2.1,y.2.2.2.2.2.2.2.2.2.2.2.2.2.2.2.2.1,y.2.2.2.2.2.2.2.2.2.2.2.2.2.2.2.2.2.1,y.2.2.2.2.2.2.2.2.2.2.2.2.2.2.2.2.2.2.1,y.2.2.2.2.2.2.2.2.2.2.2.2.2.2.2.2.2.2.2.1,y.2.2.2.2.2.2.2.2.2.2.2.2.2.2.2.2.2.2.2.2.1,y.2.2.2.2.2.2.2.2.2.2.2.2.2.2.2.2.2.2.2.2.2.1,xs,())
def yf (s:Int) (y:TM):Option Nat→Sum TM (Int×TM)
 | some k=> .inl (SM y (y.2.2.2.2.2.2.2.2.2.2.2.2.2.2.2.2.2.2.2.2.2.2.1.set k (wR (y.2.2.2.2.2.2.2.2.2.2.2.2.2.2.2.2.2.2.2.2.2.2.1.getD k Innings.zero))))
 | none=> .inr (s,y)
def l8 (x:TAw):Sum TM (Int×TM):=yf x.1 x.2.2 (d7 x.1 x.2.2.2.2.2.2.2.2.2.2.2.2.2.2.2.2.2.2.2.2.2.2.2.2.1 (x.2.1+1).toNat)
theorem K6 (m:Match) (hm:aE m) (ho:iz m) :(evPat (ao [iD] Tryz.f68) (fun _=>none) Tryz.f68 qPM sY (m.Rules.Name,m.Rules.Side,m.Rules.Innings,m.Rules.Overs,m.Rules.Balls,m.Rules.Quota,m.Rules.Wide,m.Rules.NoBall,m.Rules.FreeHit,m.Rules.NewBall,m.Rules.FollowOn,m.Rules.Reviews,m.Rules.Outside,m.Rules.Power,m.Stage,m.First,m.Follow,m.Penalty.1,m.Penalty.2.1,m.Result.Win,m.Result.Side,m.Result.Margin,m.Innings,())).sat fun z_=>z_ =(Ln (m.Rules.Name,m.Rules.Side,m.Rules.Innings,m.Rules.Overs,m.Rules.Balls,m.Rules.Quota,m.Rules.Wide,m.Rules.NoBall,m.Rules.FreeHit,m.Rules.NewBall,m.Rules.FollowOn,m.Rules.Reviews,m.Rules.Outside,m.Rules.Power,m.Stage,m.First,m.Follow,m.Penalty.1,m.Penalty.2.1,m.Result.Win,m.Result.Side,m.Result.Margin,m.Innings,())).2:=by
 refine cast (by kernel_rfl) (?_:let r1:Int:=IntKind.i64.wrap ((↑m.5.length:Int) - (1:Int));let r2:Innings:=m.5.getD r1.toNat (dflt (Ty.nm Nm.Innings));(((m.2 ==(3:Int))=true→((0:Int)≤r1∧r1 <(↑m.5.length:Int))∧True)∧((m.2 ==(3:Int))=false→True))∧(true=true→(m.1.1,m.1.2,m.1.3,m.1.4,m.1.5,m.1.6,m.1.7,m.1.8,m.1.9,m.1.10,m.1.11,m.1.12,m.1.13,m.1.14,(5:Int),m.3,m.4,m.6.1,m.6.2.1,cL m.1,(0:Int),(0:Int),bif m.2 ==(3:Int) then m.5.set r1.toNat (Innings.mk r2.1 r2.2 r2.3 r2.4 r2.5 r2.6 r2.7 r2.8 r2.9 r2.10 r2.11 r2.12 r2.13 r2.14 r2.15 r2.16 r2.17 r2.18 r2.19 r2.20 r2.21 r2.22 (5:Int)) else m.5,()) =((bN m).1.1,(bN m).1.2,(bN m).1.3,(bN m).1.4,(bN m).1.5,(bN m).1.6,(bN m).1.7,(bN m).1.8,(bN m).1.9,(bN m).1.10,(bN m).1.11,(bN m).1.12,(bN m).1.13,(bN m).1.14,(5:Int),(bN m).3,(bN m).4,(bN m).6.1,(bN m).6.2.1,cL m.1,(0:Int),(0:Int),(bN m).5,())))
 intro r1 r2
 clear_value (hr1:r1=_) (hr2:r2=_)
 have hx:=hm.2.1
 refine ⟨⟨fun h=>⟨?_,trivial⟩,fun _=>trivial⟩,fun _=>?_⟩
 ·have h0:=ho (by simpa using h)
  rw [hr1,bi (n:=(m.Innings.length:Int) - 1) (by omega) (by omega)]
  omega
 ·cases h:m.Stage==3 with
  | true=>
   have h0:=ho (by simpa using h)
   have e1:r1.toNat=Cc m:=by rw [hr1];exact zJ h0 hx
   have e2:r2=bt m:=by rw [hr2,e1];rfl
   have eS:bN m=Dv m (Cc m) { bt m with Ending:=5 }:=by unfold bN;rw [h];rfl
   rw [eS,e1,e2];rfl
  | false=>
   have eS:bN m=m:=by unfold bN;rw [h];rfl
   rw [eS];rfl
def JQ:FuncId×Ctr:=(68,ae KE qPM sY Ln)
theorem ME:CtrOK Tryz.prog KE 68 (ae KE qPM sY Ln):=by
 refine aq (C:=ao [iD] Tryz.f68) (al (.consU oD rfl .nil) _) mixed (fn:=Tryz.f68) Tryz.func68 (by kernel_rfl) (by kernel_rfl) (by kernel_rfl) (by kernel_rfl) (by kernel_rfl) (by kernel_rfl) (Λ:=fun _ _=>none) ?_ ?_
 ·exact fun _ _ _ _ _ _ _ _ h=>by cases h
 ·rintro ⟨v1,v2,v3,v4,v5,v6,v7,v8,v9,v10,v11,v12,v13,v14,v15,v16,v17,v18,v19,v20,v21,v22,xs,⟨⟩⟩ hw hn
  exact K6 (mkM v1 v2 v3 v4 v5 v6 v7 v8 v9 v10 v11 v12 v13 v14 v15 v16 v17 v18 v19 v20 v21 v22 xs) (hn _ List.mem_cons_self) (hn _ (List.mem_cons_of_mem _ List.mem_cons_self))
noncomputable def lpAw:Lp:=(⟨3,ao [kq] Tryz.f97,(fun _=>none),(aA Tryz.f97 0),qAw,xAw⟩:Lp)
theorem P2 (s:Int) (i:Int) (v1:ByteArray) (v2:Int) (v3:Int) (v4:Int) (v5:Int) (v6:Int) (v7:Int) (v8:Int) (v9:Bool) (v10:Int) (v11:Int) (v12:Int) (v13:Int) (v14:List Phase) (v15:Int) (v16:Int) (v17:Bool) (v18:Int) (v19:Int) (v20:Int) (v21:Int) (v22:Int) (xs:List Innings) (hi:xt (s,i,v1,v2,v3,v4,v5,v6,v7,v8,v9,v10,v11,v12,v13,v14,v15,v16,v17,v18,v19,v20,v21,v22,xs,())) :(Go.Mir.stepG lpAw l8 (fun y:Den (tyP lpAw.q)=>xt y∧HA y<HA (s,i,v1,v2,v3,v4,v5,v6,v7,v8,v9,v10,v11,v12,v13,v14,v15,v16,v17,v18,v19,v20,v21,v22,xs,())) (s,i,v1,v2,v3,v4,v5,v6,v7,v8,v9,v10,v11,v12,v13,v14,v15,v16,v17,v18,v19,v20,v21,v22,xs,())∧Go.Mir.stepE lpAw l8 (s,i,v1,v2,v3,v4,v5,v6,v7,v8,v9,v10,v11,v12,v13,v14,v15,v16,v17,v18,v19,v20,v21,v22,xs,())=l8 (s,i,v1,v2,v3,v4,v5,v6,v7,v8,v9,v10,v11,v12,v13,v14,v15,v16,v17,v18,v19,v20,v21,v22,xs,())):=by
 refine cast (by kernel_rfl) (?_:let r1:Bool:=decide (i≥(0:Int));let r2:Bool:=(xs.getD i.toNat (dflt (Ty.nm Nm.Innings))).1==s;((r1=true→((0:Int)≤i∧i <(↑xs.length:Int))∧(r2=true→((0:Int)≤i∧i <(↑xs.length:Int))∧aj (xs.getD i.toNat (dflt (Ty.nm Nm.Innings)))∧((0:Int)≤i∧i <(↑xs.length:Int))∧True)∧(r2=false→xt (s,IntKind.i64.wrap (i - (1:Int)),v1,v2,v3,v4,v5,v6,v7,v8,v9,v10,v11,v12,v13,v14,v15,v16,v17,v18,v19,v20,v21,v22,xs,())∧HA (s,IntKind.i64.wrap (i - (1:Int)),v1,v2,v3,v4,v5,v6,v7,v8,v9,v10,v11,v12,v13,v14,v15,v16,v17,v18,v19,v20,v21,v22,xs,())<HA (s,i,v1,v2,v3,v4,v5,v6,v7,v8,v9,v10,v11,v12,v13,v14,v15,v16,v17,v18,v19,v20,v21,v22,xs,())))∧(r1=false→True))∧(bif r1 then bif r2 then Sum.inl (v1,v2,v3,v4,v5,v6,v7,v8,v9,v10,v11,v12,v13,v14,v15,v16,v17,v18,v19,v20,v21,v22,xs.set i.toNat (Innings.mk (xs.getD i.toNat (dflt (Ty.nm Nm.Innings))).1 (xs.getD i.toNat (dflt (Ty.nm Nm.Innings))).2 (xs.getD i.toNat (dflt (Ty.nm Nm.Innings))).3 (W ((xs.getD i.toNat (dflt (Ty.nm Nm.Innings))).4 +(5:Int))) (xs.getD i.toNat (dflt (Ty.nm Nm.Innings))).5 (Extras.mk (xs.getD i.toNat (dflt (Ty.nm Nm.Innings))).6.1 (xs.getD i.toNat (dflt (Ty.nm Nm.Innings))).6.2 (xs.getD i.toNat (dflt (Ty.nm Nm.Innings))).6.3 (xs.getD i.toNat (dflt (Ty.nm Nm.Innings))).6.4 (W ((xs.getD i.toNat (dflt (Ty.nm Nm.Innings))).6.5 +(5:Int)))) (xs.getD i.toNat (dflt (Ty.nm Nm.Innings))).7 (xs.getD i.toNat (dflt (Ty.nm Nm.Innings))).8 (xs.getD i.toNat (dflt (Ty.nm Nm.Innings))).9 (xs.getD i.toNat (dflt (Ty.nm Nm.Innings))).10 (xs.getD i.toNat (dflt (Ty.nm Nm.Innings))).11 (xs.getD i.toNat (dflt (Ty.nm Nm.Innings))).12 (xs.getD i.toNat (dflt (Ty.nm Nm.Innings))).13 (xs.getD i.toNat (dflt (Ty.nm Nm.Innings))).14 (xs.getD i.toNat (dflt (Ty.nm Nm.Innings))).15 (xs.getD i.toNat (dflt (Ty.nm Nm.Innings))).16 (xs.getD i.toNat (dflt (Ty.nm Nm.Innings))).17 (xs.getD i.toNat (dflt (Ty.nm Nm.Innings))).18 (xs.getD i.toNat (dflt (Ty.nm Nm.Innings))).19 (xs.getD i.toNat (dflt (Ty.nm Nm.Innings))).20 (xs.getD i.toNat (dflt (Ty.nm Nm.Innings))).21 (xs.getD i.toNat (dflt (Ty.nm Nm.Innings))).22 (xs.getD i.toNat (dflt (Ty.nm Nm.Innings))).23),()) else l8 (s,IntKind.i64.wrap (i - (1:Int)),v1,v2,v3,v4,v5,v6,v7,v8,v9,v10,v11,v12,v13,v14,v15,v16,v17,v18,v19,v20,v21,v22,xs,()) else Sum.inr (s,v1,v2,v3,v4,v5,v6,v7,v8,v9,v10,v11,v12,v13,v14,v15,v16,v17,v18,v19,v20,v21,v22,xs,()))=l8 (s,i,v1,v2,v3,v4,v5,v6,v7,v8,v9,v10,v11,v12,v13,v14,v15,v16,v17,v18,v19,v20,v21,v22,xs,()))
 intro r1 r2
 clear_value (hr1:r1=_) (hr2:r2=_)
 obtain ⟨⟨h1,h2,h3⟩,hs⟩:=hi
 simp only at h1 h2 h3 hs
 refine ⟨⟨fun h=>?_,fun _=>trivial⟩,?_⟩
 ·have h:i≥0:=of_decide_eq_true (by rw [←hr1];exact h)
  have hl:i.toNat<xs.length:=by omega
  refine ⟨⟨h,by omega⟩,fun _=>⟨⟨h,by omega⟩,hs _ (fZ hl _),⟨h,by omega⟩,trivial⟩,fun _=>?_⟩
  rw [bi (n:=i - 1) (by omega) (by omega)]
  exact ⟨⟨⟨by simp only;omega,by simp only;omega,h3⟩,hs⟩,by simp only [HA];omega⟩
 ·by_cases h:i≥0
  ·have e :(i+1).toNat=i.toNat+1:=by omega
   have eF:d7 s xs (i+1).toNat=if r2 then some i.toNat else d7 s xs i.toNat:=by rw [e,hr2];rfl
   rw [hr1,decide_eq_true h,cond_true]
   show _=yf s _ (d7 s xs (i+1).toNat)
   rw [eF]
   cases r2 with
   | true=>rfl
   | false=>
    rw [bi (n:=i - 1) (by omega) (by omega)]
    show yf s _ (d7 s xs (i - 1+1).toNat)=_
    rw [show (i - 1+1).toNat=i.toNat by omega]
    rfl
  ·have e :(i+1).toNat=0:=by omega
   rw [hr1,decide_eq_false h,cond_false]
   show _=yf s _ (d7 s xs (i+1).toNat)
   rw [e]
   rfl
noncomputable def N8:LoopSum:=aI lpAw l8 xt
noncomputable def NM:Nat:=rid (aA Tryz.f97 0)
theorem O2:LoopOKp Tryz.prog 3 Tryz.f97.ntmps (aA Tryz.f97 0) (aI lpAw l8 xt):=
 bj lpAw (al (.consU pl rfl .nil) _) mixed (fun b hb S hS=>by cases hS) l8 xt HA (fun |⟨s,i,v1,v2,v3,v4,v5,v6,v7,v8,v9,v10,v11,v12,v13,v14,v15,v16,v17,v18,v19,v20,v21,v22,xs,⟨⟩⟩,hi=>P2 s i v1 v2 v3 v4 v5 v6 v7 v8 v9 v10 v11 v12 v13 v14 v15 v16 v17 v18 v19 v20 v21 v22 xs hi)
theorem Iu (m:Match) (s:Int) (hm:aE m) (hk:gg s) :(evPat (ao [kq] Tryz.f97) (find [(NM,N8)]) Tryz.f97 qPI sY (s,m.Rules.Name,m.Rules.Side,m.Rules.Innings,m.Rules.Overs,m.Rules.Balls,m.Rules.Quota,m.Rules.Wide,m.Rules.NoBall,m.Rules.FreeHit,m.Rules.NewBall,m.Rules.FollowOn,m.Rules.Reviews,m.Rules.Outside,m.Rules.Power,m.Stage,m.First,m.Follow,m.Penalty.1,m.Penalty.2.1,m.Result.Win,m.Result.Side,m.Result.Margin,m.Innings,())).sat fun z_=>z_ =(Fn (s,m.Rules.Name,m.Rules.Side,m.Rules.Innings,m.Rules.Overs,m.Rules.Balls,m.Rules.Quota,m.Rules.Wide,m.Rules.NoBall,m.Rules.FreeHit,m.Rules.NewBall,m.Rules.FollowOn,m.Rules.Reviews,m.Rules.Outside,m.Rules.Power,m.Stage,m.First,m.Follow,m.Penalty.1,m.Penalty.2.1,m.Result.Win,m.Result.Side,m.Result.Margin,m.Innings,())).2:=by
 refine cast (by kernel_rfl) (?_:let r1:Int:=IntKind.i64.wrap ((↑m.5.length:Int) - (1:Int));let r2:Bool:=isL (l8 (s,r1,m.1.1,m.1.2,m.1.3,m.1.4,m.1.5,m.1.6,m.1.7,m.1.8,m.1.9,m.1.10,m.1.11,m.1.12,m.1.13,m.1.14,m.2,m.3,m.4,m.6.1,m.6.2.1,m.7.1,m.7.2,m.7.3,m.5,()));let r3:Int×ByteArray×Int×Int×Int×Int×Int×Int×Int×Bool×Int×Int×Int×Int×List Phase×Int×Int×Bool×Int×Int×Int×Int×Int×List Innings×PUnit:=pN (dflt (I.prod (Ty.str.prod (I.prod (I.prod (I.prod (I.prod (I.prod (I.prod (I.prod (Ty.bool.prod (I.prod (I.prod (I.prod (I.prod ((Ty.nm Nm.Phase).slice.prod (U8.prod (I.prod (Ty.bool.prod (I.prod (I.prod (U8.prod (I.prod (I.prod ((Ty.nm Nm.Innings).slice.prod Ty.unit))))))))))))))))))))))))) (l8 (s,r1,m.1.1,m.1.2,m.1.3,m.1.4,m.1.5,m.1.6,m.1.7,m.1.8,m.1.9,m.1.10,m.1.11,m.1.12,m.1.13,m.1.14,m.2,m.3,m.4,m.6.1,m.6.2.1,m.7.1,m.7.2,m.7.3,m.5,()));let r4:Int:=IntKind.i64.wrap (r3.1 - (1:Int));let r5:Bool:=r4 ==(0:Int);let r6:Bool:=r4 ==(1:Int);((cR fun x=>none)∧((-1:Int)≤r1∧r1 <(↑m.5.length:Int)∧m.5.length≤(1000000:Nat))∧dX m.5)∧(r2=true→ij (dflt (Ty.str.prod (I.prod (I.prod (I.prod (I.prod (I.prod (I.prod (I.prod (Ty.bool.prod (I.prod (I.prod (I.prod (I.prod ((Ty.nm Nm.Phase).slice.prod (U8.prod (I.prod (Ty.bool.prod (I.prod (I.prod (U8.prod (I.prod (I.prod ((Ty.nm Nm.Innings).slice.prod Ty.unit)))))))))))))))))))))))) (l8 (s,r1,m.1.1,m.1.2,m.1.3,m.1.4,m.1.5,m.1.6,m.1.7,m.1.8,m.1.9,m.1.10,m.1.11,m.1.12,m.1.13,m.1.14,m.2,m.3,m.4,m.6.1,m.6.2.1,m.7.1,m.7.2,m.7.3,m.5,())) =((ay m s).1.1,(ay m s).1.2,(ay m s).1.3,(ay m s).1.4,(ay m s).1.5,(ay m s).1.6,(ay m s).1.7,(ay m s).1.8,(ay m s).1.9,(ay m s).1.10,(ay m s).1.11,(ay m s).1.12,(ay m s).1.13,(ay m s).1.14,(ay m s).2,(ay m s).3,(ay m s).4,(ay m s).6.1,(ay m s).6.2.1,(ay m s).7.1,(ay m s).7.2,(ay m s).7.3,(ay m s).5,()))∧(r2=false→(r5=true→((0:Int)≤(0:Int)∧(0:Int) <(↑(2:Nat):Int))∧((0:Int)≤(0:Int)∧(0:Int) <(↑(2:Nat):Int))∧(r3.2.1,r3.2.2.1,r3.2.2.2.1,r3.2.2.2.2.1,r3.2.2.2.2.2.1,r3.2.2.2.2.2.2.1,r3.2.2.2.2.2.2.2.1,r3.2.2.2.2.2.2.2.2.1,r3.2.2.2.2.2.2.2.2.2.1,r3.2.2.2.2.2.2.2.2.2.2.1,r3.2.2.2.2.2.2.2.2.2.2.2.1,r3.2.2.2.2.2.2.2.2.2.2.2.2.1,r3.2.2.2.2.2.2.2.2.2.2.2.2.2.1,r3.2.2.2.2.2.2.2.2.2.2.2.2.2.2.1,r3.2.2.2.2.2.2.2.2.2.2.2.2.2.2.2.1,r3.2.2.2.2.2.2.2.2.2.2.2.2.2.2.2.2.1,r3.2.2.2.2.2.2.2.2.2.2.2.2.2.2.2.2.2.1,IntKind.i64.wrap (r3.2.2.2.2.2.2.2.2.2.2.2.2.2.2.2.2.2.2.1 +(5:Int)),r3.2.2.2.2.2.2.2.2.2.2.2.2.2.2.2.2.2.2.2) =((ay m s).1.1,(ay m s).1.2,(ay m s).1.3,(ay m s).1.4,(ay m s).1.5,(ay m s).1.6,(ay m s).1.7,(ay m s).1.8,(ay m s).1.9,(ay m s).1.10,(ay m s).1.11,(ay m s).1.12,(ay m s).1.13,(ay m s).1.14,(ay m s).2,(ay m s).3,(ay m s).4,(ay m s).6.1,(ay m s).6.2.1,(ay m s).7.1,(ay m s).7.2,(ay m s).7.3,(ay m s).5,()))∧(r5=false→(r6=true→((0:Int)≤(1:Int)∧(1:Int) <(↑(2:Nat):Int))∧((0:Int)≤(1:Int)∧(1:Int) <(↑(2:Nat):Int))∧(r3.2.1,r3.2.2.1,r3.2.2.2.1,r3.2.2.2.2.1,r3.2.2.2.2.2.1,r3.2.2.2.2.2.2.1,r3.2.2.2.2.2.2.2.1,r3.2.2.2.2.2.2.2.2.1,r3.2.2.2.2.2.2.2.2.2.1,r3.2.2.2.2.2.2.2.2.2.2.1,r3.2.2.2.2.2.2.2.2.2.2.2.1,r3.2.2.2.2.2.2.2.2.2.2.2.2.1,r3.2.2.2.2.2.2.2.2.2.2.2.2.2.1,r3.2.2.2.2.2.2.2.2.2.2.2.2.2.2.1,r3.2.2.2.2.2.2.2.2.2.2.2.2.2.2.2.1,r3.2.2.2.2.2.2.2.2.2.2.2.2.2.2.2.2.1,r3.2.2.2.2.2.2.2.2.2.2.2.2.2.2.2.2.2.1,r3.2.2.2.2.2.2.2.2.2.2.2.2.2.2.2.2.2.2.1,IntKind.i64.wrap (r3.2.2.2.2.2.2.2.2.2.2.2.2.2.2.2.2.2.2.2.1 +(5:Int)),r3.2.2.2.2.2.2.2.2.2.2.2.2.2.2.2.2.2.2.2.2) =((ay m s).1.1,(ay m s).1.2,(ay m s).1.3,(ay m s).1.4,(ay m s).1.5,(ay m s).1.6,(ay m s).1.7,(ay m s).1.8,(ay m s).1.9,(ay m s).1.10,(ay m s).1.11,(ay m s).1.12,(ay m s).1.13,(ay m s).1.14,(ay m s).2,(ay m s).3,(ay m s).4,(ay m s).6.1,(ay m s).6.2.1,(ay m s).7.1,(ay m s).7.2,(ay m s).7.3,(ay m s).5,()))∧(r6=false→False∧True))))
 intro r1 r2 r3 r4 r5 r6
 clear_value (hr1:r1=_) (hr2:r2=_) (hr3:r3=_) (hr4:r4=_) (hr5:r5=_) (hr6:r6=_)
 have hx:=hm.2.1
 have e0:r1 =(m.Innings.length:Int) - 1:=by rw [hr1];exact bi (by omega) (by omega)
 have er:l8 (s,r1,m.Rules.Name,m.Rules.Side,m.Rules.Innings,m.Rules.Overs,m.Rules.Balls,m.Rules.Quota,m.Rules.Wide,m.Rules.NoBall,m.Rules.FreeHit,m.Rules.NewBall,m.Rules.FollowOn,m.Rules.Reviews,m.Rules.Outside,m.Rules.Power,m.Stage,m.First,m.Follow,m.Penalty.1,m.Penalty.2.1,m.Result.Win,m.Result.Side,m.Result.Margin,m.Innings,())=yf s (m.Rules.Name,m.Rules.Side,m.Rules.Innings,m.Rules.Overs,m.Rules.Balls,m.Rules.Quota,m.Rules.Wide,m.Rules.NoBall,m.Rules.FreeHit,m.Rules.NewBall,m.Rules.FollowOn,m.Rules.Reviews,m.Rules.Outside,m.Rules.Power,m.Stage,m.First,m.Follow,m.Penalty.1,m.Penalty.2.1,m.Result.Win,m.Result.Side,m.Result.Margin,m.Innings,()) (d7 s m.Innings m.Innings.length):=by
  show yf s _ (d7 s m.Innings (r1+1).toNat)=_
  rw [show (r1+1).toNat=m.Innings.length by omega]
 rw [er] at hr2 hr3 ⊢
 refine ⟨⟨rfl,⟨by omega,by omega,hx⟩,hm.1⟩,?_⟩
 clear er e0 hr1
 cases hF:d7 s m.Innings m.Innings.length with
 | none=>
  rw [hF] at hr2 hr3
  have e2:r2=false:=hr2
  have e3:r3 =(s,m.Rules.Name,m.Rules.Side,m.Rules.Innings,m.Rules.Overs,m.Rules.Balls,m.Rules.Quota,m.Rules.Wide,m.Rules.NoBall,m.Rules.FreeHit,m.Rules.NewBall,m.Rules.FollowOn,m.Rules.Reviews,m.Rules.Outside,m.Rules.Power,m.Stage,m.First,m.Follow,m.Penalty.1,m.Penalty.2.1,m.Result.Win,m.Result.Side,m.Result.Margin,m.Innings,()):=hr3
  have ea:ay m s=DG m s:=by unfold ay;rw [hF];rfl
  subst e2 e3
  rw [ea]
  refine ⟨fun h=>Bool.noConfusion h,fun _=>?_⟩
  rcases hk with rfl|rfl
  ·have e5:r5=true:=by rw [hr5,hr4];rfl
   subst e5
   exact ⟨fun _=>⟨by decide,by decide,rfl⟩,fun h=>Bool.noConfusion h⟩
  ·have e5:r5=false:=by rw [hr5,hr4];rfl
   have e6:r6=true:=by rw [hr6,hr4];rfl
   subst e5 e6
   exact ⟨fun h=>Bool.noConfusion h,fun _=>⟨fun _=>⟨by decide,by decide,rfl⟩,fun h=>Bool.noConfusion h⟩⟩
 | some k=>
  rw [hF] at hr2
  have e2:r2=true:=hr2
  have ea:ay m s=Dv m k (wR (m.Innings.getD k Innings.zero)):=by unfold ay;rw [hF];rfl
  subst e2
  rw [ea]
  exact ⟨fun _=>rfl,fun h=>Bool.noConfusion h⟩
def Gi:FuncId×Ctr:=(97,ae KE qPI sY Fn)
theorem Kf:CtrOK Tryz.prog KE 97 (ae KE qPI sY Fn):=by
 refine aq (C:=ao [kq] Tryz.f97) (al (.consU pl rfl .nil) _) mixed (fn:=Tryz.f97) Tryz.func97 (by kernel_rfl) (by kernel_rfl) (by kernel_rfl) (by kernel_rfl) (by kernel_rfl) (by kernel_rfl) (Λ:=fun x=>find [(NM,N8)]) ?_ ?_
 ·rintro ⟨s,v1,v2,v3,v4,v5,v6,v7,v8,v9,v10,v11,v12,v13,v14,v15,v16,v17,v18,v19,v20,v21,v22,xs,⟨⟩⟩ hw hn
  exact LoopsOKp.at (by kernel_rfl) (.cons (by kernel_rfl) (O2) .nil)
 ·rintro ⟨s,v1,v2,v3,v4,v5,v6,v7,v8,v9,v10,v11,v12,v13,v14,v15,v16,v17,v18,v19,v20,v21,v22,xs,⟨⟩⟩ hw hn
  exact Iu (mkM v1 v2 v3 v4 v5 v6 v7 v8 v9 v10 v11 v12 v13 v14 v15 v16 v17 v18 v19 v20 v21 v22 xs) s (hn _ List.mem_cons_self) (hn _ (List.mem_cons_of_mem _ List.mem_cons_self))
theorem rn (m:Match) (hm:aE m) (ho:iz m) :(evPat (ao [nF,gG,xN] Tryz.f47) (fun _=>none) Tryz.f47 qPM sY (m.Rules.Name,m.Rules.Side,m.Rules.Innings,m.Rules.Overs,m.Rules.Balls,m.Rules.Quota,m.Rules.Wide,m.Rules.NoBall,m.Rules.FreeHit,m.Rules.NewBall,m.Rules.FollowOn,m.Rules.Reviews,m.Rules.Outside,m.Rules.Power,m.Stage,m.First,m.Follow,m.Penalty.1,m.Penalty.2.1,m.Result.Win,m.Result.Side,m.Result.Margin,m.Innings,())).sat fun z_=>z_ =(Fp (m.Rules.Name,m.Rules.Side,m.Rules.Innings,m.Rules.Overs,m.Rules.Balls,m.Rules.Quota,m.Rules.Wide,m.Rules.NoBall,m.Rules.FreeHit,m.Rules.NewBall,m.Rules.FollowOn,m.Rules.Reviews,m.Rules.Outside,m.Rules.Power,m.Stage,m.First,m.Follow,m.Penalty.1,m.Penalty.2.1,m.Result.Win,m.Result.Side,m.Result.Margin,m.Innings,())).2:=by
 refine cast (by kernel_rfl) (?_:let r1:Match:=Match.mk m.1 (2:Int) m.3 m.4 m.5 m.6 m.7;let r2:Match:=Match.mk m.1 (5:Int) m.3 m.4 m.5 m.6 m.7;let r3:Int:=IntKind.i64.wrap (fD m m.3 - fD m (bX m.3));let r4:Mir.Result:=bE r2;let r5:Int:=IntKind.i64.wrap ((↑m.5.length:Int) - (1:Int));let r6:Bool:=(↑m.5.length:Int)==IntKind.i64.wrap ((2:Int)*m.1.3);let r7:Innings:=m.5.getD r5.toNat (dflt (Ty.nm Nm.Innings));let r8:Int:=fD r1 r7.1;let r9:Int:=fD r1 (bX r7.1);let r10:Bool:=bif m.2 !=(3:Int) then true else r7.23 ==(0:Int);let r11:Bool:=bif (↑m.5.length:Int) ==(2:Int) then bif decide (m.1.11 >(0:Int)) then decide (r3≥m.1.11) else false else false;let r12:Bool:=bif r6 then r6 else bif (↑m.5.length:Int) ==(3:Int) then decide (r8<r9) else false;(((m.2 !=(3:Int))=true→True)∧((m.2 !=(3:Int))=false→((0:Int)≤r5∧r5 <(↑m.5.length:Int))∧True))∧(true=true→(r10=true→(m.1.1,m.1.2,m.1.3,m.1.4,m.1.5,m.1.6,m.1.7,m.1.8,m.1.9,m.1.10,m.1.11,m.1.12,m.1.13,m.1.14,m.2,m.3,m.4,m.6.1,m.6.2.1,m.7.1,m.7.2,m.7.3,m.5,()) =((aw m).1.1,(aw m).1.2,(aw m).1.3,(aw m).1.4,(aw m).1.5,(aw m).1.6,(aw m).1.7,(aw m).1.8,(aw m).1.9,(aw m).1.10,(aw m).1.11,(aw m).1.12,(aw m).1.13,(aw m).1.14,(aw m).2,(aw m).3,(aw m).4,(aw m).6.1,(aw m).6.2.1,(aw m).7.1,(aw m).7.2,(aw m).7.3,(aw m).5,()))∧(r10=false→((0:Int)≤r5∧r5 <(↑m.5.length:Int))∧(r12=true→c9 r2∧(m.1.1,m.1.2,m.1.3,m.1.4,m.1.5,m.1.6,m.1.7,m.1.8,m.1.9,m.1.10,m.1.11,m.1.12,m.1.13,m.1.14,(5:Int),m.3,m.4,m.6.1,m.6.2.1,r4.1,r4.2,r4.3,m.5,()) =((aw m).1.1,(aw m).1.2,(aw m).1.3,(aw m).1.4,(aw m).1.5,(aw m).1.6,(aw m).1.7,(aw m).1.8,(aw m).1.9,(aw m).1.10,(aw m).1.11,(aw m).1.12,(aw m).1.13,(aw m).1.14,(aw m).2,(aw m).3,(aw m).4,(aw m).6.1,(aw m).6.2.1,(aw m).7.1,(aw m).7.2,(aw m).7.3,(aw m).5,()))∧(r12=false→(r11=true→(m.1.1,m.1.2,m.1.3,m.1.4,m.1.5,m.1.6,m.1.7,m.1.8,m.1.9,m.1.10,m.1.11,m.1.12,m.1.13,m.1.14,(4:Int),m.3,m.4,m.6.1,m.6.2.1,m.7.1,m.7.2,m.7.3,m.5,()) =((aw m).1.1,(aw m).1.2,(aw m).1.3,(aw m).1.4,(aw m).1.5,(aw m).1.6,(aw m).1.7,(aw m).1.8,(aw m).1.9,(aw m).1.10,(aw m).1.11,(aw m).1.12,(aw m).1.13,(aw m).1.14,(aw m).2,(aw m).3,(aw m).4,(aw m).6.1,(aw m).6.2.1,(aw m).7.1,(aw m).7.2,(aw m).7.3,(aw m).5,()))∧(r11=false→(m.1.1,m.1.2,m.1.3,m.1.4,m.1.5,m.1.6,m.1.7,m.1.8,m.1.9,m.1.10,m.1.11,m.1.12,m.1.13,m.1.14,(2:Int),m.3,m.4,m.6.1,m.6.2.1,m.7.1,m.7.2,m.7.3,m.5,()) =((aw m).1.1,(aw m).1.2,(aw m).1.3,(aw m).1.4,(aw m).1.5,(aw m).1.6,(aw m).1.7,(aw m).1.8,(aw m).1.9,(aw m).1.10,(aw m).1.11,(aw m).1.12,(aw m).1.13,(aw m).1.14,(aw m).2,(aw m).3,(aw m).4,(aw m).6.1,(aw m).6.2.1,(aw m).7.1,(aw m).7.2,(aw m).7.3,(aw m).5,()))))))
 intro r1 r2 r3 r4 r5 r6 r7 r8 r9 r10 r11 r12
 clear_value (hr1:r1=_) (hr2:r2=_) (hr3:r3=_) (hr4:r4=_) (hr5:r5=_) (hr6:r6=_) (hr7:r7=_) (hr8:r8=_) (hr9:r9=_) (hr10:r10=_) (hr11:r11=_) (hr12:r12=_)
 have hx:=hm.2.1
 have k7:m.Stage=3→(0≤r5∧r5 <(m.Innings.length:Int))∧r7=bt m:=fun h=>by
  have h0:=ho h
  have e0:r5 =(m.Innings.length:Int) - 1:=by rw [hr5];exact bi (by omega) (by omega)
  refine ⟨⟨by omega,by omega⟩,?_⟩
  rw [hr7,show r5.toNat=m.Innings.length - 1 by omega];rfl
 have e10:r10 =(m.Stage != 3 ||(bt m).Ending==0):=by
  cases h:m.Stage != 3 with
  | true=>rw [hr10,h];rfl
  | false=>rw [hr10,h,(k7 (by simpa using h)).2];rfl
 refine ⟨⟨fun _=>trivial,fun h=>⟨(k7 (by simpa using h)).1,trivial⟩⟩,fun _=>⟨fun a=>?_,fun a=>?_⟩⟩
 ·have:aw m=m:=by unfold aw;rw [←e10,a];rfl
  rw [this]
 ·have h3:m.Stage=3:=by
   rw [e10] at a
   simp only [Bool.or_eq_false_iff] at a
   simpa using a.1
  obtain ⟨hb,e7⟩:=k7 h3
  have e6:r6=mA m:=hr6
  have e12:r12 =(mA m||fT m):=by
   rw [hr12,e6];unfold fT;rw [hr8,hr9,hr1,e7]
   cases mA m <;> cases (m.Innings.length:Int)==3 <;> rfl
  have e11:r11=nr m:=by
   rw [hr11,hr3];unfold nr JT
   cases (m.Innings.length:Int)==2 <;> cases decide (m.Rules.FollowOn>0) <;> rfl
  have hC:aw m=if r12 then FR m else if r11 then lQ m 4 else lQ m 2:=by unfold aw;rw [←e10,a,←e12,←e11];rfl
  rw [hC]
  refine ⟨hb,fun b=>⟨by rw [hr2];exact hm.1,?_⟩,fun b=>⟨fun c=>?_,fun c=>?_⟩⟩
  ·rw [b,hr4,hr2];rfl
  ·rw [b,c];rfl
  ·rw [b,c];rfl
def mH:FuncId×Ctr:=(47,ae KE qPM sY Fp)
theorem sQ:CtrOK Tryz.prog KE 47 (ae KE qPM sY Fp):=by
 refine aq (C:=ao [nF,gG,xN] Tryz.f47) (al (.consU vf rfl (.consU mQ rfl (.consU Ev rfl .nil))) _) mixed (fn:=Tryz.f47) Tryz.func47 (by kernel_rfl) (by kernel_rfl) (by kernel_rfl) (by kernel_rfl) (by kernel_rfl) (by kernel_rfl) (Λ:=fun _ _=>none) ?_ ?_
 ·exact fun _ _ _ _ _ _ _ _ h=>by cases h
 ·rintro ⟨v1,v2,v3,v4,v5,v6,v7,v8,v9,v10,v11,v12,v13,v14,v15,v16,v17,v18,v19,v20,v21,v22,xs,⟨⟩⟩ hw hn
  exact rn (mkM v1 v2 v3 v4 v5 v6 v7 v8 v9 v10 v11 v12 v13 v14 v15 v16 v17 v18 v19 v20 v21 v22 xs) (hn _ List.mem_cons_self) (hn _ (List.mem_cons_of_mem _ List.mem_cons_self))
end Go.Proofs.YtkgplaoappjkcaaGreat
namespace Go.Proofs.YtkgplaoappjkcaaGreat
open Go Go.Mir
attribute [local irreducible] Go.Mir.DT.sat Go.Mir.evPat Go.Mir.RT.sat Go.Mir.evFn
abbrev R5:List (Nat×PB):= [(0,.cells (oR (.c (.osl 1 3)))),(1,.row 3 (.nm .Innings))]
abbrev qPE:Pat:=⟨[(0,.c (.ptr 0 0)),(1,.h (.nm .Event))],BH,3⟩
abbrev qPL:Pat:=⟨[(0,.h I)],BH,3⟩
abbrev CL:Pat:=⟨[(0,.h I)],R5,4⟩
def Fv:Den (tyP qPE)→List Prop×Den (tyP CL):=fun x=>([aE (mkX x.2),aO (mkX x.2)=true],(aN (mkX x.2) x.1,(aa (mkX x.2) x.1).Rules.Name,(aa (mkX x.2) x.1).Rules.Side,(aa (mkX x.2) x.1).Rules.Innings,(aa (mkX x.2) x.1).Rules.Overs,(aa (mkX x.2) x.1).Rules.Balls,(aa (mkX x.2) x.1).Rules.Quota,(aa (mkX x.2) x.1).Rules.Wide,(aa (mkX x.2) x.1).Rules.NoBall,(aa (mkX x.2) x.1).Rules.FreeHit,(aa (mkX x.2) x.1).Rules.NewBall,(aa (mkX x.2) x.1).Rules.FollowOn,(aa (mkX x.2) x.1).Rules.Reviews,(aa (mkX x.2) x.1).Rules.Outside,(aa (mkX x.2) x.1).Rules.Power,(aa (mkX x.2) x.1).Stage,(aa (mkX x.2) x.1).First,(aa (mkX x.2) x.1).Follow,(aa (mkX x.2) x.1).Penalty.1,(aa (mkX x.2) x.1).Penalty.2.1,(aa (mkX x.2) x.1).Result.Win,(aa (mkX x.2) x.1).Result.Side,(aa (mkX x.2) x.1).Result.Margin,(aa (mkX x.2) x.1).Innings,()))
def Fy:Den (tyP qPE)→List Prop×Den (tyP qPL):=fun x=>([aE (mkX x.2),aO (mkX x.2)=true,bk x.1=0],(cb (mkX x.2) x.1,(ag (mkX x.2) x.1).Rules.Name,(ag (mkX x.2) x.1).Rules.Side,(ag (mkX x.2) x.1).Rules.Innings,(ag (mkX x.2) x.1).Rules.Overs,(ag (mkX x.2) x.1).Rules.Balls,(ag (mkX x.2) x.1).Rules.Quota,(ag (mkX x.2) x.1).Rules.Wide,(ag (mkX x.2) x.1).Rules.NoBall,(ag (mkX x.2) x.1).Rules.FreeHit,(ag (mkX x.2) x.1).Rules.NewBall,(ag (mkX x.2) x.1).Rules.FollowOn,(ag (mkX x.2) x.1).Rules.Reviews,(ag (mkX x.2) x.1).Rules.Outside,(ag (mkX x.2) x.1).Rules.Power,(ag (mkX x.2) x.1).Stage,(ag (mkX x.2) x.1).First,(ag (mkX x.2) x.1).Follow,(ag (mkX x.2) x.1).Penalty.1,(ag (mkX x.2) x.1).Penalty.2.1,(ag (mkX x.2) x.1).Result.Win,(ag (mkX x.2) x.1).Result.Side,(ag (mkX x.2) x.1).Result.Margin,(ag (mkX x.2) x.1).Innings,()))
def Fx:Den (tyP qPE)→List Prop×Den (tyP CL):=fun x=>([aE (mkX x.2),aO (mkX x.2)=true,bk x.1=0],(aM (mkX x.2) x.1,(ab (mkX x.2) x.1).Rules.Name,(ab (mkX x.2) x.1).Rules.Side,(ab (mkX x.2) x.1).Rules.Innings,(ab (mkX x.2) x.1).Rules.Overs,(ab (mkX x.2) x.1).Rules.Balls,(ab (mkX x.2) x.1).Rules.Quota,(ab (mkX x.2) x.1).Rules.Wide,(ab (mkX x.2) x.1).Rules.NoBall,(ab (mkX x.2) x.1).Rules.FreeHit,(ab (mkX x.2) x.1).Rules.NewBall,(ab (mkX x.2) x.1).Rules.FollowOn,(ab (mkX x.2) x.1).Rules.Reviews,(ab (mkX x.2) x.1).Rules.Outside,(ab (mkX x.2) x.1).Rules.Power,(ab (mkX x.2) x.1).Stage,(ab (mkX x.2) x.1).First,(ab (mkX x.2) x.1).Follow,(ab (mkX x.2) x.1).Penalty.1,(ab (mkX x.2) x.1).Penalty.2.1,(ab (mkX x.2) x.1).Result.Win,(ab (mkX x.2) x.1).Result.Side,(ab (mkX x.2) x.1).Result.Margin,(ab (mkX x.2) x.1).Innings,()))
theorem Bw {e:Mir.Event} (h:bk e=0) (hu:oI e.Kind=true):gg e.Side:=by
 cases hs:inW e.Side 1 2 with
 | true=>simp only [inW,Bool.and_eq_true,decide_eq_true_eq] at hs;unfold gg;omega
 | false=>
  unfold bk at h
  simp only [hu,hs] at h
  exfalso
  revert h
  repeat' split
  all_goals first |(intro h;exact absurd h (by decide))|simp_all
theorem Cv {m:Match} {e:Mir.Event} (h :(aN m e != 0)=true):aa m e=m:=by simp only [aa,h,if_true]
theorem CC {m:Match} {e:Mir.Event} (h :(cb m e != 0)=true):ag m e=m:=by simp only [ag,h,if_true]
theorem K3 (m:Match) (e:Mir.Event) (hm:aE m) (hv:aO m=true) :(evPat (ao [zw,BS,Gd,zt] Tryz.f67) (fun _=>none) Tryz.f67 qPE CL (e,m.Rules.Name,m.Rules.Side,m.Rules.Innings,m.Rules.Overs,m.Rules.Balls,m.Rules.Quota,m.Rules.Wide,m.Rules.NoBall,m.Rules.FreeHit,m.Rules.NewBall,m.Rules.FollowOn,m.Rules.Reviews,m.Rules.Outside,m.Rules.Power,m.Stage,m.First,m.Follow,m.Penalty.1,m.Penalty.2.1,m.Result.Win,m.Result.Side,m.Result.Margin,m.Innings,())).sat fun z_=>z_ =(Fv (e,m.Rules.Name,m.Rules.Side,m.Rules.Innings,m.Rules.Overs,m.Rules.Balls,m.Rules.Quota,m.Rules.Wide,m.Rules.NoBall,m.Rules.FreeHit,m.Rules.NewBall,m.Rules.FollowOn,m.Rules.Reviews,m.Rules.Outside,m.Rules.Power,m.Stage,m.First,m.Follow,m.Penalty.1,m.Penalty.2.1,m.Result.Win,m.Result.Side,m.Result.Margin,m.Innings,())).2:=by
 refine cast (by kernel_rfl) (?_:let r1:Int:=IntKind.i64.wrap (cC m (↑m.5.length:Int) - (1:Int));let r2:Innings:=gM m.1 (cC m (↑m.5.length:Int)) (fv m (cC m (↑m.5.length:Int))) m.6.1;let r3:Innings:=gM m.1 (cC m (↑m.5.length:Int)) (fv m (cC m (↑m.5.length:Int))) m.6.2.1;let r4:Int:=bZ m.1 r2 e;let r5:Bool:=r1 ==(0:Int);let r6:Bool:=r1 ==(1:Int);let r7:Int:=bZ m.1 r3 e;let r8:Bool:=gn m.1 (cC m (↑m.5.length:Int)) (fv m (cC m (↑m.5.length:Int))) m.6.1 !=(0:Int);let r9:Bool:=gn m.1 (cC m (↑m.5.length:Int)) (fv m (cC m (↑m.5.length:Int))) m.6.2.1 !=(0:Int);let r10:List Innings:= [cK m.1 r2 e];let r11:List Innings:= [cK m.1 r3 e];let r12:Bool:=r4 !=(0:Int);let r13:Bool:=r7 !=(0:Int);((m.2 !=(2:Int))=true→((1:Int),m.1.1,m.1.2,m.1.3,m.1.4,m.1.5,m.1.6,m.1.7,m.1.8,m.1.9,m.1.10,m.1.11,m.1.12,m.1.13,m.1.14,m.2,m.3,m.4,m.6.1,m.6.2.1,m.7.1,m.7.2,m.7.3,m.5,()) =(aN m e,(aa m e).1.1,(aa m e).1.2,(aa m e).1.3,(aa m e).1.4,(aa m e).1.5,(aa m e).1.6,(aa m e).1.7,(aa m e).1.8,(aa m e).1.9,(aa m e).1.10,(aa m e).1.11,(aa m e).1.12,(aa m e).1.13,(aa m e).1.14,(aa m e).2,(aa m e).3,(aa m e).4,(aa m e).6.1,(aa m e).6.2.1,(aa m e).7.1,(aa m e).7.2,(aa m e).7.3,(aa m e).5,()))∧((m.2 !=(2:Int))=false→(r5=true→((0:Int)≤(0:Int)∧(0:Int) <(↑(2:Nat):Int))∧(r8=true→((1:Int),m.1.1,m.1.2,m.1.3,m.1.4,m.1.5,m.1.6,m.1.7,m.1.8,m.1.9,m.1.10,m.1.11,m.1.12,m.1.13,m.1.14,m.2,m.3,m.4,m.6.1,m.6.2.1,m.7.1,m.7.2,m.7.3,m.5,()) =(aN m e,(aa m e).1.1,(aa m e).1.2,(aa m e).1.3,(aa m e).1.4,(aa m e).1.5,(aa m e).1.6,(aa m e).1.7,(aa m e).1.8,(aa m e).1.9,(aa m e).1.10,(aa m e).1.11,(aa m e).1.12,(aa m e).1.13,(aa m e).1.14,(aa m e).2,(aa m e).3,(aa m e).4,(aa m e).6.1,(aa m e).6.2.1,(aa m e).7.1,(aa m e).7.2,(aa m e).7.3,(aa m e).5,()))∧(r8=false→aj r2∧(r12=true→(r4,m.1.1,m.1.2,m.1.3,m.1.4,m.1.5,m.1.6,m.1.7,m.1.8,m.1.9,m.1.10,m.1.11,m.1.12,m.1.13,m.1.14,m.2,m.3,m.4,m.6.1,m.6.2.1,m.7.1,m.7.2,m.7.3,m.5,()) =(aN m e,(aa m e).1.1,(aa m e).1.2,(aa m e).1.3,(aa m e).1.4,(aa m e).1.5,(aa m e).1.6,(aa m e).1.7,(aa m e).1.8,(aa m e).1.9,(aa m e).1.10,(aa m e).1.11,(aa m e).1.12,(aa m e).1.13,(aa m e).1.14,(aa m e).2,(aa m e).3,(aa m e).4,(aa m e).6.1,(aa m e).6.2.1,(aa m e).7.1,(aa m e).7.2,(aa m e).7.3,(aa m e).5,()))∧(r12=false→(r5=true→((0:Int)≤(0:Int)∧(0:Int) <(↑(2:Nat):Int))∧(m.5.length+r10.length) *(304:Nat)≤(70368744177664:Nat)∧((0:Int),m.1.1,m.1.2,m.1.3,m.1.4,m.1.5,m.1.6,m.1.7,m.1.8,m.1.9,m.1.10,m.1.11,m.1.12,m.1.13,m.1.14,(3:Int),m.3,m.4,(0:Int),m.6.2.1,m.7.1,m.7.2,m.7.3,m.5++r10,()) =(aN m e,(aa m e).1.1,(aa m e).1.2,(aa m e).1.3,(aa m e).1.4,(aa m e).1.5,(aa m e).1.6,(aa m e).1.7,(aa m e).1.8,(aa m e).1.9,(aa m e).1.10,(aa m e).1.11,(aa m e).1.12,(aa m e).1.13,(aa m e).1.14,(aa m e).2,(aa m e).3,(aa m e).4,(aa m e).6.1,(aa m e).6.2.1,(aa m e).7.1,(aa m e).7.2,(aa m e).7.3,(aa m e).5,()))∧(r5=false→(r6=true→((0:Int)≤(1:Int)∧(1:Int) <(↑(2:Nat):Int))∧(m.5.length+r10.length) *(304:Nat)≤(70368744177664:Nat)∧((0:Int),m.1.1,m.1.2,m.1.3,m.1.4,m.1.5,m.1.6,m.1.7,m.1.8,m.1.9,m.1.10,m.1.11,m.1.12,m.1.13,m.1.14,(3:Int),m.3,m.4,m.6.1,(0:Int),m.7.1,m.7.2,m.7.3,m.5++r10,()) =(aN m e,(aa m e).1.1,(aa m e).1.2,(aa m e).1.3,(aa m e).1.4,(aa m e).1.5,(aa m e).1.6,(aa m e).1.7,(aa m e).1.8,(aa m e).1.9,(aa m e).1.10,(aa m e).1.11,(aa m e).1.12,(aa m e).1.13,(aa m e).1.14,(aa m e).2,(aa m e).3,(aa m e).4,(aa m e).6.1,(aa m e).6.2.1,(aa m e).7.1,(aa m e).7.2,(aa m e).7.3,(aa m e).5,()))∧(r6=false→False∧True)))))∧(r5=false→(r6=true→((0:Int)≤(1:Int)∧(1:Int) <(↑(2:Nat):Int))∧(r9=true→((1:Int),m.1.1,m.1.2,m.1.3,m.1.4,m.1.5,m.1.6,m.1.7,m.1.8,m.1.9,m.1.10,m.1.11,m.1.12,m.1.13,m.1.14,m.2,m.3,m.4,m.6.1,m.6.2.1,m.7.1,m.7.2,m.7.3,m.5,()) =(aN m e,(aa m e).1.1,(aa m e).1.2,(aa m e).1.3,(aa m e).1.4,(aa m e).1.5,(aa m e).1.6,(aa m e).1.7,(aa m e).1.8,(aa m e).1.9,(aa m e).1.10,(aa m e).1.11,(aa m e).1.12,(aa m e).1.13,(aa m e).1.14,(aa m e).2,(aa m e).3,(aa m e).4,(aa m e).6.1,(aa m e).6.2.1,(aa m e).7.1,(aa m e).7.2,(aa m e).7.3,(aa m e).5,()))∧(r9=false→aj r3∧(r13=true→(r7,m.1.1,m.1.2,m.1.3,m.1.4,m.1.5,m.1.6,m.1.7,m.1.8,m.1.9,m.1.10,m.1.11,m.1.12,m.1.13,m.1.14,m.2,m.3,m.4,m.6.1,m.6.2.1,m.7.1,m.7.2,m.7.3,m.5,()) =(aN m e,(aa m e).1.1,(aa m e).1.2,(aa m e).1.3,(aa m e).1.4,(aa m e).1.5,(aa m e).1.6,(aa m e).1.7,(aa m e).1.8,(aa m e).1.9,(aa m e).1.10,(aa m e).1.11,(aa m e).1.12,(aa m e).1.13,(aa m e).1.14,(aa m e).2,(aa m e).3,(aa m e).4,(aa m e).6.1,(aa m e).6.2.1,(aa m e).7.1,(aa m e).7.2,(aa m e).7.3,(aa m e).5,()))∧(r13=false→(r5=true→((0:Int)≤(0:Int)∧(0:Int) <(↑(2:Nat):Int))∧(m.5.length+r11.length) *(304:Nat)≤(70368744177664:Nat)∧((0:Int),m.1.1,m.1.2,m.1.3,m.1.4,m.1.5,m.1.6,m.1.7,m.1.8,m.1.9,m.1.10,m.1.11,m.1.12,m.1.13,m.1.14,(3:Int),m.3,m.4,(0:Int),m.6.2.1,m.7.1,m.7.2,m.7.3,m.5++r11,()) =(aN m e,(aa m e).1.1,(aa m e).1.2,(aa m e).1.3,(aa m e).1.4,(aa m e).1.5,(aa m e).1.6,(aa m e).1.7,(aa m e).1.8,(aa m e).1.9,(aa m e).1.10,(aa m e).1.11,(aa m e).1.12,(aa m e).1.13,(aa m e).1.14,(aa m e).2,(aa m e).3,(aa m e).4,(aa m e).6.1,(aa m e).6.2.1,(aa m e).7.1,(aa m e).7.2,(aa m e).7.3,(aa m e).5,()))∧(r5=false→(r6=true→((0:Int)≤(1:Int)∧(1:Int) <(↑(2:Nat):Int))∧(m.5.length+r11.length) *(304:Nat)≤(70368744177664:Nat)∧((0:Int),m.1.1,m.1.2,m.1.3,m.1.4,m.1.5,m.1.6,m.1.7,m.1.8,m.1.9,m.1.10,m.1.11,m.1.12,m.1.13,m.1.14,(3:Int),m.3,m.4,m.6.1,(0:Int),m.7.1,m.7.2,m.7.3,m.5++r11,()) =(aN m e,(aa m e).1.1,(aa m e).1.2,(aa m e).1.3,(aa m e).1.4,(aa m e).1.5,(aa m e).1.6,(aa m e).1.7,(aa m e).1.8,(aa m e).1.9,(aa m e).1.10,(aa m e).1.11,(aa m e).1.12,(aa m e).1.13,(aa m e).1.14,(aa m e).2,(aa m e).3,(aa m e).4,(aa m e).6.1,(aa m e).6.2.1,(aa m e).7.1,(aa m e).7.2,(aa m e).7.3,(aa m e).5,()))∧(r6=false→False∧True)))))∧(r6=false→False∧True))))
 intro r1 r2 r3 r4 r5 r6 r7 r8 r9 r10 r11 r12 r13
 clear_value (hr1:r1=_) (hr2:r2=_) (hr3:r3=_) (hr4:r4=_) (hr5:r5=_) (hr6:r6=_) (hr7:r7=_) (hr8:r8=_) (hr9:r9=_) (hr10:r10=_) (hr11:r11=_) (hr12:r12=_) (hr13:r13=_)
 have hx:=hm.2.1
 refine ⟨fun h=>?_,fun h=>?_⟩
 ·have hL:aN m e=1:=by unfold aN;rw [h];rfl
  have hY:aa m e=m:=by unfold aa;rw [hL];rfl
  rw [hL,hY]
 ·have h2:m.Stage=2:=by simpa using h
  rcases Bk hv h2 with hS|hS
  ·have hS:cC m (m.Innings.length:Int)=1:=hS
   have e5:r5=true:=by rw [hr5,hr1,hS];rfl
   have hX:r2=sG m:=by rw [hr2];unfold sG oE cj;rw [hS];rfl
   have e8:r8 =(kU m != 0):=by rw [hr8];unfold kU oE cj;rw [hS];rfl
   have hI:aj r2:=by rw [hr2];exact i3 _ _ _ _
   have hA :(m.Innings.length+r10.length)*304≤70368744177664:=by rw [hr10];simp only [List.length_singleton];omega
   have hq :(0≤(0:Int)∧(0:Int) <((2:Nat):Int)):=by decide
   have c1:r8=true→aN m e=1∧aa m e=m:=fun a=>by
    have hL:aN m e=1:=by unfold aN;rw [h,←e8,a];rfl
    exact ⟨hL,by unfold aa;rw [hL];rfl⟩
   have c2:r8=false→r12=true→aN m e=r4∧aa m e=m:=fun a b=>by
    have hL:aN m e=r4:=by unfold aN;rw [h,←e8,a,hr4,hX];rfl
    exact ⟨hL,by unfold aa;rw [hL,←hr12,b];rfl⟩
   have c3:r8=false→r12=false→aN m e=0∧aa m e=lB m e:=fun a b=>by
    have hL:aN m e=r4:=by unfold aN;rw [h,←e8,a,hr4,hX];rfl
    have hL0:aN m e=0:=by rw [hL];rw [hr12] at b;simpa using b
    exact ⟨hL0,by unfold aa;rw [hL0];rfl⟩
   subst e5
   refine ⟨fun _=>⟨hq,fun a=>?_,fun a=>⟨hI,fun b=>?_,fun b=>⟨fun _=>⟨hq,hA,?_⟩,fun z=>Bool.noConfusion z⟩⟩⟩,fun z=>Bool.noConfusion z⟩
   ·rw [(c1 a).1,(c1 a).2]
   ·rw [(c2 a b).1,(c2 a b).2]
   ·rw [(c3 a b).1,(c3 a b).2];unfold lB qy cj;rw [hS,hr10,hX];rfl
  ·have hS:cC m (m.Innings.length:Int)=2:=hS
   have e5:r5=false:=by rw [hr5,hr1,hS];rfl
   have e6:r6=true:=by rw [hr6,hr1,hS];rfl
   have hX:r3=sG m:=by rw [hr3];unfold sG oE cj;rw [hS];rfl
   have e8:r9 =(kU m != 0):=by rw [hr9];unfold kU oE cj;rw [hS];rfl
   have hI:aj r3:=by rw [hr3];exact i3 _ _ _ _
   have hA :(m.Innings.length+r11.length)*304≤70368744177664:=by rw [hr11];simp only [List.length_singleton];omega
   have hq :(0≤(1:Int)∧(1:Int) <((2:Nat):Int)):=by decide
   have c1:r9=true→aN m e=1∧aa m e=m:=fun a=>by
    have hL:aN m e=1:=by unfold aN;rw [h,←e8,a];rfl
    exact ⟨hL,by unfold aa;rw [hL];rfl⟩
   have c2:r9=false→r13=true→aN m e=r7∧aa m e=m:=fun a b=>by
    have hL:aN m e=r7:=by unfold aN;rw [h,←e8,a,hr7,hX];rfl
    exact ⟨hL,by unfold aa;rw [hL,←hr13,b];rfl⟩
   have c3:r9=false→r13=false→aN m e=0∧aa m e=lB m e:=fun a b=>by
    have hL:aN m e=r7:=by unfold aN;rw [h,←e8,a,hr7,hX];rfl
    have hL0:aN m e=0:=by rw [hL];rw [hr13] at b;simpa using b
    exact ⟨hL0,by unfold aa;rw [hL0];rfl⟩
   subst e5 e6
   refine ⟨fun z=>Bool.noConfusion z,fun _=>⟨fun _=>⟨hq,fun a=>?_,fun a=>⟨hI,fun b=>?_,fun b=>⟨fun z=>Bool.noConfusion z,fun _=>⟨fun _=>⟨hq,hA,?_⟩,fun z=>Bool.noConfusion z⟩⟩⟩⟩,fun z=>Bool.noConfusion z⟩⟩
   ·rw [(c1 a).1,(c1 a).2]
   ·rw [(c2 a b).1,(c2 a b).2]
   ·rw [(c3 a b).1,(c3 a b).2];unfold lB qy cj;rw [hS,hr11,hX];rfl
def JO:FuncId×Ctr:=(67,ae KE qPE CL Fv)
theorem MC:CtrOK Tryz.prog KE 67 (ae KE qPE CL Fv):=by
 refine aq (C:=ao [zw,BS,Gd,zt] Tryz.f67) (al (.consU Cj rfl (.consU HS rfl (.consU Ka rfl (.consU GH rfl .nil)))) _) mixed (fn:=Tryz.f67) Tryz.func67 (by kernel_rfl) (by kernel_rfl) (by kernel_rfl) (by kernel_rfl) (by kernel_rfl) (by kernel_rfl) (Λ:=fun _ _=>none) ?_ ?_
 ·exact fun _ _ _ _ _ _ _ _ h=>by cases h
 ·rintro ⟨e,v1,v2,v3,v4,v5,v6,v7,v8,v9,v10,v11,v12,v13,v14,v15,v16,v17,v18,v19,v20,v21,v22,xs,⟨⟩⟩ hw hn
  exact K3 (mkM v1 v2 v3 v4 v5 v6 v7 v8 v9 v10 v11 v12 v13 v14 v15 v16 v17 v18 v19 v20 v21 v22 xs) e (hn _ List.mem_cons_self) (hn _ (List.mem_cons_of_mem _ List.mem_cons_self))
theorem K4 (m:Match) (e:Mir.Event) (hm:aE m) (hv:aO m=true) (he:bk e=0) :(evPat (ao [zt,Gi] Tryz.f69) (fun _=>none) Tryz.f69 qPE qPL (e,m.Rules.Name,m.Rules.Side,m.Rules.Innings,m.Rules.Overs,m.Rules.Balls,m.Rules.Quota,m.Rules.Wide,m.Rules.NoBall,m.Rules.FreeHit,m.Rules.NewBall,m.Rules.FollowOn,m.Rules.Reviews,m.Rules.Outside,m.Rules.Power,m.Stage,m.First,m.Follow,m.Penalty.1,m.Penalty.2.1,m.Result.Win,m.Result.Side,m.Result.Margin,m.Innings,())).sat fun z_=>z_ =(Fy (e,m.Rules.Name,m.Rules.Side,m.Rules.Innings,m.Rules.Overs,m.Rules.Balls,m.Rules.Quota,m.Rules.Wide,m.Rules.NoBall,m.Rules.FreeHit,m.Rules.NewBall,m.Rules.FollowOn,m.Rules.Reviews,m.Rules.Outside,m.Rules.Power,m.Stage,m.First,m.Follow,m.Penalty.1,m.Penalty.2.1,m.Result.Win,m.Result.Side,m.Result.Margin,m.Innings,())).2:=by
 refine cast (by kernel_rfl) (?_:let r1:Int:=IntKind.i64.wrap ((↑m.5.length:Int) - (1:Int));let r2:Innings:=m.5.getD r1.toNat (dflt (Ty.nm Nm.Innings));let r3:Int:=bZ m.1 r2 e;let r4:Innings:=cK m.1 r2 e;let r5:Bool:=r3 !=(0:Int);let r6:Bool:=bif e.1 ==(13:Int) then e.2 != r4.1 else false;let r7:List Innings:=m.5.set r1.toNat r4;let r8:Match:=Match.mk m.1 m.2 m.3 m.4 r7 m.6 m.7;let r9:Match:=ay r8 e.2;((m.2 !=(3:Int))=true→((1:Int),m.1.1,m.1.2,m.1.3,m.1.4,m.1.5,m.1.6,m.1.7,m.1.8,m.1.9,m.1.10,m.1.11,m.1.12,m.1.13,m.1.14,m.2,m.3,m.4,m.6.1,m.6.2.1,m.7.1,m.7.2,m.7.3,m.5,()) =(cb m e,(ag m e).1.1,(ag m e).1.2,(ag m e).1.3,(ag m e).1.4,(ag m e).1.5,(ag m e).1.6,(ag m e).1.7,(ag m e).1.8,(ag m e).1.9,(ag m e).1.10,(ag m e).1.11,(ag m e).1.12,(ag m e).1.13,(ag m e).1.14,(ag m e).2,(ag m e).3,(ag m e).4,(ag m e).6.1,(ag m e).6.2.1,(ag m e).7.1,(ag m e).7.2,(ag m e).7.3,(ag m e).5,()))∧((m.2 !=(3:Int))=false→((0:Int)≤r1∧r1 <(↑m.5.length:Int))∧aj r2∧(r5=true→(r3,m.1.1,m.1.2,m.1.3,m.1.4,m.1.5,m.1.6,m.1.7,m.1.8,m.1.9,m.1.10,m.1.11,m.1.12,m.1.13,m.1.14,m.2,m.3,m.4,m.6.1,m.6.2.1,m.7.1,m.7.2,m.7.3,m.5,()) =(cb m e,(ag m e).1.1,(ag m e).1.2,(ag m e).1.3,(ag m e).1.4,(ag m e).1.5,(ag m e).1.6,(ag m e).1.7,(ag m e).1.8,(ag m e).1.9,(ag m e).1.10,(ag m e).1.11,(ag m e).1.12,(ag m e).1.13,(ag m e).1.14,(ag m e).2,(ag m e).3,(ag m e).4,(ag m e).6.1,(ag m e).6.2.1,(ag m e).7.1,(ag m e).7.2,(ag m e).7.3,(ag m e).5,()))∧(r5=false→((0:Int)≤r1∧r1 <(↑m.5.length:Int))∧((r6=true→aE r8∧gg e.2∧True)∧(r6=false→True))∧(true=true→((0:Int),bif r6 then r9.1.1 else m.1.1,bif r6 then r9.1.2 else m.1.2,bif r6 then r9.1.3 else m.1.3,bif r6 then r9.1.4 else m.1.4,bif r6 then r9.1.5 else m.1.5,bif r6 then r9.1.6 else m.1.6,bif r6 then r9.1.7 else m.1.7,bif r6 then r9.1.8 else m.1.8,bif r6 then r9.1.9 else m.1.9,bif r6 then r9.1.10 else m.1.10,bif r6 then r9.1.11 else m.1.11,bif r6 then r9.1.12 else m.1.12,bif r6 then r9.1.13 else m.1.13,bif r6 then r9.1.14 else m.1.14,bif r6 then r9.2 else m.2,bif r6 then r9.3 else m.3,bif r6 then r9.4 else m.4,bif r6 then r9.6.1 else m.6.1,bif r6 then r9.6.2.1 else m.6.2.1,bif r6 then r9.7.1 else m.7.1,bif r6 then r9.7.2 else m.7.2,bif r6 then r9.7.3 else m.7.3,bif r6 then r9.5 else r7,()) =(cb m e,(ag m e).1.1,(ag m e).1.2,(ag m e).1.3,(ag m e).1.4,(ag m e).1.5,(ag m e).1.6,(ag m e).1.7,(ag m e).1.8,(ag m e).1.9,(ag m e).1.10,(ag m e).1.11,(ag m e).1.12,(ag m e).1.13,(ag m e).1.14,(ag m e).2,(ag m e).3,(ag m e).4,(ag m e).6.1,(ag m e).6.2.1,(ag m e).7.1,(ag m e).7.2,(ag m e).7.3,(ag m e).5,())))))
 intro r1 r2 r3 r4 r5 r6 r7 r8 r9
 clear_value (hr1:r1=_) (hr2:r2=_) (hr3:r3=_) (hr4:r4=_) (hr5:r5=_) (hr6:r6=_) (hr7:r7=_) (hr8:r8=_) (hr9:r9=_)
 have hx:=hm.2.1
 refine ⟨fun h=>?_,fun h=>?_⟩
 ·have hL:cb m e=1:=by unfold cb;rw [h];rfl
  have hY:ag m e=m:=by unfold ag;rw [hL];rfl
  rw [hL,hY]
 ·have h3:m.Stage=3:=by simpa using h
  have h0:=dL hv h3
  have e0:r1 =(m.Innings.length:Int) - 1:=by rw [hr1];exact bi (by omega) (by omega)
  have e1:r1.toNat=m.Innings.length - 1:=by omega
  have e2:r2=bt m:=by rw [hr2,e1];rfl
  have hL:cb m e=r3:=by unfold cb;rw [h,hr3,e2];rfl
  have e8:r8=rl m e:=by rw [hr8,hr7,hr4,e1,e2];rfl
  have e6:r6=qK m e:=by rw [hr6,hr4,e2];unfold qK;cases e.Kind==13 <;> rfl
  have hb:0≤r1∧r1 <(m.Innings.length:Int):=⟨by omega,by omega⟩
  refine ⟨hb,by rw [e2];exact go hm.1,fun a=>?_,fun a=>⟨hb,⟨fun b=>⟨?_,?_,trivial⟩,fun _=>trivial⟩,fun _=>?_⟩⟩
  ·have hY:ag m e=m:=by unfold ag;rw [hL,←hr5,a];rfl
   rw [hL,hY]
  ·rw [e8]
   refine ⟨rE hm.1 _ (jX _ (go hm.1)),?_,hm.2.2⟩
   show (m.Innings.set _ _).length≤_
   rw [List.length_set];exact hx
  ·refine Bw he ?_
   rw [hr6] at b
   cases hk:e.Kind==13 with
   | false=>rw [hk] at b;cases b
   | true=>rw [eq_of_beq hk];rfl
  ·have hL0:cb m e=0:=by rw [hL];rw [hr5] at a;simpa using a
   have hY:ag m e=if r6 then ay r8 e.Side else r8:=by unfold ag;rw [hL0,e6,e8];rfl
   rw [hL0,hY,hr9]
   cases r6 with
   | true=>rfl
   | false=>rw [hr8];rfl
def JP:FuncId×Ctr:=(69,ae KE qPE qPL Fy)
theorem MD:CtrOK Tryz.prog KE 69 (ae KE qPE qPL Fy):=by
 refine aq (C:=ao [zt,Gi] Tryz.f69) (al (.consU GH rfl (.consU Kf rfl .nil)) _) mixed (fn:=Tryz.f69) Tryz.func69 (by kernel_rfl) (by kernel_rfl) (by kernel_rfl) (by kernel_rfl) (by kernel_rfl) (by kernel_rfl) (Λ:=fun _ _=>none) ?_ ?_
 ·exact fun _ _ _ _ _ _ _ _ h=>by cases h
 ·rintro ⟨e,v1,v2,v3,v4,v5,v6,v7,v8,v9,v10,v11,v12,v13,v14,v15,v16,v17,v18,v19,v20,v21,v22,xs,⟨⟩⟩ hw hn
  exact K4 (mkM v1 v2 v3 v4 v5 v6 v7 v8 v9 v10 v11 v12 v13 v14 v15 v16 v17 v18 v19 v20 v21 v22 xs) e (hn _ List.mem_cons_self) (hn _ (List.mem_cons_of_mem _ List.mem_cons_self)) (hn _ (List.mem_cons_of_mem _ (List.mem_cons_of_mem _ List.mem_cons_self)))
theorem Da (m:Match) (e:Mir.Event) (hm:aE m) (hv:aO m=true) (he:bk e=0) :(evPat (ao [gG,JO,JQ,JP] Tryz.f46) (fun _=>none) Tryz.f46 qPE CL (e,m.Rules.Name,m.Rules.Side,m.Rules.Innings,m.Rules.Overs,m.Rules.Balls,m.Rules.Quota,m.Rules.Wide,m.Rules.NoBall,m.Rules.FreeHit,m.Rules.NewBall,m.Rules.FollowOn,m.Rules.Reviews,m.Rules.Outside,m.Rules.Power,m.Stage,m.First,m.Follow,m.Penalty.1,m.Penalty.2.1,m.Result.Win,m.Result.Side,m.Result.Margin,m.Innings,())).sat fun z_=>z_ =(Fx (e,m.Rules.Name,m.Rules.Side,m.Rules.Innings,m.Rules.Overs,m.Rules.Balls,m.Rules.Quota,m.Rules.Wide,m.Rules.NoBall,m.Rules.FreeHit,m.Rules.NewBall,m.Rules.FollowOn,m.Rules.Reviews,m.Rules.Outside,m.Rules.Power,m.Stage,m.First,m.Follow,m.Penalty.1,m.Penalty.2.1,m.Result.Win,m.Result.Side,m.Result.Margin,m.Innings,())).2:=by
 refine cast (by kernel_rfl) (?_ :(((e.1 ==(1:Int))=true→((m.2 !=(1:Int))=true→((1:Int),m.1.1,m.1.2,m.1.3,m.1.4,m.1.5,m.1.6,m.1.7,m.1.8,m.1.9,m.1.10,m.1.11,m.1.12,m.1.13,m.1.14,m.2,m.3,m.4,m.6.1,m.6.2.1,m.7.1,m.7.2,m.7.3,m.5,()) =(aM m e,(ab m e).1.1,(ab m e).1.2,(ab m e).1.3,(ab m e).1.4,(ab m e).1.5,(ab m e).1.6,(ab m e).1.7,(ab m e).1.8,(ab m e).1.9,(ab m e).1.10,(ab m e).1.11,(ab m e).1.12,(ab m e).1.13,(ab m e).1.14,(ab m e).2,(ab m e).3,(ab m e).4,(ab m e).6.1,(ab m e).6.2.1,(ab m e).7.1,(ab m e).7.2,(ab m e).7.3,(ab m e).5,()))∧((m.2 !=(1:Int))=false→True))∧((e.1 ==(1:Int))=false→((e.1 ==(2:Int))=true→aE m∧aO m=true∧(aN m e,(aa m e).1.1,(aa m e).1.2,(aa m e).1.3,(aa m e).1.4,(aa m e).1.5,(aa m e).1.6,(aa m e).1.7,(aa m e).1.8,(aa m e).1.9,(aa m e).1.10,(aa m e).1.11,(aa m e).1.12,(aa m e).1.13,(aa m e).1.14,(aa m e).2,(aa m e).3,(aa m e).4,(aa m e).6.1,(aa m e).6.2.1,(aa m e).7.1,(aa m e).7.2,(aa m e).7.3,(aa m e).5,()) =(aM m e,(ab m e).1.1,(ab m e).1.2,(ab m e).1.3,(ab m e).1.4,(ab m e).1.5,(ab m e).1.6,(ab m e).1.7,(ab m e).1.8,(ab m e).1.9,(ab m e).1.10,(ab m e).1.11,(ab m e).1.12,(ab m e).1.13,(ab m e).1.14,(ab m e).2,(ab m e).3,(ab m e).4,(ab m e).6.1,(ab m e).6.2.1,(ab m e).7.1,(ab m e).7.2,(ab m e).7.3,(ab m e).5,()))∧((e.1 ==(2:Int))=false→((e.1 ==(12:Int))=true→((m.2 !=(4:Int))=true→((1:Int),m.1.1,m.1.2,m.1.3,m.1.4,m.1.5,m.1.6,m.1.7,m.1.8,m.1.9,m.1.10,m.1.11,m.1.12,m.1.13,m.1.14,m.2,m.3,m.4,m.6.1,m.6.2.1,m.7.1,m.7.2,m.7.3,m.5,()) =(aM m e,(ab m e).1.1,(ab m e).1.2,(ab m e).1.3,(ab m e).1.4,(ab m e).1.5,(ab m e).1.6,(ab m e).1.7,(ab m e).1.8,(ab m e).1.9,(ab m e).1.10,(ab m e).1.11,(ab m e).1.12,(ab m e).1.13,(ab m e).1.14,(ab m e).2,(ab m e).3,(ab m e).4,(ab m e).6.1,(ab m e).6.2.1,(ab m e).7.1,(ab m e).7.2,(ab m e).7.3,(ab m e).5,()))∧((m.2 !=(4:Int))=false→((e.2 != m.3)=true→((2:Int),m.1.1,m.1.2,m.1.3,m.1.4,m.1.5,m.1.6,m.1.7,m.1.8,m.1.9,m.1.10,m.1.11,m.1.12,m.1.13,m.1.14,m.2,m.3,m.4,m.6.1,m.6.2.1,m.7.1,m.7.2,m.7.3,m.5,()) =(aM m e,(ab m e).1.1,(ab m e).1.2,(ab m e).1.3,(ab m e).1.4,(ab m e).1.5,(ab m e).1.6,(ab m e).1.7,(ab m e).1.8,(ab m e).1.9,(ab m e).1.10,(ab m e).1.11,(ab m e).1.12,(ab m e).1.13,(ab m e).1.14,(ab m e).2,(ab m e).3,(ab m e).4,(ab m e).6.1,(ab m e).6.2.1,(ab m e).7.1,(ab m e).7.2,(ab m e).7.3,(ab m e).5,()))∧((e.2 != m.3)=false→True)))∧((e.1 ==(12:Int))=false→((e.1 ==(16:Int))=true→aE m∧iz m∧True)∧((e.1 ==(16:Int))=false→aE m∧aO m=true∧bk e =(0:Int)∧(cb m e,(ag m e).1.1,(ag m e).1.2,(ag m e).1.3,(ag m e).1.4,(ag m e).1.5,(ag m e).1.6,(ag m e).1.7,(ag m e).1.8,(ag m e).1.9,(ag m e).1.10,(ag m e).1.11,(ag m e).1.12,(ag m e).1.13,(ag m e).1.14,(ag m e).2,(ag m e).3,(ag m e).4,(ag m e).6.1,(ag m e).6.2.1,(ag m e).7.1,(ag m e).7.2,(ag m e).7.3,(ag m e).5,()) =(aM m e,(ab m e).1.1,(ab m e).1.2,(ab m e).1.3,(ab m e).1.4,(ab m e).1.5,(ab m e).1.6,(ab m e).1.7,(ab m e).1.8,(ab m e).1.9,(ab m e).1.10,(ab m e).1.11,(ab m e).1.12,(ab m e).1.13,(ab m e).1.14,(ab m e).2,(ab m e).3,(ab m e).4,(ab m e).6.1,(ab m e).6.2.1,(ab m e).7.1,(ab m e).7.2,(ab m e).7.3,(ab m e).5,()))))))∧((bif e.1 ==(1:Int) then !m.2 !=(1:Int) else bif e.1 ==(2:Int) then false else bif e.1 ==(12:Int) then bif m.2 !=(4:Int) then false else !e.2 != m.3 else e.1 ==(16:Int))=true→((0:Int),bif e.1 ==(1:Int) then bif e.5 then m.1.1 else m.1.1 else bif e.1 ==(12:Int) then m.1.1 else (bN m).1.1,bif e.1 ==(1:Int) then bif e.5 then m.1.2 else m.1.2 else bif e.1 ==(12:Int) then m.1.2 else (bN m).1.2,bif e.1 ==(1:Int) then bif e.5 then m.1.3 else m.1.3 else bif e.1 ==(12:Int) then m.1.3 else (bN m).1.3,bif e.1 ==(1:Int) then bif e.5 then m.1.4 else m.1.4 else bif e.1 ==(12:Int) then m.1.4 else (bN m).1.4,bif e.1 ==(1:Int) then bif e.5 then m.1.5 else m.1.5 else bif e.1 ==(12:Int) then m.1.5 else (bN m).1.5,bif e.1 ==(1:Int) then bif e.5 then m.1.6 else m.1.6 else bif e.1 ==(12:Int) then m.1.6 else (bN m).1.6,bif e.1 ==(1:Int) then bif e.5 then m.1.7 else m.1.7 else bif e.1 ==(12:Int) then m.1.7 else (bN m).1.7,bif e.1 ==(1:Int) then bif e.5 then m.1.8 else m.1.8 else bif e.1 ==(12:Int) then m.1.8 else (bN m).1.8,bif e.1 ==(1:Int) then bif e.5 then m.1.9 else m.1.9 else bif e.1 ==(12:Int) then m.1.9 else (bN m).1.9,bif e.1 ==(1:Int) then bif e.5 then m.1.10 else m.1.10 else bif e.1 ==(12:Int) then m.1.10 else (bN m).1.10,bif e.1 ==(1:Int) then bif e.5 then m.1.11 else m.1.11 else bif e.1 ==(12:Int) then m.1.11 else (bN m).1.11,bif e.1 ==(1:Int) then bif e.5 then m.1.12 else m.1.12 else bif e.1 ==(12:Int) then m.1.12 else (bN m).1.12,bif e.1 ==(1:Int) then bif e.5 then m.1.13 else m.1.13 else bif e.1 ==(12:Int) then m.1.13 else (bN m).1.13,bif e.1 ==(1:Int) then bif e.5 then m.1.14 else m.1.14 else bif e.1 ==(12:Int) then m.1.14 else (bN m).1.14,bif e.1 ==(1:Int) then (2:Int) else bif e.1 ==(12:Int) then (2:Int) else (5:Int),bif e.1 ==(1:Int) then bif e.5 then e.2 else bX e.2 else bif e.1 ==(12:Int) then m.3 else (bN m).3,bif e.1 ==(1:Int) then bif e.5 then m.4 else m.4 else bif e.1 ==(12:Int) then e.5 else (bN m).4,bif e.1 ==(1:Int) then bif e.5 then m.6.1 else m.6.1 else bif e.1 ==(12:Int) then m.6.1 else (bN m).6.1,bif e.1 ==(1:Int) then bif e.5 then m.6.2.1 else m.6.2.1 else bif e.1 ==(12:Int) then m.6.2.1 else (bN m).6.2.1,bif e.1 ==(1:Int) then bif e.5 then m.7.1 else m.7.1 else bif e.1 ==(12:Int) then m.7.1 else cL m.1,bif e.1 ==(1:Int) then bif e.5 then m.7.2 else m.7.2 else bif e.1 ==(12:Int) then m.7.2 else (0:Int),bif e.1 ==(1:Int) then bif e.5 then m.7.3 else m.7.3 else bif e.1 ==(12:Int) then m.7.3 else (0:Int),bif e.1 ==(1:Int) then m.5 else bif e.1 ==(12:Int) then m.5 else (bN m).5,()) =(aM m e,(ab m e).1.1,(ab m e).1.2,(ab m e).1.3,(ab m e).1.4,(ab m e).1.5,(ab m e).1.6,(ab m e).1.7,(ab m e).1.8,(ab m e).1.9,(ab m e).1.10,(ab m e).1.11,(ab m e).1.12,(ab m e).1.13,(ab m e).1.14,(ab m e).2,(ab m e).3,(ab m e).4,(ab m e).6.1,(ab m e).6.2.1,(ab m e).7.1,(ab m e).7.2,(ab m e).7.3,(ab m e).5,())))
 simp only [Bool.cond_self] at *
 have ho:iz m:=fun h=>dL hv h
 refine ⟨⟨fun k1=>⟨fun a=>?_,fun _=>trivial⟩,fun n1=>⟨fun k2=>⟨hm,hv,?_⟩,fun n2=>⟨fun k12=>⟨fun a=>?_,fun a=>⟨fun b=>?_,fun _=>trivial⟩⟩,fun n12=>⟨fun k16=>⟨hm,ho,trivial⟩,fun n16=>⟨hm,hv,he,?_⟩⟩⟩⟩⟩,fun g=>?_⟩
 ·have hL:aM m e=1:=by unfold aM;rw [k1,a];rfl
  have hY:ab m e=m:=by unfold ab;rw [hL];rfl
  rw [hL,hY]
 ·have hL:aM m e=aN m e:=by unfold aM;rw [n1,k2];rfl
  have hY:ab m e=aa m e:=by
   unfold ab gd;rw [hL,n1,k2]
   cases h:aN m e != 0 with
   | true=>rw [Cv h];rfl
   | false=>rfl
  rw [hL,hY]
 ·have hL:aM m e=1:=by unfold aM;rw [n1,n2,k12,a];rfl
  have hY:ab m e=m:=by unfold ab;rw [hL];rfl
  rw [hL,hY]
 ·have hL:aM m e=2:=by unfold aM;rw [n1,n2,k12,a,b];rfl
  have hY:ab m e=m:=by unfold ab;rw [hL];rfl
  rw [hL,hY]
 ·have hL:aM m e=cb m e:=by unfold aM;rw [n1,n2,n12,n16];rfl
  have hY:ab m e=ag m e:=by
   unfold ab gd;rw [hL,n1,n2,n12,n16]
   cases h:cb m e != 0 with
   | true=>rw [CC h];rfl
   | false=>rfl
  rw [hL,hY]
 ·cases k1:e.Kind==1 with
  | true=>
   rw [k1] at g
   simp only [cond_true,Bool.not_eq_true'] at g
   have hL:aM m e=0:=by unfold aM;rw [k1,g];rfl
   have hY:ab m e=Dy m e:=by unfold ab gd;rw [hL,k1];rfl
   rw [hL,hY];unfold Dy;cases e.Yes <;> rfl
  | false=>
   rw [k1] at g
   cases k2:e.Kind==2 with
   | true=>rw [k2] at g;cases g
   | false=>
    rw [k2] at g
    cases k12:e.Kind==12 with
    | true=>
     rw [k12] at g
     simp only [cond_true,cond_false] at g
     cases a:m.Stage != 4 with
     | true=>rw [a] at g;cases g
     | false=>
      rw [a] at g
      simp only [cond_false,Bool.not_eq_true'] at g
      have hL:aM m e=0:=by unfold aM;rw [k1,k2,k12,a,g];rfl
      have hY:ab m e=zj m e:=by unfold ab gd;rw [hL,k1,k2,k12];rfl
      rw [hL,hY];rfl
    | false=>
     rw [k12] at g
     have hL:aM m e=0:=by
      have g :(e.Kind==16)=true:=g
      unfold aM;rw [k1,k2,k12,g];rfl
     have hY:ab m e=dz m:=by
      have g :(e.Kind==16)=true:=g
      unfold ab gd;rw [hL,k1,k2,k12,g];rfl
     rw [hL,hY];rfl
def xO:FuncId×Ctr:=(46,ae KE qPE CL Fx)
theorem Ew:CtrOK Tryz.prog KE 46 (ae KE qPE CL Fx):=by
 refine aq (C:=ao [gG,JO,JQ,JP] Tryz.f46) (al (.consU mQ rfl (.consU MC rfl (.consU ME rfl (.consU MD rfl .nil)))) _) mixed (fn:=Tryz.f46) Tryz.func46 (by kernel_rfl) (by kernel_rfl) (by kernel_rfl) (by kernel_rfl) (by kernel_rfl) (by kernel_rfl) (Λ:=fun _ _=>none) ?_ ?_
 ·exact fun _ _ _ _ _ _ _ _ h=>by cases h
 ·rintro ⟨e,v1,v2,v3,v4,v5,v6,v7,v8,v9,v10,v11,v12,v13,v14,v15,v16,v17,v18,v19,v20,v21,v22,xs,⟨⟩⟩ hw hn
  exact Da (mkM v1 v2 v3 v4 v5 v6 v7 v8 v9 v10 v11 v12 v13 v14 v15 v16 v17 v18 v19 v20 v21 v22 xs) e (hn _ List.mem_cons_self) (hn _ (List.mem_cons_of_mem _ List.mem_cons_self)) (hn _ (List.mem_cons_of_mem _ (List.mem_cons_of_mem _ List.mem_cons_self)))
end Go.Proofs.YtkgplaoappjkcaaGreat
namespace Go.Proofs.YtkgplaoappjkcaaGreat
open Go Go.Mir
attribute [local irreducible] Go.Mir.DT.sat Go.Mir.evPat Go.Mir.RT.sat Go.Mir.evFn
abbrev qME:Pat:=cg [.nm .Match,.nm .Event]
def rA:Den (tyP qME)→List Prop×Den (tyP mc):=fun x=>([aE x.1],(bF x.1 x.2.1,aV x.1 x.2.1,()))
theorem DZ {l:List Innings} (h:dX l) (k:Nat):aj (l.getD k Innings.zero):=by
 by_cases hl:k<l.length
 ·exact h _ (fZ hl _)
 ·rw [List.getD_eq_getElem?_getD,List.getElem?_eq_none (by omega)];simp [aj,Innings.zero]
theorem pD {m:Match} (h:aE m) (k:Nat) {x:Innings} (hx:aj x):aE (Dv m k x):=
 ⟨rE h.1 k hx,by show (m.Innings.set k x).length≤_;rw [List.length_set];exact h.2.1,h.2.2⟩
theorem yS {m:Match} (h:aE m) (s:Int):aE (ay m s):=by
 unfold ay
 cases d7 s m.Innings m.Innings.length with
 | some k=>exact pD h k (FE (DZ h.1 k))
 | none=>exact h
theorem Hk (m:Match) (s:Int) :(ay m s).Innings.length=m.Innings.length:=by
 unfold ay
 cases d7 s m.Innings m.Innings.length with
 | some k=>exact List.length_set
 | none=>rfl
theorem Bg (m:Match) (s:Int) :(ay m s).Stage=m.Stage:=by
 unfold ay
 cases d7 s m.Innings m.Innings.length <;> rfl
theorem CE {m:Match} (e:Mir.Event) (h:aE m):aE (ag m e):=by
 have h1:aE (rl m e):=pD h _ (jX e (go h.1))
 unfold ag
 split
 ·exact h
 ·split
  ·exact yS h1 _
  ·exact h1
theorem CD (m:Match) (e:Mir.Event) :(ag m e).Innings.length=m.Innings.length:=by
 have h1 :(rl m e).Innings.length=m.Innings.length:=List.length_set
 unfold ag
 split
 ·rfl
 ·split
  ·rw [Hk,h1]
  ·exact h1
theorem EG (m:Match) (e:Mir.Event) :(ag m e).Stage=m.Stage:=by
 unfold ag
 split
 ·rfl
 ·split
  ·rw [Bg];rfl
  ·rfl
theorem mV {m:Match} (e:Mir.Event) (h:aE m) (hv:aO m=true):aE (ab m e):=by
 unfold ab
 split
 ·exact h
 ·unfold gd
  split
  ·exact h
  ·split
   ·unfold aa
    split
    ·exact h
    ·refine ⟨IV h.1 (jX e (i3 _ _ _ _)),?_,h.2.2⟩
     show (m.Innings++[_]).length≤_
     have:=(kQ hv).2
     rw [List.length_append,List.length_singleton];omega
   ·split
    ·exact h
    ·split
     ·have h2:aE (bN m):=by
       unfold bN
       split
       ·exact pD h _ (show aj { bt m with Ending:=5 } from go h.1)
       ·exact h
      exact h2
     ·exact CE e h
theorem qm {m:Match} (e:Mir.Event) (hv:aO m=true):iz (ab m e):=by
 unfold ab
 split
 ·exact fun h=>dL hv h
 ·unfold gd
  split
  ·exact fun h=>absurd (show (2:Int)=3 from h) (by decide)
  ·split
   ·unfold aa
    split
    ·exact fun h=>dL hv h
    ·intro _
     show 0 <(m.Innings++[_]).length
     rw [List.length_append,List.length_singleton];omega
   ·split
    ·exact fun h=>absurd (show (2:Int)=3 from h) (by decide)
    ·split
     ·exact fun h=>absurd (show (5:Int)=3 from h) (by decide)
     ·intro h
      rw [EG] at h
      rw [CD]
      exact dL hv h
theorem tM (m:Match) :(aw m).Innings=m.Innings:=by
 unfold aw
 split
 ·rfl
 ·split
  ·rfl
  ·split <;> rfl
theorem Bm (m:Match) :(aw m).Rules=m.Rules:=by
 unfold aw
 split
 ·rfl
 ·split
  ·rfl
  ·split <;> rfl
theorem yV {m:Match} (h:aE m):aE (aw m):=by
 unfold aE c9
 rw [tM,Bm]
 exact h
theorem wj {m:Match} {e:Mir.Event} (h:aV m e=0):aO m=true∧bk e=0∧aM m e=0:=by
 unfold aV at h
 split at h
 ·cases h
 ·rename_i h1
  simp only [Bool.or_eq_true,Bool.not_eq_true',bne_iff_ne,ne_eq,not_or,Bool.not_eq_false,Decidable.not_not] at h1
  split at h
  ·cases h
  ·exact ⟨h1.1,h1.2,h⟩
theorem ia {m:Match} (e:Mir.Event) (h:aE m):aE (bF m e):=by
 unfold bF
 split
 ·exact h
 ·rename_i h1
  exact yV (mV e h (wj (by simpa using h1)).1)
theorem kN {m:Match} {e:Mir.Event} (h :(aV m e != 0)=true):bF m e=m:=by simp only [bF,h,if_true]
theorem IY {m:Match} {e:Mir.Event} (h:aV m e=0) (hk:e.Kind=4):0<m.Innings.length∧(bF m e).Innings.length=m.Innings.length:=by
 obtain ⟨hv,he,hp⟩:=wj h
 have h1:aM m e=cb m e:=by unfold aM;rw [hk];rfl
 have h3:m.Stage=3:=by
  rw [h1] at hp
  unfold cb at hp
  cases h3:m.Stage != 3 with
  | true=>rw [h3] at hp;cases hp
  | false=>simpa using h3
 refine ⟨dL hv h3,?_⟩
 have h2:bF m e=aw (ab m e):=by unfold bF;rw [h];rfl
 have h4:ab m e=ag m e:=by unfold ab gd;rw [hp,hk];rfl
 rw [h2,tM,h4,CD]
theorem K5 (m:Match) (e:Mir.Event) (hm:aE m) :(evPat (ao [Gj,tq,li,xO,mH] Tryz.f29) (fun _=>none) Tryz.f29 qME mc (m,e,())).sat fun z_=>z_ =(rA (m,e,())).2:=by
 refine cast (by kernel_rfl) (?_:let r1:Bool:=bif !aO m then true else bk e !=(0:Int);(c9 m∧((!aO m)=true→True)∧((!aO m)=false→True))∧(true=true→(r1=true→aE m∧(m,(1:Int),()) =(bF m e,aV m e,()))∧(r1=false→((m.2 ==(5:Int))=true→aE m∧(m,(26:Int),()) =(bF m e,aV m e,()))∧((m.2 ==(5:Int))=false→aE m∧aE m∧aO m=true∧bk e =(0:Int)∧((aM m e !=(0:Int))=true→aE m∧(m,aM m e,()) =(bF m e,aV m e,()))∧((aM m e !=(0:Int))=false→aE (ab m e)∧iz (ab m e)∧(aw (ab m e),(0:Int),()) =(bF m e,aV m e,()))))))
 intro r1
 clear_value (hr1:r1=_)
 have e1:r1 =(!aO m||bk e != 0):=by rw [hr1];cases aO m <;> rfl
 have hq:r1=false→aO m=true∧bk e=0:=fun h=>by rw [e1] at h;simpa using h
 refine ⟨⟨hm.1,fun _=>trivial,fun _=>trivial⟩,fun _=>⟨fun a=>⟨hm,?_⟩,fun a=>⟨fun b=>⟨hm,?_⟩,fun b=>⟨hm,hm,(hq a).1,(hq a).2,fun c=>⟨hm,?_⟩,fun c=>⟨mV e hm (hq a).1,qm e (hq a).1,?_⟩⟩⟩⟩⟩
 ·have hL:aV m e=1:=by unfold aV;rw [←e1,a];rfl
  rw [kN (by rw [hL];rfl),hL]
 ·have hL:aV m e=26:=by unfold aV;rw [←e1,a,b];rfl
  rw [kN (by rw [hL];rfl),hL]
 ·have hL:aV m e=aM m e:=by unfold aV;rw [←e1,a,b];rfl
  rw [kN (by rw [hL];exact c),hL]
 ·have hL:aV m e=aM m e:=by unfold aV;rw [←e1,a,b];rfl
  have h0:aM m e=0:=by simpa using c
  have hY:bF m e=aw (ab m e):=by unfold bF;rw [hL,c];rfl
  rw [hY,hL,h0]
def o9:FuncId×Ctr:=(29,ae KE qME mc rA)
theorem tx:CtrOK Tryz.prog KE 29 (ae KE qME mc rA):=by
 refine aq (C:=ao [Gj,tq,li,xO,mH] Tryz.f29) (al (.consU Kg rfl (.consU Ck rfl (.consU qh rfl (.consU Ew rfl (.consU sQ rfl .nil))))) _) mixed (fn:=Tryz.f29) Tryz.func29 (by kernel_rfl) (by kernel_rfl) (by kernel_rfl) (by kernel_rfl) (by kernel_rfl) (by kernel_rfl) (Λ:=fun _ _=>none) ?_ ?_
 ·exact fun _ _ _ _ _ _ _ _ h=>by cases h
 ·rintro ⟨m,e,⟨⟩⟩ hw hn
  exact K5 m e (hn _ List.mem_cons_self)
end Go.Proofs.YtkgplaoappjkcaaGreat
namespace Go.Proofs.YtkgplaoappjkcaaGreat
open Go Go.Mir
attribute [local irreducible] Go.Mir.DT.sat Go.Mir.evPat Go.Mir.RT.sat Go.Mir.evFn
abbrev qIo:Pat:=⟨[(0,.a [.h I,.c .any,.c .any,.c .any,.c .any,.c .any,.c .any,.c .any,.c .any,.c .any,.c .any,.c .any,.c .any,.c .any,.c .any,.c .any,.c .any,.c .any,.c .any,.c .any,.c .any,.c .any,.c .any,.c .any,.c .any,.c .any,.c .any,.h U8])],[],0⟩
def Ft:Den (tyP qM)→List Prop×Den (tyP qIo):=fun x=>([kM x.1],((bt x.1).Side,(bt x.1).Ending,()))
def aD (m:Match):Match:=if mA m||fT m then FR m else if nr m then lQ m 4 else lQ m 2
def Aq:Den (tyP qMo)→List Prop×Den (tyP qMo):=fun x=>([aE (mkX x),kM (mkX x)],((aD (mkX x)).Rules.Name,(aD (mkX x)).Rules.Side,(aD (mkX x)).Rules.Innings,(aD (mkX x)).Rules.Overs,(aD (mkX x)).Rules.Balls,(aD (mkX x)).Rules.Quota,(aD (mkX x)).Rules.Wide,(aD (mkX x)).Rules.NoBall,(aD (mkX x)).Rules.FreeHit,(aD (mkX x)).Rules.NewBall,(aD (mkX x)).Rules.FollowOn,(aD (mkX x)).Rules.Reviews,(aD (mkX x)).Rules.Outside,(aD (mkX x)).Rules.Power,(aD (mkX x)).Stage,(aD (mkX x)).First,(aD (mkX x)).Follow,(aD (mkX x)).Penalty.1,(aD (mkX x)).Penalty.2.1,(aD (mkX x)).Result.Win,(aD (mkX x)).Result.Side,(aD (mkX x)).Result.Margin,(aD (mkX x)).Innings,()))
def bR (m:Match):Int:=if !aO m then 0 else if m.Stage==3 then (bt m).Side else if m.Stage==2 then gb m m.Innings.length else 0
def vM:Den (tyP qM)→List Prop×Den (tyP be):=fun x=>([c9 x.1],(bR x.1,()))
theorem Dp (m:Match) (hm:kM m) :(evPat (ao [] Tryz.f102) (fun _=>none) Tryz.f102 qM qIo (m,())).sat fun z_=>z_ =(Ft (m,())).2:=by
 refine cast (by kernel_rfl) (?_:let r1:Int:=IntKind.i64.wrap ((↑m.5.length:Int) - (1:Int));let r2:Innings:=m.5.getD r1.toNat (dflt (Ty.nm Nm.Innings));((0:Int)≤r1∧r1 <(↑m.5.length:Int))∧(r2.1,r2.23,()) =((bt m).1,(bt m).23,()))
 intro r1 r2
 clear_value (hr1:r1=_) (hr2:r2=_)
 have e0:r1 =(m.Innings.length:Int) - 1:=by have:=hm.1;have:=hm.2;rw [hr1];exact bi (by omega) (by omega)
 have e1:r1.toNat=m.Innings.length - 1:=by omega
 have:=hm.1
 exact ⟨⟨by omega,by omega⟩,by rw [hr2,e1];rfl⟩
def nJ:FuncId×Ctr:=(102,ae KE qM qIo Ft)
theorem vj:CtrOK Tryz.prog KE 102 (ae KE qM qIo Ft):=by
 refine aq (C:=ao [] Tryz.f102) (al (CtrsOK.nil) _) mixed (fn:=Tryz.f102) Tryz.func102 (by kernel_rfl) (by kernel_rfl) (by kernel_rfl) (by kernel_rfl) (by kernel_rfl) (by kernel_rfl) (Λ:=fun _ _=>none) ?_ ?_
 ·exact fun _ _ _ _ _ _ _ _ h=>by cases h
 ·rintro ⟨m,⟨⟩⟩ hw hn
  exact Dp m (hn _ List.mem_cons_self)
theorem Al (m:Match) (hm:aE m) (hs:kM m) :(evPat (ao [nJ,dV,iV,sg] Tryz.f103) (fun _=>none) Tryz.f103 qMo qMo (m.Rules.Name,m.Rules.Side,m.Rules.Innings,m.Rules.Overs,m.Rules.Balls,m.Rules.Quota,m.Rules.Wide,m.Rules.NoBall,m.Rules.FreeHit,m.Rules.NewBall,m.Rules.FollowOn,m.Rules.Reviews,m.Rules.Outside,m.Rules.Power,m.Stage,m.First,m.Follow,m.Penalty.1,m.Penalty.2.1,m.Result.Win,m.Result.Side,m.Result.Margin,m.Innings,())).sat fun z_=>z_ =(Aq (m.Rules.Name,m.Rules.Side,m.Rules.Innings,m.Rules.Overs,m.Rules.Balls,m.Rules.Quota,m.Rules.Wide,m.Rules.NoBall,m.Rules.FreeHit,m.Rules.NewBall,m.Rules.FollowOn,m.Rules.Reviews,m.Rules.Outside,m.Rules.Power,m.Stage,m.First,m.Follow,m.Penalty.1,m.Penalty.2.1,m.Result.Win,m.Result.Side,m.Result.Margin,m.Innings,())).2:=by
 refine cast (by kernel_rfl) (?_:let r1:Match:=Match.mk m.1 (5:Int) m.3 m.4 m.5 m.6 m.7;let r2:Int:=IntKind.i64.wrap (fD m m.3 - fD m (bX m.3));let r3:Mir.Result:=bE r1;let r4:Bool:=(↑m.5.length:Int)==IntKind.i64.wrap ((2:Int)*m.1.3);let r5:Bool:=bif (↑m.5.length:Int) ==(2:Int) then bif decide (m.1.11 >(0:Int)) then decide (r2≥m.1.11) else false else false;let r6:Bool:=bif r4 then r4 else bif (↑m.5.length:Int) ==(3:Int) then decide (fD m (bt m).1<fD m (bX (bt m).1)) else false;kM m∧((r6=true→c9 r1∧True)∧(r6=false→(r5=true→True)∧(r5=false→True)))∧(true=true→(bif r6 then m.1.1 else bif r5 then m.1.1 else m.1.1,bif r6 then m.1.2 else bif r5 then m.1.2 else m.1.2,bif r6 then m.1.3 else bif r5 then m.1.3 else m.1.3,bif r6 then m.1.4 else bif r5 then m.1.4 else m.1.4,bif r6 then m.1.5 else bif r5 then m.1.5 else m.1.5,bif r6 then m.1.6 else bif r5 then m.1.6 else m.1.6,bif r6 then m.1.7 else bif r5 then m.1.7 else m.1.7,bif r6 then m.1.8 else bif r5 then m.1.8 else m.1.8,bif r6 then m.1.9 else bif r5 then m.1.9 else m.1.9,bif r6 then m.1.10 else bif r5 then m.1.10 else m.1.10,bif r6 then m.1.11 else bif r5 then m.1.11 else m.1.11,bif r6 then m.1.12 else bif r5 then m.1.12 else m.1.12,bif r6 then m.1.13 else bif r5 then m.1.13 else m.1.13,bif r6 then m.1.14 else bif r5 then m.1.14 else m.1.14,bif r6 then (5:Int) else bif r5 then (4:Int) else (2:Int),bif r6 then m.3 else bif r5 then m.3 else m.3,bif r6 then m.4 else bif r5 then m.4 else m.4,bif r6 then m.6.1 else bif r5 then m.6.1 else m.6.1,bif r6 then m.6.2.1 else bif r5 then m.6.2.1 else m.6.2.1,bif r6 then r3.1 else bif r5 then m.7.1 else m.7.1,bif r6 then r3.2 else bif r5 then m.7.2 else m.7.2,bif r6 then r3.3 else bif r5 then m.7.3 else m.7.3,m.5,()) =((aD m).1.1,(aD m).1.2,(aD m).1.3,(aD m).1.4,(aD m).1.5,(aD m).1.6,(aD m).1.7,(aD m).1.8,(aD m).1.9,(aD m).1.10,(aD m).1.11,(aD m).1.12,(aD m).1.13,(aD m).1.14,(aD m).2,(aD m).3,(aD m).4,(aD m).6.1,(aD m).6.2.1,(aD m).7.1,(aD m).7.2,(aD m).7.3,(aD m).5,())))
 intro r1 r2 r3 r4 r5 r6
 clear_value (hr1:r1=_) (hr2:r2=_) (hr3:r3=_) (hr4:r4=_) (hr5:r5=_) (hr6:r6=_)
 have e4:r4=mA m:=hr4
 have e6:r6 =(mA m||fT m):=by
  rw [hr6,e4];unfold fT
  cases mA m <;> cases (m.Innings.length:Int)==3 <;> rfl
 have e5:r5=nr m:=by
  rw [hr5,hr2];unfold nr JT
  cases (m.Innings.length:Int)==2 <;> cases decide (m.Rules.FollowOn>0) <;> rfl
 have hC:aD m=if r6 then FR m else if r5 then lQ m 4 else lQ m 2:=by unfold aD;rw [←e6,←e5]
 refine ⟨hs,⟨fun _=>⟨by rw [hr1];exact hm.1,trivial⟩,fun _=>⟨fun _=>trivial,fun _=>trivial⟩⟩,fun _=>?_⟩
 rw [hC,hr3,hr1]
 cases r6 <;> cases r5 <;> rfl
def uO:FuncId×Ctr:=(103,ae KE qMo qMo Aq)
theorem Cq:CtrOK Tryz.prog KE 103 (ae KE qMo qMo Aq):=by
 refine aq (C:=ao [nJ,dV,iV,sg] Tryz.f103) (al (.consU vj rfl (.consU jm rfl (.consU pq rfl (.consU zR rfl .nil)))) _) mixed (fn:=Tryz.f103) Tryz.func103 (by kernel_rfl) (by kernel_rfl) (by kernel_rfl) (by kernel_rfl) (by kernel_rfl) (by kernel_rfl) (Λ:=fun _ _=>none) ?_ ?_
 ·exact fun _ _ _ _ _ _ _ _ h=>by cases h
 ·rintro ⟨v1,v2,v3,v4,v5,v6,v7,v8,v9,v10,v11,v12,v13,v14,v15,v16,v17,v18,v19,v20,v21,v22,xs,⟨⟩⟩ hw hn
  exact Al (mkM v1 v2 v3 v4 v5 v6 v7 v8 v9 v10 v11 v12 v13 v14 v15 v16 v17 v18 v19 v20 v21 v22 xs) (hn _ List.mem_cons_self) (hn _ (List.mem_cons_of_mem _ List.mem_cons_self))
theorem w2 (m:Match) (hm:c9 m) :(evPat (ao [iW,pW,pa] Tryz.f151) (fun _=>none) Tryz.f151 qM be (m,())).sat fun z_=>z_ =(vM (m,())).2:=by
 refine cast (by kernel_rfl) (?_:c9 m∧((!cS m)=true→((0:Int),()) =(bR m,()))∧((!cS m)=false→((m.2 ==(3:Int))=true→kM m∧((bt m).1,()) =(bR m,()))∧((m.2 ==(3:Int))=false→((m.2 ==(2:Int))=true→(gb m (↑m.5.length:Int),()) =(bR m,()))∧((m.2 ==(2:Int))=false→((0:Int),()) =(bR m,())))))
 rw [←rG] at *
 refine ⟨hm,fun h=>?_,fun h=>⟨fun a=>⟨?_,?_⟩,fun a=>⟨fun b=>?_,fun b=>?_⟩⟩⟩
 ·have:bR m=0:=by unfold bR;rw [h];rfl
  rw [this]
 ·have hv:aO m=true:=by simpa using h
  exact ⟨dL hv (by simpa using a),by have:=(kQ hv).2;omega⟩
 ·have:bR m =(bt m).Side:=by unfold bR;rw [h,a];rfl
  rw [this]
 ·have:bR m=gb m m.Innings.length:=by unfold bR;rw [h,a,b];rfl
  rw [this]
 ·have:bR m=0:=by unfold bR;rw [h,a,b];rfl
  rw [this]
def sf:FuncId×Ctr:=(151,ae KE qM be vM)
theorem zQ:CtrOK Tryz.prog KE 151 (ae KE qM be vM):=by
 refine aq (C:=ao [iW,pW,pa] Tryz.f151) (al (.consU pu rfl (.consU ya rfl (.consU sn rfl .nil))) _) mixed (fn:=Tryz.f151) Tryz.func151 (by kernel_rfl) (by kernel_rfl) (by kernel_rfl) (by kernel_rfl) (by kernel_rfl) (by kernel_rfl) (Λ:=fun _ _=>none) ?_ ?_
 ·exact fun _ _ _ _ _ _ _ _ h=>by cases h
 ·rintro ⟨m,⟨⟩⟩ hw hn
  exact w2 m (hn _ List.mem_cons_self)
end Go.Proofs.YtkgplaoappjkcaaGreat
