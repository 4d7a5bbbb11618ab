/- Texts of the mirror and contracts, put together. -/
import Derived.Test.YthaeofeigglbhaaGreatDoorPN5
import Derived.Test.YthaeofeigglbhaaGreatDoorPN3
import Derived.Test.YthaeofeigglbhaaGreatDoorPN1
import Derived.Shelf.SlLaysN
import Derived.Shelf.RegionOpenPlain
import Derived.WalkKit
import Derived.Deep.LoopGhost
import Derived.Deep.RegionLaw
import Derived.Lib.Walk
import Derived.Sort.WalkB12
import Derived.Lib.SliceRun
namespace Go.Proofs.YthaeofeigglbhaaGreatDoor
open Go Go.Mir
attribute [local irreducible] Go.Mir.DT.sat Go.Mir.evPat Go.Mir.RT.sat Go.Mir.evFn
abbrev xE:List (Nat×PB):= [(0,.cells (zj (.c (.osl 1 2)))),(1,.row 2 (.nm .Innings))]
abbrev qPM:Pat:=⟨[(0,.c (.ptr 0 0))],xE,3⟩
abbrev qPI:Pat:=⟨[(0,.c (.ptr 0 0)),(1,.h I)],xE,3⟩
abbrev pd:Pat:=⟨[],xE,3⟩
def AJ:Den (tyP qPI)→List Prop×Den (tyP pd):=fun x=>([aI (mkX x.2),iG x.1],((aq (mkX x.2) x.1).Rules.Name,(aq (mkX x.2) x.1).Rules.Side,(aq (mkX x.2) x.1).Rules.Innings,(aq (mkX x.2) x.1).Rules.Overs,(aq (mkX x.2) x.1).Rules.Balls,(aq (mkX x.2) x.1).Rules.Quota,(aq (mkX x.2) x.1).Rules.Wide,(aq (mkX x.2) x.1).Rules.NoBall,(aq (mkX x.2) x.1).Rules.FreeHit,(aq (mkX x.2) x.1).Rules.NewBall,(aq (mkX x.2) x.1).Rules.FollowOn,(aq (mkX x.2) x.1).Rules.Reviews,(aq (mkX x.2) x.1).Rules.Outside,(aq (mkX x.2) x.1).Rules.Power,(aq (mkX x.2) x.1).Stage,(aq (mkX x.2) x.1).First,(aq (mkX x.2) x.1).Follow,(aq (mkX x.2) x.1).Penalty.1,(aq (mkX x.2) x.1).Penalty.2.1,(aq (mkX x.2) x.1).Result.Win,(aq (mkX x.2) x.1).Result.Side,(aq (mkX x.2) x.1).Result.Margin,(aq (mkX x.2) x.1).Innings,()))
def hZ (m:Match):Prop:=m.Stage=3→0<m.Innings.length
def Ge:Den (tyP qPM)→List Prop×Den (tyP pd):=fun x=>([aI (mkX x),hZ (mkX x)],((dc (mkX x)).Rules.Name,(dc (mkX x)).Rules.Side,(dc (mkX x)).Rules.Innings,(dc (mkX x)).Rules.Overs,(dc (mkX x)).Rules.Balls,(dc (mkX x)).Rules.Quota,(dc (mkX x)).Rules.Wide,(dc (mkX x)).Rules.NoBall,(dc (mkX x)).Rules.FreeHit,(dc (mkX x)).Rules.NewBall,(dc (mkX x)).Rules.FollowOn,(dc (mkX x)).Rules.Reviews,(dc (mkX x)).Rules.Outside,(dc (mkX x)).Rules.Power,(dc (mkX x)).Stage,(dc (mkX x)).First,(dc (mkX x)).Follow,(dc (mkX x)).Penalty.1,(dc (mkX x)).Penalty.2.1,(dc (mkX x)).Result.Win,(dc (mkX x)).Result.Side,(dc (mkX x)).Result.Margin,(dc (mkX x)).Innings,()))
def AN:Den (tyP qPM)→List Prop×Den (tyP pd):=fun x=>([aI (mkX x),hZ (mkX x)],((ak (mkX x)).Rules.Name,(ak (mkX x)).Rules.Side,(ak (mkX x)).Rules.Innings,(ak (mkX x)).Rules.Overs,(ak (mkX x)).Rules.Balls,(ak (mkX x)).Rules.Quota,(ak (mkX x)).Rules.Wide,(ak (mkX x)).Rules.NoBall,(ak (mkX x)).Rules.FreeHit,(ak (mkX x)).Rules.NewBall,(ak (mkX x)).Rules.FollowOn,(ak (mkX x)).Rules.Reviews,(ak (mkX x)).Rules.Outside,(ak (mkX x)).Rules.Power,(ak (mkX x)).Stage,(ak (mkX x)).First,(ak (mkX x)).Follow,(ak (mkX x)).Penalty.1,(ak (mkX x)).Penalty.2.1,(ak (mkX x)).Result.Win,(ak (mkX x)).Result.Side,(ak (mkX x)).Result.Margin,(ak (mkX x)).Innings,()))
abbrev qAw:Pat:=⟨[(0,.c (.ptr 0 0)),(1,.h I),(4,.h I)],xE,3⟩
abbrev xAw:List (Lf×Pat):= [(.ret,⟨[],xE,3⟩),(.ext 0,⟨[(0,.c (.ptr 0 0)),(1,.h I)],xE,3⟩)]
abbrev TAw:Type:=Int×Int×TM
def tg (x:TAw):Prop:=(-1≤x.2.1∧x.2.1 <(x.2.2.2.2.2.2.2.2.2.2.2.2.2.2.2.2.2.2.2.2.2.2.2.2.1.length:Int)∧x.2.2.2.2.2.2.2.2.2.2.2.2.2.2.2.2.2.2.2.2.2.2.2.2.1.length≤1000000)∧fo x.2.2.2.2.2.2.2.2.2.2.2.2.2.2.2.2.2.2.2.2.2.2.2.2.1
def CH (x:TAw):Nat:=(x.2.1+1).toNat
def LX (y:TM) (xs:List Innings):TM:=(y.1,y.2.1,y.2.2.1,y.2.2.2.1,y.2.2.2.2.1,y.2.2.2.2.2.1,y.2.2.2.2.2.2.1,y.2.2.2.2.2.2.2.1,y.2.2.2.2.2.2.2.2.1,y.2.2.2.2.2.2.2.2.2.1,y.2.2.2.2.2.2.2.2.2.2.1,y.2.2.2.2.2.2.2.2.2.2.2.1,y.2.2.2.2.2.2.2.2.2.2.2.2.1,y.2.2.2.2.2.2.2.2.2.2.2.2.2.1,y.2.2.2.2.2.2.2.2.2.2.2.2.2.2.1,y.2.2.2.2.2.2.2.2.2.2.2.2.2.2.2.1,y.2.2.2.2.2.2.2.2.2.2.2.2.2.2.2.2.1,y.2.2.2.2.2.2.2.2.2.2.2.2.2.2.2.2.2.1,y.2.2.2.2.2.2.2.2.2.2.2.2.2.2.2.2.2.2.1,y.2.2.2.2.2.2.2.2.2.2.2.2.2.2.2.2.2.2.2.1,y.2.2.2.2.2.2.2.2.2.2.2.2.2.2.2.2.2.2.2.2.1,y.2.2.2.2.2.2.2.2.2.2.2.2.2.2.2.2.2.2.2.2.2.1,xs,())
def tQ (s:Int) (y:TM):Option Nat→Sum TM (Int×TM)
 | some k=> .inl (LX y (y.2.2.2.2.2.2.2.2.2.2.2.2.2.2.2.2.2.2.2.2.2.2.1.set k (Ah (y.2.2.2.2.2.2.2.2.2.2.2.2.2.2.2.2.2.2.2.2.2.2.1.getD k Innings.zero))))
 | none=> .inr (s,y)
def jZ (x:TAw):Sum TM (Int×TM):=tQ x.1 x.2.2 (ib x.1 x.2.2.2.2.2.2.2.2.2.2.2.2.2.2.2.2.2.2.2.2.2.2.2.2.1 (x.2.1+1).toNat)
theorem FS (m:Match) (hm:aI m) (ho:hZ m) :(evPat (an [gd] Tryz.f217) (fun _=>none) Tryz.f217 qPM pd (m.Rules.Name,m.Rules.Side,m.Rules.Innings,m.Rules.Overs,m.Rules.Balls,m.Rules.Quota,m.Rules.Wide,m.Rules.NoBall,m.Rules.FreeHit,m.Rules.NewBall,m.Rules.FollowOn,m.Rules.Reviews,m.Rules.Outside,m.Rules.Power,m.Stage,m.First,m.Follow,m.Penalty.1,m.Penalty.2.1,m.Result.Win,m.Result.Side,m.Result.Margin,m.Innings,())).sat fun z_=>z_ =(Ge (m.Rules.Name,m.Rules.Side,m.Rules.Innings,m.Rules.Overs,m.Rules.Balls,m.Rules.Quota,m.Rules.Wide,m.Rules.NoBall,m.Rules.FreeHit,m.Rules.NewBall,m.Rules.FollowOn,m.Rules.Reviews,m.Rules.Outside,m.Rules.Power,m.Stage,m.First,m.Follow,m.Penalty.1,m.Penalty.2.1,m.Result.Win,m.Result.Side,m.Result.Margin,m.Innings,())).2:=by
 refine cast (by kernel_rfl) (?_:let r1:Int:=IntKind.i64.wrap ((↑m.5.length:Int) - (1:Int));let r2:Innings:=m.5.getD r1.toNat (dflt (Ty.nm Nm.Innings));(((m.2 ==(3:Int))=true→((0:Int)≤r1∧r1 <(↑m.5.length:Int))∧True)∧((m.2 ==(3:Int))=false→True))∧(true=true→(m.1.1,m.1.2,m.1.3,m.1.4,m.1.5,m.1.6,m.1.7,m.1.8,m.1.9,m.1.10,m.1.11,m.1.12,m.1.13,m.1.14,(5:Int),m.3,m.4,m.6.1,m.6.2.1,dx m.1,(0:Int),(0:Int),bif m.2 ==(3:Int) then m.5.set r1.toNat (Innings.mk r2.1 r2.2 r2.3 r2.4 r2.5 r2.6 r2.7 r2.8 r2.9 r2.10 r2.11 r2.12 r2.13 r2.14 r2.15 r2.16 r2.17 r2.18 r2.19 r2.20 r2.21 r2.22 (5:Int)) else m.5,()) =((bj m).1.1,(bj m).1.2,(bj m).1.3,(bj m).1.4,(bj m).1.5,(bj m).1.6,(bj m).1.7,(bj m).1.8,(bj m).1.9,(bj m).1.10,(bj m).1.11,(bj m).1.12,(bj m).1.13,(bj m).1.14,(5:Int),(bj m).3,(bj m).4,(bj m).6.1,(bj m).6.2.1,dx m.1,(0:Int),(0:Int),(bj m).5,())))
 intro r1 r2
 clear_value (hr1:r1=_) (hr2:r2=_)
 have hx:=hm.2.1
 refine ⟨⟨fun h=>⟨?_,trivial⟩,fun _=>trivial⟩,fun _=>?_⟩
 ·have h0:=ho (by simpa using h)
  rw [hr1,bM (n:=(m.Innings.length:Int) - 1) (by omega) (by omega)]
  omega
 ·cases h:m.Stage==3 with
  | true=>
   have h0:=ho (by simpa using h)
   have e1:r1.toNat=CR m:=by rw [hr1];exact EP h0 hx
   have e2:r2=dM m:=by rw [hr2,e1];rfl
   have eS:bj m=DB m (CR m) { dM m with Ending:=5 }:=by unfold bj;rw [h];rfl
   rw [eS,e1,e2];rfl
  | false=>
   have eS:bj m=m:=by unfold bj;rw [h];rfl
   rw [eS];rfl
def EH:FuncId×Ctr:=(217,af KE qPM pd Ge)
theorem Hv:CtrOK Tryz.prog KE 217 (af KE qPM pd Ge):=by
 refine ax (C:=an [gd] Tryz.f217) (al (.consU mi rfl .nil) _) mixed (fn:=Tryz.f217) Tryz.func217 (by kernel_rfl) (by kernel_rfl) (by kernel_rfl) (by kernel_rfl) (by kernel_rfl) (by kernel_rfl) (Λ:=fun _ _=>none) ?_ ?_
 ·exact fun _ _ _ _ _ _ _ _ h=>by cases h
 ·rintro ⟨v1,v2,v3,v4,v5,v6,v7,v8,v9,v10,v11,v12,v13,v14,v15,v16,v17,v18,v19,v20,v21,v22,xs,⟨⟩⟩ hw hn
  exact FS (mkM v1 v2 v3 v4 v5 v6 v7 v8 v9 v10 v11 v12 v13 v14 v15 v16 v17 v18 v19 v20 v21 v22 xs) (hn _ List.mem_cons_self) (hn _ (List.mem_cons_of_mem _ List.mem_cons_self))
noncomputable def lpAw:Lp:=(⟨3,an [iP] Tryz.f293,(fun _=>none),(aE Tryz.f293 0),qAw,xAw⟩:Lp)
theorem J4 (s:Int) (i:Int) (v1:ByteArray) (v2:Int) (v3:Int) (v4:Int) (v5:Int) (v6:Int) (v7:Int) (v8:Int) (v9:Bool) (v10:Int) (v11:Int) (v12:Int) (v13:Int) (v14:List Phase) (v15:Int) (v16:Int) (v17:Bool) (v18:Int) (v19:Int) (v20:Int) (v21:Int) (v22:Int) (xs:List Innings) (hi:tg (s,i,v1,v2,v3,v4,v5,v6,v7,v8,v9,v10,v11,v12,v13,v14,v15,v16,v17,v18,v19,v20,v21,v22,xs,())) :(Go.Mir.stepG lpAw jZ (fun y:Den (tyP lpAw.q)=>tg y∧CH y<CH (s,i,v1,v2,v3,v4,v5,v6,v7,v8,v9,v10,v11,v12,v13,v14,v15,v16,v17,v18,v19,v20,v21,v22,xs,())) (s,i,v1,v2,v3,v4,v5,v6,v7,v8,v9,v10,v11,v12,v13,v14,v15,v16,v17,v18,v19,v20,v21,v22,xs,())∧Go.Mir.stepE lpAw jZ (s,i,v1,v2,v3,v4,v5,v6,v7,v8,v9,v10,v11,v12,v13,v14,v15,v16,v17,v18,v19,v20,v21,v22,xs,())=jZ (s,i,v1,v2,v3,v4,v5,v6,v7,v8,v9,v10,v11,v12,v13,v14,v15,v16,v17,v18,v19,v20,v21,v22,xs,())):=by
 refine cast (by kernel_rfl) (?_:let r1:Bool:=decide (i≥(0:Int));let r2:Bool:=(xs.getD i.toNat (dflt (Ty.nm Nm.Innings))).1==s;((r1=true→((0:Int)≤i∧i <(↑xs.length:Int))∧(r2=true→((0:Int)≤i∧i <(↑xs.length:Int))∧ah (xs.getD i.toNat (dflt (Ty.nm Nm.Innings)))∧((0:Int)≤i∧i <(↑xs.length:Int))∧True)∧(r2=false→tg (s,IntKind.i64.wrap (i - (1:Int)),v1,v2,v3,v4,v5,v6,v7,v8,v9,v10,v11,v12,v13,v14,v15,v16,v17,v18,v19,v20,v21,v22,xs,())∧CH (s,IntKind.i64.wrap (i - (1:Int)),v1,v2,v3,v4,v5,v6,v7,v8,v9,v10,v11,v12,v13,v14,v15,v16,v17,v18,v19,v20,v21,v22,xs,())<CH (s,i,v1,v2,v3,v4,v5,v6,v7,v8,v9,v10,v11,v12,v13,v14,v15,v16,v17,v18,v19,v20,v21,v22,xs,())))∧(r1=false→True))∧(bif r1 then bif r2 then Sum.inl (v1,v2,v3,v4,v5,v6,v7,v8,v9,v10,v11,v12,v13,v14,v15,v16,v17,v18,v19,v20,v21,v22,xs.set i.toNat (Innings.mk (xs.getD i.toNat (dflt (Ty.nm Nm.Innings))).1 (xs.getD i.toNat (dflt (Ty.nm Nm.Innings))).2 (xs.getD i.toNat (dflt (Ty.nm Nm.Innings))).3 (W ((xs.getD i.toNat (dflt (Ty.nm Nm.Innings))).4 +(5:Int))) (xs.getD i.toNat (dflt (Ty.nm Nm.Innings))).5 (Extras.mk (xs.getD i.toNat (dflt (Ty.nm Nm.Innings))).6.1 (xs.getD i.toNat (dflt (Ty.nm Nm.Innings))).6.2 (xs.getD i.toNat (dflt (Ty.nm Nm.Innings))).6.3 (xs.getD i.toNat (dflt (Ty.nm Nm.Innings))).6.4 (W ((xs.getD i.toNat (dflt (Ty.nm Nm.Innings))).6.5 +(5:Int)))) (xs.getD i.toNat (dflt (Ty.nm Nm.Innings))).7 (xs.getD i.toNat (dflt (Ty.nm Nm.Innings))).8 (xs.getD i.toNat (dflt (Ty.nm Nm.Innings))).9 (xs.getD i.toNat (dflt (Ty.nm Nm.Innings))).10 (xs.getD i.toNat (dflt (Ty.nm Nm.Innings))).11 (xs.getD i.toNat (dflt (Ty.nm Nm.Innings))).12 (xs.getD i.toNat (dflt (Ty.nm Nm.Innings))).13 (xs.getD i.toNat (dflt (Ty.nm Nm.Innings))).14 (xs.getD i.toNat (dflt (Ty.nm Nm.Innings))).15 (xs.getD i.toNat (dflt (Ty.nm Nm.Innings))).16 (xs.getD i.toNat (dflt (Ty.nm Nm.Innings))).17 (xs.getD i.toNat (dflt (Ty.nm Nm.Innings))).18 (xs.getD i.toNat (dflt (Ty.nm Nm.Innings))).19 (xs.getD i.toNat (dflt (Ty.nm Nm.Innings))).20 (xs.getD i.toNat (dflt (Ty.nm Nm.Innings))).21 (xs.getD i.toNat (dflt (Ty.nm Nm.Innings))).22 (xs.getD i.toNat (dflt (Ty.nm Nm.Innings))).23),()) else jZ (s,IntKind.i64.wrap (i - (1:Int)),v1,v2,v3,v4,v5,v6,v7,v8,v9,v10,v11,v12,v13,v14,v15,v16,v17,v18,v19,v20,v21,v22,xs,()) else Sum.inr (s,v1,v2,v3,v4,v5,v6,v7,v8,v9,v10,v11,v12,v13,v14,v15,v16,v17,v18,v19,v20,v21,v22,xs,()))=jZ (s,i,v1,v2,v3,v4,v5,v6,v7,v8,v9,v10,v11,v12,v13,v14,v15,v16,v17,v18,v19,v20,v21,v22,xs,()))
 intro r1 r2
 clear_value (hr1:r1=_) (hr2:r2=_)
 obtain ⟨⟨h1,h2,h3⟩,hs⟩:=hi
 simp only at h1 h2 h3 hs
 refine ⟨⟨fun h=>?_,fun _=>trivial⟩,?_⟩
 ·have h:i≥0:=of_decide_eq_true (by rw [←hr1];exact h)
  have hl:i.toNat<xs.length:=by omega
  refine ⟨⟨h,by omega⟩,fun _=>⟨⟨h,by omega⟩,hs _ (iK hl _),⟨h,by omega⟩,trivial⟩,fun _=>?_⟩
  rw [bM (n:=i - 1) (by omega) (by omega)]
  exact ⟨⟨⟨by simp only;omega,by simp only;omega,h3⟩,hs⟩,by simp only [CH];omega⟩
 ·by_cases h:i≥0
  ·have e :(i+1).toNat=i.toNat+1:=by omega
   have eF:ib s xs (i+1).toNat=if r2 then some i.toNat else ib s xs i.toNat:=by rw [e,hr2];rfl
   rw [hr1,decide_eq_true h,cond_true]
   show _=tQ s _ (ib s xs (i+1).toNat)
   rw [eF]
   cases r2 with
   | true=>rfl
   | false=>
    rw [bM (n:=i - 1) (by omega) (by omega)]
    show tQ s _ (ib s xs (i - 1+1).toNat)=_
    rw [show (i - 1+1).toNat=i.toNat by omega]
    rfl
  ·have e :(i+1).toNat=0:=by omega
   rw [hr1,decide_eq_false h,cond_false]
   show _=tQ s _ (ib s xs (i+1).toNat)
   rw [e]
   rfl
noncomputable def IV:LoopSum:=bf lpAw jZ tg
noncomputable def IE:Nat:=rid (aE Tryz.f293 0)
theorem Jt:LoopOKp Tryz.prog 3 Tryz.f293.ntmps (aE Tryz.f293 0) (bf lpAw jZ tg):=
 bT lpAw (al (.consU mT rfl .nil) _) mixed (fun b hb S hS=>by cases hS) jZ tg CH (fun |⟨s,i,v1,v2,v3,v4,v5,v6,v7,v8,v9,v10,v11,v12,v13,v14,v15,v16,v17,v18,v19,v20,v21,v22,xs,⟨⟩⟩,hi=>J4 s i v1 v2 v3 v4 v5 v6 v7 v8 v9 v10 v11 v12 v13 v14 v15 v16 v17 v18 v19 v20 v21 v22 xs hi)
theorem Dr (m:Match) (s:Int) (hm:aI m) (hk:iG s) :(evPat (an [iP] Tryz.f293) (find [(IE,IV)]) Tryz.f293 qPI pd (s,m.Rules.Name,m.Rules.Side,m.Rules.Innings,m.Rules.Overs,m.Rules.Balls,m.Rules.Quota,m.Rules.Wide,m.Rules.NoBall,m.Rules.FreeHit,m.Rules.NewBall,m.Rules.FollowOn,m.Rules.Reviews,m.Rules.Outside,m.Rules.Power,m.Stage,m.First,m.Follow,m.Penalty.1,m.Penalty.2.1,m.Result.Win,m.Result.Side,m.Result.Margin,m.Innings,())).sat fun z_=>z_ =(AJ (s,m.Rules.Name,m.Rules.Side,m.Rules.Innings,m.Rules.Overs,m.Rules.Balls,m.Rules.Quota,m.Rules.Wide,m.Rules.NoBall,m.Rules.FreeHit,m.Rules.NewBall,m.Rules.FollowOn,m.Rules.Reviews,m.Rules.Outside,m.Rules.Power,m.Stage,m.First,m.Follow,m.Penalty.1,m.Penalty.2.1,m.Result.Win,m.Result.Side,m.Result.Margin,m.Innings,())).2:=by
 refine cast (by kernel_rfl) (?_:let r1:Int:=IntKind.i64.wrap ((↑m.5.length:Int) - (1:Int));let r2:Bool:=isL (jZ (s,r1,m.1.1,m.1.2,m.1.3,m.1.4,m.1.5,m.1.6,m.1.7,m.1.8,m.1.9,m.1.10,m.1.11,m.1.12,m.1.13,m.1.14,m.2,m.3,m.4,m.6.1,m.6.2.1,m.7.1,m.7.2,m.7.3,m.5,()));let r3:Int×ByteArray×Int×Int×Int×Int×Int×Int×Int×Bool×Int×Int×Int×Int×List Phase×Int×Int×Bool×Int×Int×Int×Int×Int×List Innings×PUnit:=zD (dflt (I.prod (Ty.str.prod (I.prod (I.prod (I.prod (I.prod (I.prod (I.prod (I.prod (Ty.bool.prod (I.prod (I.prod (I.prod (I.prod ((Ty.nm Nm.Phase).slice.prod (U8.prod (I.prod (Ty.bool.prod (I.prod (I.prod (U8.prod (I.prod (I.prod ((Ty.nm Nm.Innings).slice.prod Ty.unit))))))))))))))))))))))))) (jZ (s,r1,m.1.1,m.1.2,m.1.3,m.1.4,m.1.5,m.1.6,m.1.7,m.1.8,m.1.9,m.1.10,m.1.11,m.1.12,m.1.13,m.1.14,m.2,m.3,m.4,m.6.1,m.6.2.1,m.7.1,m.7.2,m.7.3,m.5,()));let r4:Int:=IntKind.i64.wrap (r3.1 - (1:Int));let r5:Bool:=r4 ==(0:Int);let r6:Bool:=r4 ==(1:Int);((fh fun x=>none)∧((-1:Int)≤r1∧r1 <(↑m.5.length:Int)∧m.5.length≤(1000000:Nat))∧fo m.5)∧(r2=true→nU (dflt (Ty.str.prod (I.prod (I.prod (I.prod (I.prod (I.prod (I.prod (I.prod (Ty.bool.prod (I.prod (I.prod (I.prod (I.prod ((Ty.nm Nm.Phase).slice.prod (U8.prod (I.prod (Ty.bool.prod (I.prod (I.prod (U8.prod (I.prod (I.prod ((Ty.nm Nm.Innings).slice.prod Ty.unit)))))))))))))))))))))))) (jZ (s,r1,m.1.1,m.1.2,m.1.3,m.1.4,m.1.5,m.1.6,m.1.7,m.1.8,m.1.9,m.1.10,m.1.11,m.1.12,m.1.13,m.1.14,m.2,m.3,m.4,m.6.1,m.6.2.1,m.7.1,m.7.2,m.7.3,m.5,())) =((aq m s).1.1,(aq m s).1.2,(aq m s).1.3,(aq m s).1.4,(aq m s).1.5,(aq m s).1.6,(aq m s).1.7,(aq m s).1.8,(aq m s).1.9,(aq m s).1.10,(aq m s).1.11,(aq m s).1.12,(aq m s).1.13,(aq m s).1.14,(aq m s).2,(aq m s).3,(aq m s).4,(aq m s).6.1,(aq m s).6.2.1,(aq m s).7.1,(aq m s).7.2,(aq m s).7.3,(aq m s).5,()))∧(r2=false→(r5=true→((0:Int)≤(0:Int)∧(0:Int) <(↑(2:Nat):Int))∧((0:Int)≤(0:Int)∧(0:Int) <(↑(2:Nat):Int))∧(r3.2.1,r3.2.2.1,r3.2.2.2.1,r3.2.2.2.2.1,r3.2.2.2.2.2.1,r3.2.2.2.2.2.2.1,r3.2.2.2.2.2.2.2.1,r3.2.2.2.2.2.2.2.2.1,r3.2.2.2.2.2.2.2.2.2.1,r3.2.2.2.2.2.2.2.2.2.2.1,r3.2.2.2.2.2.2.2.2.2.2.2.1,r3.2.2.2.2.2.2.2.2.2.2.2.2.1,r3.2.2.2.2.2.2.2.2.2.2.2.2.2.1,r3.2.2.2.2.2.2.2.2.2.2.2.2.2.2.1,r3.2.2.2.2.2.2.2.2.2.2.2.2.2.2.2.1,r3.2.2.2.2.2.2.2.2.2.2.2.2.2.2.2.2.1,r3.2.2.2.2.2.2.2.2.2.2.2.2.2.2.2.2.2.1,IntKind.i64.wrap (r3.2.2.2.2.2.2.2.2.2.2.2.2.2.2.2.2.2.2.1 +(5:Int)),r3.2.2.2.2.2.2.2.2.2.2.2.2.2.2.2.2.2.2.2) =((aq m s).1.1,(aq m s).1.2,(aq m s).1.3,(aq m s).1.4,(aq m s).1.5,(aq m s).1.6,(aq m s).1.7,(aq m s).1.8,(aq m s).1.9,(aq m s).1.10,(aq m s).1.11,(aq m s).1.12,(aq m s).1.13,(aq m s).1.14,(aq m s).2,(aq m s).3,(aq m s).4,(aq m s).6.1,(aq m s).6.2.1,(aq m s).7.1,(aq m s).7.2,(aq m s).7.3,(aq m s).5,()))∧(r5=false→(r6=true→((0:Int)≤(1:Int)∧(1:Int) <(↑(2:Nat):Int))∧((0:Int)≤(1:Int)∧(1:Int) <(↑(2:Nat):Int))∧(r3.2.1,r3.2.2.1,r3.2.2.2.1,r3.2.2.2.2.1,r3.2.2.2.2.2.1,r3.2.2.2.2.2.2.1,r3.2.2.2.2.2.2.2.1,r3.2.2.2.2.2.2.2.2.1,r3.2.2.2.2.2.2.2.2.2.1,r3.2.2.2.2.2.2.2.2.2.2.1,r3.2.2.2.2.2.2.2.2.2.2.2.1,r3.2.2.2.2.2.2.2.2.2.2.2.2.1,r3.2.2.2.2.2.2.2.2.2.2.2.2.2.1,r3.2.2.2.2.2.2.2.2.2.2.2.2.2.2.1,r3.2.2.2.2.2.2.2.2.2.2.2.2.2.2.2.1,r3.2.2.2.2.2.2.2.2.2.2.2.2.2.2.2.2.1,r3.2.2.2.2.2.2.2.2.2.2.2.2.2.2.2.2.2.1,r3.2.2.2.2.2.2.2.2.2.2.2.2.2.2.2.2.2.2.1,IntKind.i64.wrap (r3.2.2.2.2.2.2.2.2.2.2.2.2.2.2.2.2.2.2.2.1 +(5:Int)),r3.2.2.2.2.2.2.2.2.2.2.2.2.2.2.2.2.2.2.2.2) =((aq m s).1.1,(aq m s).1.2,(aq m s).1.3,(aq m s).1.4,(aq m s).1.5,(aq m s).1.6,(aq m s).1.7,(aq m s).1.8,(aq m s).1.9,(aq m s).1.10,(aq m s).1.11,(aq m s).1.12,(aq m s).1.13,(aq m s).1.14,(aq m s).2,(aq m s).3,(aq m s).4,(aq m s).6.1,(aq m s).6.2.1,(aq m s).7.1,(aq m s).7.2,(aq m s).7.3,(aq m s).5,()))∧(r6=false→False∧True))))
 intro r1 r2 r3 r4 r5 r6
 clear_value (hr1:r1=_) (hr2:r2=_) (hr3:r3=_) (hr4:r4=_) (hr5:r5=_) (hr6:r6=_)
 have hx:=hm.2.1
 have e0:r1 =(m.Innings.length:Int) - 1:=by rw [hr1];exact bM (by omega) (by omega)
 have er:jZ (s,r1,m.Rules.Name,m.Rules.Side,m.Rules.Innings,m.Rules.Overs,m.Rules.Balls,m.Rules.Quota,m.Rules.Wide,m.Rules.NoBall,m.Rules.FreeHit,m.Rules.NewBall,m.Rules.FollowOn,m.Rules.Reviews,m.Rules.Outside,m.Rules.Power,m.Stage,m.First,m.Follow,m.Penalty.1,m.Penalty.2.1,m.Result.Win,m.Result.Side,m.Result.Margin,m.Innings,())=tQ s (m.Rules.Name,m.Rules.Side,m.Rules.Innings,m.Rules.Overs,m.Rules.Balls,m.Rules.Quota,m.Rules.Wide,m.Rules.NoBall,m.Rules.FreeHit,m.Rules.NewBall,m.Rules.FollowOn,m.Rules.Reviews,m.Rules.Outside,m.Rules.Power,m.Stage,m.First,m.Follow,m.Penalty.1,m.Penalty.2.1,m.Result.Win,m.Result.Side,m.Result.Margin,m.Innings,()) (ib s m.Innings m.Innings.length):=by
  show tQ s _ (ib s m.Innings (r1+1).toNat)=_
  rw [show (r1+1).toNat=m.Innings.length by omega]
 rw [er] at hr2 hr3 ⊢
 refine ⟨⟨rfl,⟨by omega,by omega,hx⟩,hm.1⟩,?_⟩
 clear er e0 hr1
 cases hF:ib s m.Innings m.Innings.length with
 | none=>
  rw [hF] at hr2 hr3
  have e2:r2=false:=hr2
  have e3:r3 =(s,m.Rules.Name,m.Rules.Side,m.Rules.Innings,m.Rules.Overs,m.Rules.Balls,m.Rules.Quota,m.Rules.Wide,m.Rules.NoBall,m.Rules.FreeHit,m.Rules.NewBall,m.Rules.FollowOn,m.Rules.Reviews,m.Rules.Outside,m.Rules.Power,m.Stage,m.First,m.Follow,m.Penalty.1,m.Penalty.2.1,m.Result.Win,m.Result.Side,m.Result.Margin,m.Innings,()):=hr3
  have ea:aq m s=DP m s:=by unfold aq;rw [hF];rfl
  subst e2 e3
  rw [ea]
  refine ⟨fun h=>Bool.noConfusion h,fun _=>?_⟩
  rcases hk with rfl|rfl
  ·have e5:r5=true:=by rw [hr5,hr4];rfl
   subst e5
   exact ⟨fun _=>⟨by decide,by decide,rfl⟩,fun h=>Bool.noConfusion h⟩
  ·have e5:r5=false:=by rw [hr5,hr4];rfl
   have e6:r6=true:=by rw [hr6,hr4];rfl
   subst e5 e6
   exact ⟨fun h=>Bool.noConfusion h,fun _=>⟨fun _=>⟨by decide,by decide,rfl⟩,fun h=>Bool.noConfusion h⟩⟩
 | some k=>
  rw [hF] at hr2
  have e2:r2=true:=hr2
  have ea:aq m s=DB m k (Ah (m.Innings.getD k Innings.zero)):=by unfold aq;rw [hF];rfl
  subst e2
  rw [ea]
  exact ⟨fun _=>rfl,fun h=>Bool.noConfusion h⟩
def BI:FuncId×Ctr:=(293,af KE qPI pd AJ)
theorem E7:CtrOK Tryz.prog KE 293 (af KE qPI pd AJ):=by
 refine ax (C:=an [iP] Tryz.f293) (al (.consU mT rfl .nil) _) mixed (fn:=Tryz.f293) Tryz.func293 (by kernel_rfl) (by kernel_rfl) (by kernel_rfl) (by kernel_rfl) (by kernel_rfl) (by kernel_rfl) (Λ:=fun x=>find [(IE,IV)]) ?_ ?_
 ·rintro ⟨s,v1,v2,v3,v4,v5,v6,v7,v8,v9,v10,v11,v12,v13,v14,v15,v16,v17,v18,v19,v20,v21,v22,xs,⟨⟩⟩ hw hn
  exact LoopsOKp.at (by kernel_rfl) (.cons (by kernel_rfl) (Jt) .nil)
 ·rintro ⟨s,v1,v2,v3,v4,v5,v6,v7,v8,v9,v10,v11,v12,v13,v14,v15,v16,v17,v18,v19,v20,v21,v22,xs,⟨⟩⟩ hw hn
  exact Dr (mkM v1 v2 v3 v4 v5 v6 v7 v8 v9 v10 v11 v12 v13 v14 v15 v16 v17 v18 v19 v20 v21 v22 xs) s (hn _ List.mem_cons_self) (hn _ (List.mem_cons_of_mem _ List.mem_cons_self))
theorem oo (m:Match) (hm:aI m) (ho:hZ m) :(evPat (an [lN,fz,tE] Tryz.f136) (fun _=>none) Tryz.f136 qPM pd (m.Rules.Name,m.Rules.Side,m.Rules.Innings,m.Rules.Overs,m.Rules.Balls,m.Rules.Quota,m.Rules.Wide,m.Rules.NoBall,m.Rules.FreeHit,m.Rules.NewBall,m.Rules.FollowOn,m.Rules.Reviews,m.Rules.Outside,m.Rules.Power,m.Stage,m.First,m.Follow,m.Penalty.1,m.Penalty.2.1,m.Result.Win,m.Result.Side,m.Result.Margin,m.Innings,())).sat fun z_=>z_ =(AN (m.Rules.Name,m.Rules.Side,m.Rules.Innings,m.Rules.Overs,m.Rules.Balls,m.Rules.Quota,m.Rules.Wide,m.Rules.NoBall,m.Rules.FreeHit,m.Rules.NewBall,m.Rules.FollowOn,m.Rules.Reviews,m.Rules.Outside,m.Rules.Power,m.Stage,m.First,m.Follow,m.Penalty.1,m.Penalty.2.1,m.Result.Win,m.Result.Side,m.Result.Margin,m.Innings,())).2:=by
 refine cast (by kernel_rfl) (?_:let r1:Match:=Match.mk m.1 (2:Int) m.3 m.4 m.5 m.6 m.7;let r2:Match:=Match.mk m.1 (5:Int) m.3 m.4 m.5 m.6 m.7;let r3:Int:=IntKind.i64.wrap (ki m m.3 - ki m (dk m.3));let r4:Mir.Result:=ch r2;let r5:Int:=IntKind.i64.wrap ((↑m.5.length:Int) - (1:Int));let r6:Bool:=(↑m.5.length:Int)==IntKind.i64.wrap ((2:Int)*m.1.3);let r7:Innings:=m.5.getD r5.toNat (dflt (Ty.nm Nm.Innings));let r8:Int:=ki r1 r7.1;let r9:Int:=ki r1 (dk r7.1);let r10:Bool:=bif m.2 !=(3:Int) then true else r7.23 ==(0:Int);let r11:Bool:=bif (↑m.5.length:Int) ==(2:Int) then bif decide (m.1.11 >(0:Int)) then decide (r3≥m.1.11) else false else false;let r12:Bool:=bif r6 then r6 else bif (↑m.5.length:Int) ==(3:Int) then decide (r8<r9) else false;(((m.2 !=(3:Int))=true→True)∧((m.2 !=(3:Int))=false→((0:Int)≤r5∧r5 <(↑m.5.length:Int))∧True))∧(true=true→(r10=true→(m.1.1,m.1.2,m.1.3,m.1.4,m.1.5,m.1.6,m.1.7,m.1.8,m.1.9,m.1.10,m.1.11,m.1.12,m.1.13,m.1.14,m.2,m.3,m.4,m.6.1,m.6.2.1,m.7.1,m.7.2,m.7.3,m.5,()) =((ak m).1.1,(ak m).1.2,(ak m).1.3,(ak m).1.4,(ak m).1.5,(ak m).1.6,(ak m).1.7,(ak m).1.8,(ak m).1.9,(ak m).1.10,(ak m).1.11,(ak m).1.12,(ak m).1.13,(ak m).1.14,(ak m).2,(ak m).3,(ak m).4,(ak m).6.1,(ak m).6.2.1,(ak m).7.1,(ak m).7.2,(ak m).7.3,(ak m).5,()))∧(r10=false→((0:Int)≤r5∧r5 <(↑m.5.length:Int))∧(r12=true→iH r2∧(m.1.1,m.1.2,m.1.3,m.1.4,m.1.5,m.1.6,m.1.7,m.1.8,m.1.9,m.1.10,m.1.11,m.1.12,m.1.13,m.1.14,(5:Int),m.3,m.4,m.6.1,m.6.2.1,r4.1,r4.2,r4.3,m.5,()) =((ak m).1.1,(ak m).1.2,(ak m).1.3,(ak m).1.4,(ak m).1.5,(ak m).1.6,(ak m).1.7,(ak m).1.8,(ak m).1.9,(ak m).1.10,(ak m).1.11,(ak m).1.12,(ak m).1.13,(ak m).1.14,(ak m).2,(ak m).3,(ak m).4,(ak m).6.1,(ak m).6.2.1,(ak m).7.1,(ak m).7.2,(ak m).7.3,(ak m).5,()))∧(r12=false→(r11=true→(m.1.1,m.1.2,m.1.3,m.1.4,m.1.5,m.1.6,m.1.7,m.1.8,m.1.9,m.1.10,m.1.11,m.1.12,m.1.13,m.1.14,(4:Int),m.3,m.4,m.6.1,m.6.2.1,m.7.1,m.7.2,m.7.3,m.5,()) =((ak m).1.1,(ak m).1.2,(ak m).1.3,(ak m).1.4,(ak m).1.5,(ak m).1.6,(ak m).1.7,(ak m).1.8,(ak m).1.9,(ak m).1.10,(ak m).1.11,(ak m).1.12,(ak m).1.13,(ak m).1.14,(ak m).2,(ak m).3,(ak m).4,(ak m).6.1,(ak m).6.2.1,(ak m).7.1,(ak m).7.2,(ak m).7.3,(ak m).5,()))∧(r11=false→(m.1.1,m.1.2,m.1.3,m.1.4,m.1.5,m.1.6,m.1.7,m.1.8,m.1.9,m.1.10,m.1.11,m.1.12,m.1.13,m.1.14,(2:Int),m.3,m.4,m.6.1,m.6.2.1,m.7.1,m.7.2,m.7.3,m.5,()) =((ak m).1.1,(ak m).1.2,(ak m).1.3,(ak m).1.4,(ak m).1.5,(ak m).1.6,(ak m).1.7,(ak m).1.8,(ak m).1.9,(ak m).1.10,(ak m).1.11,(ak m).1.12,(ak m).1.13,(ak m).1.14,(ak m).2,(ak m).3,(ak m).4,(ak m).6.1,(ak m).6.2.1,(ak m).7.1,(ak m).7.2,(ak m).7.3,(ak m).5,()))))))
 intro r1 r2 r3 r4 r5 r6 r7 r8 r9 r10 r11 r12
 clear_value (hr1:r1=_) (hr2:r2=_) (hr3:r3=_) (hr4:r4=_) (hr5:r5=_) (hr6:r6=_) (hr7:r7=_) (hr8:r8=_) (hr9:r9=_) (hr10:r10=_) (hr11:r11=_) (hr12:r12=_)
 have hx:=hm.2.1
 have k7:m.Stage=3→(0≤r5∧r5 <(m.Innings.length:Int))∧r7=dM m:=fun h=>by
  have h0:=ho h
  have e0:r5 =(m.Innings.length:Int) - 1:=by rw [hr5];exact bM (by omega) (by omega)
  refine ⟨⟨by omega,by omega⟩,?_⟩
  rw [hr7,show r5.toNat=m.Innings.length - 1 by omega];rfl
 have e10:r10 =(m.Stage != 3 ||(dM m).Ending==0):=by
  cases h:m.Stage != 3 with
  | true=>rw [hr10,h];rfl
  | false=>rw [hr10,h,(k7 (by simpa using h)).2];rfl
 refine ⟨⟨fun _=>trivial,fun h=>⟨(k7 (by simpa using h)).1,trivial⟩⟩,fun _=>⟨fun a=>?_,fun a=>?_⟩⟩
 ·have:ak m=m:=by unfold ak;rw [←e10,a];rfl
  rw [this]
 ·have h3:m.Stage=3:=by
   rw [e10] at a
   simp only [Bool.or_eq_false_iff] at a
   simpa using a.1
  obtain ⟨hb,e7⟩:=k7 h3
  have e6:r6=s8 m:=hr6
  have e12:r12 =(s8 m||lB m):=by
   rw [hr12,e6];unfold lB;rw [hr8,hr9,hr1,e7]
   cases s8 m <;> cases (m.Innings.length:Int)==3 <;> rfl
  have e11:r11=uC m:=by
   rw [hr11,hr3];unfold uC Ix
   cases (m.Innings.length:Int)==2 <;> cases decide (m.Rules.FollowOn>0) <;> rfl
  have hC:ak m=if r12 then Im m else if r11 then rS m 4 else rS m 2:=by unfold ak;rw [←e10,a,←e12,←e11];rfl
  rw [hC]
  refine ⟨hb,fun b=>⟨by rw [hr2];exact hm.1,?_⟩,fun b=>⟨fun c=>?_,fun c=>?_⟩⟩
  ·rw [b,hr4,hr2];rfl
  ·rw [b,c];rfl
  ·rw [b,c];rfl
def kO:FuncId×Ctr:=(136,af KE qPM pd AN)
theorem o0:CtrOK Tryz.prog KE 136 (af KE qPM pd AN):=by
 refine ax (C:=an [lN,fz,tE] Tryz.f136) (al (.consU q9 rfl (.consU kY rfl (.consU Ab rfl .nil))) _) mixed (fn:=Tryz.f136) Tryz.func136 (by kernel_rfl) (by kernel_rfl) (by kernel_rfl) (by kernel_rfl) (by kernel_rfl) (by kernel_rfl) (Λ:=fun _ _=>none) ?_ ?_
 ·exact fun _ _ _ _ _ _ _ _ h=>by cases h
 ·rintro ⟨v1,v2,v3,v4,v5,v6,v7,v8,v9,v10,v11,v12,v13,v14,v15,v16,v17,v18,v19,v20,v21,v22,xs,⟨⟩⟩ hw hn
  exact oo (mkM v1 v2 v3 v4 v5 v6 v7 v8 v9 v10 v11 v12 v13 v14 v15 v16 v17 v18 v19 v20 v21 v22 xs) (hn _ List.mem_cons_self) (hn _ (List.mem_cons_of_mem _ List.mem_cons_self))
end Go.Proofs.YthaeofeigglbhaaGreatDoor
namespace Go.Proofs.YthaeofeigglbhaaGreatDoor
open Go Go.Mir
attribute [local irreducible] Go.Mir.DT.sat Go.Mir.evPat Go.Mir.RT.sat Go.Mir.evFn
abbrev Lt:List (Nat×PB):= [(0,.cells (zj (.c (.osl 1 3)))),(1,.row 3 (.nm .Innings))]
abbrev qPE:Pat:=⟨[(0,.c (.ptr 0 0)),(1,.h (.nm .Event))],xE,3⟩
abbrev qPL:Pat:=⟨[(0,.h I)],xE,3⟩
abbrev yy:Pat:=⟨[(0,.h I)],Lt,4⟩
def AW:Den (tyP qPE)→List Prop×Den (tyP yy):=fun x=>([aI (mkX x.2),aM (mkX x.2)=true],(bd (mkX x.2) x.1,(ab (mkX x.2) x.1).Rules.Name,(ab (mkX x.2) x.1).Rules.Side,(ab (mkX x.2) x.1).Rules.Innings,(ab (mkX x.2) x.1).Rules.Overs,(ab (mkX x.2) x.1).Rules.Balls,(ab (mkX x.2) x.1).Rules.Quota,(ab (mkX x.2) x.1).Rules.Wide,(ab (mkX x.2) x.1).Rules.NoBall,(ab (mkX x.2) x.1).Rules.FreeHit,(ab (mkX x.2) x.1).Rules.NewBall,(ab (mkX x.2) x.1).Rules.FollowOn,(ab (mkX x.2) x.1).Rules.Reviews,(ab (mkX x.2) x.1).Rules.Outside,(ab (mkX x.2) x.1).Rules.Power,(ab (mkX x.2) x.1).Stage,(ab (mkX x.2) x.1).First,(ab (mkX x.2) x.1).Follow,(ab (mkX x.2) x.1).Penalty.1,(ab (mkX x.2) x.1).Penalty.2.1,(ab (mkX x.2) x.1).Result.Win,(ab (mkX x.2) x.1).Result.Side,(ab (mkX x.2) x.1).Result.Margin,(ab (mkX x.2) x.1).Innings,()))
def AZ:Den (tyP qPE)→List Prop×Den (tyP qPL):=fun x=>([aI (mkX x.2),aM (mkX x.2)=true,bc x.1=0],(dZ (mkX x.2) x.1,(aj (mkX x.2) x.1).Rules.Name,(aj (mkX x.2) x.1).Rules.Side,(aj (mkX x.2) x.1).Rules.Innings,(aj (mkX x.2) x.1).Rules.Overs,(aj (mkX x.2) x.1).Rules.Balls,(aj (mkX x.2) x.1).Rules.Quota,(aj (mkX x.2) x.1).Rules.Wide,(aj (mkX x.2) x.1).Rules.NoBall,(aj (mkX x.2) x.1).Rules.FreeHit,(aj (mkX x.2) x.1).Rules.NewBall,(aj (mkX x.2) x.1).Rules.FollowOn,(aj (mkX x.2) x.1).Rules.Reviews,(aj (mkX x.2) x.1).Rules.Outside,(aj (mkX x.2) x.1).Rules.Power,(aj (mkX x.2) x.1).Stage,(aj (mkX x.2) x.1).First,(aj (mkX x.2) x.1).Follow,(aj (mkX x.2) x.1).Penalty.1,(aj (mkX x.2) x.1).Penalty.2.1,(aj (mkX x.2) x.1).Result.Win,(aj (mkX x.2) x.1).Result.Side,(aj (mkX x.2) x.1).Result.Margin,(aj (mkX x.2) x.1).Innings,()))
def AY:Den (tyP qPE)→List Prop×Den (tyP yy):=fun x=>([aI (mkX x.2),aM (mkX x.2)=true,bc x.1=0],(bl (mkX x.2) x.1,(ag (mkX x.2) x.1).Rules.Name,(ag (mkX x.2) x.1).Rules.Side,(ag (mkX x.2) x.1).Rules.Innings,(ag (mkX x.2) x.1).Rules.Overs,(ag (mkX x.2) x.1).Rules.Balls,(ag (mkX x.2) x.1).Rules.Quota,(ag (mkX x.2) x.1).Rules.Wide,(ag (mkX x.2) x.1).Rules.NoBall,(ag (mkX x.2) x.1).Rules.FreeHit,(ag (mkX x.2) x.1).Rules.NewBall,(ag (mkX x.2) x.1).Rules.FollowOn,(ag (mkX x.2) x.1).Rules.Reviews,(ag (mkX x.2) x.1).Rules.Outside,(ag (mkX x.2) x.1).Rules.Power,(ag (mkX x.2) x.1).Stage,(ag (mkX x.2) x.1).First,(ag (mkX x.2) x.1).Follow,(ag (mkX x.2) x.1).Penalty.1,(ag (mkX x.2) x.1).Penalty.2.1,(ag (mkX x.2) x.1).Result.Win,(ag (mkX x.2) x.1).Result.Side,(ag (mkX x.2) x.1).Result.Margin,(ag (mkX x.2) x.1).Innings,()))
theorem D8 {e:Mir.Event} (h:bc e=0) (hu:uf e.Kind=true):iG e.Side:=by
 cases hs:inW e.Side 1 2 with
 | true=>simp only [inW,Bool.and_eq_true,decide_eq_true_eq] at hs;unfold iG;omega
 | false=>
  unfold bc at h
  simp only [hu,hs] at h
  exfalso
  revert h
  repeat' split
  all_goals first |(intro h;exact absurd h (by decide))|simp_all
theorem Fa {m:Match} {e:Mir.Event} (h :(bd m e != 0)=true):ab m e=m:=by simp only [ab,h,if_true]
theorem Ff {m:Match} {e:Mir.Event} (h :(dZ m e != 0)=true):aj m e=m:=by simp only [aj,h,if_true]
theorem FP (m:Match) (e:Mir.Event) (hm:aI m) (hv:aM m=true) :(evPat (an [vh,xP,BF,vg] Tryz.f216) (fun _=>none) Tryz.f216 qPE yy (e,m.Rules.Name,m.Rules.Side,m.Rules.Innings,m.Rules.Overs,m.Rules.Balls,m.Rules.Quota,m.Rules.Wide,m.Rules.NoBall,m.Rules.FreeHit,m.Rules.NewBall,m.Rules.FollowOn,m.Rules.Reviews,m.Rules.Outside,m.Rules.Power,m.Stage,m.First,m.Follow,m.Penalty.1,m.Penalty.2.1,m.Result.Win,m.Result.Side,m.Result.Margin,m.Innings,())).sat fun z_=>z_ =(AW (e,m.Rules.Name,m.Rules.Side,m.Rules.Innings,m.Rules.Overs,m.Rules.Balls,m.Rules.Quota,m.Rules.Wide,m.Rules.NoBall,m.Rules.FreeHit,m.Rules.NewBall,m.Rules.FollowOn,m.Rules.Reviews,m.Rules.Outside,m.Rules.Power,m.Stage,m.First,m.Follow,m.Penalty.1,m.Penalty.2.1,m.Result.Win,m.Result.Side,m.Result.Margin,m.Innings,())).2:=by
 refine cast (by kernel_rfl) (?_:let r1:Int:=IntKind.i64.wrap (cJ m (↑m.5.length:Int) - (1:Int));let r2:Innings:=my m.1 (cJ m (↑m.5.length:Int)) (fE m (cJ m (↑m.5.length:Int))) m.6.1;let r3:Innings:=my m.1 (cJ m (↑m.5.length:Int)) (fE m (cJ m (↑m.5.length:Int))) m.6.2.1;let r4:Int:=cL m.1 r2 e;let r5:Bool:=r1 ==(0:Int);let r6:Bool:=r1 ==(1:Int);let r7:Int:=cL m.1 r3 e;let r8:Bool:=l4 m.1 (cJ m (↑m.5.length:Int)) (fE m (cJ m (↑m.5.length:Int))) m.6.1 !=(0:Int);let r9:Bool:=l4 m.1 (cJ m (↑m.5.length:Int)) (fE m (cJ m (↑m.5.length:Int))) m.6.2.1 !=(0:Int);let r10:List Innings:= [dw m.1 r2 e];let r11:List Innings:= [dw m.1 r3 e];let r12:Bool:=r4 !=(0:Int);let r13:Bool:=r7 !=(0:Int);((m.2 !=(2:Int))=true→((1:Int),m.1.1,m.1.2,m.1.3,m.1.4,m.1.5,m.1.6,m.1.7,m.1.8,m.1.9,m.1.10,m.1.11,m.1.12,m.1.13,m.1.14,m.2,m.3,m.4,m.6.1,m.6.2.1,m.7.1,m.7.2,m.7.3,m.5,()) =(bd m e,(ab m e).1.1,(ab m e).1.2,(ab m e).1.3,(ab m e).1.4,(ab m e).1.5,(ab m e).1.6,(ab m e).1.7,(ab m e).1.8,(ab m e).1.9,(ab m e).1.10,(ab m e).1.11,(ab m e).1.12,(ab m e).1.13,(ab m e).1.14,(ab m e).2,(ab m e).3,(ab m e).4,(ab m e).6.1,(ab m e).6.2.1,(ab m e).7.1,(ab m e).7.2,(ab m e).7.3,(ab m e).5,()))∧((m.2 !=(2:Int))=false→(r5=true→((0:Int)≤(0:Int)∧(0:Int) <(↑(2:Nat):Int))∧(r8=true→((1:Int),m.1.1,m.1.2,m.1.3,m.1.4,m.1.5,m.1.6,m.1.7,m.1.8,m.1.9,m.1.10,m.1.11,m.1.12,m.1.13,m.1.14,m.2,m.3,m.4,m.6.1,m.6.2.1,m.7.1,m.7.2,m.7.3,m.5,()) =(bd m e,(ab m e).1.1,(ab m e).1.2,(ab m e).1.3,(ab m e).1.4,(ab m e).1.5,(ab m e).1.6,(ab m e).1.7,(ab m e).1.8,(ab m e).1.9,(ab m e).1.10,(ab m e).1.11,(ab m e).1.12,(ab m e).1.13,(ab m e).1.14,(ab m e).2,(ab m e).3,(ab m e).4,(ab m e).6.1,(ab m e).6.2.1,(ab m e).7.1,(ab m e).7.2,(ab m e).7.3,(ab m e).5,()))∧(r8=false→ah r2∧(r12=true→(r4,m.1.1,m.1.2,m.1.3,m.1.4,m.1.5,m.1.6,m.1.7,m.1.8,m.1.9,m.1.10,m.1.11,m.1.12,m.1.13,m.1.14,m.2,m.3,m.4,m.6.1,m.6.2.1,m.7.1,m.7.2,m.7.3,m.5,()) =(bd m e,(ab m e).1.1,(ab m e).1.2,(ab m e).1.3,(ab m e).1.4,(ab m e).1.5,(ab m e).1.6,(ab m e).1.7,(ab m e).1.8,(ab m e).1.9,(ab m e).1.10,(ab m e).1.11,(ab m e).1.12,(ab m e).1.13,(ab m e).1.14,(ab m e).2,(ab m e).3,(ab m e).4,(ab m e).6.1,(ab m e).6.2.1,(ab m e).7.1,(ab m e).7.2,(ab m e).7.3,(ab m e).5,()))∧(r12=false→(r5=true→((0:Int)≤(0:Int)∧(0:Int) <(↑(2:Nat):Int))∧(m.5.length+r10.length) *(304:Nat)≤(70368744177664:Nat)∧((0:Int),m.1.1,m.1.2,m.1.3,m.1.4,m.1.5,m.1.6,m.1.7,m.1.8,m.1.9,m.1.10,m.1.11,m.1.12,m.1.13,m.1.14,(3:Int),m.3,m.4,(0:Int),m.6.2.1,m.7.1,m.7.2,m.7.3,m.5++r10,()) =(bd m e,(ab m e).1.1,(ab m e).1.2,(ab m e).1.3,(ab m e).1.4,(ab m e).1.5,(ab m e).1.6,(ab m e).1.7,(ab m e).1.8,(ab m e).1.9,(ab m e).1.10,(ab m e).1.11,(ab m e).1.12,(ab m e).1.13,(ab m e).1.14,(ab m e).2,(ab m e).3,(ab m e).4,(ab m e).6.1,(ab m e).6.2.1,(ab m e).7.1,(ab m e).7.2,(ab m e).7.3,(ab m e).5,()))∧(r5=false→(r6=true→((0:Int)≤(1:Int)∧(1:Int) <(↑(2:Nat):Int))∧(m.5.length+r10.length) *(304:Nat)≤(70368744177664:Nat)∧((0:Int),m.1.1,m.1.2,m.1.3,m.1.4,m.1.5,m.1.6,m.1.7,m.1.8,m.1.9,m.1.10,m.1.11,m.1.12,m.1.13,m.1.14,(3:Int),m.3,m.4,m.6.1,(0:Int),m.7.1,m.7.2,m.7.3,m.5++r10,()) =(bd m e,(ab m e).1.1,(ab m e).1.2,(ab m e).1.3,(ab m e).1.4,(ab m e).1.5,(ab m e).1.6,(ab m e).1.7,(ab m e).1.8,(ab m e).1.9,(ab m e).1.10,(ab m e).1.11,(ab m e).1.12,(ab m e).1.13,(ab m e).1.14,(ab m e).2,(ab m e).3,(ab m e).4,(ab m e).6.1,(ab m e).6.2.1,(ab m e).7.1,(ab m e).7.2,(ab m e).7.3,(ab m e).5,()))∧(r6=false→False∧True)))))∧(r5=false→(r6=true→((0:Int)≤(1:Int)∧(1:Int) <(↑(2:Nat):Int))∧(r9=true→((1:Int),m.1.1,m.1.2,m.1.3,m.1.4,m.1.5,m.1.6,m.1.7,m.1.8,m.1.9,m.1.10,m.1.11,m.1.12,m.1.13,m.1.14,m.2,m.3,m.4,m.6.1,m.6.2.1,m.7.1,m.7.2,m.7.3,m.5,()) =(bd m e,(ab m e).1.1,(ab m e).1.2,(ab m e).1.3,(ab m e).1.4,(ab m e).1.5,(ab m e).1.6,(ab m e).1.7,(ab m e).1.8,(ab m e).1.9,(ab m e).1.10,(ab m e).1.11,(ab m e).1.12,(ab m e).1.13,(ab m e).1.14,(ab m e).2,(ab m e).3,(ab m e).4,(ab m e).6.1,(ab m e).6.2.1,(ab m e).7.1,(ab m e).7.2,(ab m e).7.3,(ab m e).5,()))∧(r9=false→ah r3∧(r13=true→(r7,m.1.1,m.1.2,m.1.3,m.1.4,m.1.5,m.1.6,m.1.7,m.1.8,m.1.9,m.1.10,m.1.11,m.1.12,m.1.13,m.1.14,m.2,m.3,m.4,m.6.1,m.6.2.1,m.7.1,m.7.2,m.7.3,m.5,()) =(bd m e,(ab m e).1.1,(ab m e).1.2,(ab m e).1.3,(ab m e).1.4,(ab m e).1.5,(ab m e).1.6,(ab m e).1.7,(ab m e).1.8,(ab m e).1.9,(ab m e).1.10,(ab m e).1.11,(ab m e).1.12,(ab m e).1.13,(ab m e).1.14,(ab m e).2,(ab m e).3,(ab m e).4,(ab m e).6.1,(ab m e).6.2.1,(ab m e).7.1,(ab m e).7.2,(ab m e).7.3,(ab m e).5,()))∧(r13=false→(r5=true→((0:Int)≤(0:Int)∧(0:Int) <(↑(2:Nat):Int))∧(m.5.length+r11.length) *(304:Nat)≤(70368744177664:Nat)∧((0:Int),m.1.1,m.1.2,m.1.3,m.1.4,m.1.5,m.1.6,m.1.7,m.1.8,m.1.9,m.1.10,m.1.11,m.1.12,m.1.13,m.1.14,(3:Int),m.3,m.4,(0:Int),m.6.2.1,m.7.1,m.7.2,m.7.3,m.5++r11,()) =(bd m e,(ab m e).1.1,(ab m e).1.2,(ab m e).1.3,(ab m e).1.4,(ab m e).1.5,(ab m e).1.6,(ab m e).1.7,(ab m e).1.8,(ab m e).1.9,(ab m e).1.10,(ab m e).1.11,(ab m e).1.12,(ab m e).1.13,(ab m e).1.14,(ab m e).2,(ab m e).3,(ab m e).4,(ab m e).6.1,(ab m e).6.2.1,(ab m e).7.1,(ab m e).7.2,(ab m e).7.3,(ab m e).5,()))∧(r5=false→(r6=true→((0:Int)≤(1:Int)∧(1:Int) <(↑(2:Nat):Int))∧(m.5.length+r11.length) *(304:Nat)≤(70368744177664:Nat)∧((0:Int),m.1.1,m.1.2,m.1.3,m.1.4,m.1.5,m.1.6,m.1.7,m.1.8,m.1.9,m.1.10,m.1.11,m.1.12,m.1.13,m.1.14,(3:Int),m.3,m.4,m.6.1,(0:Int),m.7.1,m.7.2,m.7.3,m.5++r11,()) =(bd m e,(ab m e).1.1,(ab m e).1.2,(ab m e).1.3,(ab m e).1.4,(ab m e).1.5,(ab m e).1.6,(ab m e).1.7,(ab m e).1.8,(ab m e).1.9,(ab m e).1.10,(ab m e).1.11,(ab m e).1.12,(ab m e).1.13,(ab m e).1.14,(ab m e).2,(ab m e).3,(ab m e).4,(ab m e).6.1,(ab m e).6.2.1,(ab m e).7.1,(ab m e).7.2,(ab m e).7.3,(ab m e).5,()))∧(r6=false→False∧True)))))∧(r6=false→False∧True))))
 intro r1 r2 r3 r4 r5 r6 r7 r8 r9 r10 r11 r12 r13
 clear_value (hr1:r1=_) (hr2:r2=_) (hr3:r3=_) (hr4:r4=_) (hr5:r5=_) (hr6:r6=_) (hr7:r7=_) (hr8:r8=_) (hr9:r9=_) (hr10:r10=_) (hr11:r11=_) (hr12:r12=_) (hr13:r13=_)
 have hx:=hm.2.1
 refine ⟨fun h=>?_,fun h=>?_⟩
 ·have hL:bd m e=1:=by unfold bd;rw [h];rfl
  have hY:ab m e=m:=by unfold ab;rw [hL];rfl
  rw [hL,hY]
 ·have h2:m.Stage=2:=by simpa using h
  rcases DV hv h2 with hS|hS
  ·have hS:cJ m (m.Innings.length:Int)=1:=hS
   have e5:r5=true:=by rw [hr5,hr1,hS];rfl
   have hX:r2=xh m:=by rw [hr2];unfold xh tU cD;rw [hS];rfl
   have e8:r8 =(pK m != 0):=by rw [hr8];unfold pK tU cD;rw [hS];rfl
   have hI:ah r2:=by rw [hr2];exact mz _ _ _ _
   have hA :(m.Innings.length+r10.length)*304≤70368744177664:=by rw [hr10];simp only [List.length_singleton];omega
   have hq :(0≤(0:Int)∧(0:Int) <((2:Nat):Int)):=by decide
   have c1:r8=true→bd m e=1∧ab m e=m:=fun a=>by
    have hL:bd m e=1:=by unfold bd;rw [h,←e8,a];rfl
    exact ⟨hL,by unfold ab;rw [hL];rfl⟩
   have c2:r8=false→r12=true→bd m e=r4∧ab m e=m:=fun a b=>by
    have hL:bd m e=r4:=by unfold bd;rw [h,←e8,a,hr4,hX];rfl
    exact ⟨hL,by unfold ab;rw [hL,←hr12,b];rfl⟩
   have c3:r8=false→r12=false→bd m e=0∧ab m e=rb m e:=fun a b=>by
    have hL:bd m e=r4:=by unfold bd;rw [h,←e8,a,hr4,hX];rfl
    have hL0:bd m e=0:=by rw [hL];rw [hr12] at b;simpa using b
    exact ⟨hL0,by unfold ab;rw [hL0];rfl⟩
   subst e5
   refine ⟨fun _=>⟨hq,fun a=>?_,fun a=>⟨hI,fun b=>?_,fun b=>⟨fun _=>⟨hq,hA,?_⟩,fun z=>Bool.noConfusion z⟩⟩⟩,fun z=>Bool.noConfusion z⟩
   ·rw [(c1 a).1,(c1 a).2]
   ·rw [(c2 a b).1,(c2 a b).2]
   ·rw [(c3 a b).1,(c3 a b).2];unfold rb xa cD;rw [hS,hr10,hX];rfl
  ·have hS:cJ m (m.Innings.length:Int)=2:=hS
   have e5:r5=false:=by rw [hr5,hr1,hS];rfl
   have e6:r6=true:=by rw [hr6,hr1,hS];rfl
   have hX:r3=xh m:=by rw [hr3];unfold xh tU cD;rw [hS];rfl
   have e8:r9 =(pK m != 0):=by rw [hr9];unfold pK tU cD;rw [hS];rfl
   have hI:ah r3:=by rw [hr3];exact mz _ _ _ _
   have hA :(m.Innings.length+r11.length)*304≤70368744177664:=by rw [hr11];simp only [List.length_singleton];omega
   have hq :(0≤(1:Int)∧(1:Int) <((2:Nat):Int)):=by decide
   have c1:r9=true→bd m e=1∧ab m e=m:=fun a=>by
    have hL:bd m e=1:=by unfold bd;rw [h,←e8,a];rfl
    exact ⟨hL,by unfold ab;rw [hL];rfl⟩
   have c2:r9=false→r13=true→bd m e=r7∧ab m e=m:=fun a b=>by
    have hL:bd m e=r7:=by unfold bd;rw [h,←e8,a,hr7,hX];rfl
    exact ⟨hL,by unfold ab;rw [hL,←hr13,b];rfl⟩
   have c3:r9=false→r13=false→bd m e=0∧ab m e=rb m e:=fun a b=>by
    have hL:bd m e=r7:=by unfold bd;rw [h,←e8,a,hr7,hX];rfl
    have hL0:bd m e=0:=by rw [hL];rw [hr13] at b;simpa using b
    exact ⟨hL0,by unfold ab;rw [hL0];rfl⟩
   subst e5 e6
   refine ⟨fun z=>Bool.noConfusion z,fun _=>⟨fun _=>⟨hq,fun a=>?_,fun a=>⟨hI,fun b=>?_,fun b=>⟨fun z=>Bool.noConfusion z,fun _=>⟨fun _=>⟨hq,hA,?_⟩,fun z=>Bool.noConfusion z⟩⟩⟩⟩,fun z=>Bool.noConfusion z⟩⟩
   ·rw [(c1 a).1,(c1 a).2]
   ·rw [(c2 a b).1,(c2 a b).2]
   ·rw [(c3 a b).1,(c3 a b).2];unfold rb xa cD;rw [hS,hr11,hX];rfl
def EF:FuncId×Ctr:=(216,af KE qPE yy AW)
theorem Ht:CtrOK Tryz.prog KE 216 (af KE qPE yy AW):=by
 refine ax (C:=an [vh,xP,BF,vg] Tryz.f216) (al (.consU yb rfl (.consU C0 rfl (.consU E3 rfl (.consU B1 rfl .nil)))) _) mixed (fn:=Tryz.f216) Tryz.func216 (by kernel_rfl) (by kernel_rfl) (by kernel_rfl) (by kernel_rfl) (by kernel_rfl) (by kernel_rfl) (Λ:=fun _ _=>none) ?_ ?_
 ·exact fun _ _ _ _ _ _ _ _ h=>by cases h
 ·rintro ⟨e,v1,v2,v3,v4,v5,v6,v7,v8,v9,v10,v11,v12,v13,v14,v15,v16,v17,v18,v19,v20,v21,v22,xs,⟨⟩⟩ hw hn
  exact FP (mkM v1 v2 v3 v4 v5 v6 v7 v8 v9 v10 v11 v12 v13 v14 v15 v16 v17 v18 v19 v20 v21 v22 xs) e (hn _ List.mem_cons_self) (hn _ (List.mem_cons_of_mem _ List.mem_cons_self))
theorem FQ (m:Match) (e:Mir.Event) (hm:aI m) (hv:aM m=true) (he:bc e=0) :(evPat (an [vg,BI] Tryz.f218) (fun _=>none) Tryz.f218 qPE qPL (e,m.Rules.Name,m.Rules.Side,m.Rules.Innings,m.Rules.Overs,m.Rules.Balls,m.Rules.Quota,m.Rules.Wide,m.Rules.NoBall,m.Rules.FreeHit,m.Rules.NewBall,m.Rules.FollowOn,m.Rules.Reviews,m.Rules.Outside,m.Rules.Power,m.Stage,m.First,m.Follow,m.Penalty.1,m.Penalty.2.1,m.Result.Win,m.Result.Side,m.Result.Margin,m.Innings,())).sat fun z_=>z_ =(AZ (e,m.Rules.Name,m.Rules.Side,m.Rules.Innings,m.Rules.Overs,m.Rules.Balls,m.Rules.Quota,m.Rules.Wide,m.Rules.NoBall,m.Rules.FreeHit,m.Rules.NewBall,m.Rules.FollowOn,m.Rules.Reviews,m.Rules.Outside,m.Rules.Power,m.Stage,m.First,m.Follow,m.Penalty.1,m.Penalty.2.1,m.Result.Win,m.Result.Side,m.Result.Margin,m.Innings,())).2:=by
 refine cast (by kernel_rfl) (?_:let r1:Int:=IntKind.i64.wrap ((↑m.5.length:Int) - (1:Int));let r2:Innings:=m.5.getD r1.toNat (dflt (Ty.nm Nm.Innings));let r3:Int:=cL m.1 r2 e;let r4:Innings:=dw m.1 r2 e;let r5:Bool:=r3 !=(0:Int);let r6:Bool:=bif e.1 ==(13:Int) then e.2 != r4.1 else false;let r7:List Innings:=m.5.set r1.toNat r4;let r8:Match:=Match.mk m.1 m.2 m.3 m.4 r7 m.6 m.7;let r9:Match:=aq r8 e.2;((m.2 !=(3:Int))=true→((1:Int),m.1.1,m.1.2,m.1.3,m.1.4,m.1.5,m.1.6,m.1.7,m.1.8,m.1.9,m.1.10,m.1.11,m.1.12,m.1.13,m.1.14,m.2,m.3,m.4,m.6.1,m.6.2.1,m.7.1,m.7.2,m.7.3,m.5,()) =(dZ m e,(aj m e).1.1,(aj m e).1.2,(aj m e).1.3,(aj m e).1.4,(aj m e).1.5,(aj m e).1.6,(aj m e).1.7,(aj m e).1.8,(aj m e).1.9,(aj m e).1.10,(aj m e).1.11,(aj m e).1.12,(aj m e).1.13,(aj m e).1.14,(aj m e).2,(aj m e).3,(aj m e).4,(aj m e).6.1,(aj m e).6.2.1,(aj m e).7.1,(aj m e).7.2,(aj m e).7.3,(aj m e).5,()))∧((m.2 !=(3:Int))=false→((0:Int)≤r1∧r1 <(↑m.5.length:Int))∧ah r2∧(r5=true→(r3,m.1.1,m.1.2,m.1.3,m.1.4,m.1.5,m.1.6,m.1.7,m.1.8,m.1.9,m.1.10,m.1.11,m.1.12,m.1.13,m.1.14,m.2,m.3,m.4,m.6.1,m.6.2.1,m.7.1,m.7.2,m.7.3,m.5,()) =(dZ m e,(aj m e).1.1,(aj m e).1.2,(aj m e).1.3,(aj m e).1.4,(aj m e).1.5,(aj m e).1.6,(aj m e).1.7,(aj m e).1.8,(aj m e).1.9,(aj m e).1.10,(aj m e).1.11,(aj m e).1.12,(aj m e).1.13,(aj m e).1.14,(aj m e).2,(aj m e).3,(aj m e).4,(aj m e).6.1,(aj m e).6.2.1,(aj m e).7.1,(aj m e).7.2,(aj m e).7.3,(aj m e).5,()))∧(r5=false→((0:Int)≤r1∧r1 <(↑m.5.length:Int))∧((r6=true→aI r8∧iG e.2∧True)∧(r6=false→True))∧(true=true→((0:Int),bif r6 then r9.1.1 else m.1.1,bif r6 then r9.1.2 else m.1.2,bif r6 then r9.1.3 else m.1.3,bif r6 then r9.1.4 else m.1.4,bif r6 then r9.1.5 else m.1.5,bif r6 then r9.1.6 else m.1.6,bif r6 then r9.1.7 else m.1.7,bif r6 then r9.1.8 else m.1.8,bif r6 then r9.1.9 else m.1.9,bif r6 then r9.1.10 else m.1.10,bif r6 then r9.1.11 else m.1.11,bif r6 then r9.1.12 else m.1.12,bif r6 then r9.1.13 else m.1.13,bif r6 then r9.1.14 else m.1.14,bif r6 then r9.2 else m.2,bif r6 then r9.3 else m.3,bif r6 then r9.4 else m.4,bif r6 then r9.6.1 else m.6.1,bif r6 then r9.6.2.1 else m.6.2.1,bif r6 then r9.7.1 else m.7.1,bif r6 then r9.7.2 else m.7.2,bif r6 then r9.7.3 else m.7.3,bif r6 then r9.5 else r7,()) =(dZ m e,(aj m e).1.1,(aj m e).1.2,(aj m e).1.3,(aj m e).1.4,(aj m e).1.5,(aj m e).1.6,(aj m e).1.7,(aj m e).1.8,(aj m e).1.9,(aj m e).1.10,(aj m e).1.11,(aj m e).1.12,(aj m e).1.13,(aj m e).1.14,(aj m e).2,(aj m e).3,(aj m e).4,(aj m e).6.1,(aj m e).6.2.1,(aj m e).7.1,(aj m e).7.2,(aj m e).7.3,(aj m e).5,())))))
 intro r1 r2 r3 r4 r5 r6 r7 r8 r9
 clear_value (hr1:r1=_) (hr2:r2=_) (hr3:r3=_) (hr4:r4=_) (hr5:r5=_) (hr6:r6=_) (hr7:r7=_) (hr8:r8=_) (hr9:r9=_)
 have hx:=hm.2.1
 refine ⟨fun h=>?_,fun h=>?_⟩
 ·have hL:dZ m e=1:=by unfold dZ;rw [h];rfl
  have hY:aj m e=m:=by unfold aj;rw [hL];rfl
  rw [hL,hY]
 ·have h3:m.Stage=3:=by simpa using h
  have h0:=gV hv h3
  have e0:r1 =(m.Innings.length:Int) - 1:=by rw [hr1];exact bM (by omega) (by omega)
  have e1:r1.toNat=m.Innings.length - 1:=by omega
  have e2:r2=dM m:=by rw [hr2,e1];rfl
  have hL:dZ m e=r3:=by unfold dZ;rw [h,hr3,e2];rfl
  have e8:r8=rm m e:=by rw [hr8,hr7,hr4,e1,e2];rfl
  have e6:r6=zf m e:=by rw [hr6,hr4,e2];unfold zf;cases e.Kind==13 <;> rfl
  have hb:0≤r1∧r1 <(m.Innings.length:Int):=⟨by omega,by omega⟩
  refine ⟨hb,by rw [e2];exact jn hm.1,fun a=>?_,fun a=>⟨hb,⟨fun b=>⟨?_,?_,trivial⟩,fun _=>trivial⟩,fun _=>?_⟩⟩
  ·have hY:aj m e=m:=by unfold aj;rw [hL,←hr5,a];rfl
   rw [hL,hY]
  ·rw [e8]
   refine ⟨uh hm.1 _ (lr _ (jn hm.1)),?_,hm.2.2⟩
   show (m.Innings.set _ _).length≤_
   rw [List.length_set];exact hx
  ·refine D8 he ?_
   rw [hr6] at b
   cases hk:e.Kind==13 with
   | false=>rw [hk] at b;cases b
   | true=>rw [eq_of_beq hk];rfl
  ·have hL0:dZ m e=0:=by rw [hL];rw [hr5] at a;simpa using a
   have hY:aj m e=if r6 then aq r8 e.Side else r8:=by unfold aj;rw [hL0,e6,e8];rfl
   rw [hL0,hY,hr9]
   cases r6 with
   | true=>rfl
   | false=>rw [hr8];rfl
def EG:FuncId×Ctr:=(218,af KE qPE qPL AZ)
theorem Hu:CtrOK Tryz.prog KE 218 (af KE qPE qPL AZ):=by
 refine ax (C:=an [vg,BI] Tryz.f218) (al (.consU B1 rfl (.consU E7 rfl .nil)) _) mixed (fn:=Tryz.f218) Tryz.func218 (by kernel_rfl) (by kernel_rfl) (by kernel_rfl) (by kernel_rfl) (by kernel_rfl) (by kernel_rfl) (Λ:=fun _ _=>none) ?_ ?_
 ·exact fun _ _ _ _ _ _ _ _ h=>by cases h
 ·rintro ⟨e,v1,v2,v3,v4,v5,v6,v7,v8,v9,v10,v11,v12,v13,v14,v15,v16,v17,v18,v19,v20,v21,v22,xs,⟨⟩⟩ hw hn
  exact FQ (mkM v1 v2 v3 v4 v5 v6 v7 v8 v9 v10 v11 v12 v13 v14 v15 v16 v17 v18 v19 v20 v21 v22 xs) e (hn _ List.mem_cons_self) (hn _ (List.mem_cons_of_mem _ List.mem_cons_self)) (hn _ (List.mem_cons_of_mem _ (List.mem_cons_of_mem _ List.mem_cons_self)))
theorem yV (m:Match) (e:Mir.Event) (hm:aI m) (hv:aM m=true) (he:bc e=0) :(evPat (an [fz,EF,EH,EG] Tryz.f135) (fun _=>none) Tryz.f135 qPE yy (e,m.Rules.Name,m.Rules.Side,m.Rules.Innings,m.Rules.Overs,m.Rules.Balls,m.Rules.Quota,m.Rules.Wide,m.Rules.NoBall,m.Rules.FreeHit,m.Rules.NewBall,m.Rules.FollowOn,m.Rules.Reviews,m.Rules.Outside,m.Rules.Power,m.Stage,m.First,m.Follow,m.Penalty.1,m.Penalty.2.1,m.Result.Win,m.Result.Side,m.Result.Margin,m.Innings,())).sat fun z_=>z_ =(AY (e,m.Rules.Name,m.Rules.Side,m.Rules.Innings,m.Rules.Overs,m.Rules.Balls,m.Rules.Quota,m.Rules.Wide,m.Rules.NoBall,m.Rules.FreeHit,m.Rules.NewBall,m.Rules.FollowOn,m.Rules.Reviews,m.Rules.Outside,m.Rules.Power,m.Stage,m.First,m.Follow,m.Penalty.1,m.Penalty.2.1,m.Result.Win,m.Result.Side,m.Result.Margin,m.Innings,())).2:=by
 refine cast (by kernel_rfl) (?_ :(((e.1 ==(1:Int))=true→((m.2 !=(1:Int))=true→((1:Int),m.1.1,m.1.2,m.1.3,m.1.4,m.1.5,m.1.6,m.1.7,m.1.8,m.1.9,m.1.10,m.1.11,m.1.12,m.1.13,m.1.14,m.2,m.3,m.4,m.6.1,m.6.2.1,m.7.1,m.7.2,m.7.3,m.5,()) =(bl m e,(ag m e).1.1,(ag m e).1.2,(ag m e).1.3,(ag m e).1.4,(ag m e).1.5,(ag m e).1.6,(ag m e).1.7,(ag m e).1.8,(ag m e).1.9,(ag m e).1.10,(ag m e).1.11,(ag m e).1.12,(ag m e).1.13,(ag m e).1.14,(ag m e).2,(ag m e).3,(ag m e).4,(ag m e).6.1,(ag m e).6.2.1,(ag m e).7.1,(ag m e).7.2,(ag m e).7.3,(ag m e).5,()))∧((m.2 !=(1:Int))=false→True))∧((e.1 ==(1:Int))=false→((e.1 ==(2:Int))=true→aI m∧aM m=true∧(bd m e,(ab m e).1.1,(ab m e).1.2,(ab m e).1.3,(ab m e).1.4,(ab m e).1.5,(ab m e).1.6,(ab m e).1.7,(ab m e).1.8,(ab m e).1.9,(ab m e).1.10,(ab m e).1.11,(ab m e).1.12,(ab m e).1.13,(ab m e).1.14,(ab m e).2,(ab m e).3,(ab m e).4,(ab m e).6.1,(ab m e).6.2.1,(ab m e).7.1,(ab m e).7.2,(ab m e).7.3,(ab m e).5,()) =(bl m e,(ag m e).1.1,(ag m e).1.2,(ag m e).1.3,(ag m e).1.4,(ag m e).1.5,(ag m e).1.6,(ag m e).1.7,(ag m e).1.8,(ag m e).1.9,(ag m e).1.10,(ag m e).1.11,(ag m e).1.12,(ag m e).1.13,(ag m e).1.14,(ag m e).2,(ag m e).3,(ag m e).4,(ag m e).6.1,(ag m e).6.2.1,(ag m e).7.1,(ag m e).7.2,(ag m e).7.3,(ag m e).5,()))∧((e.1 ==(2:Int))=false→((e.1 ==(12:Int))=true→((m.2 !=(4:Int))=true→((1:Int),m.1.1,m.1.2,m.1.3,m.1.4,m.1.5,m.1.6,m.1.7,m.1.8,m.1.9,m.1.10,m.1.11,m.1.12,m.1.13,m.1.14,m.2,m.3,m.4,m.6.1,m.6.2.1,m.7.1,m.7.2,m.7.3,m.5,()) =(bl m e,(ag m e).1.1,(ag m e).1.2,(ag m e).1.3,(ag m e).1.4,(ag m e).1.5,(ag m e).1.6,(ag m e).1.7,(ag m e).1.8,(ag m e).1.9,(ag m e).1.10,(ag m e).1.11,(ag m e).1.12,(ag m e).1.13,(ag m e).1.14,(ag m e).2,(ag m e).3,(ag m e).4,(ag m e).6.1,(ag m e).6.2.1,(ag m e).7.1,(ag m e).7.2,(ag m e).7.3,(ag m e).5,()))∧((m.2 !=(4:Int))=false→((e.2 != m.3)=true→((2:Int),m.1.1,m.1.2,m.1.3,m.1.4,m.1.5,m.1.6,m.1.7,m.1.8,m.1.9,m.1.10,m.1.11,m.1.12,m.1.13,m.1.14,m.2,m.3,m.4,m.6.1,m.6.2.1,m.7.1,m.7.2,m.7.3,m.5,()) =(bl m e,(ag m e).1.1,(ag m e).1.2,(ag m e).1.3,(ag m e).1.4,(ag m e).1.5,(ag m e).1.6,(ag m e).1.7,(ag m e).1.8,(ag m e).1.9,(ag m e).1.10,(ag m e).1.11,(ag m e).1.12,(ag m e).1.13,(ag m e).1.14,(ag m e).2,(ag m e).3,(ag m e).4,(ag m e).6.1,(ag m e).6.2.1,(ag m e).7.1,(ag m e).7.2,(ag m e).7.3,(ag m e).5,()))∧((e.2 != m.3)=false→True)))∧((e.1 ==(12:Int))=false→((e.1 ==(16:Int))=true→aI m∧hZ m∧True)∧((e.1 ==(16:Int))=false→aI m∧aM m=true∧bc e =(0:Int)∧(dZ m e,(aj m e).1.1,(aj m e).1.2,(aj m e).1.3,(aj m e).1.4,(aj m e).1.5,(aj m e).1.6,(aj m e).1.7,(aj m e).1.8,(aj m e).1.9,(aj m e).1.10,(aj m e).1.11,(aj m e).1.12,(aj m e).1.13,(aj m e).1.14,(aj m e).2,(aj m e).3,(aj m e).4,(aj m e).6.1,(aj m e).6.2.1,(aj m e).7.1,(aj m e).7.2,(aj m e).7.3,(aj m e).5,()) =(bl m e,(ag m e).1.1,(ag m e).1.2,(ag m e).1.3,(ag m e).1.4,(ag m e).1.5,(ag m e).1.6,(ag m e).1.7,(ag m e).1.8,(ag m e).1.9,(ag m e).1.10,(ag m e).1.11,(ag m e).1.12,(ag m e).1.13,(ag m e).1.14,(ag m e).2,(ag m e).3,(ag m e).4,(ag m e).6.1,(ag m e).6.2.1,(ag m e).7.1,(ag m e).7.2,(ag m e).7.3,(ag m e).5,()))))))∧((bif e.1 ==(1:Int) then !m.2 !=(1:Int) else bif e.1 ==(2:Int) then false else bif e.1 ==(12:Int) then bif m.2 !=(4:Int) then false else !e.2 != m.3 else e.1 ==(16:Int))=true→((0:Int),bif e.1 ==(1:Int) then bif e.5 then m.1.1 else m.1.1 else bif e.1 ==(12:Int) then m.1.1 else (bj m).1.1,bif e.1 ==(1:Int) then bif e.5 then m.1.2 else m.1.2 else bif e.1 ==(12:Int) then m.1.2 else (bj m).1.2,bif e.1 ==(1:Int) then bif e.5 then m.1.3 else m.1.3 else bif e.1 ==(12:Int) then m.1.3 else (bj m).1.3,bif e.1 ==(1:Int) then bif e.5 then m.1.4 else m.1.4 else bif e.1 ==(12:Int) then m.1.4 else (bj m).1.4,bif e.1 ==(1:Int) then bif e.5 then m.1.5 else m.1.5 else bif e.1 ==(12:Int) then m.1.5 else (bj m).1.5,bif e.1 ==(1:Int) then bif e.5 then m.1.6 else m.1.6 else bif e.1 ==(12:Int) then m.1.6 else (bj m).1.6,bif e.1 ==(1:Int) then bif e.5 then m.1.7 else m.1.7 else bif e.1 ==(12:Int) then m.1.7 else (bj m).1.7,bif e.1 ==(1:Int) then bif e.5 then m.1.8 else m.1.8 else bif e.1 ==(12:Int) then m.1.8 else (bj m).1.8,bif e.1 ==(1:Int) then bif e.5 then m.1.9 else m.1.9 else bif e.1 ==(12:Int) then m.1.9 else (bj m).1.9,bif e.1 ==(1:Int) then bif e.5 then m.1.10 else m.1.10 else bif e.1 ==(12:Int) then m.1.10 else (bj m).1.10,bif e.1 ==(1:Int) then bif e.5 then m.1.11 else m.1.11 else bif e.1 ==(12:Int) then m.1.11 else (bj m).1.11,bif e.1 ==(1:Int) then bif e.5 then m.1.12 else m.1.12 else bif e.1 ==(12:Int) then m.1.12 else (bj m).1.12,bif e.1 ==(1:Int) then bif e.5 then m.1.13 else m.1.13 else bif e.1 ==(12:Int) then m.1.13 else (bj m).1.13,bif e.1 ==(1:Int) then bif e.5 then m.1.14 else m.1.14 else bif e.1 ==(12:Int) then m.1.14 else (bj m).1.14,bif e.1 ==(1:Int) then (2:Int) else bif e.1 ==(12:Int) then (2:Int) else (5:Int),bif e.1 ==(1:Int) then bif e.5 then e.2 else dk e.2 else bif e.1 ==(12:Int) then m.3 else (bj m).3,bif e.1 ==(1:Int) then bif e.5 then m.4 else m.4 else bif e.1 ==(12:Int) then e.5 else (bj m).4,bif e.1 ==(1:Int) then bif e.5 then m.6.1 else m.6.1 else bif e.1 ==(12:Int) then m.6.1 else (bj m).6.1,bif e.1 ==(1:Int) then bif e.5 then m.6.2.1 else m.6.2.1 else bif e.1 ==(12:Int) then m.6.2.1 else (bj m).6.2.1,bif e.1 ==(1:Int) then bif e.5 then m.7.1 else m.7.1 else bif e.1 ==(12:Int) then m.7.1 else dx m.1,bif e.1 ==(1:Int) then bif e.5 then m.7.2 else m.7.2 else bif e.1 ==(12:Int) then m.7.2 else (0:Int),bif e.1 ==(1:Int) then bif e.5 then m.7.3 else m.7.3 else bif e.1 ==(12:Int) then m.7.3 else (0:Int),bif e.1 ==(1:Int) then m.5 else bif e.1 ==(12:Int) then m.5 else (bj m).5,()) =(bl m e,(ag m e).1.1,(ag m e).1.2,(ag m e).1.3,(ag m e).1.4,(ag m e).1.5,(ag m e).1.6,(ag m e).1.7,(ag m e).1.8,(ag m e).1.9,(ag m e).1.10,(ag m e).1.11,(ag m e).1.12,(ag m e).1.13,(ag m e).1.14,(ag m e).2,(ag m e).3,(ag m e).4,(ag m e).6.1,(ag m e).6.2.1,(ag m e).7.1,(ag m e).7.2,(ag m e).7.3,(ag m e).5,())))
 simp only [Bool.cond_self] at *
 have ho:hZ m:=fun h=>gV hv h
 refine ⟨⟨fun k1=>⟨fun a=>?_,fun _=>trivial⟩,fun n1=>⟨fun k2=>⟨hm,hv,?_⟩,fun n2=>⟨fun k12=>⟨fun a=>?_,fun a=>⟨fun b=>?_,fun _=>trivial⟩⟩,fun n12=>⟨fun k16=>⟨hm,ho,trivial⟩,fun n16=>⟨hm,hv,he,?_⟩⟩⟩⟩⟩,fun g=>?_⟩
 ·have hL:bl m e=1:=by unfold bl;rw [k1,a];rfl
  have hY:ag m e=m:=by unfold ag;rw [hL];rfl
  rw [hL,hY]
 ·have hL:bl m e=bd m e:=by unfold bl;rw [n1,k2];rfl
  have hY:ag m e=ab m e:=by
   unfold ag la;rw [hL,n1,k2]
   cases h:bd m e != 0 with
   | true=>rw [Fa h];rfl
   | false=>rfl
  rw [hL,hY]
 ·have hL:bl m e=1:=by unfold bl;rw [n1,n2,k12,a];rfl
  have hY:ag m e=m:=by unfold ag;rw [hL];rfl
  rw [hL,hY]
 ·have hL:bl m e=2:=by unfold bl;rw [n1,n2,k12,a,b];rfl
  have hY:ag m e=m:=by unfold ag;rw [hL];rfl
  rw [hL,hY]
 ·have hL:bl m e=dZ m e:=by unfold bl;rw [n1,n2,n12,n16];rfl
  have hY:ag m e=aj m e:=by
   unfold ag la;rw [hL,n1,n2,n12,n16]
   cases h:dZ m e != 0 with
   | true=>rw [Ff h];rfl
   | false=>rfl
  rw [hL,hY]
 ·cases k1:e.Kind==1 with
  | true=>
   rw [k1] at g
   simp only [cond_true,Bool.not_eq_true'] at g
   have hL:bl m e=0:=by unfold bl;rw [k1,g];rfl
   have hY:ag m e=Gy m e:=by unfold ag la;rw [hL,k1];rfl
   rw [hL,hY];unfold Gy;cases e.Yes <;> rfl
  | false=>
   rw [k1] at g
   cases k2:e.Kind==2 with
   | true=>rw [k2] at g;cases g
   | false=>
    rw [k2] at g
    cases k12:e.Kind==12 with
    | true=>
     rw [k12] at g
     simp only [cond_true,cond_false] at g
     cases a:m.Stage != 4 with
     | true=>rw [a] at g;cases g
     | false=>
      rw [a] at g
      simp only [cond_false,Bool.not_eq_true'] at g
      have hL:bl m e=0:=by unfold bl;rw [k1,k2,k12,a,g];rfl
      have hY:ag m e=Bl m e:=by unfold ag la;rw [hL,k1,k2,k12];rfl
      rw [hL,hY];rfl
    | false=>
     rw [k12] at g
     have hL:bl m e=0:=by
      have g :(e.Kind==16)=true:=g
      unfold bl;rw [k1,k2,k12,g];rfl
     have hY:ag m e=dc m:=by
      have g :(e.Kind==16)=true:=g
      unfold ag la;rw [hL,k1,k2,k12,g];rfl
     rw [hL,hY];rfl
def tF:FuncId×Ctr:=(135,af KE qPE yy AY)
theorem Ac:CtrOK Tryz.prog KE 135 (af KE qPE yy AY):=by
 refine ax (C:=an [fz,EF,EH,EG] Tryz.f135) (al (.consU kY rfl (.consU Ht rfl (.consU Hv rfl (.consU Hu rfl .nil)))) _) mixed (fn:=Tryz.f135) Tryz.func135 (by kernel_rfl) (by kernel_rfl) (by kernel_rfl) (by kernel_rfl) (by kernel_rfl) (by kernel_rfl) (Λ:=fun _ _=>none) ?_ ?_
 ·exact fun _ _ _ _ _ _ _ _ h=>by cases h
 ·rintro ⟨e,v1,v2,v3,v4,v5,v6,v7,v8,v9,v10,v11,v12,v13,v14,v15,v16,v17,v18,v19,v20,v21,v22,xs,⟨⟩⟩ hw hn
  exact yV (mkM v1 v2 v3 v4 v5 v6 v7 v8 v9 v10 v11 v12 v13 v14 v15 v16 v17 v18 v19 v20 v21 v22 xs) e (hn _ List.mem_cons_self) (hn _ (List.mem_cons_of_mem _ List.mem_cons_self)) (hn _ (List.mem_cons_of_mem _ (List.mem_cons_of_mem _ List.mem_cons_self)))
end Go.Proofs.YthaeofeigglbhaaGreatDoor
namespace Go.Proofs.YthaeofeigglbhaaGreatDoor
open Go Go.Mir
attribute [local irreducible] Go.Mir.DT.sat Go.Mir.evPat Go.Mir.RT.sat Go.Mir.evFn
abbrev qME:Pat:=cm [.nm .Match,.nm .Event]
def A0:Den (tyP qME)→List Prop×Den (tyP yx):=fun x=>([aI x.1],(bG x.1 x.2.1,bb x.1 x.2.1,()))
theorem zC {l:List Innings} (h:fo l) (k:Nat):ah (l.getD k Innings.zero):=by
 by_cases hl:k<l.length
 ·exact h _ (iK hl _)
 ·rw [List.getD_eq_getElem?_getD,List.getElem?_eq_none (by omega)];simp [ah,Innings.zero]
theorem mX {m:Match} (h:aI m) (k:Nat) {x:Innings} (hx:ah x):aI (DB m k x):=
 ⟨uh h.1 k hx,by show (m.Innings.set k x).length≤_;rw [List.length_set];exact h.2.1,h.2.2⟩
theorem uy {m:Match} (h:aI m) (s:Int):aI (aq m s):=by
 unfold aq
 cases ib s m.Innings m.Innings.length with
 | some k=>exact mX h k (A6 (zC h.1 k))
 | none=>exact h
theorem Cv (m:Match) (s:Int) :(aq m s).Innings.length=m.Innings.length:=by
 unfold aq
 cases ib s m.Innings m.Innings.length with
 | some k=>exact List.length_set
 | none=>rfl
theorem xe (m:Match) (s:Int) :(aq m s).Stage=m.Stage:=by
 unfold aq
 cases ib s m.Innings m.Innings.length <;> rfl
theorem yl {m:Match} (e:Mir.Event) (h:aI m):aI (aj m e):=by
 have h1:aI (rm m e):=mX h _ (lr e (jn h.1))
 unfold aj
 split
 ·exact h
 ·split
  ·exact uy h1 _
  ·exact h1
theorem Fg (m:Match) (e:Mir.Event) :(aj m e).Innings.length=m.Innings.length:=by
 have h1 :(rm m e).Innings.length=m.Innings.length:=List.length_set
 unfold aj
 split
 ·rfl
 ·split
  ·rw [Cv,h1]
  ·exact h1
theorem Ak (m:Match) (e:Mir.Event) :(aj m e).Stage=m.Stage:=by
 unfold aj
 split
 ·rfl
 ·split
  ·rw [xe];rfl
  ·rfl
theorem oS {m:Match} (e:Mir.Event) (h:aI m) (hv:aM m=true):aI (ag m e):=by
 unfold ag
 split
 ·exact h
 ·unfold la
  split
  ·exact h
  ·split
   ·unfold ab
    split
    ·exact h
    ·refine ⟨DD h.1 (lr e (mz _ _ _ _)),?_,h.2.2⟩
     show (m.Innings++[_]).length≤_
     have:=(uu hv).2
     rw [List.length_append,List.length_singleton];omega
   ·split
    ·exact h
    ·split
     ·have h2:aI (bj m):=by
       unfold bj
       split
       ·exact mX h _ (show ah { dM m with Ending:=5 } from jn h.1)
       ·exact h
      exact h2
     ·exact yl e h
theorem vI {m:Match} (e:Mir.Event) (hv:aM m=true):hZ (ag m e):=by
 unfold ag
 split
 ·exact fun h=>gV hv h
 ·unfold la
  split
  ·exact fun h=>absurd (show (2:Int)=3 from h) (by decide)
  ·split
   ·unfold ab
    split
    ·exact fun h=>gV hv h
    ·intro _
     show 0 <(m.Innings++[_]).length
     rw [List.length_append,List.length_singleton];omega
   ·split
    ·exact fun h=>absurd (show (2:Int)=3 from h) (by decide)
    ·split
     ·exact fun h=>absurd (show (5:Int)=3 from h) (by decide)
     ·intro h
      rw [Ak] at h
      rw [Fg]
      exact gV hv h
theorem zl (m:Match) :(ak m).Innings=m.Innings:=by
 unfold ak
 split
 ·rfl
 ·split
  ·rfl
  ·split <;> rfl
theorem xi (m:Match) :(ak m).Rules=m.Rules:=by
 unfold ak
 split
 ·rfl
 ·split
  ·rfl
  ·split <;> rfl
theorem uD {m:Match} (h:aI m):aI (ak m):=by
 unfold aI iH
 rw [zl,xi]
 exact h
theorem Bb {m:Match} {e:Mir.Event} (h:bb m e=0):aM m=true∧bc e=0∧bl m e=0:=by
 unfold bb at h
 split at h
 ·cases h
 ·rename_i h1
  simp only [Bool.or_eq_true,Bool.not_eq_true',bne_iff_ne,ne_eq,not_or,Bool.not_eq_false,Decidable.not_not] at h1
  split at h
  ·cases h
  ·exact ⟨h1.1,h1.2,h⟩
theorem lu {m:Match} (e:Mir.Event) (h:aI m):aI (bG m e):=by
 unfold bG
 split
 ·exact h
 ·rename_i h1
  exact uD (oS e h (Bb (by simpa using h1)).1)
theorem rT {m:Match} {e:Mir.Event} (h :(bb m e != 0)=true):bG m e=m:=by simp only [bG,h,if_true]
theorem FR (m:Match) (e:Mir.Event) (hm:aI m) :(evPat (an [BJ,px,jz,tF,kO] Tryz.f60) (fun _=>none) Tryz.f60 qME yx (m,e,())).sat fun z_=>z_ =(A0 (m,e,())).2:=by
 refine cast (by kernel_rfl) (?_:let r1:Bool:=bif !aM m then true else bc e !=(0:Int);(iH m∧((!aM m)=true→True)∧((!aM m)=false→True))∧(true=true→(r1=true→aI m∧(m,(1:Int),()) =(bG m e,bb m e,()))∧(r1=false→((m.2 ==(5:Int))=true→aI m∧(m,(26:Int),()) =(bG m e,bb m e,()))∧((m.2 ==(5:Int))=false→aI m∧aI m∧aM m=true∧bc e =(0:Int)∧((bl m e !=(0:Int))=true→aI m∧(m,bl m e,()) =(bG m e,bb m e,()))∧((bl m e !=(0:Int))=false→aI (ag m e)∧hZ (ag m e)∧(ak (ag m e),(0:Int),()) =(bG m e,bb m e,()))))))
 intro r1
 clear_value (hr1:r1=_)
 have e1:r1 =(!aM m||bc e != 0):=by rw [hr1];cases aM m <;> rfl
 have hq:r1=false→aM m=true∧bc e=0:=fun h=>by rw [e1] at h;simpa using h
 refine ⟨⟨hm.1,fun _=>trivial,fun _=>trivial⟩,fun _=>⟨fun a=>⟨hm,?_⟩,fun a=>⟨fun b=>⟨hm,?_⟩,fun b=>⟨hm,hm,(hq a).1,(hq a).2,fun c=>⟨hm,?_⟩,fun c=>⟨oS e hm (hq a).1,vI e (hq a).1,?_⟩⟩⟩⟩⟩
 ·have hL:bb m e=1:=by unfold bb;rw [←e1,a];rfl
  rw [rT (by rw [hL];rfl),hL]
 ·have hL:bb m e=26:=by unfold bb;rw [←e1,a,b];rfl
  rw [rT (by rw [hL];rfl),hL]
 ·have hL:bb m e=bl m e:=by unfold bb;rw [←e1,a,b];rfl
  rw [rT (by rw [hL];exact c),hL]
 ·have hL:bb m e=bl m e:=by unfold bb;rw [←e1,a,b];rfl
  have h0:bl m e=0:=by simpa using c
  have hY:bG m e=ak (ag m e):=by unfold bG;rw [hL,c];rfl
  rw [hY,hL,h0]
def qG:FuncId×Ctr:=(60,af KE qME yx A0)
theorem vC:CtrOK Tryz.prog KE 60 (af KE qME yx A0):=by
 refine ax (C:=an [BJ,px,jz,tF,kO] Tryz.f60) (al (.consU E8 rfl (.consU yc rfl (.consU nv rfl (.consU Ac rfl (.consU o0 rfl .nil))))) _) mixed (fn:=Tryz.f60) Tryz.func60 (by kernel_rfl) (by kernel_rfl) (by kernel_rfl) (by kernel_rfl) (by kernel_rfl) (by kernel_rfl) (Λ:=fun _ _=>none) ?_ ?_
 ·exact fun _ _ _ _ _ _ _ _ h=>by cases h
 ·rintro ⟨m,e,⟨⟩⟩ hw hn
  exact FR m e (hn _ List.mem_cons_self)
end Go.Proofs.YthaeofeigglbhaaGreatDoor
namespace Go.Proofs.YthaeofeigglbhaaGreatDoor
open Go Go.Mir
attribute [local irreducible] Go.Mir.DT.sat Go.Mir.evPat Go.Mir.RT.sat Go.Mir.evFn
end Go.Proofs.YthaeofeigglbhaaGreatDoor
namespace Go.Proofs.YthaeofeigglbhaaGreatDoor
open Go Go.Mir
attribute [local irreducible] Go.Mir.DT.sat Go.Mir.evPat Go.Mir.RT.sat Go.Mir.evFn
end Go.Proofs.YthaeofeigglbhaaGreatDoor
namespace Go.Proofs.YthaeofeigglbhaaGreatDoor
open Go Go.Mir
attribute [local irreducible] Go.Mir.DT.sat Go.Mir.evPat Go.Mir.RT.sat Go.Mir.evFn
end Go.Proofs.YthaeofeigglbhaaGreatDoor
namespace Go.Proofs.YthaeofeigglbhaaGreatDoor
open Go Go.Mir
attribute [local irreducible] Go.Mir.DT.sat Go.Mir.evPat Go.Mir.RT.sat Go.Mir.evFn
abbrev Evs:Ty:= .slice (.nm .Event)
def kU (r:Rules):Match:={ Match.zero with Rules:=r,Stage:=1 }
theorem jE {r:Rules} (h:az r=0):aI (kU r):=⟨fun z hz=>(by cases hz),Nat.zero_le _,by have:=oz h;show r.Power.length≤_;omega⟩
theorem EO {r:Rules} (h:az r=0):qV r=kU r:=by unfold qV;rw [h];rfl
end Go.Proofs.YthaeofeigglbhaaGreatDoor
namespace Go.Proofs.YthaeofeigglbhaaGreatDoor
open Go Go.Mir
attribute [local irreducible] Go.Mir.DT.sat Go.Mir.evPat Go.Mir.RT.sat Go.Mir.evFn
def gD:Match→List Mir.Event→Int→Match×Int×Int
 | m,[],_=>(m,-1,0)
 | m,e::l,i=>if decide (i≥4000) then (m,i,26) else if bb m e != 0 then (m,i,bb m e) else gD (bG m e) l (i+1)
end Go.Proofs.YthaeofeigglbhaaGreatDoor
namespace Go.Proofs.YthaeofeigglbhaaGreatDoor
open Go Go.Mir
attribute [local irreducible] Go.Mir.DT.sat Go.Mir.evPat Go.Mir.RT.sat Go.Mir.evFn
def okG (m:Match) (l:List Mir.Event) (i:Int):Prop:=(gD m l i).2.2=0
theorem ES {m:Match} {e:Mir.Event} {l:List Mir.Event} {i:Int} (h:okG m (e::l) i):i<4000∧bb m e=0∧okG (bG m e) l (i+1):=by
 unfold okG gD at h
 by_cases hd:decide (i≥4000)=true
 ·rw [if_pos hd] at h;exact absurd (show (26:Int)=0 from h) (by decide)
 ·rw [if_neg hd] at h
  by_cases hc :(bb m e != 0)=true
  ·rw [if_pos hc] at h
   have h:bb m e=0:=h
   rw [h] at hc;cases hc
  ·rw [if_neg hc] at h
   exact ⟨by simpa using hd,by simpa using hc,h⟩
end Go.Proofs.YthaeofeigglbhaaGreatDoor
namespace Go.Proofs.YthaeofeigglbhaaGreatDoor
open Go Go.Mir
theorem xz :∀ (l:List Mir.Event) (m:Match) (i:Int) (e:Mir.Event),okG m l i→
  gD m (l++[e]) i=if decide (i +(l.length:Int)≥4000) then ((gD m l i).1,i +(l.length:Int),26)
   else if bb (gD m l i).1 e != 0 then ((gD m l i).1,i +(l.length:Int),bb (gD m l i).1 e) else (bG (gD m l i).1 e,-1,0)
 | [],m,i,e,_=>by
  simp only [List.nil_append,List.length_nil,Int.natCast_zero,Int.add_zero]
  rfl
 | x::l,m,i,e,h=>by
  obtain ⟨h1,h2,h3⟩:=ES h
  have hd :¬ decide (i≥4000)=true:=by rw [decide_eq_true_eq];omega
  have hc :¬(bb m x != 0)=true:=by rw [h2];decide
  have e1 :∀ r,gD m (x::r) i=gD (bG m x) r (i+1):=fun r=>by show (if _ then _ else _)=_;rw [if_neg hd,if_neg hc]
  rw [List.cons_append,e1,e1,xz l (bG m x) (i+1) e h3]
  have e2:i+1 +(l.length:Int)=i +((x::l).length:Int):=by simp only [List.length_cons];omega
  rw [e2]
theorem qk :∀ (l:List Mir.Event) (m:Match) (i:Int),aI m→aI (gD m l i).1
 | [],_,_,h=>h
 | x::l,m,i,h=>by
  unfold gD
  split
  ·exact h
  ·split
   ·exact h
   ·exact qk l _ _ (lu x h)
abbrev Srv:Type:=live_Server
def okS (s:Srv):Prop:=az s.rules=0∧gD (kU s.rules) s.log 0 =(s.match_,-1,0)∧s.log.length≤4000
def iZ (s:Srv) (e:Mir.Event):Int:=if decide ((s.log.length:Int)≥4000) then 26 else bb s.match_ e
def dQ (s:Srv) (e:Mir.Event):Srv:=if iZ s e != 0 then s else { s with match_:=bG s.match_ e,log:=s.log++[e] }
theorem CT {s:Srv} (h:okS s):aI s.match_:=by
 have:=qk s.log (kU s.rules) 0 (jE h.1)
 rw [h.2.1] at this
 exact this
theorem Fi {s:Srv} (h:okS s) (e:Mir.Event):okS (dQ s e):=by
 unfold dQ
 split
 ·exact h
 ·rename_i hc
  have h0:iZ s e=0:=by simpa using hc
  unfold iZ at h0
  by_cases hl :(s.log.length:Int)≥4000
  ·rw [if_pos (decide_eq_true hl)] at h0;cases h0
  ·rw [if_neg (by rw [decide_eq_true_eq];exact hl)] at h0
   have hk:=h
   obtain ⟨h1,h2,h3⟩:=h
   refine ⟨h1,?_,?_⟩
   ·have ho:okG (kU s.rules) s.log 0:=by unfold okG;rw [h2]
    show gD (kU s.rules) (s.log++[e]) 0=_
    rw [xz _ _ _ _ ho,h2]
    have hd :¬ decide (0 +(s.log.length:Int)≥4000)=true:=by rw [decide_eq_true_eq];omega
    rw [if_neg hd,if_neg (by rw [h0];decide)]
   ·show (s.log++[e]).length≤_
    rw [List.length_append,List.length_singleton];omega
end Go.Proofs.YthaeofeigglbhaaGreatDoor
namespace Go.Proofs.YthaeofeigglbhaaGreatDoor
open Go Go.Mir
attribute [local irreducible] Go.Mir.DT.sat Go.Mir.evPat Go.Mir.RT.sat Go.Mir.evFn
end Go.Proofs.YthaeofeigglbhaaGreatDoor
namespace Go.Mir
open Go.RowKit
variable {P:Program}
inductive PF where
 | dat
 | ptr
 | clo (g:FuncId)
def Cb (H:aL) (t:Ty):V→Option (Den t)
 | .ptr h off=>match Nat.beq off 0 with
  | true=>match H h with
   | some (.cells cs)=>o9 H t cs
   | _=>none
  | false=>none
 | .fp t' xs i off=>match Nat.beq off 0 with
  | true=>if e:t'=t then xs[i.toNat]?.map fun x=>(e▸x:Den t) else none
  | false=>none
 | _=>none
def Il (H:aL) (g:FuncId) (t:Ty):V→Option (Den t)
 | .fn g' [.nilmap,p]=>match Nat.beq g' g with
  | true=>Cb H t p
  | false=>none
 | _=>none
def B3 (H:aL) (q:PF) (a:Ty) (v:V):Option (Den a):=
 match q with
 | .ptr=>Cb H a v
 | .clo g=>Il H g a v
 | .dat=>(db H (.prod a .unit) [v]).map (·.1)
def cK (H:aL):List PF→(ps:Ty)→List V→Option (Den ps)
 | q,.prod a b,v::vs=>match B3 H (q.headD .dat) a v with
  | some x=>match cK H q.tail b vs with
   | some y=>some (x,y)
   | none=>none
  | none=>none
 | _,.unit,[]=>some ()
 | _,_,_=>none
def Ki (q:PF) (a:Ty) (x:Den a):V:=
 match q with
 | .ptr=> .fp a [x] 0 0
 | .clo g=> .fn g [.nilmap,.fp a [x] 0 0]
 | .dat=>eA a x
def fN:List PF→(ps:Ty)→Den ps→List V
 | q,.prod a b,x=>Ki (q.headD .dat) a x.1::fN q.tail b x.2
 | _,_,_=> []
def Ko (H:aL):V→List Nat
 | .ptr h _=>(match H h with|some (.cells cs)=>hss cs|_=> [])
 | _=> []
def Jl (H:aL):List PF→List V→List Nat
 | q,v::vs=>(match q.headD .dat with
  | .ptr=>Ko H v
  | .clo _=>(match v with | .fn _ [_,p]=>Ko H p|_=> [])
  | .dat=>v.hs)++Jl H q.tail vs
 | _,[]=> []
def eP (K:Nat) (q:List PF) (ps:Ty) (spec:Den ps→PRes):Ctr:=fun args H m=>
 match cK (roL H (Jl H q args)) q ps args with
 | some x=>
  let r:=spec x
  bif Nat.ble r.rows.length K&&r.flat then some (r.needs,r.v.shift m,gO m 0 r.rows) else none
 | none=>none
def ze (E:Env):Env:=⟨fun _=>False,fun _=>none,fun b=>b<E.w.heap.size,E.w,fun _=>none⟩
theorem oT {B:Base} {E:Env} (hE:HRel B E) {t:Ty} {v:V} {u:Value} {x:Den t} (hv:aa E v u) (h:Cb E.H t v=some x) :
  aa (ze E) (.fp t [x] 0 0) u∧∃ cs,Rd (fun b=>b<E.w.heap.size) E.w t x cs:=by
 have up :∀ {t:Ty} {x:Den t} {cs:List Value},Rd E.S E.w t x cs→Rd (fun b=>b<E.w.heap.size) E.w t x cs:=fun h=>h.ext (fun b hb=>hE.stab b hb) (fun _ _=>rfl)
 unfold Cb at h
 split at h
 ·rename_i hh off
  split at h
  case h_2=>cases h
  rename_i hoff
  have hoff:=Nat.eq_of_beq_eq_true hoff
  subst hoff
  split at h
  case h_2=>cases h
  rename_i cs hcs
  obtain ⟨b,c,T,fr,k1,k2,k3,k4,k5⟩:=hE.blk _ _ hcs
  have hrd:=cj hE h k5
  have hp:=hv
  simp only [aa] at hp
  obtain ⟨b',k6,k7⟩:=hp.2.2 cs hcs
  rw [k1] at k6
  cases k6
  have hlen:=hrd.len
  refine ⟨?_,_,up hrd⟩
  simp only [aa]
  refine ⟨b,0,c,T,fr,hE.lt _ _ _ hcs k1,k2,?_,fun j hj=>?_,Int.le_refl _,by simp,?_⟩
  ·simp only [List.length_singleton]
   have:c.toList.length=c.size:=by simp
   omega
  ·have:j=0:=by simpa using hj
   subst this
   have e:seg c (0+0*sz t) (sz t)=c.toList:=by
    unfold seg
    simp only [Nat.zero_mul,Nat.add_zero,List.drop_zero]
    exact List.take_of_length_le (by omega)
   rw [e]
   exact up hrd
  ·rw [k7];simp
 ·rename_i t' xs i off
  split at h
  case h_2=>cases h
  rename_i hoff
  have hoff:=Nat.eq_of_beq_eq_true hoff
  subst hoff
  split at h
  case isFalse=>cases h
  rename_i e
  subst e
  simp only [aa] at hv
  obtain ⟨b,o,c,T,fr,k1,k2,k3,k4,k5,k6,k7⟩:=hv
  rw [List.getElem?_eq_getElem k6] at h
  simp only [Option.map_some,Option.some.injEq] at h
  subst h
  have hm :(i.toNat+1)*sz t'≤xs.length*sz t':=Nat.mul_le_mul_right _ k6
  rw [Nat.add_mul] at hm
  refine ⟨?_,_,up (k4 _ k6)⟩
  simp only [aa]
  refine ⟨b,o+i.toNat*sz t',c,T,fr,hE.stab _ k1,k2,by simp only [List.length_singleton];omega,fun j hj=>?_,Int.le_refl _,by simp,?_⟩
  ·have:j=0:=by simpa using hj
   subst this
   simp only [Nat.zero_mul,Nat.add_zero]
   exact up (k4 _ k6)
  ·rw [k7];simp
 ·cases h
theorem yd {B:Base} {E:Env} (hE:HRel B E) {q:PF} {t:Ty} {v:V} {u:Value} {x:Den t} (hv:aa E v u) (h:B3 E.H q t v=some x) :
  aa (ze E) (Ki q t x) u∧∃ cs,Rd (fun b=>b<E.w.heap.size) E.w t x cs:=by
 have up :∀ {t:Ty} {x:Den t} {cs:List Value},Rd E.S E.w t x cs→Rd (fun b=>b<E.w.heap.size) E.w t x cs:=fun h=>h.ext (fun b hb=>hE.stab b hb) (fun _ _=>rfl)
 cases q with
 | ptr=>exact oT hE hv h
 | clo g=>
  simp only [B3] at h
  unfold Il at h
  split at h
  ·rename_i g' p
   split at h
   case h_2=>cases h
   rename_i hg
   have hg:=Nat.eq_of_beq_eq_true hg
   subst hg
   simp only [aa] at hv
   obtain ⟨l,h1,h2⟩:=hv
   obtain ⟨l⟩:=l
   match l,h2 with
   | [m,pv],h2=>
    simp only [ae] at h2
    obtain ⟨k1,k2⟩:=oT hE h2.2.1 h
    refine ⟨?_,k2⟩
    show aa (ze E) (.fn g' [.nilmap,.fp t [x] 0 0]) u
    unfold aa
    exact ⟨⟨[m,pv]⟩,h1,by simp only [ae];exact ⟨by simpa only [aa] using h2.1,k1,trivial⟩⟩
   | [],h2=>simp [ae] at h2
   | [_],h2=>simp [ae] at h2
   | _::_::_::_,h2=>simp [ae] at h2
  ·cases h
 | dat=>
  simp only [B3,Option.map_eq_some_iff] at h
  obtain ⟨x1,hx1,rfl⟩:=h
  let Ec:Env:=⟨fun _=>False,fun _=>none,E.S,E.w,fun _=>none⟩
  have hv1:ae E [v] [u]:=by simp only [ae];exact ⟨hv,trivial⟩
  obtain ⟨j1,cs1,j2⟩:=eO hE (Ec:=Ec) rfl rfl hv1 hx1
  have X:Ext Ec (ze E):=⟨fun _ h=>h,fun b hb=>hE.stab b hb,fun _ _=>rfl,fun h cs _ hx=>(by cases hx),fun h ver rw t xs _ _ hx=>(by cases hx),fun h ver esz cs _ _ hx=>(by cases hx),fun h es _ hx=>(by cases hx)⟩
  have j3:=aX X _ _ j1
  simp only [bh,ae] at j3
  refine ⟨j3.1,?_⟩
  cases j2 with
  | prod ha hb=>exact ⟨_,up ha⟩
theorem pa {B:Base} {E:Env} (hE:HRel B E) :∀ {q:List PF} {ps:Ty} {args:List V} {av:List Value} {x:Den ps},ae E args av→cK E.H q ps args=some x→
  ae (ze E) (fN q ps x) av∧∃ cs,Rd (fun b=>b<E.w.heap.size) E.w ps x cs:=by
 intro q ps
 induction ps generalizing q with
 | prod a b iha ihb=>
  intro args av x hv h
  cases args with
  | nil=>simp [cK] at h
  | cons v vs=>
   cases av with
   | nil=>simp [ae] at hv
   | cons u us=>
    simp only [ae] at hv
    simp only [cK] at h
    simp only [fN,ae]
    split at h
    case h_2=>cases h
    rename_i x1 hx1
    split at h
    case h_2=>cases h
    rename_i y1 hy1
    cases h
    obtain ⟨i1,cs2,i2⟩:=ihb hv.2 hy1
    obtain ⟨k1,cs1,k2⟩:=yd hE hv.1 hx1
    exact ⟨⟨k1,i1⟩,_,.prod k2 i2⟩
 | unit=>
  intro args av x hv h
  cases args with
  | nil=>
   cases av with
   | nil=>exact ⟨trivial,[],.unit⟩
   | cons=>simp [ae] at hv
  | cons=>simp [cK] at h
 | int=>intro args av x hv h;cases args <;> simp [cK] at h
 | bool=>intro args av x hv h;cases args <;> simp [cK] at h
 | str=>intro args av x hv h;cases args <;> simp [cK] at h
 | slice=>intro args av x hv h;cases args <;> simp [cK] at h
 | nm=>intro args av x hv h;cases args <;> simp [cK] at h
theorem og {C:Cfg} (hC:CfgOK P C) (hP:P.follows .mixedOrders=true) {f:FuncId} {fn:Func} (hf:P.funcs[f]?=some fn) (hbody:fn.body.isSome=true) (hname :(fn.name == "runtime.NumGoroutine")=false) (hN:C.N=fn.ntmps)
  {q:List PF} {ps:Ty} {spec:Den ps→PRes} {Λ:Den ps→Nat→Option LoopSum}
  (hΛ :∀ x:Den ps,wfD ps x→(∀ p∈(spec x).needs,p)→∀ c,fn.body=some c→∀ b∈aJ (Λ x) c,∀ L,Λ x (rid b)=some L→LoopOK P C.N b L) (hlen :∀ x:Den ps,(fN q ps x).length≤fn.ntmps)
  (h :∀ x:Den ps,wfD ps x→(∀ p∈(spec x).needs,p)→(evFn C (Λ x) fn (fN q ps x)).sat fun v rows=>leV v (spec x).v∧rows =(spec x).rows):CtrOK P C.K f (eP C.K q ps spec):=by
 refine ⟨⟨fn,hf,hbody,hname⟩,fun B E hE args av hav m hm ps' v dh hct hps=>?_⟩
 unfold eP at hct
 split at hct
 case h_2=>cases hct
 rename_i x hx
 simp only at hct
 cases hle:Nat.ble (spec x).rows.length C.K&&(spec x).flat with
 | false=>rw [hle] at hct;cases hct
 | true=>
  rw [hle] at hct
  simp only [cond_true,Option.some.injEq,Prod.mk.injEq] at hct
  obtain ⟨rfl,rfl,rfl⟩:=hct
  simp only [Bool.and_eq_true] at hle
  obtain ⟨hle,hfl⟩:=hle
  obtain ⟨hSE,XS⟩:=cx hE (Jl E.H q args)
  have hE0:HRel (xg E.w (fun _=>False) (fun b=>b<E.w.heap.size) hE.glob0) (ze E):=by
   refine ⟨fun h b hx=>?_,fun b hb=>hb,fun h k b hx=>?_,fun h h' k k' b hx=>?_,fun h k hx=>?_,Keeps.refl _ _,fun h k b hx=>?_,fun _ h=>h,fun _ h=> .inl h⟩ <;> cases hx
  obtain ⟨hav0,cs,hrd⟩:=pa hSE (aX XS _ _ hav) hx
  have hav0:ae (ze E) (fN q ps x) av:=hav0
  have hwf:wfD ps x:=⟨_,_,_,hrd⟩
  have hl0:av.length≤fn.ntmps:=by rw [←aQ hav0];exact hlen x
  refine Calls.mono (p0 hC hP hf hN (hΛ x hwf hps) (h x hwf hps) hE0 (fun _=>trivial) rfl (fun _ h=>h) hav0 hl0) fun e w' hr=>?_
  obtain ⟨Ec,v',v0,v,acc,rfl,hEc,rfl,hv,hcan,hq1,hq2⟩:=hr
  have hcs:=mC hEc m v0 [] v acc v' hcan hv
  have hacc:=hcs.acc ⟨by simp,fun h r hr=>by simp at hr⟩
  have hlenK:acc.length≤C.K:=by
   have:=Nat.le_of_ble_eq_true hle
   rw [←hq2] at this
   simpa using this
  simp only [PRes.flat,Bool.and_eq_true,List.all_eq_true] at hfl
  obtain ⟨E',G,hren,_⟩:=DQ hE hm (S1:=fun b=>b<E.w.heap.size) (fun b hb=>hE.stab b hb) hEc hacc hlenK (.inr fun q hq=>hfl.2 _ (by rw [←hq2];exact List.mem_map_of_mem hq))
  refine ⟨E',v',rfl,?_,?_⟩
  ·rw [←hq2];exact G
  ·exact lP _ _ _ hq1 (hcs.rel E' G.w (.inr (vi _ _ hq1 hfl.1)) hren)
end Go.Mir
namespace Go.Proofs.YthaeofeigglbhaaGreatDoor
open Go Go.Mir
attribute [local irreducible] Go.Mir.DT.sat Go.Mir.evPat Go.Mir.RT.sat Go.Mir.evFn
abbrev Jd (l:PC0):List PC0:= [.d (.nm .Rules),.h I,l,.d (.nm .Match)]
abbrev TS:Type:=Rules×Int×Match×List Mir.Event×Unit
def _root_.Go.Mir.mkS (v1:Rules) (v2:Int) (v3:Match) (lg:List Mir.Event):live_Server:={ rules:=v1,epoch:=v2,log:=lg,match_:=v3 }
def _root_.Go.Mir.mkSX (x:TS):live_Server:=mkS x.1 x.2.1 x.2.2.1 x.2.2.2.1
def HJ:Ty:= .prod Evs .unit
def wY:Den HJ→PRes:=fun x=>⟨[x.1.length≤1000000],.osl 0 0,[⟨.nm .Event,x.1⟩]⟩
def iL:FuncId×Ctr:=(58,ar KE HJ wY)
abbrev hpS (v:Nat):List (Nat×PB):= [(0,.cells (Jd (.c (.osl 1 v)))),(1,.row v (.nm .Event))]
abbrev Ck:Pat:=⟨[(0,.c (.ptr 0 0)),(1,.h I)],hpS 2,3⟩
abbrev Cl:Pat:=⟨[(0,.c .nilptr),(1,.h I)],[],0⟩
def G6 (r:Rules):live_Server:={ rules:=r,epoch:=1,log:= [],match_:=kU r }
def vx (r:Rules):Prop:=az r=0
def xf (r:Rules):Prop:=az r≠0
def AV:Den (tyP qRu)→List Prop×Den (tyP Ck):=fun x=>([vx x.1],((0:Int),(G6 x.1).rules,(G6 x.1).epoch,(G6 x.1).match_,[],()))
def vZ:Den (tyP qRu)→List Prop×Den (tyP Cl):=fun x=>([xf x.1],(az x.1,()))
abbrev qSE:Pat:=⟨[(0,.c (.ptr 0 0)),(1,.h (.nm .Event))],hpS 2,3⟩
abbrev qSL:Pat:=⟨[(0,.h I)],hpS 3,4⟩
def jP (s:live_Server):Prop:=aI s.match_∧s.log.length≤4000
def nz:Den (tyP qSE)→List Prop×Den (tyP qSL):=fun x=>([jP (mkSX x.2)],(iZ (mkSX x.2) x.1,(dQ (mkSX x.2) x.1).rules,(dQ (mkSX x.2) x.1).epoch,(dQ (mkSX x.2) x.1).match_,(dQ (mkSX x.2) x.1).log,()))
def HO:Ty:= .prod (.nm .live_Server) .unit
def Ca:Ty:= .prod (.nm .live_Server) (.prod I .unit)
def pE:Den HO→PRes:=fun x=>⟨[x.1.log.length≤1000000],.osl 0 0,[⟨.nm .Event,x.1.log⟩]⟩
def qU (s:live_Server) (k:Int):Bool:=decide (k<0)||decide (k >(s.log.length:Int))
def gH (s:live_Server) (k:Int):Int:=if qU s k then 2 else 0
def ke (s:live_Server) (k n:Int):Int:=if qU s k then 0 else n
def iR (s:live_Server) (k:Int):List Mir.Event:=if qU s k then [] else s.log.drop k.toNat
def pF:Den Ca→PRes:=fun x=>⟨[x.1.log.length≤1000000],.tup [.agg [.int .i64 (ke x.1 x.2.1 x.1.epoch),.int .i64 (ke x.1 x.2.1 x.2.1),.int .i64 (ke x.1 x.2.1 x.1.log.length),.osl 0 0],.int .i64 (gH x.1 x.2.1)],[⟨.nm .Event,iR x.1 x.2.1⟩]⟩
theorem Ap (x:List Mir.Event) (hs:x.length≤1000000) :(evFn (an [] Tryz.f58) (fun _=>none) Tryz.f58 (bh HJ (x,()))).sat fun v' rows=>leV v' (wY (x,())).v∧rows =(wY (x,())).rows:=by
 refine cast (by kernel_rfl) (?_ :(x.isEmpty=true→(nat_lit 0=nat_lit 0∧nat_lit 0=nat_lit 0)∧ [RowD.mk (Ty.nm Nm.Event) []]=[RowD.mk (Ty.nm Nm.Event) x])∧((0:Nat)+x.length) *(136:Nat)≤(70368744177664:Nat)∧(nat_lit 0=nat_lit 0∧nat_lit 0=nat_lit 0)∧ [RowD.mk (Ty.nm Nm.Event) ([]++x)]=[RowD.mk (Ty.nm Nm.Event) x])
 refine ⟨fun h=>⟨⟨rfl,rfl⟩,?_⟩,?_,⟨rfl,rfl⟩,rfl⟩
 ·have:x=[]:=List.isEmpty_iff.1 h
  subst this;rfl
 ·omega
theorem ob:CtrOK Tryz.prog KE 58 (ar KE HJ wY):=by
 refine aR (C:=an [] Tryz.f58) (al (CtrsOK.nil) _) mixed (fn:=Tryz.f58) Tryz.func58 (by kernel_rfl) (by kernel_rfl) (by kernel_rfl) (Λ:=fun _ _=>none) ?_ ?_ ?_
 ·exact fun _ _ _ _ _ _ _ _ h=>by cases h
 ·rintro ⟨x,⟨⟩⟩
  exact of_decide_eq_true (by kernel_rfl)
 ·rintro ⟨x,⟨⟩⟩ hw hn
  exact Ap x (hn _ (List.mem_singleton.2 rfl))
theorem FN (r:Rules) (h0:vx r) :(evPat (an [tD] Tryz.f24) (fun _=>none) Tryz.f24 qRu Ck (r,())).sat fun z_=>z_ =(AV (r,())).2:=by
 refine cast (by kernel_rfl) (?_ :((az r !=(0:Int))=true→False)∧((az r !=(0:Int))=false→((0:Int),(qV r).1,(1:Int),qV r,([]:List Mir.Event),()) =((0:Int),r,(1:Int),kU r,([]:List Mir.Event),())))
 have h0':az r=0:=h0
 refine ⟨fun h=>?_,fun _=>?_⟩
 ·rw [h0'] at h;exact absurd h (by decide)
 ·rw [EO h0'];rfl
def kN:FuncId×Ctr:=(24,af KE qRu Ck AV)
theorem pz:CtrOK Tryz.prog KE 24 (af KE qRu Ck AV):=by
 refine ax (C:=an [tD] Tryz.f24) (al (.consU Aa rfl .nil) _) mixed (fn:=Tryz.f24) Tryz.func24 (by kernel_rfl) (by kernel_rfl) (by kernel_rfl) (by kernel_rfl) (by kernel_rfl) (by kernel_rfl) (Λ:=fun _ _=>none) ?_ ?_
 ·exact fun _ _ _ _ _ _ _ _ h=>by cases h
 ·rintro ⟨r,⟨⟩⟩ hw hn
  exact FN r (hn _ List.mem_cons_self)
theorem Dq (r:Rules) (h0:xf r) :(evPat (an [tD] Tryz.f24) (fun _=>none) Tryz.f24 qRu Cl (r,())).sat fun z_=>z_ =(vZ (r,())).2:=by
 refine cast (by kernel_rfl) (?_ :((az r !=(0:Int))=true→(az r,()) =(az r,()))∧((az r !=(0:Int))=false→False))
 exact ⟨fun _=>rfl,fun h=>h0 (by simpa using h)⟩
def lM:FuncId×Ctr:=(24,af KE qRu Cl vZ)
theorem q8:CtrOK Tryz.prog KE 24 (af KE qRu Cl vZ):=by
 refine ax (C:=an [tD] Tryz.f24) (al (.consU Aa rfl .nil) _) mixed (fn:=Tryz.f24) Tryz.func24 (by kernel_rfl) (by kernel_rfl) (by kernel_rfl) (by kernel_rfl) (by kernel_rfl) (by kernel_rfl) (Λ:=fun _ _=>none) ?_ ?_
 ·exact fun _ _ _ _ _ _ _ _ h=>by cases h
 ·rintro ⟨r,⟨⟩⟩ hw hn
  exact Dq r (hn _ List.mem_cons_self)
theorem vQ (s:live_Server) (e:Mir.Event) (hs:jP s) :(evPat (an [qG] Tryz.f17) (fun _=>none) Tryz.f17 qSE qSL (e,s.rules,s.epoch,s.match_,s.log,())).sat fun z_=>z_ =(nz (e,s.rules,s.epoch,s.match_,s.log,())).2:=by
 refine cast (by kernel_rfl) (?_:let r1:Bool:=bb s.4 e ==(0:Int);let r2:Bool:=decide ((↑s.3.length:Int)≥(4000:Int));(r2=true→((26:Int),s.1,s.2,s.4,s.3,()) =(iZ s e,(dQ s e).1,(dQ s e).2,(dQ s e).4,(dQ s e).3,()))∧(r2=false→aI s.4∧(r1=true→(s.3.length+[e].length) *(136:Nat)≤(70368744177664:Nat)∧(bb s.4 e,s.1,s.2,bG s.4 e,s.3++[e],()) =(iZ s e,(dQ s e).1,(dQ s e).2,(dQ s e).4,(dQ s e).3,()))∧(r1=false→(bb s.4 e,s.1,s.2,s.4,s.3,()) =(iZ s e,(dQ s e).1,(dQ s e).2,(dQ s e).4,(dQ s e).3,()))))
 intro r1 r2
 clear_value (hr1:r1=_) (hr2:r2=_)
 have hr2':decide ((s.log.length:Int)≥4000)=r2:=hr2.symm
 refine ⟨fun h=>?_,fun h=>⟨hs.1,fun h1=>⟨?_,?_⟩,fun h1=>?_⟩⟩
 ·have hp:iZ s e=26:=by unfold iZ;rw [hr2',h];rfl
  have hS:dQ s e=s:=by unfold dQ;rw [if_pos (by rw [hp];decide)]
  rw [hS,hp]
 ·have:=hs.2;simp only [List.length_singleton];omega
 ·have hz:bb s.match_ e=0:=by rw [hr1] at h1;exact eq_of_beq h1
  have hp:iZ s e=0:=by unfold iZ;rw [hr2',h,hz];rfl
  have hS:dQ s e={ s with match_:=bG s.match_ e,log:=s.log++[e] }:=by unfold dQ;rw [if_neg (by rw [hp];decide)]
  rw [hS,hp,hz]
 ·have hp:iZ s e=bb s.match_ e:=by unfold iZ;rw [hr2',h];rfl
  have hS:dQ s e=s:=by
   unfold dQ
   rw [if_pos]
   show (!(iZ s e==0))=true
   rw [hp,←hr1,h1];rfl
  rw [hS,hp]
def qA:FuncId×Ctr:=(17,af KE qSE qSL nz)
theorem oP:CtrOK Tryz.prog KE 17 (af KE qSE qSL nz):=by
 refine ax (C:=an [qG] Tryz.f17) (al (.consU vC rfl .nil) _) mixed (fn:=Tryz.f17) Tryz.func17 (by kernel_rfl) (by kernel_rfl) (by kernel_rfl) (by kernel_rfl) (by kernel_rfl) (by kernel_rfl) (Λ:=fun _ _=>none) ?_ ?_
 ·exact fun _ _ _ _ _ _ _ _ h=>by cases h
 ·rintro ⟨e,v1,v2,v3,lg,⟨⟩⟩ hw hn
  exact vQ (mkS v1 v2 v3 lg) e (hn _ List.mem_cons_self)
def klvLog:FuncId×Ctr:=(18,eP KE ([.ptr]:List PF) HO pE)
theorem FM (s:live_Server) (hl:s.log.length≤1000000) :(evFn (an [iL] Tryz.f18) (fun _=>none) Tryz.f18 (fN ([.ptr]:List PF) HO (s,()))).sat fun v' rows=>leV v' (pE (s,())).v∧rows =(pE (s,())).rows:=by
 refine cast (by kernel_rfl) (?_ :([s].getD (Int.toNat (0:Int)) (dflt (Ty.nm Nm.live_Server))).3.length≤(1000000:Nat)∧(nat_lit 0=nat_lit 0∧nat_lit 0=nat_lit 0)∧ [RowD.mk (Ty.nm Nm.Event) ([s].getD (Int.toNat (0:Int)) (dflt (Ty.nm Nm.live_Server))).3]=[RowD.mk (Ty.nm Nm.Event) s.3])
 exact ⟨hl,⟨rfl,rfl⟩,rfl⟩
theorem Hs:CtrOK Tryz.prog KE 18 (eP KE ([.ptr]:List PF) HO pE):=by
 refine og (C:=an [iL] Tryz.f18) (al (.consU ob rfl .nil) _) mixed (fn:=Tryz.f18) Tryz.func18 (by kernel_rfl) (by kernel_rfl) (by kernel_rfl) (Λ:=fun _ _=>none) ?_ ?_ ?_
 ·exact fun _ _ _ _ _ _ _ _ h=>by cases h
 ·rintro ⟨s,⟨⟩⟩
  exact of_decide_eq_true (by kernel_rfl)
 ·rintro ⟨s,⟨⟩⟩ hw hn
  exact FM s (hn _ List.mem_cons_self)
def klvMessage:FuncId×Ctr:=(14,eP KE ([.ptr,.dat]:List PF) Ca pF)
theorem vO (s:live_Server) (k:Int) (hl:s.log.length≤1000000) :(evFn (an [iL] Tryz.f14) (fun _=>none) Tryz.f14 (fN ([.ptr,.dat]:List PF) Ca (s,k,()))).sat fun v' rows=>leV v' (pF (s,k,())).v∧rows =(pF (s,k,())).rows:=by
 refine cast (by kernel_rfl) (?_ :((bif decide (k <(0:Int)) then true else decide (k >(↑([s].getD (Int.toNat (0:Int)) (dflt (Ty.nm Nm.live_Server))).3.length:Int)))=true→(((0:Int)=ke s k s.2∧(0:Int)=ke s k k∧(0:Int)=ke s k (↑s.3.length:Int)∧(nat_lit 0=nat_lit 0∧nat_lit 0=nat_lit 0)∧True)∧(2:Int)=gH s k∧True)∧ [RowD.mk (Ty.nm Nm.Event) []]=[RowD.mk (Ty.nm Nm.Event) (iR s k)])∧((bif decide (k <(0:Int)) then true else decide (k >(↑([s].getD (Int.toNat (0:Int)) (dflt (Ty.nm Nm.live_Server))).3.length:Int)))=false→((0:Int)≤k∧k≤(↑([s].getD (Int.toNat (0:Int)) (dflt (Ty.nm Nm.live_Server))).3.length:Int)∧(↑([s].getD (Int.toNat (0:Int)) (dflt (Ty.nm Nm.live_Server))).3.length:Int)≤(↑([s].getD (Int.toNat (0:Int)) (dflt (Ty.nm Nm.live_Server))).3.length:Int))∧(List.drop k.toNat (List.take (↑([s].getD (Int.toNat (0:Int)) (dflt (Ty.nm Nm.live_Server))).3.length:Int).toNat ([s].getD (Int.toNat (0:Int)) (dflt (Ty.nm Nm.live_Server))).3)).length≤(1000000:Nat)∧((([s].getD (Int.toNat (0:Int)) (dflt (Ty.nm Nm.live_Server))).2=ke s k s.2∧k=ke s k k∧(↑([s].getD (Int.toNat (0:Int)) (dflt (Ty.nm Nm.live_Server))).3.length:Int)=ke s k (↑s.3.length:Int)∧(nat_lit 0=nat_lit 0∧nat_lit 0=nat_lit 0)∧True)∧(0:Int)=gH s k∧True)∧ [RowD.mk (Ty.nm Nm.Event) (List.drop k.toNat (List.take (↑([s].getD (Int.toNat (0:Int)) (dflt (Ty.nm Nm.live_Server))).3.length:Int).toNat ([s].getD (Int.toNat (0:Int)) (dflt (Ty.nm Nm.live_Server))).3))]=[RowD.mk (Ty.nm Nm.Event) (iR s k)]))
 have eG :(bif decide (k<0) then true else decide (k >(s.log.length:Int)))=qU s k:=by unfold qU;cases decide (k<0) <;> rfl
 refine ⟨fun h=>?_,fun h=>?_⟩
 ·have h:qU s k=true:=eG.symm.trans h
  have a :∀ n,ke s k n=0:=fun n=>by unfold ke;rw [if_pos h]
  have b:gH s k=2:=by unfold gH;rw [if_pos h]
  have c:iR s k=[]:=by unfold iR;rw [if_pos h]
  exact ⟨⟨⟨(a _).symm,(a _).symm,(a _).symm,⟨rfl,rfl⟩,trivial⟩,b.symm,trivial⟩,by rw [c];rfl⟩
 ·have h:qU s k=false:=eG.symm.trans h
  have hn :¬ qU s k=true:=by rw [h];decide
  have a :∀ n,ke s k n=n:=fun n=>by unfold ke;rw [if_neg hn]
  have b:gH s k=0:=by unfold gH;rw [if_neg hn]
  have c:iR s k=s.log.drop k.toNat:=by unfold iR;rw [if_neg hn]
  have hb:=h
  unfold qU at hb
  simp only [Bool.or_eq_false_iff,decide_eq_false_iff_not] at hb
  have t:List.take ((s.log.length:Int)).toNat s.log=s.log:=List.take_of_length_le (by omega)
  have c':iR s k =(List.take ((s.log.length:Int)).toNat s.log).drop k.toNat:=by rw [t];exact c
  have b1:k≤(s.log.length:Int):=by omega
  have b2 :((List.take ((s.log.length:Int)).toNat s.log).drop k.toNat).length≤1000000:=by rw [t,List.length_drop];omega
  exact ⟨⟨by omega,b1,Int.le_refl _⟩,b2,⟨⟨(a _).symm,(a _).symm,(a _).symm,⟨rfl,rfl⟩,trivial⟩,b.symm,trivial⟩,by rw [c'];rfl⟩
theorem oO:CtrOK Tryz.prog KE 14 (eP KE ([.ptr,.dat]:List PF) Ca pF):=by
 refine og (C:=an [iL] Tryz.f14) (al (.consU ob rfl .nil) _) mixed (fn:=Tryz.f14) Tryz.func14 (by kernel_rfl) (by kernel_rfl) (by kernel_rfl) (Λ:=fun _ _=>none) ?_ ?_ ?_
 ·exact fun _ _ _ _ _ _ _ _ h=>by cases h
 ·rintro ⟨s,k,⟨⟩⟩
  exact of_decide_eq_true (by kernel_rfl)
 ·rintro ⟨s,k,⟨⟩⟩ hw hn
  exact vO s k (hn _ List.mem_cons_self)
end Go.Proofs.YthaeofeigglbhaaGreatDoor
namespace Go.Proofs.YthaeofeigglbhaaGreatDoor
open Go Go.Mir
attribute [local irreducible] Go.Mir.DT.sat Go.Mir.evPat Go.Mir.RT.sat Go.Mir.evFn
def zh (s:ByteArray):ByteArray:=s.extract 0 (vq s.size 20).toNat
def mB (r:Rules):Rules:={ r with Name:=zh r.Name,Power:=r.Power.take (vq r.Power.length 10).toNat }
def AM:Den (tyP qRu)→List Prop×Den (tyP qRu):=fun x=>([],(mB x.1,()))
theorem sQ (r:Rules) :(evPat (an [] Tryz.f23) (fun _=>none) Tryz.f23 qRu qRu (r,())).sat fun z_=>z_ =(AM (r,())).2:=by
 refine cast (by kernel_rfl) (?_:let r1:Int:=if (20:Int) <(↑r.1.size:Int) then (20:Int) else (↑r.1.size:Int);let r2:Int:=if (10:Int) <(↑r.14.length:Int) then (10:Int) else (↑r.14.length:Int);((0:Int)≤(0:Int)∧(0:Int)≤r1∧r1≤(↑r.1.size:Int))∧((0:Int)≤(0:Int)∧(0:Int)≤r2∧r2≤(↑r.14.length:Int))∧(Rules.mk (r.1.extract (Int.toNat (0:Int)) r1.toNat) r.2 r.3 r.4 r.5 r.6 r.7 r.8 r.9 r.10 r.11 r.12 r.13 (List.drop (Int.toNat (0:Int)) (List.take r2.toNat r.14)),()) =(mB r,()))
 intro r1 r2
 clear_value (hr1:r1=_) (hr2:r2=_)
 have h1:0≤r1∧r1≤r.Name.size:=by rw [hr1];split <;> omega
 have h2:0≤r2∧r2≤r.Power.length:=by rw [hr2];split <;> omega
 refine ⟨⟨Int.le_refl _,h1.1,h1.2⟩,⟨Int.le_refl _,h2.1,h2.2⟩,?_⟩
 rw [hr1,hr2]
 rfl
def bD:FuncId×Ctr:=(23,af KE qRu qRu AM)
theorem dD:CtrOK Tryz.prog KE 23 (af KE qRu qRu AM):=by
 refine ax (C:=an [] Tryz.f23) (al (CtrsOK.nil) _) mixed (fn:=Tryz.f23) Tryz.func23 (by kernel_rfl) (by kernel_rfl) (by kernel_rfl) (by kernel_rfl) (by kernel_rfl) (by kernel_rfl) (Λ:=fun _ _=>none) ?_ ?_
 ·exact fun _ _ _ _ _ _ _ _ h=>by cases h
 ·rintro ⟨r,⟨⟩⟩ hw hn
  exact sQ r
end Go.Proofs.YthaeofeigglbhaaGreatDoor
namespace Go.Proofs.YthaeofeigglbhaaGreatDoor
open Go Go.Mir
attribute [local irreducible] Go.Mir.DT.sat Go.Mir.evPat Go.Mir.RT.sat Go.Mir.evFn
abbrev Jc (l:PC0):List PC0:= [.d (.nm .Match),.h I,.h I,.d (.nm .Match),.h I,.h I,l]
abbrev TF:Type:=Match×Int×Int×Match×Int×Int×List Message×Unit
def _root_.Go.Mir.mkF (v1:Match) (v2:Int) (v3:Int) (v4:Match) (v5:Int) (v6:Int) (kp:List Message):live_Follower:={ start:=v1,epoch:=v2,known:=v3,match_:=v4,newest:=v5,newestN:=v6,kept:=kp }
def _root_.Go.Mir.mkFX (x:TF):live_Follower:=mkF x.1 x.2.1 x.2.2.1 x.2.2.2.1 x.2.2.2.2.1 x.2.2.2.2.2.1 x.2.2.2.2.2.2.1
abbrev hpF (v:Nat):List (Nat×PB):= [(0,.cells (Jc (.c (.osl 1 v)))),(1,.row v (.nm .Message))]
abbrev Ch:Pat:=⟨[(0,.c (.ptr 0 0)),(1,.h I)],hpF 2,3⟩
def xZ (r:Rules):live_Follower:={ start:=kU r,epoch:=0,known:=0,match_:=kU r,newest:=0,newestN:=0,kept:= [] }
def ou:Den (tyP qRu)→List Prop×Den (tyP Ch):=fun x=>([vx x.1],((0:Int),(xZ x.1).start,(xZ x.1).epoch,(xZ x.1).known,(xZ x.1).match_,(xZ x.1).newest,(xZ x.1).newestN,[],()))
def yn:Ty:= .prod (.nm .live_Follower) .unit
def B7:Ty:= .prod (.nm .live_Follower) (.prod (.nm .Message) .unit)
def pD:Den yn→PRes:=fun x=>⟨[],.tup [.int .i64 x.1.epoch,.int .i64 x.1.known],[]⟩
def zL (f:live_Follower):Int:=if f.epoch != f.newest then f.newestN else qT (W (f.newestN - f.known)) 0
def nC:Den yn→PRes:=fun x=>⟨[],.int .i64 (zL x.1),[]⟩
def aZ (f:live_Follower) (m:Message):Bool:=(m.Epoch==f.epoch&&decide (m.From≤f.known)) ||(m.From==0&&decide (m.Epoch>f.epoch))
def jQ:Den B7→PRes:=fun x=>⟨[],.bool (aZ x.1 x.2.1),[]⟩
abbrev qMs:Pat:=cm [.nm .Message]
def Bm (m:Message):Bool:=decide (m.Epoch<1)||decide (m.From<0)||decide (m.To<0)||decide (m.To>4000) ||(W (m.To - m.Events.length) != m.From)
def cG (m:Message):Bool:=!Bm m&&m.Events.all fun e=>bc e==0
def vX:Den (tyP qMs)→List Prop×Den (tyP aC):=fun x=>([x.1.Events.length≤aW],(cG x.1,()))
abbrev Cm:Pat:=cm [.str]
def Ba (s:ByteArray):Rules:=if s.toList ==({ data:=#[84,69,83,84] }:ByteArray).toList then { Name:=s,Side:=11,Innings:=2,Overs:=0,Balls:=6,Quota:=0,Wide:=1,NoBall:=1,FreeHit:=false,NewBall:=80,FollowOn:=200,Reviews:=3,Outside:=9,Power:= [] }
 else if s.toList ==({ data:=#[79,78,69,68,65,89] }:ByteArray).toList then { Name:=s,Side:=11,Innings:=1,Overs:=50,Balls:=6,Quota:=10,Wide:=1,NoBall:=1,FreeHit:=true,NewBall:=0,FollowOn:=0,Reviews:=2,Outside:=5,Power:= [⟨1,10,2⟩,⟨11,40,4⟩] }
 else if s.toList ==({ data:=#[84,87,69,78,84,89] }:ByteArray).toList then { Name:=s,Side:=11,Innings:=1,Overs:=20,Balls:=6,Quota:=4,Wide:=1,NoBall:=1,FreeHit:=true,NewBall:=0,FollowOn:=0,Reviews:=2,Outside:=5,Power:= [⟨1,6,2⟩] }
 else Rules.zero
def A9 (s:ByteArray):Int:=if s.toList ==({ data:=#[84,69,83,84] }:ByteArray).toList||s.toList ==({ data:=#[79,78,69,68,65,89] }:ByteArray).toList||s.toList ==({ data:=#[84,87,69,78,84,89] }:ByteArray).toList then 0 else 6
abbrev Cg:Pat:=cm [.nm .Rules,I]
def JV:Den (tyP Cm)→List Prop×Den (tyP Cg):=fun x=>([],(Ba x.1,A9 x.1,()))
abbrev qNo:Pat:=cm []
abbrev Cf:Pat:=cm [Evs]
def m0:Mir.Event:=dflt (Ty.nm Nm.Event)
def tossW:List Mir.Event:= [{ m0 with Kind:=1,Side:=1,Yes:=true },{ m0 with Kind:=2,Player:=1,Other:=2 },{ m0 with Kind:=8,Player:=2 }]
def Gh:Den (tyP qNo)→List Prop×Den (tyP Cf):=fun _=>([],(tossW,()))
theorem yQ (r:Rules) (h0:vx r) :(evPat (an [tD] Tryz.f57) (fun _=>none) Tryz.f57 qRu Ch (r,())).sat fun z_=>z_ =(ou (r,())).2:=by
 refine cast (by kernel_rfl) (?_ :((az r !=(0:Int))=true→False)∧((az r !=(0:Int))=false→((0:Int),qV r,(0:Int),(0:Int),qV r,(0:Int),(0:Int),([]:List Message),()) =((0:Int),kU r,(0:Int),(0:Int),kU r,(0:Int),(0:Int),([]:List Message),())))
 have h0':az r=0:=h0
 refine ⟨fun h=>?_,fun _=>?_⟩
 ·rw [h0'] at h;exact absurd h (by decide)
 ·rw [EO h0']
def tB:FuncId×Ctr:=(57,af KE qRu Ch ou)
theorem z7:CtrOK Tryz.prog KE 57 (af KE qRu Ch ou):=by
 refine ax (C:=an [tD] Tryz.f57) (al (.consU Aa rfl .nil) _) mixed (fn:=Tryz.f57) Tryz.func57 (by kernel_rfl) (by kernel_rfl) (by kernel_rfl) (by kernel_rfl) (by kernel_rfl) (by kernel_rfl) (Λ:=fun _ _=>none) ?_ ?_
 ·exact fun _ _ _ _ _ _ _ _ h=>by cases h
 ·rintro ⟨r,⟨⟩⟩ hw hn
  exact yQ r (hn _ List.mem_cons_self)
def EE:FuncId×Ctr:=(16,eP KE ([.ptr]:List PF) yn pD)
theorem FL (f:live_Follower) :(evFn (an [] Tryz.f16) (fun _=>none) Tryz.f16 (fN ([.ptr]:List PF) yn (f,()))).sat fun v' rows=>leV v' (pD (f,())).v∧rows =(pD (f,())).rows:=by
 refine cast (by kernel_rfl) (?_ :(([f].getD (Int.toNat (0:Int)) (dflt (Ty.nm Nm.live_Follower))).2=f.2∧([f].getD (Int.toNat (0:Int)) (dflt (Ty.nm Nm.live_Follower))).3=f.3∧True)∧([]:List RowD)=[])
 exact ⟨⟨rfl,rfl,trivial⟩,rfl⟩
theorem Hr:CtrOK Tryz.prog KE 16 (eP KE ([.ptr]:List PF) yn pD):=by
 refine og (C:=an [] Tryz.f16) (al (CtrsOK.nil) _) mixed (fn:=Tryz.f16) Tryz.func16 (by kernel_rfl) (by kernel_rfl) (by kernel_rfl) (Λ:=fun _ _=>none) ?_ ?_ ?_
 ·exact fun _ _ _ _ _ _ _ _ h=>by cases h
 ·rintro ⟨f,⟨⟩⟩
  exact of_decide_eq_true (by kernel_rfl)
 ·rintro ⟨f,⟨⟩⟩ hw hn
  exact FL f
def BH:FuncId×Ctr:=(20,eP KE ([.ptr]:List PF) yn nC)
theorem Dn (f:live_Follower) :(evFn (an [] Tryz.f20) (fun _=>none) Tryz.f20 (fN ([.ptr]:List PF) yn (f,()))).sat fun v' rows=>leV v' (nC (f,())).v∧rows =(nC (f,())).rows:=by
 refine cast (by kernel_rfl) (?_ :((([f].getD (Int.toNat (0:Int)) (dflt (Ty.nm Nm.live_Follower))).2 !=([f].getD (Int.toNat (0:Int)) (dflt (Ty.nm Nm.live_Follower))).5)=true→([f].getD (Int.toNat (0:Int)) (dflt (Ty.nm Nm.live_Follower))).6=zL f∧([]:List RowD)=[])∧((([f].getD (Int.toNat (0:Int)) (dflt (Ty.nm Nm.live_Follower))).2 !=([f].getD (Int.toNat (0:Int)) (dflt (Ty.nm Nm.live_Follower))).5)=false→(if (0:Int)>IntKind.i64.wrap (([f].getD (Int.toNat (0:Int)) (dflt (Ty.nm Nm.live_Follower))).6 - ([f].getD (Int.toNat (0:Int)) (dflt (Ty.nm Nm.live_Follower))).3) then (0:Int) else IntKind.i64.wrap (([f].getD (Int.toNat (0:Int)) (dflt (Ty.nm Nm.live_Follower))).6 - ([f].getD (Int.toNat (0:Int)) (dflt (Ty.nm Nm.live_Follower))).3))=zL f∧([]:List RowD)=[]))
 refine ⟨fun h=>⟨?_,rfl⟩,fun h=>⟨?_,rfl⟩⟩
 ·have h :(f.epoch != f.newest)=true:=h
  unfold zL;rw [h];rfl
 ·have h :(f.epoch != f.newest)=false:=h
  unfold zL;rw [h];rfl
theorem E5:CtrOK Tryz.prog KE 20 (eP KE ([.ptr]:List PF) yn nC):=by
 refine og (C:=an [] Tryz.f20) (al (CtrsOK.nil) _) mixed (fn:=Tryz.f20) Tryz.func20 (by kernel_rfl) (by kernel_rfl) (by kernel_rfl) (Λ:=fun _ _=>none) ?_ ?_ ?_
 ·exact fun _ _ _ _ _ _ _ _ h=>by cases h
 ·rintro ⟨f,⟨⟩⟩
  exact of_decide_eq_true (by kernel_rfl)
 ·rintro ⟨f,⟨⟩⟩ hw hn
  exact Dn f
def iQ:FuncId×Ctr:=(62,eP KE ([.ptr,.dat]:List PF) B7 jQ)
theorem yT (f:live_Follower) (m:Message) :(evFn (an [] Tryz.f62) (fun _=>none) Tryz.f62 (fN ([.ptr,.dat]:List PF) B7 (f,m,()))).sat fun v' rows=>leV v' (jQ (f,m,())).v∧rows =(jQ (f,m,())).rows:=by
 refine cast (by kernel_rfl) (?_ :(bif m.1 ==([f].getD (Int.toNat (0:Int)) (dflt (Ty.nm Nm.live_Follower))).2 then bif decide (m.2≤([f].getD (Int.toNat (0:Int)) (dflt (Ty.nm Nm.live_Follower))).3) then true else bif m.2 ==(0:Int) then decide (m.1 >([f].getD (Int.toNat (0:Int)) (dflt (Ty.nm Nm.live_Follower))).2) else false else bif m.2 ==(0:Int) then decide (m.1 >([f].getD (Int.toNat (0:Int)) (dflt (Ty.nm Nm.live_Follower))).2) else false)=aZ f m∧([]:List RowD)=[])
 refine ⟨?_,rfl⟩
 show (bif m.Epoch==f.epoch then bif decide (m.From≤f.known) then true else bif m.From==0 then decide (m.Epoch>f.epoch) else false else bif m.From==0 then decide (m.Epoch>f.epoch) else false)=_
 unfold aZ
 cases m.Epoch==f.epoch <;> cases decide (m.From≤f.known) <;> cases m.From==0 <;> cases decide (m.Epoch>f.epoch) <;> rfl
theorem mU:CtrOK Tryz.prog KE 62 (eP KE ([.ptr,.dat]:List PF) B7 jQ):=by
 refine og (C:=an [] Tryz.f62) (al (CtrsOK.nil) _) mixed (fn:=Tryz.f62) Tryz.func62 (by kernel_rfl) (by kernel_rfl) (by kernel_rfl) (Λ:=fun _ _=>none) ?_ ?_ ?_
 ·exact fun _ _ _ _ _ _ _ _ h=>by cases h
 ·rintro ⟨f,m,⟨⟩⟩
  exact of_decide_eq_true (by kernel_rfl)
 ·rintro ⟨f,m,⟨⟩⟩ hw hn
  exact yT f m
theorem sP (s:ByteArray) :(evPat (an [] Tryz.f56) (fun _=>none) Tryz.f56 Cm Cg (s,())).sat fun z_=>z_ =(JV (s,())).2:=by
 refine cast (by kernel_rfl) (?_:let r1:Bool:=s.toList ==(ByteArray.mk #[84,69,83,84]).toList;let r2:Bool:=s.toList ==(ByteArray.mk #[79,78,69,68,65,89]).toList;let r3:Bool:=s.toList ==(ByteArray.mk #[84,87,69,78,84,89]).toList;(r1=true→(Rules.mk s (11:Int) (2:Int) (0:Int) (6:Int) (0:Int) (1:Int) (1:Int) false (80:Int) (200:Int) (3:Int) (9:Int) [],(0:Int),()) =(Ba s,A9 s,()))∧(r1=false→(r2=true→(Rules.mk s (11:Int) (1:Int) (50:Int) (6:Int) (10:Int) (1:Int) (1:Int) true (0:Int) (0:Int) (2:Int) (5:Int) [Phase.mk (1:Int) (10:Int) (2:Int),Phase.mk (11:Int) (40:Int) (4:Int)],(0:Int),()) =(Ba s,A9 s,()))∧(r2=false→(r3=true→(Rules.mk s (11:Int) (1:Int) (20:Int) (6:Int) (4:Int) (1:Int) (1:Int) true (0:Int) (0:Int) (2:Int) (5:Int) [Phase.mk (1:Int) (6:Int) (2:Int)],(0:Int),()) =(Ba s,A9 s,()))∧(r3=false→(Rules.mk ByteArray.empty (0:Int) (0:Int) (0:Int) (0:Int) (0:Int) (0:Int) (0:Int) false (0:Int) (0:Int) (0:Int) (0:Int) [],(6:Int),()) =(Ba s,A9 s,())))))
 intro r1 r2 r3
 clear_value (hr1:r1=_) (hr2:r2=_) (hr3:r3=_)
 unfold Ba A9
 rw [←hr1,←hr2,←hr3]
 cases r1 <;> cases r2 <;> cases r3 <;> simp <;> rfl
def oN:FuncId×Ctr:=(56,af KE Cm Cg JV)
theorem vD:CtrOK Tryz.prog KE 56 (af KE Cm Cg JV):=by
 refine ax (C:=an [] Tryz.f56) (al (CtrsOK.nil) _) mixed (fn:=Tryz.f56) Tryz.func56 (by kernel_rfl) (by kernel_rfl) (by kernel_rfl) (by kernel_rfl) (by kernel_rfl) (by kernel_rfl) (Λ:=fun _ _=>none) ?_ ?_
 ·exact fun _ _ _ _ _ _ _ _ h=>by cases h
 ·rintro ⟨s,⟨⟩⟩ hw hn
  exact sP s
theorem Dz :(evPat (an [] Tryz.f25) (fun _=>none) Tryz.f25 qNo Cf ()).sat fun z_=>z_ =(Gh ()).2:=by
 refine cast (by kernel_rfl) (?_:let r1:Delivery:=Delivery.mk (0:Int) (0:Int) (0:Int) (0:Int) (0:Int) false (0:Int) (0:Int) (0:Int) (0:Int) false (0:Int);([Mir.Event.mk (1:Int) (1:Int) (0:Int) (0:Int) true (0:Int) (0:Int) r1,Mir.Event.mk (2:Int) (0:Int) (1:Int) (2:Int) false (0:Int) (0:Int) r1,Mir.Event.mk (8:Int) (0:Int) (2:Int) (0:Int) false (0:Int) (0:Int) r1],()) =(tossW,()))
 intro r1
 clear_value (hr1:r1=_)
 subst hr1
 rfl
def dp:FuncId×Ctr:=(25,af KE qNo Cf Gh)
theorem gK:CtrOK Tryz.prog KE 25 (af KE qNo Cf Gh):=by
 refine ax (C:=an [] Tryz.f25) (al (CtrsOK.nil) _) mixed (fn:=Tryz.f25) Tryz.func25 (by kernel_rfl) (by kernel_rfl) (by kernel_rfl) (by kernel_rfl) (by kernel_rfl) (by kernel_rfl) (Λ:=fun _ _=>none) ?_ ?_
 ·exact fun _ _ _ _ _ _ _ _ h=>by cases h
 ·rintro ⟨⟩ hw hn
  exact Dz
end Go.Proofs.YthaeofeigglbhaaGreatDoor
namespace Go.Mir
open Go Go.Proofs Go.Shelf Go.RowKit Go.Lib Go.Sort
variable {P:Program} {ρ:Go.Shelf.Ren}
structure DelLaid (P:Program) (ρ:Go.Shelf.Ren) (z:Nat):Prop where
 mixed:P.follows .mixedOrders=true
 f45:Bears P (ρ.f 45) (SlBodyN.n45 ρ)
 t3:P.underlying (ρ.t 3)=some (TypeDesc.int IntKind.i64)
 a3 :∀ w,(isAgg (ρ.t 3)).run P w = .ok false w
 z3 :∀ w,(Go.sizeOf (ρ.t 3)).run P w = .ok 1 w
 t4:P.underlying (ρ.t 4)=some (TypeDesc.bool)
 a4 :∀ w,(isAgg (ρ.t 4)).run P w = .ok false w
 z4 :∀ w,(Go.sizeOf (ρ.t 4)).run P w = .ok 1 w
 t22:P.underlying (ρ.t 22)=some (TypeDesc.slice (ρ.t 23))
 a22 :∀ w,(isAgg (ρ.t 22)).run P w = .ok false w
 z22 :∀ w,(Go.sizeOf (ρ.t 22)).run P w = .ok 1 w
 z23 :∀ w,(Go.sizeOf (ρ.t 23)).run P w = .ok z w
 i23 :∃ i0,P.info? (ρ.t 23)=some i0∧i0.size=z
 v23 :∃ zv,(∀ w,(zeroValue (ρ.t 23)).run P w = .ok zv w)∧zv.cells.size=z∧∀ u∈zv.cells.toList,u.oneCell'=true
set_option maxHeartbeats 4000000 in
set_option maxRecDepth 1000000 in
theorem D1 (L:DelLaid P ρ 4) (b cap n i:Nat) (w:World) (hn:n≤cap) (hcap:n≤aW) (hi:i≤n) :
  Calls P (ρ.f 45) #[.slice (some ⟨b,0,none⟩) n cap,.int .i64 i,.int .i64 i] w fun e w'=>e = .returned (.slice (some ⟨b,0,none⟩) n cap)∧w'=w:=by
 have mixed:=L.mixed;have t3:=L.t3;have a3:=L.a3;have z3:=L.z3;have t4:=L.t4;have a4:=L.a4;have z4:=L.z4;have t22:=L.t22;have a22:=L.a22;have z22:=L.z22;have z23:=L.z23
 have hcap:n≤140737488355328:=hcap
 obtain ⟨_,_,FG⟩:=L.f45
 go_enter FG,SlBodyN.n45_ntmps ρ
 go_wp2
 all_goals (go_ret;exact ⟨rfl,rfl⟩)
theorem pe (w:World) (t e ty:TypeId) (z:Value) (ht:P.underlying t=some (.slice e)) (hv :∀ w,(zeroValue e).run P w = .ok z w) (b o n c:Nat) (hn:0<n) {cs:Array Value} {T:TypeId} {fr:Nat×Nat}
  (h1 :∀ u∈z.cells.toList,u.oneCell'=true) (hb:w.heap[b]?=some (.cells cs T fr)) (hfr:Mir.nofrz fr cs.size) (hsz:o+n*z.cells.size≤cs.size) :
  (Builtin.clear_ #[t] ty #[.slice (some ⟨b,o,none⟩) n c]).run P w = .ok (.tuple #[]) (w.setCells b o (Builtin.zeroCells z.cells n).toList):=by
 have hst:=run_storeCells_cells (P:=P) b o (Builtin.zeroCells z.cells n).toList 0 w (fun k hk=>by
   rw [Mir.cell_of hb]
   simp [Builtin.zeroCells] at hk
   simp;omega) (fun k hk=>Mir.frozen_of hb hfr (by simp [Builtin.zeroCells] at hk;omega)) (by
   intro v hv'
   simp [Builtin.zeroCells] at hv'
   obtain ⟨k,hk,rfl⟩:=hv'
   have hp:0<z.cells.size:=by
    rcases Nat.eq_zero_or_pos z.cells.size with h|h
    ·rw [h] at hk;simp at hk
    ·exact h
   have hm:=Nat.mod_lt k hp
   rw [getElem!_pos z.cells _ hm]
   exact h1 _ (Array.mem_toList_iff.2 (Array.getElem_mem hm)))
 simp only [Nat.add_zero] at hst
 obtain ⟨m,rfl⟩ :∃ m,n=m+1:=⟨n - 1,by omega⟩
 simp [Builtin.clear_,run_underlying ht,hv,hst]
set_option maxHeartbeats 4000000 in
set_option maxRecDepth 1000000 in
theorem GN (L:DelLaid P ρ 4) (b cap n i j:Nat) (w:World) (c:Array Value) (T:TypeId) (fr:Nat×Nat) (hb:w.heap[b]?=some (.cells c T fr)) (hfr:Mir.nofrz fr c.size) (hc:c.size=cap*4) (hn:n≤cap) (hcap:n≤aW) (hij:i<j) (hj:j≤n)
  (h1 :∀ u∈Mir.seg c (j*4) ((n - j)*4),u.oneCell'=true) :
  Calls P (ρ.f 45) #[.slice (some ⟨b,0,none⟩) n cap,.int .i64 i,.int .i64 j] w fun e w'=>e = .returned (.slice (some ⟨b,0,none⟩) (i +(n - j)) cap)∧∃ zs:List Value,zs.length =(j - i)*4∧w' =(w.drew.setCells b (i*4) (Mir.seg c (j*4) ((n - j)*4))).setCells b ((i +(n - j))*4) zs:=by
 have mixed:=L.mixed;have t3:=L.t3;have a3:=L.a3;have z3:=L.z3;have t4:=L.t4;have a4:=L.a4;have z4:=L.z4;have t22:=L.t22;have a22:=L.a22;have z22:=L.z22;have z23:=L.z23
 obtain ⟨i0,hi0,hz1⟩:=L.i23
 obtain ⟨zv,hzv,hzs,hz1c⟩:=L.v23
 have hic:i≤cap:=by omega
 have hjc:j≤cap:=by omega
 have hn4:n*4≤c.size:=by omega
 obtain ⟨news,hnews⟩ :∃ news,news=Mir.seg c (j*4) ((n - j)*4):=⟨_,rfl⟩
 have hlen:news.length =(n - j)*4:=by rw [hnews];exact Mir.seg_len _ _ _ (by omega)
 have hbd:w.drew.heap[b]?=some (.cells c T fr):=hb
 obtain ⟨A,hA,hsrc⟩ :∃ A:Addr,(if cap=j then some (⟨b,0,none⟩:Addr) else some ⟨b,j*4,none⟩)=some A∧Hid (∀ t u,news[t]?=some u→w.drew.cell? (A.add t)=some u):=by
  by_cases h:cap=j
  ·refine ⟨⟨b,0,none⟩,by simp [h],fun t u hu=>?_⟩
   have h0:news.length=0:=by rw [hlen];omega
   rw [List.length_eq_zero_iff.1 h0] at hu
   simp at hu
  ·refine ⟨⟨b,j*4,none⟩,by simp [h],fun t u hu=>?_⟩
   rw [hnews,Mir.seg_get] at hu
   split at hu
   ·rw [Mir.addr_add,Mir.cell_of hbd];exact hu
   ·cases hu
 have s1:Hid (news.length =(n - j)*4):=hlen
 have s2:Hid (∀ u∈news,u.oneCell'=true):=by rw [hnews];exact h1
 have s3:Hid (∀ t,t<news.length→(w.drew.cell? ⟨b,0+i*4+t,none⟩).isSome=true∧w.drew.frozen? ⟨b,0+i*4+t,none⟩=false):=by
  intro t ht
  rw [hlen] at ht
  exact ⟨by rw [Mir.cell_of hbd];simp;omega,Mir.frozen_of hbd hfr (by omega)⟩
 obtain ⟨W1,hW1⟩ :∃ W1,W1=w.drew.setCells b (0+i*4) news:=⟨_,rfl⟩
 obtain ⟨c1,g1,g2⟩:=Mir.setCells_heap b news (0+i*4) w.drew c hbd (by omega)
 rw [←hW1] at g1
 have hcs:c1.size=c.size:=by
  have:=congrArg List.length g2
  simp at this
  omega
 have hcl :∀ ty,(Builtin.clear_ #[ρ.t 22] ty #[.slice (some ⟨b,(i +(n - j))*4,none⟩) (n - (i +(n - j))) (cap - (i +(n - j)))]).run P W1 = .ok (.tuple #[]) (W1.setCells b ((i +(n - j))*4) (Builtin.zeroCells zv.cells (n - (i +(n - j)))).toList):=
  fun ty=>pe W1 _ _ ty zv t22 hzv b _ _ _ (by omega) hz1c g1 (by rw [hcs];exact hfr) (by rw [hzs,hcs];omega)
 have hzl:Hid ((Builtin.zeroCells zv.cells (n - (i +(n - j)))).toList.length =(j - i)*4):=by
  show (Builtin.zeroCells zv.cells (n - (i +(n - j)))).toList.length =(j - i)*4
  rw [Array.length_toList,Mir.zeroCells_len,hzs];omega
 obtain ⟨zs,hzse⟩ :∃ zs,zs =(Builtin.zeroCells zv.cells (n - (i +(n - j)))).toList:=⟨_,rfl⟩
 rw [←hzse] at hcl hzl
 have hW:Hid (W1=w.drew.setCells b (0+i*4) news):=hW1
 have hN:Hid (news=Mir.seg c (j*4) ((n - j)*4)):=hnews
 clear hW1 g1 g2 hcs hbd hb hfr hnews hlen hzse h1
 have hcap:n≤140737488355328:=hcap
 obtain ⟨_,_,FG⟩:=L.f45
 go_enter FG,SlBodyN.n45_ntmps ρ
 go_wp2_with fail
 go_region_law_o (refine step_append_room rfl (.tmp 22) (.tmp 25) (ρ.t 22) rfl (ρ.t 23) i0 4 t22 hi0 hz1 b 0 i cap (by simp [Act.eval,Act.put]) A (n - j) (cap - j) news (by simp [Act.eval,Act.put,hA]) s1.out hsrc.out s2.out (by omega) s3.out ?_;rw [←hW.out])
 go_wp2
 go_ret
 refine ⟨rfl,zs,hzl.out,?_⟩
 rw [hW.out,Nat.zero_add,hN.out]
set_option maxHeartbeats 4000000 in
set_option maxRecDepth 1000000 in
theorem D0 (L:DelLaid P ρ 4) (a:Option Addr) (w:World) :
  Calls P (ρ.f 45) #[.slice a 0 0,.int .i64 0,.int .i64 0] w fun e w'=>e = .returned (.slice a 0 0)∧w'=w:=by
 have mixed:=L.mixed;have t3:=L.t3;have a3:=L.a3;have z3:=L.z3;have t4:=L.t4;have a4:=L.a4;have z4:=L.z4;have t22:=L.t22;have a22:=L.a22;have z22:=L.z22;have z23:=L.z23
 obtain ⟨_,_,FG⟩:=L.f45
 cases a with
 | none=>
  go_enter FG,SlBodyN.n45_ntmps ρ
  go_wp2
  all_goals (go_ret;exact ⟨rfl,rfl⟩)
 | some a=>
  go_enter FG,SlBodyN.n45_ntmps ρ
  go_wp2
  all_goals (go_ret;exact ⟨rfl,rfl⟩)
theorem yu {B:Base} {E:Env} (hE:HRel B E) {h ver b cap m:Nat} {t:Ty} {xs:List (Den t)} (hH:E.H h=some (.row ver true t xs)) (hm :¬ E.U m) (hρ:E.ρ h=some b) (hS :¬ E.S b) {w1:World} {c1:Array Value} {T:TypeId} {fr:Nat×Nat}
  (hk:Keeps E.w (fun b1=>some b=some b1) w1) (g1:w1.heap[b]?=some (.cells c1 T fr)) (hfr:nofrz fr c1.size) (hc1:c1.size=cap*sz t) (ys:List (Den t)) (hyc:ys.length≤cap) (hyl:ys.length≤aW) (hrd :∀ (i:Nat) (hi:i<ys.length),Rd E.S E.w t ys[i] (seg c1 (i*sz t) (sz t))) :
  ∃ E',Good B E m [(h,.row m true t ys)] w1 E'∧aa E' (.osl h m) (.slice (some ⟨b,0,none⟩) ys.length cap):=by
 have hU:=hE.used _ _ hH
 obtain ⟨R,X⟩:=gR hE h (.row m true t ys) (some b) w1 (fun n=>E.U n∨n=m) (fun n h=> .inl h) (.inl hU) hk (fun b1 e=>by cases e;exact .inr ⟨hρ,_,hH,rfl⟩) (fun b1 e=>by cases e;exact hS)
  (fun _ e _=>by cases e) (fun _ _ _ _ e _ h=>by cases e;exact absurd h hm)
  (fun X=>⟨.inr rfl,.inr ⟨b,c1,T,fr,aD _ _ _,g1,hfr,fun _=>hS,(fun e=>by cases e),by rw [hc1];exact Nat.mul_le_mul_right _ hyc,hyl,fun i hi=>(hrd i hi).ext X.s X.keepS⟩⟩)
 refine ⟨_,⟨R,X,rfl,(bJ _ _ _).symm,fun n h=>?_⟩,?_⟩
 ·rcases h with h|h
  ·exact .inl h
  ·exact .inr ⟨by omega,by unfold KN;omega⟩
 ·simp only [aa]
  refine ⟨.inl hU,.inr trivial,⟨_,_,_,rfl⟩,fun rw t2 xs2 hH2=> .inr ⟨b,cap,c1,T,fr,aD _ _ _,?_⟩⟩
  simp only [aD,Option.some.injEq] at hH2
  cases hH2
  exact ⟨rfl,g1,hc1,hyc⟩
def uF (z:Nat):Ctr:=fun args H m=>
 match args with
 | [.osl h ver,.int .i64 i,.int .i64 j]=>match H h with
  | some (.row ver' true t xs)=>if ver'=ver∧sz t=z then some ([0≤i,i≤j,j≤(xs.length:Int)],.osl h m,[(h,.row m true t (xs.take i.toNat++xs.drop j.toNat))]) else none
  | _=>none
 | _=>none
theorem Jg (L:DelLaid P ρ 4) {K:Nat} (hK:1≤K):CtrOK P K (ρ.f 45) (uF 4):=by
 refine ⟨?_,?_⟩
 ·obtain ⟨nm,h1,h2⟩:=L.f45
  exact ⟨_,h2,rfl,h1⟩
 ·intro B E hE args av hav m hm ps v dh h hps
  have hmU :¬ E.U m:=hm m (Nat.le_refl _) (by omega)
  unfold uF at h
  split at h
  case h_2=>cases h
  rename_i h0 ver i j
  split at h
  case h_2=>cases h
  rename_i ver' t xs hH
  split at h
  case isFalse=>cases h
  rename_i hc
  obtain ⟨rfl,hz⟩:=hc
  simp only [Option.some.injEq,Prod.mk.injEq] at h
  obtain ⟨rfl,rfl,rfl⟩:=h
  have p1:0≤i:=hps _ (by simp)
  have p2:i≤j:=hps _ (by simp)
  have p3:j≤(xs.length:Int):=hps _ (by simp)
  obtain ⟨i,rfl⟩:=Int.eq_ofNat_of_zero_le p1
  obtain ⟨j,rfl⟩:=Int.eq_ofNat_of_zero_le (Int.le_trans p1 p2)
  have p2:i≤j:=by omega
  have p3:j≤xs.length:=by omega
  simp only [Int.toNat_natCast]
  match av,hav with
  | [sv,iv,jv],hav=>
   simp only [ae,aa] at hav
   obtain ⟨hs,⟨rfl,_⟩,⟨rfl,_⟩,_⟩:=hav
   rcases iq hE hH (by simpa only [aa] using hs) with ⟨h2,rfl,a,rfl⟩ |⟨b,cap,c,T,fr,h3,rfl,h5,h6,hcap,h7,h8,h9,h10,h11,h12⟩
   ·have e1:j=0:=by simpa using p3
    subst e1
    have e2:i=0:=by omega
    subst e2
    obtain ⟨E',G,hv⟩:=Cc hE m hmU h0 (.inl (hE.used _ _ hH)) t a
    refine (D0 L a E.w).mono ?_
    rintro e w' ⟨rfl,rfl⟩
    exact ⟨E',_,rfl,by simpa using G.toK hK,hv⟩
   ·rw [hz] at h6 h10
    by_cases hij:i=j
    ·subst hij
     have ey:xs.take i++xs.drop i=xs:=List.take_append_drop _ _
     obtain ⟨E',G,hv⟩:=yu hE hH hmU h3 (h8 rfl) (Keeps.refl E.w _) h5 h7 (by rw [hz];exact h6) xs hcap h11 h12
     refine (D1 L b cap xs.length i E.w hcap h11 p3).mono ?_
     rintro e w' ⟨rfl,rfl⟩
     rw [ey]
     exact ⟨E',_,rfl,G.toK hK,hv⟩
    ·have hlt:i<j:=by omega
     have h13:=h12
     simp only [hz] at h13
     have one :∀ u∈seg c (j*4) ((xs.length - j)*4),u.oneCell'=true:=fun u hu=>by
      obtain ⟨p,hp⟩:=List.mem_iff_getElem?.1 hu
      rw [seg_get] at hp
      split at hp
      ·exact (h13 ((j*4+p) / 4) (by omega)).one u (List.mem_iff_getElem?.2 ⟨(j*4+p) % 4,by
        rw [seg_get,if_pos (by omega),show (j*4+p) / 4*4 +(j*4+p) % 4=j*4+p by omega];exact hp⟩)
      ·cases hp
     refine (GN L b cap xs.length i j E.w c T fr h5 h7 h6 hcap h11 hlt p3 one).mono ?_
     rintro e w' ⟨rfl,zs,hzl,rfl⟩
     obtain ⟨R0,X0⟩:=ui hE E.w.drew rfl rfl rfl rfl
     have hnl :(seg c (j*4) ((xs.length - j)*4)).length =(xs.length - j)*4:=seg_len _ _ _ (by omega)
     obtain ⟨c1,g1,g2⟩:=setCells_heap b (seg c (j*4) ((xs.length - j)*4)) (i*4) E.w.drew c h5 (by omega)
     have hcs:c1.size=c.size:=by
      have:=congrArg List.length g2
      simp at this
      omega
     obtain ⟨c2,k1,k2⟩:=setCells_heap b zs ((i +(xs.length - j))*4) _ c1 g1 (by omega)
     have hcs2:c2.size=c1.size:=by
      have:=congrArg List.length k2
      simp at this
      omega
     have hyl :(xs.take i++xs.drop j).length=i +(xs.length - j):=by simp;omega
     obtain ⟨E',G,hv⟩:=yu (w1:=(E.w.drew.setCells b (i*4) (seg c (j*4) ((xs.length - j)*4))).setCells b ((i +(xs.length - j))*4) zs) R0 hH hmU h3 (h8 rfl)
      ((bR b (fun b1=>some b=some b1) rfl _ _ _).trans (bR b (fun b1=>some b=some b1) rfl _ _ _) (fun _ h=> .inl h)) k1 (cap:=cap) (fi h7 (by omega)) (by rw [hz];omega) (xs.take i++xs.drop j) (by omega) (by unfold aW at h11 ⊢;omega) (fun k hk=>by
       have hl0 :(c.toList.take (i*4)).length=i*4:=by simp;omega
       have key:Rd E.S E.w t (xs.take i++xs.drop j)[k] (((c.toList.take (i*4)++seg c (j*4) ((xs.length - j)*4)).drop (k*sz t)).take (sz t)):=by
        refine nK (by rw [hl0,hz];simp;omega) (fun q hq=>?_) (fun q hq=>?_) k hk
        ·have hq':q<i:=by simp at hq;omega
         have h1:=h12 q (by omega)
         rw [List.getElem_take]
         have e :((c.toList.take (i*4)).drop (q*sz t)).take (sz t)=seg c (q*sz t) (sz t):=by
          rw [hz]
          simp only [seg,List.drop_take,List.take_take]
          congr 1
          omega
         rw [e];exact h1
        ·have hq':q<xs.length - j:=by simpa using hq
         have h1:=h12 (j+q) (by omega)
         rw [List.getElem_drop]
         have e :((seg c (j*4) ((xs.length - j)*4)).drop (q*sz t)).take (sz t)=seg c ((j+q)*sz t) (sz t):=by
          rw [hz]
          simp only [seg,List.drop_take,List.take_take,List.drop_drop]
          rw [show j*4+q*4 =(j+q)*4 by omega,show min 4 ((xs.length - j)*4 - q*4)=4 by omega]
         rw [e];exact h1
       have e1:c1.toList.take ((i +(xs.length - j))*4)=c.toList.take (i*4)++seg c (j*4) ((xs.length - j)*4):=by
        rw [g2]
        exact List.take_left' (by rw [List.length_append,hl0,hnl];omega)
       have e2:seg c2 (k*sz t) (sz t) =((c.toList.take (i*4)++seg c (j*4) ((xs.length - j)*4)).drop (k*sz t)).take (sz t):=by
        have hA :(c.toList.take (i*4)++seg c (j*4) ((xs.length - j)*4)).length =(i +(xs.length - j))*4:=by rw [List.length_append,hl0,hnl];omega
        unfold seg at hA ⊢
        rw [k2,e1,List.append_assoc,hz]
        unfold seg
        rw [List.drop_append_of_le_length (by rw [hA];omega),List.take_append_of_le_length (by rw [List.length_drop,hA];omega)]
       rw [e2]
       exact key.ext X0.s X0.keepS)
     rw [hyl] at hv
     exact ⟨E',_,rfl,(dX X0 G).toK hK,hv⟩
end Go.Mir
namespace Go.Proofs.YthaeofeigglbhaaGreatDoor
open Go Go.Mir
attribute [local irreducible] Go.Mir.DT.sat Go.Mir.evPat Go.Mir.RT.sat Go.Mir.evFn
def JO:Go.Shelf.Ren:=⟨fun|45=>65|n=>n,fun|0=>0|3=>3|4=>4|22=>115|23=>41|n=>n,fun n=>n⟩
theorem GM:DelLaid Tryz.prog JO 4 where
 mixed:=by kernel_rfl
 f45:=⟨"slices.Delete[[]scorebook/api.Message,scorebook/api.Message]",by decide,Tryz.func65.trans (congrArg some (by kernel_rfl))⟩
 t3:=Tryz.underlying3
 a3:=Tryz.isAgg3
 z3:=Tryz.sizeOf3
 t4:=Tryz.underlying4
 a4:=Tryz.isAgg4
 z4:=Tryz.sizeOf4
 t22:=Tryz.underlying115
 a22:=Tryz.isAgg115
 z22:=Tryz.sizeOf115
 z23:=Tryz.sizeOf41
 i23:=by
  obtain ⟨i,z,h1,h2,_⟩:=((al (l:= []) CtrsOK.nil Tryz.f65).tb 41 _ rfl).info
  exact ⟨i,h1,h2⟩
 v23:=⟨_,Tryz.zeroValue41,rfl,by decide⟩
def kDelMsg:FuncId×Ctr:=(65,uF 4)
theorem zG:CtrOK Tryz.prog KE kDelMsg.1 kDelMsg.2:=Jg GM (by decide)
def eJ (f:live_Follower):List Message→Int→Int
 | [],_=> -1
 | m::r,i=>if aZ f m then i else eJ f r (i+1)
theorem lK (f:live_Follower) (m:Message) (r:List Message) (i:Int):eJ f (m::r) i=if aZ f m then i else eJ f r (i+1):=rfl
def HL:Ty:= .prod (.slice (.nm .Message)) (.prod (.nm .live_Follower) .unit)
def wZ:Den HL→PRes:=fun x=>⟨[x.1.length≤1000],.int .i64 (eJ x.2.1 x.1 0),[]⟩
theorem Bo (f:live_Follower) :∀ (xs:List Message) (k:Int) (i:Nat) (m:Message),xs[i]?=some m→aZ f m=true→(∀ z∈xs.take i,aZ f z=false)→eJ f xs k=k+i
 | x::r,k,0,m,h,hu,_=>by
  simp only [List.getElem?_cons_zero,Option.some.injEq] at h
  subst h
  rw [lK,if_pos hu];omega
 | x::r,k,i+1,m,h,hu,hn=>by
  have h0:aZ f x=false:=hn x (by simp)
  rw [lK,h0,if_neg (by decide),Bo f r (k+1) i m (by simpa using h) hu (fun z hz=>hn z (by simp [hz]))]
  omega
theorem tc (f:live_Follower) :∀ (xs:List Message) (k:Int),xs.any (aZ f)=false→eJ f xs k = -1
 | [],_,_=>rfl
 | x::r,k,h=>by
  simp only [List.any_cons,Bool.or_eq_false_iff] at h
  rw [lK,h.1,if_neg (by decide),tc f r _ h.2]
abbrev clV (f:live_Follower):V:= .fn 62 [.nilmap,.fp (.nm .live_Follower) [f] 0 0]
def Bx (xs:List Message) (f:live_Follower) (i:Nat):Prop:=i≤xs.length∧∀ z∈xs.take i,aZ f z=false
def LKi (i:Nat):List (Lspec Nat):= [.out [true] [] [],.next (i+1) [] [],.out [false] [] []]
def JKi (xs:List Message) (f:live_Follower) (i:Nat):St:=⟨[(0,.fsl (.nm .Message) xs),(1,clV f),(7,.int .i64 xs.length),(8,.int .i64 i)],[],fun _=>none,0⟩
def TKi (xs:List Message) (f:live_Follower):Tr:= .br (xs.any (aZ f)) (.leaf .ret ⟨[(4,.int .i64 (eJ f xs 0))],[]⟩ 0) (.leaf (.ext 0) ⟨[],[]⟩ 0)
def ΛKi (xs:List Message) (f:live_Follower):Nat→Option LoopSum:=find [(2,ck ⟨[],[],0⟩ (JKi xs f 0) (TKi xs f))]
abbrev qZm:Pat:=⟨[(1,.c (.ptr 0 0)),(35,.h Evs),(36,.h I),(37,.h I)],[(0,.dat (.nm .Message))],1⟩
abbrev xZm:List (Lf×Pat):= [(.ret,⟨[(2,.h .bool)],[],0⟩),(.ext 0,⟨[],[],0⟩)]
abbrev TZm:Type:=List Mir.Event×Int×Int×Message×Unit
def tp (x:TZm):Prop:=x.2.1 =(x.1.length:Int)∧0≤x.2.2.1∧x.2.2.1≤x.2.1∧x.1.length≤aW
def CN (x:TZm):Nat:=(x.2.1 - x.2.2.1).toNat
def jg (x:TZm):Sum (Bool×Unit) Unit:=G8 ((x.1.drop x.2.2.1.toNat).all fun e=>bc e==0)
noncomputable def lpZm:Lp:=(⟨0,an [jz] Tryz.f61,(fun _=>none),(aE Tryz.f61 0),qZm,xZm⟩:Lp)
theorem Kc (es:List Mir.Event) (n:Int) (i:Int) (m:Message) (hi:tp (es,n,i,m,())) :(Go.Mir.stepG lpZm jg (fun y:Den (tyP lpZm.q)=>tp y∧CN y<CN (es,n,i,m,())) (es,n,i,m,())∧Go.Mir.stepE lpZm jg (es,n,i,m,())=jg (es,n,i,m,())):=by
 refine cast (by kernel_rfl) (?_:let r1:Bool:=bc (es.getD i.toNat (dflt (Ty.nm Nm.Event))) !=(0:Int);((decide (i<n)=true→((0:Int)≤i∧i <(↑es.length:Int))∧(r1=true→True)∧(r1=false→tp (es,n,IntKind.i64.wrap (i +(1:Int)),m,())∧CN (es,n,IntKind.i64.wrap (i +(1:Int)),m,())<CN (es,n,i,m,())))∧(decide (i<n)=false→True))∧(bif decide (i<n) then bif r1 then Sum.inl (false,()) else jg (es,n,IntKind.i64.wrap (i +(1:Int)),m,()) else Sum.inr ())=jg (es,n,i,m,()))
 intro r1
 clear_value (hr1:r1=_)
 obtain ⟨h1,h2,h3,h4⟩:=hi
 simp only at h1 h2 h3 h4
 have hx :(es.length:Int)≤140737488355328:=by have:es.length≤140737488355328:=h4;omega
 by_cases h:i<n
 ·have ea:es.drop i.toNat=es.getD i.toNat (dflt (Ty.nm Nm.Event))::es.drop (i+1).toNat:=dT h2 (by omega) _
  have e2:IntKind.i64.wrap (i+1)=i+1:=bM (by omega) (by omega)
  rw [decide_eq_true h,cond_true,e2]
  refine ⟨⟨fun _=>⟨⟨h2,by omega⟩,fun _=>trivial,fun _=>⟨⟨h1,by simp only;omega,by simp only;omega,h4⟩,by simp only [CN];omega⟩⟩,fun z=>Bool.noConfusion z⟩,?_⟩
  have hr :(bc (es.getD i.toNat (dflt (Ty.nm Nm.Event)))==0)=!r1:=by rw [hr1];simp [bne]
  have hA :((es.drop i.toNat).all fun e=>bc e==0) =(!r1&&((es.drop (i+1).toNat).all fun e=>bc e==0)):=by rw [ea,List.all_cons,←hr]
  simp only [jg]
  rw [hA]
  generalize ((es.drop (i+1).toNat).all fun e=>bc e==0)=q
  cases r1 <;> cases q <;> rfl
 ·rw [decide_eq_false h,cond_false]
  refine ⟨⟨fun z=>Bool.noConfusion z,fun _=>trivial⟩,?_⟩
  simp only [jg]
  rw [c7 (l:=es) (by omega)]
  rfl
noncomputable def I3:LoopSum:=bf lpZm jg tp
noncomputable def IP:Nat:=rid (aE Tryz.f61 0)
theorem JB:LoopOKp Tryz.prog 0 Tryz.f61.ntmps (aE Tryz.f61 0) (bf lpZm jg tp):=
 bT lpZm (al (.consU nv rfl .nil) _) mixed (fun b hb S hS=>by cases hS) jg tp CN (fun |⟨es,n,i,m,⟨⟩⟩,hi=>Kc es n i m hi)
theorem yR (m:Message) (hx:m.Events.length≤aW) :(evPat (an [jz] Tryz.f61) (find [(IP,I3)]) Tryz.f61 qMs aC (m,())).sat fun z_=>z_ =(vX (m,())).2:=by
 refine cast (by kernel_rfl) (?_:let r1:Bool:=bif decide (m.1 <(1:Int)) then true else bif decide (m.2 <(0:Int)) then true else bif decide (m.3 <(0:Int)) then true else bif decide (m.3 >(4000:Int)) then true else IntKind.i64.wrap (m.3 - (↑m.4.length:Int)) != m.2;let r2:Bool:=isL (jg (m.4,(↑m.4.length:Int),(0:Int),m,()));(r1=true→(false,()) =(cG m,()))∧(r1=false→((fh fun x=>none)∧(↑m.4.length:Int) =(↑m.4.length:Int)∧(0:Int)≤(0:Int)∧(0:Int)≤(↑m.4.length:Int)∧m.4.length≤aW)∧(r2=true→nU (dflt (Ty.bool.prod Ty.unit)) (jg (m.4,(↑m.4.length:Int),(0:Int),m,())) =(cG m,()))∧(r2=false→(true,()) =(cG m,()))))
 intro r1 r2
 clear_value (hr1:r1=_) (hr2:r2=_)
 have e0:jg (m.Events,(m.Events.length:Int),0,m,())=G8 (m.Events.all fun e=>bc e==0):=rfl
 rw [e0] at hr2 ⊢
 have hG:Bm m=r1:=by
  rw [hr1]
  unfold Bm
  cases decide (m.Epoch<1) <;> cases decide (m.From<0) <;> cases decide (m.To<0) <;> cases decide (m.To>4000) <;> rfl
 refine ⟨fun h=>?_,fun h=>⟨⟨rfl,rfl,Int.le_refl _,by omega,hx⟩,?_⟩⟩
 ·unfold cG;rw [hG,h];rfl
 ·unfold cG
  rw [hG,h]
  generalize (m.Events.all fun e=>bc e==0)=q at hr2 ⊢
  subst hr2
  cases q
  ·exact ⟨fun _=>rfl,fun z=>Bool.noConfusion z⟩
  ·exact ⟨fun z=>Bool.noConfusion z,fun _=>rfl⟩
def tC:FuncId×Ctr:=(61,af KE qMs aC vX)
theorem z8:CtrOK Tryz.prog KE 61 (af KE qMs aC vX):=by
 refine ax (C:=an [jz] Tryz.f61) (al (.consU nv rfl .nil) _) mixed (fn:=Tryz.f61) Tryz.func61 (by kernel_rfl) (by kernel_rfl) (by kernel_rfl) (by kernel_rfl) (by kernel_rfl) (by kernel_rfl) (Λ:=fun x=>find [(IP,I3)]) ?_ ?_
 ·rintro ⟨m,⟨⟩⟩ hw hn
  exact LoopsOKp.at (by kernel_rfl) (.cons (by kernel_rfl) (JB) .nil)
 ·rintro ⟨m,⟨⟩⟩ hw hn
  exact yR m (hn _ List.mem_cons_self)
theorem DF (xs:List Message) (f:live_Follower) (hx:xs.length≤1000) (i:Nat) (hi:Bx xs f i) :(stepObl (JKi xs f) (Bx xs f) (fun i=>xs.length - i) i (TKi xs f) (bm (an [iQ] Tryz.f64) (fun _=>none) (aE Tryz.f64 0) (JKi xs f i)) (LKi i)).1:=by
 refine cast (by kernel_rfl) (?_ :(decide ((↑i:Int) <(↑xs.length:Int))=true→((0:Int)≤(↑i:Int)∧(↑i:Int) <(↑xs.length:Int))∧(aZ f (xs.getD (↑i:Int).toNat (dflt (Ty.nm Nm.Message)))=true→xs.any (aZ f)=true∧((↑i:Int)=eJ f xs (0:Int)∧True)∧True)∧(aZ f (xs.getD (↑i:Int).toNat (dflt (Ty.nm Nm.Message)))=false→Bx xs f (i +(1:Nat))∧xs.length - (i +(1:Nat))<xs.length - i∧(RowD.mk (Ty.nm Nm.Message) xs=RowD.mk (Ty.nm Nm.Message) xs∧(True∧(RowD.mk (Ty.nm Nm.live_Follower) [f]=RowD.mk (Ty.nm Nm.live_Follower) [f]∧(0:Int) =(0:Int))∧True)∧(↑xs.length:Int) =(↑xs.length:Int)∧IntKind.i64.wrap ((↑i:Int) +(1:Int)) =(↑(i +(1:Nat)):Int)∧True)∧True))∧(decide ((↑i:Int) <(↑xs.length:Int))=false→xs.any (aZ f)=false∧True∧True))
 have e :(i:Int).toNat=i:=by simp
 rw [e]
 refine ⟨fun h1=>?_,fun h1=>?_⟩
 ·have h1:i<xs.length:=by simpa using h1
  have hg:xs[i]?=some (xs.getD i (dflt (Ty.nm Nm.Message))):=m8 _ h1
  refine ⟨⟨by omega,by omega⟩,fun h2=>⟨?_,⟨?_,trivial⟩,trivial⟩,fun h2=>⟨⟨by omega,?_⟩,by omega,⟨rfl,⟨trivial,⟨rfl,rfl⟩,trivial⟩,rfl,?_,trivial⟩,trivial⟩⟩
  ·exact List.any_eq_true.2 ⟨_,List.mem_of_getElem? hg,h2⟩
  ·rw [Bo f xs 0 i _ hg h2 hi.2];omega
  ·rw [List.take_succ_eq_append_getElem h1]
   intro z hz
   rcases List.mem_append.1 hz with hz|hz
   ·exact hi.2 z hz
   ·rw [List.mem_singleton.1 hz]
    rw [List.getElem?_eq_getElem h1] at hg
    rw [Option.some.inj hg]
    exact h2
  ·exact (bM (by omega) (by omega)).trans (by simp)
 ·have h1 :¬ i<xs.length:=by simpa using h1
  have hl:i=xs.length:=by have:=hi.1;omega
  have hk:=hi.2
  rw [hl,List.take_length] at hk
  exact ⟨List.any_eq_false.2 fun z hz=>by simp [hk z hz],trivial,trivial⟩
theorem CG (xs:List Message) (f:live_Follower) (hx:xs.length≤1000):LoopOK Tryz.prog Tryz.f64.ntmps (aE Tryz.f64 0) (ck ⟨[],[],0⟩ (JKi xs f 0) (TKi xs f)):=
 il (al (.consU mU rfl .nil) _) mixed (JKi xs f) (fun _=>rfl) (Bx xs f) (fun i=>xs.length - i) (fun _ _=>none) (fun _ _ _ _ _ h=>by cases h) (TKi xs f) [] [] 0 (⟨Nat.zero_le _,by simp⟩) LKi (fun i hi=>DF xs f hx i hi)
def zH:FuncId×Ctr:=(64,eP KE ([.dat,.clo 62]:List PF) HL wZ)
theorem Fy (xs:List Message) (f:live_Follower) (hx:xs.length≤1000) :(evFn (an [iQ] Tryz.f64) (ΛKi xs f) Tryz.f64 (fN ([.dat,.clo 62]:List PF) HL (xs,f,()))).sat fun v' rows=>leV v' (wZ (xs,f,())).v∧rows =(wZ (xs,f,())).rows:=by
 refine cast (by kernel_rfl) (?_ :((fh fun x=>none)∧(RowD.mk (Ty.nm Nm.Message) xs=RowD.mk (Ty.nm Nm.Message) xs∧(True∧(RowD.mk (Ty.nm Nm.live_Follower) [f]=RowD.mk (Ty.nm Nm.live_Follower) [f]∧(0:Int) =(0:Int))∧True)∧(↑xs.length:Int) =(↑xs.length:Int)∧(0:Int) =(↑(0:Nat):Int)∧True)∧True)∧(xs.any (aZ f)=true→eJ f xs (0:Int)=eJ f xs (0:Int)∧([]:List RowD)=[])∧(xs.any (aZ f)=false→(-1:Int)=eJ f xs (0:Int)∧([]:List RowD)=[]))
 exact ⟨⟨rfl,⟨rfl,⟨trivial,⟨rfl,rfl⟩,trivial⟩,rfl,rfl,trivial⟩,trivial⟩,fun _=>⟨rfl,rfl⟩,fun h=>⟨(tc f xs 0 h).symm,rfl⟩⟩
theorem BV:CtrOK Tryz.prog KE 64 (eP KE ([.dat,.clo 62]:List PF) HL wZ):=by
 refine og (C:=an [iQ] Tryz.f64) (al (.consU mU rfl .nil) _) mixed (fn:=Tryz.f64) Tryz.func64 (by kernel_rfl) (by kernel_rfl) (by kernel_rfl) (Λ:=fun x=>ΛKi x.1 x.2.1) ?_ ?_ ?_
 ·rintro ⟨xs,f,⟨⟩⟩ hw hn
  exact LoopsOK.at (by kernel_rfl) (.cons (by kernel_rfl) (CG xs f (hn _ List.mem_cons_self)) .nil)
 ·rintro ⟨xs,f,⟨⟩⟩
  exact of_decide_eq_true (by kernel_rfl)
 ·rintro ⟨xs,f,⟨⟩⟩ hw hn
  exact Fy xs f (hn _ List.mem_cons_self)
end Go.Proofs.YthaeofeigglbhaaGreatDoor
namespace Go.Proofs.YthaeofeigglbhaaGreatDoor
open Go Go.Mir
attribute [local irreducible] Go.Mir.DT.sat Go.Mir.evPat Go.Mir.RT.sat Go.Mir.evFn
abbrev Fol:Type:=live_Follower
def fM (f:Fol) (m:Message):Fol:=if m.Epoch != f.epoch then { f with epoch:=m.Epoch,known:=0,match_:=f.start } else f
def y5 (f:Fol) (m:Message):Int:=vq (W (f.known - m.From)) m.Events.length
def sT:Fol→List Mir.Event→Fol×Bool
 | f,[]=>(f,true)
 | f,e::l=>if bb f.match_ e != 0 then (f,false) else sT { f with match_:=bG f.match_ e,known:=W (f.known+1) } l
def de (f:Fol) (m:Message):Fol×Bool:=sT (fM f m) (m.Events.drop (y5 (fM f m) m).toNat)
def jO (f:Fol):Prop:=aI f.start∧aI f.match_∧0≤f.known∧f.known≤4000
def D9 (m:Message):Prop:=cG m=true∧m.Events.length≤aW
def okU (f:Fol) (m:Message):Prop:=jO f∧D9 m∧aZ f m=true
abbrev qFM:Pat:=⟨[(0,.c (.ptr 0 0)),(1,.h (.nm .Message))],hpF 2,3⟩
abbrev qFb:Pat:=⟨[(0,.h .bool)],hpF 2,3⟩
def JW:Den (tyP qFM)→List Prop×Den (tyP qFb):=fun x=>([okU (mkFX x.2) x.1],((de (mkFX x.2) x.1).2,(de (mkFX x.2) x.1).1.start,(de (mkFX x.2) x.1).1.epoch,(de (mkFX x.2) x.1).1.known,(de (mkFX x.2) x.1).1.match_,(de (mkFX x.2) x.1).1.newest,(de (mkFX x.2) x.1).1.newestN,(de (mkFX x.2) x.1).1.kept,()))
abbrev qZu:Pat:=⟨[(0,.c (.ptr 0 0)),(44,.h Evs),(45,.h I),(46,.h I)],hpF 2,3⟩
abbrev xZu:List (Lf×Pat):= [(.ret,⟨[(4,.h .bool)],hpF 2,3⟩),(.ext 0,⟨[],hpF 2,3⟩)]
abbrev TZu:Type:=List Mir.Event×Int×Int×TF
def tq (x:TZu):Prop:=(x.2.1 =(x.1.length:Int)∧0≤x.2.2.1∧x.2.2.1≤x.2.1∧x.1.length≤aW)∧aI (mkFX x.2.2.2).match_
def CO (x:TZu):Nat:=(x.2.1 - x.2.2.1).toNat
def B6 (p:Fol×Bool):Sum (Bool×TF) TF:=if p.2 then .inr (p.1.start,p.1.epoch,p.1.known,p.1.match_,p.1.newest,p.1.newestN,p.1.kept,()) else .inl (false,p.1.start,p.1.epoch,p.1.known,p.1.match_,p.1.newest,p.1.newestN,p.1.kept,())
def iw (x:TZu):Sum (Bool×TF) TF:=B6 (sT (mkFX x.2.2.2) (x.1.drop x.2.2.1.toNat))
theorem uo :∀ (l:List Mir.Event) (f:Fol),(sT f l).1.kept=f.kept
 | [],_=>rfl
 | e::l,f=>by
  unfold sT
  split
  ·rfl
  ·exact uo l _
theorem DJ (f:Fol) (m:Message) :(fM f m).kept=f.kept:=by unfold fM;split <;> rfl
theorem jj (f:Fol) (m:Message) :(de f m).1.kept=f.kept:=(uo _ _).trans (DJ f m)
theorem sf :∀ (l:List Mir.Event) (f:Fol),jO f→f.known +(l.length:Int)≤4000→jO (sT f l).1
 | [],_,h,_=>h
 | e::l,f,h,hk=>by
  obtain ⟨h1,h2,h3,h4⟩:=h
  simp only [List.length_cons] at hk
  unfold sT
  split
  ·exact ⟨h1,h2,h3,h4⟩
  ·have e1:W (f.known+1)=f.known+1:=bM (by omega) (by omega)
   exact sf l _ ⟨h1,lu e h2,by show 0≤W (f.known+1);omega,by show W (f.known+1)≤4000;omega⟩ (by show W (f.known+1)+_≤4000;omega)
theorem nS {m:Message} (h:D9 m):1≤m.Epoch∧0≤m.From∧m.From +(m.Events.length:Int)≤4000∧m.To=m.From +(m.Events.length:Int):=by
 obtain ⟨h,hl⟩:=h
 have hl' :(m.Events.length:Int)≤140737488355328:=by have:m.Events.length≤140737488355328:=hl;omega
 unfold cG at h
 simp only [Bool.and_eq_true,Bool.not_eq_true'] at h
 have hg:=h.1
 unfold Bm at hg
 simp only [Bool.or_eq_false_iff,decide_eq_false_iff_not,bne_eq_false_iff_eq] at hg
 obtain ⟨⟨⟨⟨a,b⟩,c⟩,d⟩,e⟩:=hg
 have e1:W (m.To - m.Events.length)=m.To - m.Events.length:=bM (by omega) (by omega)
 rw [e1] at e
 omega
theorem uq {f:Fol} {m:Message} (h:okU f m):jO (fM f m)∧0≤y5 (fM f m) m∧y5 (fM f m) m≤m.Events.length∧(fM f m).known +((m.Events.length:Int) - y5 (fM f m) m)≤4000∧m.From≤(fM f m).known:=by
 obtain ⟨⟨h1,h2,h3,h4⟩,hf,hu⟩:=h
 obtain ⟨a,b,c,d⟩:=nS hf
 have hF:jO (fM f m)∧m.From≤(fM f m).known:=by
  unfold fM
  split
  ·rename_i hc
   have hc :¬ m.Epoch=f.epoch:=by simpa using hc
   have:m.From=0:=by
    unfold aZ at hu
    simp only [Bool.or_eq_true,Bool.and_eq_true,beq_iff_eq,decide_eq_true_eq] at hu
    rcases hu with ⟨x,_⟩ |⟨x,_⟩
    ·exact absurd x hc
    ·exact x
   exact ⟨⟨h1,h1,Int.le_refl _,by show (0:Int)≤4000;omega⟩,by rw [this];exact Int.le_refl _⟩
  ·rename_i hc
   have hc:m.Epoch=f.epoch:=by simpa using hc
   refine ⟨⟨h1,h2,h3,h4⟩,?_⟩
   unfold aZ at hu
   simp only [Bool.or_eq_true,Bool.and_eq_true,beq_iff_eq,decide_eq_true_eq] at hu
   rcases hu with ⟨_,x⟩ |⟨_,x⟩
   ·exact x
   ·omega
 obtain ⟨hF,hk⟩:=hF
 obtain ⟨g1,g2,g3,g4⟩:=hF
 have e1:W ((fM f m).known - m.From) =(fM f m).known - m.From:=bM (by omega) (by omega)
 have e2:y5 (fM f m) m=if (m.Events.length:Int) <(fM f m).known - m.From then (m.Events.length:Int) else (fM f m).known - m.From:=by unfold y5 vq;rw [e1]
 refine ⟨⟨g1,g2,g3,g4⟩,?_,?_,?_,hk⟩ <;> rw [e2] <;> split <;> omega
theorem ur {f:Fol} {m:Message} (h:okU f m):jO (de f m).1:=by
 obtain ⟨a,b,c,d,_⟩:=uq h
 refine sf _ _ a ?_
 rw [List.length_drop]
 omega
noncomputable def lpZu:Lp:=(⟨3,an [qG] Tryz.f63,(fun _=>none),(aE Tryz.f63 0),qZu,xZu⟩:Lp)
theorem Kd (xs:List Mir.Event) (n:Int) (i:Int) (v1:Match) (v2:Int) (v3:Int) (v4:Match) (v5:Int) (v6:Int) (kp:List Message) (hi:tq (xs,n,i,v1,v2,v3,v4,v5,v6,kp,())) :(Go.Mir.stepG lpZu iw (fun y:Den (tyP lpZu.q)=>tq y∧CO y<CO (xs,n,i,v1,v2,v3,v4,v5,v6,kp,())) (xs,n,i,v1,v2,v3,v4,v5,v6,kp,())∧Go.Mir.stepE lpZu iw (xs,n,i,v1,v2,v3,v4,v5,v6,kp,())=iw (xs,n,i,v1,v2,v3,v4,v5,v6,kp,())):=by
 refine cast (by kernel_rfl) (?_:let r1:Bool:=bb v4 (xs.getD i.toNat (dflt (Ty.nm Nm.Event))) !=(0:Int);((decide (i<n)=true→((0:Int)≤i∧i <(↑xs.length:Int))∧aI v4∧(r1=true→True)∧(r1=false→tq (xs,n,IntKind.i64.wrap (i +(1:Int)),v1,v2,IntKind.i64.wrap (v3 +(1:Int)),bG v4 (xs.getD i.toNat (dflt (Ty.nm Nm.Event))),v5,v6,kp,())∧CO (xs,n,IntKind.i64.wrap (i +(1:Int)),v1,v2,IntKind.i64.wrap (v3 +(1:Int)),bG v4 (xs.getD i.toNat (dflt (Ty.nm Nm.Event))),v5,v6,kp,())<CO (xs,n,i,v1,v2,v3,v4,v5,v6,kp,())))∧(decide (i<n)=false→True))∧(bif decide (i<n) then bif r1 then Sum.inl (false,v1,v2,v3,v4,v5,v6,kp,()) else iw (xs,n,IntKind.i64.wrap (i +(1:Int)),v1,v2,IntKind.i64.wrap (v3 +(1:Int)),bG v4 (xs.getD i.toNat (dflt (Ty.nm Nm.Event))),v5,v6,kp,()) else Sum.inr (v1,v2,v3,v4,v5,v6,kp,()))=iw (xs,n,i,v1,v2,v3,v4,v5,v6,kp,()))
 intro r1
 clear_value (hr1:r1=_)
 obtain ⟨⟨h1,h2,h3,h4⟩,hm⟩:=hi
 simp only at h1 h2 h3 h4
 have hm:aI v4:=hm
 have hx :(xs.length:Int)≤140737488355328:=by have:xs.length≤140737488355328:=h4;omega
 by_cases h:i<n
 ·have e:xs.drop i.toNat=xs.getD i.toNat (dflt (Ty.nm Nm.Event))::xs.drop (i+1).toNat:=dT h2 (by omega) _
  rw [decide_eq_true h,cond_true,bM (n:=i+1) (by omega) (by omega)]
  generalize xs.getD i.toNat (dflt (Ty.nm Nm.Event))=v at *
  refine ⟨⟨fun _=>⟨⟨h2,by omega⟩,hm,fun _=>trivial,fun _=>⟨⟨⟨h1,by simp only;omega,by simp only;omega,h4⟩,lu v hm⟩,by simp only [CO];omega⟩⟩,fun z=>Bool.noConfusion z⟩,?_⟩
  simp only [iw]
  rw [e]
  have eU :∀ (f:Fol) (l:List Mir.Event),sT f (v::l)=if bb f.match_ v != 0 then (f,false) else sT { f with match_:=bG f.match_ v,known:=W (f.known+1) } l:=fun _ _=>rfl
  rw [eU]
  have er :(bb (mkFX (v1,v2,v3,v4,v5,v6,kp,())).match_ v != 0)=r1:=hr1.symm
  rw [er]
  cases r1 <;> rfl
 ·rw [decide_eq_false h,cond_false]
  refine ⟨⟨fun z=>Bool.noConfusion z,fun _=>trivial⟩,?_⟩
  simp only [iw]
  rw [c7 (l:=xs) (by omega)]
  rfl
noncomputable def I4:LoopSum:=bf lpZu iw tq
noncomputable def IQ:Nat:=rid (aE Tryz.f63 0)
theorem JC:LoopOKp Tryz.prog 3 Tryz.f63.ntmps (aE Tryz.f63 0) (bf lpZu iw tq):=
 bT lpZu (al (.consU vC rfl .nil) _) mixed (fun b hb S hS=>by cases hS) iw tq CO (fun |⟨xs,n,i,v1,v2,v3,v4,v5,v6,kp,⟨⟩⟩,hi=>Kd xs n i v1 v2 v3 v4 v5 v6 kp hi)
theorem FO (f:live_Follower) (m:Message) (hu:okU f m) :(evPat (an [qG] Tryz.f63) (find [(IQ,I4)]) Tryz.f63 qFM qFb (m,f.start,f.epoch,f.known,f.match_,f.newest,f.newestN,f.kept,())).sat fun z_=>z_ =(JW (m,f.start,f.epoch,f.known,f.match_,f.newest,f.newestN,f.kept,())).2:=by
 refine cast (by kernel_rfl) (?_:let r1:Int:=bif m.1 != f.2 then (0:Int) else f.3;let r2:Int:=IntKind.i64.wrap (r1 - m.2);let r3:Int:=if (↑m.4.length:Int)<r2 then (↑m.4.length:Int) else r2;let r4:List Mir.Event:=List.drop r3.toNat (List.take (↑m.4.length:Int).toNat m.4);let r5:Int:=(↑r4.length:Int);let r6:Match:=Match.mk (Rules.mk (bif m.1 != f.2 then f.1.1.1 else f.4.1.1) (bif m.1 != f.2 then f.1.1.2 else f.4.1.2) (bif m.1 != f.2 then f.1.1.3 else f.4.1.3) (bif m.1 != f.2 then f.1.1.4 else f.4.1.4) (bif m.1 != f.2 then f.1.1.5 else f.4.1.5) (bif m.1 != f.2 then f.1.1.6 else f.4.1.6) (bif m.1 != f.2 then f.1.1.7 else f.4.1.7) (bif m.1 != f.2 then f.1.1.8 else f.4.1.8) (bif m.1 != f.2 then f.1.1.9 else f.4.1.9) (bif m.1 != f.2 then f.1.1.10 else f.4.1.10) (bif m.1 != f.2 then f.1.1.11 else f.4.1.11) (bif m.1 != f.2 then f.1.1.12 else f.4.1.12) (bif m.1 != f.2 then f.1.1.13 else f.4.1.13) (bif m.1 != f.2 then f.1.1.14 else f.4.1.14)) (bif m.1 != f.2 then f.1.2 else f.4.2) (bif m.1 != f.2 then f.1.3 else f.4.3) (bif m.1 != f.2 then f.1.4 else f.4.4) (bif m.1 != f.2 then f.1.5 else f.4.5) (bif m.1 != f.2 then f.1.6.1 else f.4.6.1,bif m.1 != f.2 then f.1.6.2.1 else f.4.6.2.1,()) (Result.mk (bif m.1 != f.2 then f.1.7.1 else f.4.7.1) (bif m.1 != f.2 then f.1.7.2 else f.4.7.2) (bif m.1 != f.2 then f.1.7.3 else f.4.7.3));let r7:Bool:=isL (iw (r4,r5,(0:Int),Match.mk (Rules.mk (bif m.1 != f.2 then f.1.1.1 else f.1.1.1) (bif m.1 != f.2 then f.1.1.2 else f.1.1.2) (bif m.1 != f.2 then f.1.1.3 else f.1.1.3) (bif m.1 != f.2 then f.1.1.4 else f.1.1.4) (bif m.1 != f.2 then f.1.1.5 else f.1.1.5) (bif m.1 != f.2 then f.1.1.6 else f.1.1.6) (bif m.1 != f.2 then f.1.1.7 else f.1.1.7) (bif m.1 != f.2 then f.1.1.8 else f.1.1.8) (bif m.1 != f.2 then f.1.1.9 else f.1.1.9) (bif m.1 != f.2 then f.1.1.10 else f.1.1.10) (bif m.1 != f.2 then f.1.1.11 else f.1.1.11) (bif m.1 != f.2 then f.1.1.12 else f.1.1.12) (bif m.1 != f.2 then f.1.1.13 else f.1.1.13) (bif m.1 != f.2 then f.1.1.14 else f.1.1.14)) (bif m.1 != f.2 then f.1.2 else f.1.2) (bif m.1 != f.2 then f.1.3 else f.1.3) (bif m.1 != f.2 then f.1.4 else f.1.4) (bif m.1 != f.2 then f.1.5 else f.1.5) (bif m.1 != f.2 then f.1.6.1 else f.1.6.1,bif m.1 != f.2 then f.1.6.2.1 else f.1.6.2.1,()) (Result.mk (bif m.1 != f.2 then f.1.7.1 else f.1.7.1) (bif m.1 != f.2 then f.1.7.2 else f.1.7.2) (bif m.1 != f.2 then f.1.7.3 else f.1.7.3)),bif m.1 != f.2 then m.1 else f.2,r1,r6,bif m.1 != f.2 then f.5 else f.5,bif m.1 != f.2 then f.6 else f.6,f.7,()));((0:Int)≤r3∧r3≤(↑m.4.length:Int)∧(↑m.4.length:Int)≤(↑m.4.length:Int))∧((fh fun x=>none)∧(r5 =(↑r4.length:Int)∧(0:Int)≤(0:Int)∧(0:Int)≤r5∧r4.length≤aW)∧aI r6)∧(r7=true→nU (dflt (Ty.bool.prod ((Ty.nm Nm.Match).prod (I.prod (I.prod ((Ty.nm Nm.Match).prod (I.prod (I.prod ((Ty.nm Nm.Message).slice.prod Ty.unit))))))))) (iw (r4,r5,(0:Int),Match.mk (Rules.mk (bif m.1 != f.2 then f.1.1.1 else f.1.1.1) (bif m.1 != f.2 then f.1.1.2 else f.1.1.2) (bif m.1 != f.2 then f.1.1.3 else f.1.1.3) (bif m.1 != f.2 then f.1.1.4 else f.1.1.4) (bif m.1 != f.2 then f.1.1.5 else f.1.1.5) (bif m.1 != f.2 then f.1.1.6 else f.1.1.6) (bif m.1 != f.2 then f.1.1.7 else f.1.1.7) (bif m.1 != f.2 then f.1.1.8 else f.1.1.8) (bif m.1 != f.2 then f.1.1.9 else f.1.1.9) (bif m.1 != f.2 then f.1.1.10 else f.1.1.10) (bif m.1 != f.2 then f.1.1.11 else f.1.1.11) (bif m.1 != f.2 then f.1.1.12 else f.1.1.12) (bif m.1 != f.2 then f.1.1.13 else f.1.1.13) (bif m.1 != f.2 then f.1.1.14 else f.1.1.14)) (bif m.1 != f.2 then f.1.2 else f.1.2) (bif m.1 != f.2 then f.1.3 else f.1.3) (bif m.1 != f.2 then f.1.4 else f.1.4) (bif m.1 != f.2 then f.1.5 else f.1.5) (bif m.1 != f.2 then f.1.6.1 else f.1.6.1,bif m.1 != f.2 then f.1.6.2.1 else f.1.6.2.1,()) (Result.mk (bif m.1 != f.2 then f.1.7.1 else f.1.7.1) (bif m.1 != f.2 then f.1.7.2 else f.1.7.2) (bif m.1 != f.2 then f.1.7.3 else f.1.7.3)),bif m.1 != f.2 then m.1 else f.2,r1,r6,bif m.1 != f.2 then f.5 else f.5,bif m.1 != f.2 then f.6 else f.6,f.7,())) =((de f m).2,(de f m).1.1,(de f m).1.2,(de f m).1.3,(de f m).1.4,(de f m).1.5,(de f m).1.6,(de f m).1.7,()))∧(r7=false→(true,zD (dflt ((Ty.nm Nm.Match).prod (I.prod (I.prod ((Ty.nm Nm.Match).prod (I.prod (I.prod ((Ty.nm Nm.Message).slice.prod Ty.unit)))))))) (iw (r4,r5,(0:Int),Match.mk (Rules.mk (bif m.1 != f.2 then f.1.1.1 else f.1.1.1) (bif m.1 != f.2 then f.1.1.2 else f.1.1.2) (bif m.1 != f.2 then f.1.1.3 else f.1.1.3) (bif m.1 != f.2 then f.1.1.4 else f.1.1.4) (bif m.1 != f.2 then f.1.1.5 else f.1.1.5) (bif m.1 != f.2 then f.1.1.6 else f.1.1.6) (bif m.1 != f.2 then f.1.1.7 else f.1.1.7) (bif m.1 != f.2 then f.1.1.8 else f.1.1.8) (bif m.1 != f.2 then f.1.1.9 else f.1.1.9) (bif m.1 != f.2 then f.1.1.10 else f.1.1.10) (bif m.1 != f.2 then f.1.1.11 else f.1.1.11) (bif m.1 != f.2 then f.1.1.12 else f.1.1.12) (bif m.1 != f.2 then f.1.1.13 else f.1.1.13) (bif m.1 != f.2 then f.1.1.14 else f.1.1.14)) (bif m.1 != f.2 then f.1.2 else f.1.2) (bif m.1 != f.2 then f.1.3 else f.1.3) (bif m.1 != f.2 then f.1.4 else f.1.4) (bif m.1 != f.2 then f.1.5 else f.1.5) (bif m.1 != f.2 then f.1.6.1 else f.1.6.1,bif m.1 != f.2 then f.1.6.2.1 else f.1.6.2.1,()) (Result.mk (bif m.1 != f.2 then f.1.7.1 else f.1.7.1) (bif m.1 != f.2 then f.1.7.2 else f.1.7.2) (bif m.1 != f.2 then f.1.7.3 else f.1.7.3)),bif m.1 != f.2 then m.1 else f.2,r1,r6,bif m.1 != f.2 then f.5 else f.5,bif m.1 != f.2 then f.6 else f.6,f.7,()))) =((de f m).2,(de f m).1.1,(de f m).1.2,(de f m).1.3,(de f m).1.4,(de f m).1.5,(de f m).1.6,(de f m).1.7,())))
 intro r1 r2 r3 r4 r5 r6 r7
 clear_value (hr1:r1=_) (hr2:r2=_) (hr3:r3=_) (hr4:r4=_) (hr5:r5=_) (hr6:r6=_) (hr7:r7=_)
 obtain ⟨a,b,c,d,e⟩:=uq hu
 have k1:r1 =(fM f m).known:=by rw [hr1];unfold fM;cases m.Epoch != f.epoch <;> rfl
 have k3:r3=y5 (fM f m) m:=by rw [hr3,hr2,k1];rfl
 have k6:r6 =(fM f m).match_:=by rw [hr6];unfold fM;cases m.Epoch != f.epoch <;> rfl
 have k4:r4=m.Events.drop (y5 (fM f m) m).toNat:=by rw [hr4,k3,List.take_of_length_le (by omega)]
 have hl:r4.length≤aW:=by rw [k4,List.length_drop];exact Nat.le_trans (Nat.sub_le _ _) hu.2.1.2
 generalize hq:iw _=q at hr7 ⊢
 have hq':q=B6 (de f m):=by
  have e0:de f m=sT (fM f m) r4:=by rw [k4];rfl
  rw [←hq,e0,k1,k6]
  unfold fM
  cases m.Epoch != f.epoch <;> rfl
 rw [hq'] at hr7 ⊢
 refine ⟨⟨by rw [k3];exact b,by rw [k3];exact c,Int.le_refl _⟩,⟨rfl,⟨hr5,Int.le_refl _,by omega,hl⟩,by rw [k6];exact a.2.1⟩,fun h=>?_,fun h=>?_⟩
 ·rw [hr7] at h
  unfold B6 at h ⊢
  cases hb :(de f m).2 with
  | true=>rw [hb] at h;cases h
  | false=>rfl
 ·rw [hr7] at h
  unfold B6 at h ⊢
  cases hb :(de f m).2 with
  | true=>rfl
  | false=>rw [hb] at h;cases h
def zK:FuncId×Ctr:=(63,af KE qFM qFb JW)
theorem B2:CtrOK Tryz.prog KE 63 (af KE qFM qFb JW):=by
 refine ax (C:=an [qG] Tryz.f63) (al (.consU vC rfl .nil) _) mixed (fn:=Tryz.f63) Tryz.func63 (by kernel_rfl) (by kernel_rfl) (by kernel_rfl) (by kernel_rfl) (by kernel_rfl) (by kernel_rfl) (Λ:=fun x=>find [(IQ,I4)]) ?_ ?_
 ·rintro ⟨m,v1,v2,v3,v4,v5,v6,kp,⟨⟩⟩ hw hn
  exact LoopsOKp.at (by kernel_rfl) (.cons (by kernel_rfl) (JC) .nil)
 ·rintro ⟨m,v1,v2,v3,v4,v5,v6,kp,⟨⟩⟩ hw hn
  exact FO (mkF v1 v2 v3 v4 v5 v6 kp) m (hn _ List.mem_cons_self)
end Go.Proofs.YthaeofeigglbhaaGreatDoor
namespace Go.Proofs.YthaeofeigglbhaaGreatDoor
open Go Go.Mir
attribute [local irreducible] Go.Mir.DT.sat Go.Mir.evPat Go.Mir.RT.sat Go.Mir.evFn
def gZ (l:List Message):Prop:=∀ z∈l,D9 z
def da (f:Fol):Prop:=jO f∧f.kept.length≤64∧gZ f.kept
def GK (f:Fol) (i:Nat):Fol:={ f with kept:=f.kept.take i++f.kept.drop (i+1) }
def dS (f:Fol):Fol×Bool:=de (GK f (eJ f f.kept 0).toNat) (f.kept.getD (eJ f f.kept 0).toNat (dflt (Ty.nm Nm.Message)))
def fO:Nat→Fol→Bool→Fol×Bool
 | 0,f,b=>(f,b)
 | n+1,f,b=>if decide (eJ f f.kept 0<0) then (f,b) else fO n (dS f).1 ((dS f).2&&b)
def cO (f:Fol) (m:Message):Fol:=if decide (m.Epoch>f.newest) then { f with newest:=m.Epoch,newestN:=m.To,kept:= [] } else { f with newestN:=qT f.newestN m.To }
def Iu (f:Fol) (m:Message):Fol:={ f with kept:=f.kept++[m] }
def oU (f:Fol) (m:Message):Fol×Bool:=fO f.kept.length (de f m).1 (de f m).2
def aB (f:Fol) (m:Message):Fol×Int:=
 if !cG m then (f,4) else if decide (m.Epoch<f.newest) then (f,16)
 else if !aZ (cO f m) m then (if decide (((cO f m).kept.length:Int)≥64) then (cO f m,9) else (Iu (cO f m) m,0))
 else ((oU (cO f m) m).1,if (oU (cO f m) m).2 then 0 else 10)
abbrev qFr:Pat:=⟨[(0,.h I)],hpF 3,4⟩
def rH:Den (tyP qFM)→List Prop×Den (tyP qFr):=fun x=>([da (mkFX x.2),x.1.Events.length≤aW],((aB (mkFX x.2) x.1).2,(aB (mkFX x.2) x.1).1.start,(aB (mkFX x.2) x.1).1.epoch,(aB (mkFX x.2) x.1).1.known,(aB (mkFX x.2) x.1).1.match_,(aB (mkFX x.2) x.1).1.newest,(aB (mkFX x.2) x.1).1.newestN,(aB (mkFX x.2) x.1).1.kept,()))
abbrev qRc:Pat:=⟨[(0,.c (.ptr 0 0)),(5,.h .bool)],hpF 3,4⟩
abbrev xRc:List (Lf×Pat):= [(.ext 1,⟨[(5,.h .bool)],hpF 3,4⟩)]
abbrev TRc:Type:=Bool×TF
def qu (x:TRc):Prop:=da (mkFX x.2)
def zP (x:TRc):Nat:=(mkFX x.2).kept.length
def Iz (p:Fol×Bool):TRc:=(p.2,p.1.start,p.1.epoch,p.1.known,p.1.match_,p.1.newest,p.1.newestN,p.1.kept,())
def mm (x:TRc):TRc:=Iz (fO (mkFX x.2).kept.length (mkFX x.2) x.1)
theorem qo (f:Fol) :∀ (l:List Message) (k:Int),eJ f l k = -1∨∃ i:Nat,i<l.length∧eJ f l k=k+i∧aZ f (l.getD i (dflt (Ty.nm Nm.Message)))=true
 | [],_=> .inl rfl
 | m::l,k=>by
  rw [lK]
  by_cases h:aZ f m=true
  ·exact .inr ⟨0,by simp,by rw [if_pos h];simp,h⟩
  ·rw [if_neg h]
   rcases qo f l (k+1) with h1 |⟨i,h1,h2,h3⟩
   ·exact .inl h1
   ·exact .inr ⟨i+1,by simp;omega,by rw [h2];omega,h3⟩
theorem rV {f:Fol} (h:da f) (hi:0≤eJ f f.kept 0) :(eJ f f.kept 0).toNat<f.kept.length∧okU (GK f (eJ f f.kept 0).toNat) (f.kept.getD (eJ f f.kept 0).toNat (dflt (Ty.nm Nm.Message)))∧da (dS f).1∧(dS f).1.kept.length+1=f.kept.length:=by
 obtain ⟨h1,h2,h3⟩:=h
 rcases qo f f.kept 0 with hn |⟨i,h4,h5,h6⟩
 ·omega
 ·have e :(eJ f f.kept 0).toNat=i:=by omega
  have hm:f.kept.getD i (dflt (Ty.nm Nm.Message))∈f.kept:=iK h4 _
  have hU:okU (GK f i) (f.kept.getD i (dflt (Ty.nm Nm.Message))):=⟨h1,h3 _ hm,h6⟩
  have hk :(dS f).1.kept=f.kept.take i++f.kept.drop (i+1):=by unfold dS;rw [jj,e];rfl
  have hl :(dS f).1.kept.length+1=f.kept.length:=by rw [hk];simp;omega
  rw [e]
  refine ⟨h4,hU,⟨?_,by omega,fun z hz=>?_⟩,hl⟩
  ·unfold dS;rw [e];exact ur hU
  ·rw [hk] at hz
   rcases List.mem_append.1 hz with hz|hz
   ·exact h3 z (List.mem_of_mem_take hz)
   ·exact h3 z (List.mem_of_mem_drop hz)
theorem xm :∀ (n:Nat) (f:Fol) (b:Bool),da f→da (fO n f b).1
 | 0,_,_,h=>h
 | n+1,f,b,h=>by
  unfold fO
  split
  ·exact h
  ·rename_i hc
   have hc :¬(eJ f f.kept 0<0):=by simpa using hc
   exact xm n _ _ (rV h (by omega)).2.2.1
theorem BT {f:Fol} (h:da f) (m:Message):da (cO f m):=by
 unfold cO
 split
 ·exact ⟨h.1,Nat.zero_le _,fun z hz=>(by cases hz)⟩
 ·exact h
theorem Ct {f:Fol} {m:Message} (h:da f) (hm:D9 m) (hu:aZ f m=true):da (de f m).1:=by
 refine ⟨ur ⟨h.1,hm,hu⟩,?_,?_⟩
 ·rw [jj];exact h.2.1
 ·rw [jj];exact h.2.2
theorem HX {f:Fol} {m:Message} (h:da f) (hl:m.Events.length≤aW):da (aB f m).1:=by
 unfold aB
 split
 ·exact h
 ·rename_i hf
  have hf:D9 m:=⟨by simpa using hf,hl⟩
  split
  ·exact h
  ·have hn:=BT h m
   split
   ·split
    ·exact hn
    ·rename_i hk
     have hk :¬((cO f m).kept.length:Int)≥64:=by simpa using hk
     refine ⟨hn.1,?_,fun z hz=>?_⟩
     ·show ((cO f m).kept++[m]).length≤64
      rw [List.length_append,List.length_singleton];omega
     ·rcases List.mem_append.1 (show z∈(cO f m).kept++[m] from hz) with hz|hz
      ·exact hn.2.2 z hz
      ·rw [List.mem_singleton.1 hz];exact hf
   ·rename_i hu
    have hu:aZ (cO f m) m=true:=by simpa using hu
    exact xm _ _ _ (Ct hn hf hu)
theorem C5 {f:Fol} {m:Message} (h :(!cG m)=true):aB f m =(f,4):=by unfold aB;rw [if_pos h]
theorem C7 {f:Fol} {m:Message} (h :(!cG m)=false) (h2:decide (m.Epoch<f.newest)=true):aB f m =(f,16):=by unfold aB;rw [h,h2];rfl
theorem C6 {f:Fol} {m:Message} (h :(!cG m)=false) (h2:decide (m.Epoch<f.newest)=false) (h3 :(!aZ (cO f m) m)=true) (h4:decide (((cO f m).kept.length:Int)≥64)=true):aB f m =(cO f m,9):=by
 unfold aB;rw [h,h2,h3,h4];rfl
theorem tY {f:Fol} {m:Message} (h :(!cG m)=false) (h2:decide (m.Epoch<f.newest)=false) (h3 :(!aZ (cO f m) m)=true) (h4:decide (((cO f m).kept.length:Int)≥64)=false):aB f m =(Iu (cO f m) m,0):=by
 unfold aB;rw [h,h2,h3,h4];rfl
theorem tZ {f:Fol} {m:Message} (h :(!cG m)=false) (h2:decide (m.Epoch<f.newest)=false) (h3 :(!aZ (cO f m) m)=false):aB f m =((oU (cO f m) m).1,if (oU (cO f m) m).2 then 0 else 10):=by
 unfold aB;rw [h,h2,h3];rfl
theorem x4:CtrOK Tryz.prog KE 65 (uF 4):=zG
theorem zp {f:Fol} (h:eJ f f.kept 0<0) :∀ (n:Nat) (b:Bool),fO n f b =(f,b)
 | 0,_=>rfl
 | n+1,b=>by unfold fO;rw [if_pos (decide_eq_true h)]
theorem zo {f:Fol} (h :¬ eJ f f.kept 0<0) (n:Nat) (b:Bool):fO (n+1) f b=fO n (dS f).1 ((dS f).2&&b):=by
 show (if _ then _ else _)=_
 rw [if_neg (by simpa using h)]
noncomputable def lpRc:Lp:=(⟨3,an [zK,zH,kDelMsg] Tryz.f19,(fun _=>none),(aE Tryz.f19 0),qRc,xRc⟩:Lp)
theorem J9 (b:Bool) (v1:Match) (v2:Int) (v3:Int) (v4:Match) (v5:Int) (v6:Int) (kp:List Message) (hi:qu (b,v1,v2,v3,v4,v5,v6,kp,())) :(Go.Mir.stepG lpRc mm (fun y:Den (tyP lpRc.q)=>qu y∧zP y<zP (b,v1,v2,v3,v4,v5,v6,kp,())) (b,v1,v2,v3,v4,v5,v6,kp,())∧Go.Mir.stepE lpRc mm (b,v1,v2,v3,v4,v5,v6,kp,())=mm (b,v1,v2,v3,v4,v5,v6,kp,())):=by
 refine cast (by kernel_rfl) (?_:let r1:Int:=eJ (live_Follower.mk v1 v2 v3 v4 v5 v6 kp) kp (0:Int);let r2:Message:=kp.getD r1.toNat (dflt (Ty.nm Nm.Message));let r3:Int:=IntKind.i64.wrap (r1 +(1:Int));let r4:Bool:=decide (r1 <(0:Int));let r5:live_Follower:=live_Follower.mk v1 v2 v3 v4 v5 v6 (List.take r1.toNat kp++List.drop r3.toNat kp);let r6:Fol×Bool:=de r5 r2;(kp.length≤(1000:Nat)∧(r4=true→True)∧(r4=false→((0:Int)≤r1∧r1 <(↑kp.length:Int))∧(0:Int)≤r1∧r1≤r3∧r3≤(↑kp.length:Int)∧okU r5 r2∧(r6.2=true→qu (b,r6.1.1,r6.1.2,r6.1.3,r6.1.4,r6.1.5,r6.1.6,r6.1.7,())∧zP (b,r6.1.1,r6.1.2,r6.1.3,r6.1.4,r6.1.5,r6.1.6,r6.1.7,())<zP (b,v1,v2,v3,v4,v5,v6,kp,()))∧(r6.2=false→qu (false,r6.1.1,r6.1.2,r6.1.3,r6.1.4,r6.1.5,r6.1.6,r6.1.7,())∧zP (false,r6.1.1,r6.1.2,r6.1.3,r6.1.4,r6.1.5,r6.1.6,r6.1.7,())<zP (b,v1,v2,v3,v4,v5,v6,kp,()))))∧(bif r4 then (b,v1,v2,v3,v4,v5,v6,kp,()) else bif r6.2 then mm (b,r6.1.1,r6.1.2,r6.1.3,r6.1.4,r6.1.5,r6.1.6,r6.1.7,()) else mm (false,r6.1.1,r6.1.2,r6.1.3,r6.1.4,r6.1.5,r6.1.6,r6.1.7,()))=mm (b,v1,v2,v3,v4,v5,v6,kp,()))
 intro r1 r2 r3 r4 r5 r6
 clear_value (hr1:r1=_) (hr2:r2=_) (hr3:r3=_) (hr4:r4=_) (hr5:r5=_) (hr6:r6=_)
 have hi:da (mkF v1 v2 v3 v4 v5 v6 kp):=hi
 have hk:kp.length≤64:=hi.2.1
 have hr1:r1=eJ (mkF v1 v2 v3 v4 v5 v6 kp) kp 0:=hr1
 generalize hF:mkF v1 v2 v3 v4 v5 v6 kp=F at hi hr1
 have hK:F.kept=kp:=by rw [←hF];rfl
 have hr1:r1=eJ F F.kept 0:=by rw [hK];exact hr1
 have key :¬ r1<0→r1.toNat<kp.length∧r3=r1+1∧okU r5 r2∧r6=dS F∧da (dS F).1∧(dS F).1.kept.length+1=kp.length:=fun h=>by
  obtain ⟨s1,s2,s3,s4⟩:=rV hi (by omega)
  rw [←hr1,hK] at s1 s2
  rw [hK] at s4
  have e3:r3=r1+1:=by rw [hr3];exact bM (by omega) (by omega)
  have e5:r5=GK F r1.toNat:=by
   rw [hr5,e3,show (r1+1).toNat=r1.toNat+1 from by omega,←hF]
   rfl
  have e6:r6=dS F:=by
   rw [hr6,e5,hr2]
   unfold dS
   rw [←hr1,hK]
  exact ⟨s1,e3,by rw [e5,hr2];exact s2,e6,s3,s4⟩
 refine ⟨⟨by omega,fun _=>trivial,fun h=>?_⟩,?_⟩
 ·have h :¬ r1<0:=by rw [hr4] at h;simpa using h
  obtain ⟨k1,k2,k3,k4,k5,k6⟩:=key h
  have k6':r6.1.kept.length<kp.length:=by rw [k4];omega
  have k5':da r6.1:=by rw [k4];exact k5
  exact ⟨⟨by omega,by omega⟩,by omega,by omega,by omega,k3,fun _=>⟨k5',k6'⟩,fun _=>⟨k5',k6'⟩⟩
 ·have eR:mm (b,v1,v2,v3,v4,v5,v6,kp,())=Iz (fO F.kept.length F b):=by rw [←hF];rfl
  rw [eR,hr4]
  by_cases h:r1<0
  ·rw [decide_eq_true h,zp (by rw [←hr1];exact h),←hF]
   rfl
  ·obtain ⟨k1,k2,k3,k4,k5,k6⟩:=key h
   obtain ⟨n,hn⟩ :∃ n,F.kept.length=n+1:=⟨F.kept.length - 1,by rw [hK];omega⟩
   have hl :(dS F).1.kept.length=n:=by rw [hK] at hn;omega
   rw [decide_eq_false h,hn,zo (by rw [←hr1];exact h),k4,←hl]
   cases hb :(dS F).2 <;> rfl
noncomputable def I0:LoopSum:=bf lpRc mm qu
noncomputable def IK:Nat:=rid (aE Tryz.f19 0)
theorem Jy:LoopOKp Tryz.prog 3 Tryz.f19.ntmps (aE Tryz.f19 0) (bf lpRc mm qu):=
 bT lpRc (al (.consU B2 rfl (.consU BV rfl (.consU x4 rfl .nil))) _) mixed (fun b hb S hS=>by cases hS) mm qu zP (fun |⟨b,v1,v2,v3,v4,v5,v6,kp,⟨⟩⟩,hi=>J9 b v1 v2 v3 v4 v5 v6 kp hi)
theorem vR (f:live_Follower) (m:Message) (hf:da f) (hl:m.Events.length≤aW) :(evPat (an [tC,iQ,iL,zK,zH,kDelMsg] Tryz.f19) (find [(IK,I0)]) Tryz.f19 qFM qFr (m,f.start,f.epoch,f.known,f.match_,f.newest,f.newestN,f.kept,())).sat fun z_=>z_ =(rH (m,f.start,f.epoch,f.known,f.match_,f.newest,f.newestN,f.kept,())).2:=by
 refine cast (by kernel_rfl) (?_:let r1:live_Follower:=live_Follower.mk f.1 f.2 f.3 f.4 m.1 m.3 [];let r2:Int:=if m.3>f.6 then m.3 else f.6;let r3:Fol×Bool:=de r1 m;let r4:Bool:=!aZ r1 m;let r5:Bool:=decide ((0:Int)≥(64:Int));let r6:live_Follower:=live_Follower.mk f.1 f.2 f.3 f.4 f.5 r2 f.7;let r7:Bool:=decide ((↑f.7.length:Int)≥(64:Int));let r8:Fol×Bool:=de r6 m;let r9:Bool:=!aZ r6 m;let r10:Fol×Bool:=fO r3.1.7.length r3.1 r3.2;let r11:Bool:=!r10.2;let r12:Fol×Bool:=fO r8.1.7.length r8.1 r8.2;let r13:Bool:=!r12.2;m.4.length≤aW∧((!cG m)=true→((4:Int),f.1,f.2,f.3,f.4,f.5,f.6,f.7,()) =((aB f m).2,(aB f m).1.1,(aB f m).1.2,(aB f m).1.3,(aB f m).1.4,(aB f m).1.5,(aB f m).1.6,(aB f m).1.7,()))∧((!cG m)=false→(decide (m.1<f.5)=true→((16:Int),f.1,f.2,f.3,f.4,f.5,f.6,f.7,()) =((aB f m).2,(aB f m).1.1,(aB f m).1.2,(aB f m).1.3,(aB f m).1.4,(aB f m).1.5,(aB f m).1.6,(aB f m).1.7,()))∧(decide (m.1<f.5)=false→(decide (m.1>f.5)=true→(r4=true→(r5=true→((9:Int),f.1,f.2,f.3,f.4,m.1,m.3,[],()) =((aB f m).2,(aB f m).1.1,(aB f m).1.2,(aB f m).1.3,(aB f m).1.4,(aB f m).1.5,(aB f m).1.6,(aB f m).1.7,()))∧(r5=false→m.4.length≤(1000000:Nat)∧ [m].length *(48:Nat)≤(70368744177664:Nat)∧((0:Int),f.1,f.2,f.3,f.4,m.1,m.3,[m],()) =((aB f m).2,(aB f m).1.1,(aB f m).1.2,(aB f m).1.3,(aB f m).1.4,(aB f m).1.5,(aB f m).1.6,(aB f m).1.7,())))∧(r4=false→okU r1 m∧((fh fun x=>none)∧jO r3.1∧r3.1.7.length≤(64:Nat)∧gZ r3.1.7)∧(r11=true→((10:Int),r10.1.1,r10.1.2,r10.1.3,r10.1.4,r10.1.5,r10.1.6,r10.1.7,()) =((aB f m).2,(aB f m).1.1,(aB f m).1.2,(aB f m).1.3,(aB f m).1.4,(aB f m).1.5,(aB f m).1.6,(aB f m).1.7,()))∧(r11=false→((0:Int),r10.1.1,r10.1.2,r10.1.3,r10.1.4,r10.1.5,r10.1.6,r10.1.7,()) =((aB f m).2,(aB f m).1.1,(aB f m).1.2,(aB f m).1.3,(aB f m).1.4,(aB f m).1.5,(aB f m).1.6,(aB f m).1.7,()))))∧(decide (m.1>f.5)=false→(r9=true→(r7=true→((9:Int),f.1,f.2,f.3,f.4,f.5,r2,f.7,()) =((aB f m).2,(aB f m).1.1,(aB f m).1.2,(aB f m).1.3,(aB f m).1.4,(aB f m).1.5,(aB f m).1.6,(aB f m).1.7,()))∧(r7=false→m.4.length≤(1000000:Nat)∧(f.7.length+[m].length) *(48:Nat)≤(70368744177664:Nat)∧((0:Int),f.1,f.2,f.3,f.4,f.5,r2,f.7++[m],()) =((aB f m).2,(aB f m).1.1,(aB f m).1.2,(aB f m).1.3,(aB f m).1.4,(aB f m).1.5,(aB f m).1.6,(aB f m).1.7,())))∧(r9=false→okU r6 m∧((fh fun x=>none)∧jO r8.1∧r8.1.7.length≤(64:Nat)∧gZ r8.1.7)∧(r13=true→((10:Int),r12.1.1,r12.1.2,r12.1.3,r12.1.4,r12.1.5,r12.1.6,r12.1.7,()) =((aB f m).2,(aB f m).1.1,(aB f m).1.2,(aB f m).1.3,(aB f m).1.4,(aB f m).1.5,(aB f m).1.6,(aB f m).1.7,()))∧(r13=false→((0:Int),r12.1.1,r12.1.2,r12.1.3,r12.1.4,r12.1.5,r12.1.6,r12.1.7,()) =((aB f m).2,(aB f m).1.1,(aB f m).1.2,(aB f m).1.3,(aB f m).1.4,(aB f m).1.5,(aB f m).1.6,(aB f m).1.7,())))))))
 intro r1 r2 r3 r4 r5 r6 r7 r8 r9 r10 r11 r12 r13
 clear_value (hr1:r1=_) (hr2:r2=_) (hr3:r3=_) (hr4:r4=_) (hr5:r5=_) (hr6:r6=_) (hr7:r7=_) (hr8:r8=_) (hr9:r9=_) (hr10:r10=_) (hr11:r11=_) (hr12:r12=_) (hr13:r13=_)
 have hh :∀ g:Fol,cG m=true→da g→aZ g m=true→okU g m∧da (de g m).1:=fun g h1 h2 h3=>⟨⟨h2.1,⟨h1,hl⟩,h3⟩,Ct h2 ⟨h1,hl⟩ h3⟩
 have hlen:cG m=true→m.Events.length≤4000:=fun h=>by have:=(nS ⟨h,hl⟩).2.2.1;have:=(nS ⟨h,hl⟩).2.1;omega
 have hng :∀ g:Fol,cO f m=g→da g:=fun g h=>by rw [←h];exact BT hf m
 refine ⟨hl,fun h1=>by rw [C5 h1],fun h1=>⟨fun h2=>by rw [C7 h1 h2],fun h2=>⟨fun h3=>?_,fun h3=>?_⟩⟩⟩
 ·have eN:cO f m=r1:=by rw [hr1];unfold cO;rw [if_pos h3]
  have hF:cG m=true:=by simpa using h1
  have hN:=hng _ eN
  refine ⟨fun h4=>⟨fun h5=>?_,fun h5=>⟨by have:=hlen hF;omega,by simp,?_⟩⟩,fun h4=>?_⟩
  ·rw [hr5] at h5;simp at h5
  ·rw [tY h1 h2 (by rw [eN,←hr4];exact h4) (by rw [eN,hr1];rfl),eN,hr1]
   rfl
  ·have hU:aZ r1 m=true:=by rw [hr4] at h4;simpa using h4
   obtain ⟨a,b⟩:=hh r1 hF hN hU
   rw [←hr3] at b
   have eT:aB f m =(r10.1,if r10.2 then 0 else 10):=by
    rw [tZ h1 h2 (by rw [eN,←hr4];exact h4),eN]
    have e0:oU r1 m=r10:=by
     unfold oU
     rw [hr10,hr3,jj]
    rw [e0]
   rw [eT]
   refine ⟨a,⟨rfl,b⟩,fun h5=>?_,fun h5=>?_⟩
   ·rw [hr11] at h5
    have:r10.2=false:=by simpa using h5
    rw [this];rfl
   ·rw [hr11] at h5
    have:r10.2=true:=by simpa using h5
    rw [this];rfl
 ·have eN:cO f m=r6:=by rw [hr6,hr2];unfold cO;rw [if_neg (by rw [h3];decide)];rfl
  have hF:cG m=true:=by simpa using h1
  have hN:=hng _ eN
  have eK:r6.kept=f.kept:=by rw [hr6]
  have hk:=hf.2.1
  refine ⟨fun h4=>⟨fun h5=>?_,fun h5=>⟨by have:=hlen hF;omega,by simp only [List.length_singleton];omega,?_⟩⟩,fun h4=>?_⟩
  ·rw [C6 h1 h2 (by rw [eN,←hr9];exact h4) (by rw [eN,eK,←hr7];exact h5),eN,hr6]
  ·rw [tY h1 h2 (by rw [eN,←hr9];exact h4) (by rw [eN,eK,←hr7];exact h5),eN,hr6]
   rfl
  ·have hU:aZ r6 m=true:=by rw [hr9] at h4;simpa using h4
   obtain ⟨a,b⟩:=hh r6 hF hN hU
   rw [←hr8] at b
   have eT:aB f m =(r12.1,if r12.2 then 0 else 10):=by
    rw [tZ h1 h2 (by rw [eN,←hr9];exact h4),eN]
    have e0:oU r6 m=r12:=by
     unfold oU
     rw [hr12,hr8,jj]
    rw [e0]
   rw [eT]
   refine ⟨a,⟨rfl,b⟩,fun h5=>?_,fun h5=>?_⟩
   ·rw [hr13] at h5
    have:r12.2=false:=by simpa using h5
    rw [this];rfl
   ·rw [hr13] at h5
    have:r12.2=true:=by simpa using h5
    rw [this];rfl
def qB:FuncId×Ctr:=(19,af KE qFM qFr rH)
theorem x9:CtrOK Tryz.prog KE 19 (af KE qFM qFr rH):=by
 refine ax (C:=an [tC,iQ,iL,zK,zH,kDelMsg] Tryz.f19) (al (.consU z8 rfl (.consU mU rfl (.consU ob rfl (.consU B2 rfl (.consU BV rfl (.consU x4 rfl .nil)))))) _) mixed (fn:=Tryz.f19) Tryz.func19 (by kernel_rfl) (by kernel_rfl) (by kernel_rfl) (by kernel_rfl) (by kernel_rfl) (by kernel_rfl) (Λ:=fun x=>find [(IK,I0)]) ?_ ?_
 ·rintro ⟨m,v1,v2,v3,v4,v5,v6,kp,⟨⟩⟩ hw hn
  exact LoopsOKp.at (by kernel_rfl) (.cons (by kernel_rfl) (Jy) .nil)
 ·rintro ⟨m,v1,v2,v3,v4,v5,v6,kp,⟨⟩⟩ hw hn
  exact vR (mkF v1 v2 v3 v4 v5 v6 kp) m (hn _ List.mem_cons_self) (hn _ (List.mem_cons_of_mem _ List.mem_cons_self))
end Go.Proofs.YthaeofeigglbhaaGreatDoor
namespace Go.Proofs.YthaeofeigglbhaaGreatDoor
open Go Go.Mir
attribute [local irreducible] Go.Mir.DT.sat Go.Mir.evPat Go.Mir.RT.sat Go.Mir.evFn
def Gj:Den (tyP qNo)→List Prop×Den (tyP aC):=fun _=>([],(true,()))
theorem bno {b:Bool} {p:Prop} (e:b=false):b=true→p:=fun h=>by rw [e] at h;cases h
def R0:Rules:=Ba { data:=#[84,87,69,78,84,89] }
def ev0:Mir.Event:={ m0 with Kind:=1,Side:=1,Yes:=true }
def ev1:Mir.Event:={ m0 with Kind:=2,Player:=1,Other:=2 }
def ev2:Mir.Event:={ m0 with Kind:=8,Player:=2 }
def S0:live_Server:=G6 R0
def S1:live_Server:=dQ S0 ev0
def S2:live_Server:=dQ S1 ev1
def F1:Fol:=(aB (xZ R0) { Epoch:=1,From:=2,To:=3,Events:= [ev2] }).1
theorem hR0:az R0=0:=by kernel_rfl
theorem KG:okS S0:=⟨hR0,rfl,Nat.zero_le _⟩
theorem KH:okS S1:=Fi KG ev0
theorem LS:okS S2:=Fi KH ev1
theorem DC {s:live_Server} (h:okS s):jP s:=⟨CT h,h.2.2⟩
theorem KD:da (xZ R0):=⟨⟨jE hR0,jE hR0,Int.le_refl _,by decide⟩,Nat.zero_le _,fun z hz=>by cases hz⟩
theorem LR:da F1:=HX KD (of_decide_eq_true (by kernel_rfl))
theorem rO {s t:live_Server} (h:okS s) (e:t=s):jP t:=by rw [e];exact DC h
theorem x5 {s t:Fol} (h:da s) (e:t=s):da t:=by rw [e];exact h
theorem yY :(evPat (an [oN,kN,tB,dp,qA,klvMessage,qB,BH,EE] Tryz.f12) (fun _=>none) Tryz.f12 qNo aC ()).sat fun z_=>z_ =(Gj ()).2:=by
 refine cast (by kernel_rfl) (?_:let r1:Bool:=(0:Int) !=(0:Int);let r2:Mir.Result:=Result.mk (0:Int) (0:Int) (0:Int);let r3:Int:=if true=true then (1:Int) else dk (1:Int);let r4:Int:=W (W ((0:Int) +(1:Int)) +(1:Int));let r5:Bool:=(if (true&&true)=true then (0:Int) else (10:Int)) !=(0:Int);let r6:Int:=W (r4 +(1:Int));let r7:ByteArray:=ByteArray.mk #[84,87,69,78,84,89];let r8:Delivery:=Delivery.mk (0:Int) (0:Int) (0:Int) (0:Int) (0:Int) false (0:Int) (0:Int) (0:Int) (0:Int) false (0:Int);let r9:Mir.Event:=Mir.Event.mk (1:Int) (1:Int) (0:Int) (0:Int) true (0:Int) (0:Int) r8;let r10:Mir.Event:=Mir.Event.mk (2:Int) (0:Int) (1:Int) (2:Int) false (0:Int) (0:Int) r8;let r11:Mir.Event:=Mir.Event.mk (8:Int) (0:Int) (2:Int) (0:Int) false (0:Int) (0:Int) r8;let r12:Bool:=bif A9 r7 !=(0:Int) then true else bif r1 then true else r1;let r13:List Mir.Event:= []++[r9];let r14:Rules:=Rules.mk r7 (11:Int) (1:Int) (20:Int) (6:Int) (4:Int) (1:Int) (1:Int) true (0:Int) (0:Int) (2:Int) (5:Int) [Phase.mk (1:Int) (6:Int) (2:Int)];let r15:Match:=Match.mk r14 (1:Int) (0:Int) false [] ((0:Int),(0:Int),()) r2;let r16:Match:=Match.mk r14 (2:Int) r3 false [] ((0:Int),(0:Int),()) r2;let r17:List Mir.Event:=r13++[r10];let r18:Match:=bG r15 r9;let r19:List Mir.Event:=r17++[r11];let r20:live_Server:=live_Server.mk r14 (1:Int) [] r15;let r21:Match:=bG r18 r10;let r22:Bool:=iZ r20 r9 !=(0:Int);let r23:List Innings:= []++[dw r14 (xh r16) r10];let r24:live_Server:=live_Server.mk r14 (1:Int) r13 r16;let r25:Bool:=iZ r24 r10 !=(0:Int);let r26:Match:=Match.mk r14 (3:Int) r3 false r23 ((0:Int),(0:Int),()) r2;let r27:live_Server:=live_Server.mk r14 (1:Int) r17 r26;let r28:Int:=ke r27 (0:Int) (1:Int);let r29:Bool:=gH r27 (0:Int) !=(0:Int);let r30:Bool:=iZ r27 r11 !=(0:Int);let r31:Int:=ke r27 (0:Int) (↑r17.length:Int);let r32:live_Server:=live_Server.mk r14 (1:Int) r19 (Match.mk r14 (3:Int) r3 false (r23.set (CR r26) (dw r14 (dM r26) r11)) ((0:Int),(0:Int),()) r2);let r33:List Mir.Event:=iR r32 (2:Int);let r34:Int:=ke r32 (2:Int) (1:Int);let r35:Bool:=gH r32 (2:Int) !=(0:Int);let r36:Int:=ke r32 (2:Int) (↑r19.length:Int);let r37:List Message:= []++[Message.mk r34 (ke r32 (2:Int) (2:Int)) r36 r33];let r38:Int:=if r31>r36 then r31 else r36;let r39:live_Follower:=live_Follower.mk r15 (0:Int) (0:Int) r15 r34 r36 r37;let r40:Bool:=zL r39 !=(3:Int);let r41:Bool:=zL (live_Follower.mk r15 r28 r6 (Match.mk r14 (3:Int) r3 false (([]++[dw r14 (xh r18) r10]).set (CR r21) (dw r14 (dM r21) r11)) ((0:Int),(0:Int),()) r2) r34 r38 (List.take (eJ (live_Follower.mk r15 r28 r4 r21 r34 r38 r37) r37 (0:Int)).toNat r37++List.drop ((eJ (live_Follower.mk r15 r28 r4 r21 r34 r38 r37) r37 (0:Int)).toNat +(1:Nat)) r37)) !=(0:Int);vx r14∧vx r14∧(r12=true→(false,()) =(true,()))∧(r12=false→((0:Int)≤(0:Int)∧(0:Int) <(↑tossW.length:Int))∧jP r20∧(r22=true→(false,()) =(true,()))∧(r22=false→((0:Int)≤(1:Int)∧(1:Int) <(↑tossW.length:Int))∧jP r24∧(r25=true→(false,()) =(true,()))∧(r25=false→r17.length≤(1000000:Nat)∧((0:Int)≤(2:Int)∧(2:Int) <(↑tossW.length:Int))∧jP r27∧(r30=true→(false,()) =(true,()))∧(r30=false→r19.length≤(1000000:Nat)∧(r29=true→(false,()) =(true,()))∧(r29=false→(r35=true→(false,()) =(true,()))∧(r35=false→da (live_Follower.mk r15 (0:Int) (0:Int) r15 (0:Int) (0:Int) [])∧r33.length≤aW∧(r1=true→(false,()) =(true,()))∧(r1=false→(r40=true→(false,()) =(true,()))∧(r40=false→da r39∧(iR r27 (0:Int)).length≤aW∧(r5=true→(false,()) =(true,()))∧(r5=false→(r41=true→(false,()) =(true,()))∧(r41=false→(bif r28 ==(1:Int) then r6 ==(3:Int) else false,()) =(true,()))))))))))))
 intro r1 r2 r3 r4 r5 r6 r7 r8 r9 r10 r11 r12 r13 r14 r15 r16 r17 r18 r19 r20 r21 r22 r23 r24 r25 r26 r27 r28 r29 r30 r31 r32 r33 r34 r35 r36 r37 r38 r39 r40 r41
 clear_value (hr1:r1=_) (hr2:r2=_) (hr3:r3=_) (hr4:r4=_) (hr5:r5=_) (hr6:r6=_) (hr7:r7=_) (hr8:r8=_) (hr9:r9=_) (hr10:r10=_) (hr11:r11=_) (hr12:r12=_) (hr13:r13=_) (hr14:r14=_) (hr15:r15=_) (hr16:r16=_) (hr17:r17=_) (hr18:r18=_) (hr19:r19=_) (hr20:r20=_) (hr21:r21=_) (hr22:r22=_) (hr23:r23=_) (hr24:r24=_) (hr25:r25=_) (hr26:r26=_) (hr27:r27=_) (hr28:r28=_) (hr29:r29=_) (hr30:r30=_) (hr31:r31=_) (hr32:r32=_) (hr33:r33=_) (hr34:r34=_) (hr35:r35=_) (hr36:r36=_) (hr37:r37=_) (hr38:r38=_) (hr39:r39=_) (hr40:r40=_) (hr41:r41=_)
 subst hr1 hr2 hr3 hr4 hr5 hr6 hr7 hr8 hr9 hr10 hr11 hr12 hr13 hr14 hr15 hr16 hr17 hr18 hr19 hr20 hr21 hr22 hr23 hr24 hr25 hr26 hr27 hr28 hr29 hr30 hr31 hr32 hr33 hr34 hr35 hr36 hr37 hr38 hr39 hr40 hr41
 refine ⟨show az _=0 from by kernel_rfl,show az _=0 from by kernel_rfl,bno (by kernel_rfl),fun _=>⟨⟨by decide,by decide⟩,rO KG (by kernel_rfl),bno (by kernel_rfl),fun _=>⟨⟨by decide,by decide⟩,rO KH (by kernel_rfl),bno (by kernel_rfl),fun _=>⟨by decide,⟨by decide,by decide⟩,rO LS (by kernel_rfl),bno (by kernel_rfl),fun _=>⟨by decide,bno (by kernel_rfl),fun _=>⟨bno (by kernel_rfl),fun _=>⟨x5 KD (by kernel_rfl),of_decide_eq_true (by kernel_rfl),bno (by kernel_rfl),fun _=>⟨bno (by kernel_rfl),fun _=>⟨x5 LR (by kernel_rfl),of_decide_eq_true (by kernel_rfl),bno (by kernel_rfl),fun _=>⟨bno (by kernel_rfl),fun _=>by kernel_rfl⟩⟩⟩⟩⟩⟩⟩⟩⟩⟩
def cr:FuncId×Ctr:=(12,af KE qNo aC Gj)
theorem fk:CtrOK Tryz.prog KE 12 (af KE qNo aC Gj):=by
 refine ax (C:=an [oN,kN,tB,dp,qA,klvMessage,qB,BH,EE] Tryz.f12) (al (.consU vD rfl (.consU pz rfl (.consU z7 rfl (.consU gK rfl (.consU oP rfl (.consU oO rfl (.consU x9 rfl (.consU E5 rfl (.consU Hr rfl .nil))))))))) _) mixed (fn:=Tryz.f12) Tryz.func12 (by kernel_rfl) (by kernel_rfl) (by kernel_rfl) (by kernel_rfl) (by kernel_rfl) (by kernel_rfl) (Λ:=fun _ _=>none) ?_ ?_
 ·exact fun _ _ _ _ _ _ _ _ h=>by cases h
 ·rintro ⟨⟩ hw hn
  exact yY
end Go.Proofs.YthaeofeigglbhaaGreatDoor
namespace Go.Mir
open Go.RowKit
variable {P:Program}
end Go.Mir
namespace Go.Mir
open Go.RowKit
variable {P:Program}
theorem yh {K:Nat} {f:FuncId} {q q':Pat} {A B:Den (tyP q)→List Prop×Den (tyP q')} (h :∀ x,(∀ p∈(B x).1,p)→(∀ p∈(A x).1,p)∧(A x).2 =(B x).2) (hA:CtrOK P K f (af K q q' A)):CtrOK P K f (af K q q' B):=by
 refine ⟨hA.fn,fun Bs E hE args av hav m hm ps v dh hct hps=>?_⟩
 unfold af at hct
 simp only at hct
 split at hct
 case h_2=>cases hct
 rename_i x hx
 cases hle:x7 q q' (iD q ⟨di 0 args,[],E.H,m⟩)&&(Nat.beq args.length q.tm.length&&Nat.ble q'.nx K) with
 | false=>rw [hle] at hct;cases hct
 | true=>
 rw [hle] at hct
 simp only [cond_true,Option.some.injEq,Prod.mk.injEq] at hct
 obtain ⟨rfl,rfl,rfl⟩:=hct
 obtain ⟨h1,h2⟩:=h x hps
 refine hA.calls Bs E hE args av hav m hm (A x).1 _ _ ?_ h1
 unfold af
 simp only [hx,hle,h2,cond_true]
end Go.Mir
namespace Go.Mir
open Go.RowKit
variable {P:Program}
def orC (A B:Ctr):Ctr:=fun a h m=>match A a h m with
 | some r=>some r
 | none=>B a h m
theorem CtrOK.or {K:Nat} {f:FuncId} {A B:Ctr} (hA:CtrOK P K f A) (hB:CtrOK P K f B):CtrOK P K f (orC A B):=⟨hA.fn,fun Bs E hE args av hav m hm ps v dh hc hp=>by
 unfold orC at hc
 split at hc
 ·rename_i r e
  cases hc
  exact hA.calls Bs E hE args av hav m hm ps v dh e hp
 ·exact hB.calls Bs E hE args av hav m hm ps v dh hc hp⟩
end Go.Mir
