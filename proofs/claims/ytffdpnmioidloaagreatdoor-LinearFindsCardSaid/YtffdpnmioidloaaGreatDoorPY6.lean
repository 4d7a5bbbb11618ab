/- Texts of the mirror and contracts, put together. -/
import Derived.Test.YtffdpnmioidloaaGreatDoorPY5
import Derived.Test.YtffdpnmioidloaaGreatDoorPY4
namespace Go.Proofs.YtffdpnmioidloaaGreatDoor
open Go Go.Mir
attribute [local irreducible] Go.Mir.DT.sat Go.Mir.evPat Go.Mir.RT.sat Go.Mir.evFn
abbrev Aa:List (Nat×PB):= [(0,.cells (B2 (.c (.osl 1 2)))),(1,.row 2 (.nm .Innings))]
abbrev qPM:Pat:=⟨[(0,.c (.ptr 0 0))],Aa,3⟩
abbrev qPI:Pat:=⟨[(0,.c (.ptr 0 0)),(1,.h I)],Aa,3⟩
abbrev qN:Pat:=⟨[],Aa,3⟩
def Ds:Den (tyP qPI)→List Prop×Den (tyP qN):=fun x=>([aQ (mkX x.2),jE x.1],((aq (mkX x.2) x.1).Rules.Name,(aq (mkX x.2) x.1).Rules.Side,(aq (mkX x.2) x.1).Rules.Innings,(aq (mkX x.2) x.1).Rules.Overs,(aq (mkX x.2) x.1).Rules.Balls,(aq (mkX x.2) x.1).Rules.Quota,(aq (mkX x.2) x.1).Rules.Wide,(aq (mkX x.2) x.1).Rules.NoBall,(aq (mkX x.2) x.1).Rules.FreeHit,(aq (mkX x.2) x.1).Rules.NewBall,(aq (mkX x.2) x.1).Rules.FollowOn,(aq (mkX x.2) x.1).Rules.Reviews,(aq (mkX x.2) x.1).Rules.Outside,(aq (mkX x.2) x.1).Rules.Power,(aq (mkX x.2) x.1).Stage,(aq (mkX x.2) x.1).First,(aq (mkX x.2) x.1).Follow,(aq (mkX x.2) x.1).Penalty.1,(aq (mkX x.2) x.1).Penalty.2.1,(aq (mkX x.2) x.1).Result.Win,(aq (mkX x.2) x.1).Result.Side,(aq (mkX x.2) x.1).Result.Margin,(aq (mkX x.2) x.1).Innings,()))
def jh (m:Match):Prop:=m.Stage=3→0<m.Innings.length
def J0:Den (tyP qPM)→List Prop×Den (tyP qN):=fun x=>([aQ (mkX x),jh (mkX x)],((dq (mkX x)).Rules.Name,(dq (mkX x)).Rules.Side,(dq (mkX x)).Rules.Innings,(dq (mkX x)).Rules.Overs,(dq (mkX x)).Rules.Balls,(dq (mkX x)).Rules.Quota,(dq (mkX x)).Rules.Wide,(dq (mkX x)).Rules.NoBall,(dq (mkX x)).Rules.FreeHit,(dq (mkX x)).Rules.NewBall,(dq (mkX x)).Rules.FollowOn,(dq (mkX x)).Rules.Reviews,(dq (mkX x)).Rules.Outside,(dq (mkX x)).Rules.Power,(dq (mkX x)).Stage,(dq (mkX x)).First,(dq (mkX x)).Follow,(dq (mkX x)).Penalty.1,(dq (mkX x)).Penalty.2.1,(dq (mkX x)).Result.Win,(dq (mkX x)).Result.Side,(dq (mkX x)).Result.Margin,(dq (mkX x)).Innings,()))
def Dw:Den (tyP qPM)→List Prop×Den (tyP qN):=fun x=>([aQ (mkX x),jh (mkX x)],((ak (mkX x)).Rules.Name,(ak (mkX x)).Rules.Side,(ak (mkX x)).Rules.Innings,(ak (mkX x)).Rules.Overs,(ak (mkX x)).Rules.Balls,(ak (mkX x)).Rules.Quota,(ak (mkX x)).Rules.Wide,(ak (mkX x)).Rules.NoBall,(ak (mkX x)).Rules.FreeHit,(ak (mkX x)).Rules.NewBall,(ak (mkX x)).Rules.FollowOn,(ak (mkX x)).Rules.Reviews,(ak (mkX x)).Rules.Outside,(ak (mkX x)).Rules.Power,(ak (mkX x)).Stage,(ak (mkX x)).First,(ak (mkX x)).Follow,(ak (mkX x)).Penalty.1,(ak (mkX x)).Penalty.2.1,(ak (mkX x)).Result.Win,(ak (mkX x)).Result.Side,(ak (mkX x)).Result.Margin,(ak (mkX x)).Innings,()))
abbrev qAw:Pat:=⟨[(0,.c (.ptr 0 0)),(1,.h I),(4,.h I)],Aa,3⟩
abbrev xAw:List (Lf×Pat):= [(.ret,⟨[],Aa,3⟩),(.ext 0,⟨[(0,.c (.ptr 0 0)),(1,.h I)],Aa,3⟩)]
abbrev TAw:Type:=Int×Int×TM
def vg (x:TAw):Prop:=(-1≤x.2.1∧x.2.1 <(x.2.2.2.2.2.2.2.2.2.2.2.2.2.2.2.2.2.2.2.2.2.2.2.2.1.length:Int)∧x.2.2.2.2.2.2.2.2.2.2.2.2.2.2.2.2.2.2.2.2.2.2.2.2.1.length≤1000000)∧gb x.2.2.2.2.2.2.2.2.2.2.2.2.2.2.2.2.2.2.2.2.2.2.2.2.1
def FW (x:TAw):Nat:=(x.2.1+1).toNat
def QO (y:TM) (xs:List Innings):TM:=(y.1,y.2.1,y.2.2.1,y.2.2.2.1,y.2.2.2.2.1,y.2.2.2.2.2.1,y.2.2.2.2.2.2.1,y.2.2.2.2.2.2.2.1,y.2.2.2.2.2.2.2.2.1,y.2.2.2.2.2.2.2.2.2.1,y.2.2.2.2.2.2.2.2.2.2.1,y.2.2.2.2.2.2.2.2.2.2.2.1,y.2.2.2.2.2.2.2.2.2.2.2.2.1,y.2.2.2.2.2.2.2.2.2.2.2.2.2.1,y.2.2.2.2.2.2.2.2.2.2.2.2.2.2.1,y.2.2.2.2.2.2.2.2.2.2.2.2.2.2.2.1,y.2.2.2.2.2.2.2.2.2.2.2.2.2.2.2.2.1,y.2.2.2.2.2.2.2.2.2.2.2.2.2.2.2.2.2.1,y.2.2.2.2.2.2.2.2.2.2.2.2.2.2.2.2.2.2.1,y.2.2.2.2.2.2.2.2.2.2.2.2.2.2.2.2.2.2.2.1,y.2.2.2.2.2.2.2.2.2.2.2.2.2.2.2.2.2.2.2.2.1,y.2.2.2.2.2.2.2.2.2.2.2.2.2.2.2.2.2.2.2.2.2.1,xs,())
def vT (s:Int) (y:TM):Option Nat→Sum TM (Int×TM)
 | some k=> .inl (QO y (y.2.2.2.2.2.2.2.2.2.2.2.2.2.2.2.2.2.2.2.2.2.2.1.set k (AR (y.2.2.2.2.2.2.2.2.2.2.2.2.2.2.2.2.2.2.2.2.2.2.1.getD k Innings.zero))))
 | none=> .inr (s,y)
def kY (x:TAw):Sum TM (Int×TM):=vT x.1 x.2.2 (gz x.1 x.2.2.2.2.2.2.2.2.2.2.2.2.2.2.2.2.2.2.2.2.2.2.2.2.1 (x.2.1+1).toNat)
theorem JI (m:Match) (hm:aQ m) (ho:jh m) :(evPat (ao [hJ] Tryz.f281) (fun _=>none) Tryz.f281 qPM qN (m.Rules.Name,m.Rules.Side,m.Rules.Innings,m.Rules.Overs,m.Rules.Balls,m.Rules.Quota,m.Rules.Wide,m.Rules.NoBall,m.Rules.FreeHit,m.Rules.NewBall,m.Rules.FollowOn,m.Rules.Reviews,m.Rules.Outside,m.Rules.Power,m.Stage,m.First,m.Follow,m.Penalty.1,m.Penalty.2.1,m.Result.Win,m.Result.Side,m.Result.Margin,m.Innings,())).sat fun z_=>z_ =(J0 (m.Rules.Name,m.Rules.Side,m.Rules.Innings,m.Rules.Overs,m.Rules.Balls,m.Rules.Quota,m.Rules.Wide,m.Rules.NoBall,m.Rules.FreeHit,m.Rules.NewBall,m.Rules.FollowOn,m.Rules.Reviews,m.Rules.Outside,m.Rules.Power,m.Stage,m.First,m.Follow,m.Penalty.1,m.Penalty.2.1,m.Result.Win,m.Result.Side,m.Result.Margin,m.Innings,())).2:=by
 refine cast (by kernel_rfl) (?_:let r1:Int:=IntKind.i64.wrap ((↑m.5.length:Int) - (1:Int));let r2:Innings:=m.5.getD r1.toNat (dflt (Ty.nm Nm.Innings));(((m.2 ==(3:Int))=true→((0:Int)≤r1∧r1 <(↑m.5.length:Int))∧True)∧((m.2 ==(3:Int))=false→True))∧(true=true→(m.1.1,m.1.2,m.1.3,m.1.4,m.1.5,m.1.6,m.1.7,m.1.8,m.1.9,m.1.10,m.1.11,m.1.12,m.1.13,m.1.14,(5:Int),m.3,m.4,m.6.1,m.6.2.1,dR m.1,(0:Int),(0:Int),bif m.2 ==(3:Int) then m.5.set r1.toNat (Innings.mk r2.1 r2.2 r2.3 r2.4 r2.5 r2.6 r2.7 r2.8 r2.9 r2.10 r2.11 r2.12 r2.13 r2.14 r2.15 r2.16 r2.17 r2.18 r2.19 r2.20 r2.21 r2.22 (5:Int)) else m.5,()) =((bq m).1.1,(bq m).1.2,(bq m).1.3,(bq m).1.4,(bq m).1.5,(bq m).1.6,(bq m).1.7,(bq m).1.8,(bq m).1.9,(bq m).1.10,(bq m).1.11,(bq m).1.12,(bq m).1.13,(bq m).1.14,(5:Int),(bq m).3,(bq m).4,(bq m).6.1,(bq m).6.2.1,dR m.1,(0:Int),(0:Int),(bq m).5,())))
 intro r1 r2
 clear_value (hr1:r1=_) (hr2:r2=_)
 have hx:=hm.2.1
 refine ⟨⟨fun h=>⟨?_,trivial⟩,fun _=>trivial⟩,fun _=>?_⟩
 ·have h0:=ho (by simpa using h)
  rw [hr1,bb (n:=(m.Innings.length:Int) - 1) (by omega) (by omega)]
  omega
 ·cases h:m.Stage==3 with
  | true=>
   have h0:=ho (by simpa using h)
   have e1:r1.toNat=F5 m:=by rw [hr1];exact IA h0 hx
   have e2:r2=bj m:=by rw [hr2,e1];rfl
   have eS:bq m=tP m (F5 m) { bj m with Ending:=5 }:=by unfold bq;rw [h];rfl
   rw [eS,e1,e2];rfl
  | false=>
   have eS:bq m=m:=by unfold bq;rw [h];rfl
   rw [eS];rfl
def Ik:FuncId×Ctr:=(281,af KE qPM qN J0)
theorem Lt:CtrOK Tryz.prog KE 281 (af KE qPM qN J0):=by
 refine aw (C:=ao [hJ] Tryz.f281) (al (.consU na rfl .nil) _) mixed (fn:=Tryz.f281) Tryz.func281 (by kernel_rfl) (by kernel_rfl) (by kernel_rfl) (by kernel_rfl) (by kernel_rfl) (by kernel_rfl) (Λ:=fun _ _=>none) ?_ ?_
 ·exact fun _ _ _ _ _ _ _ _ h=>by cases h
 ·rintro ⟨v1,v2,v3,v4,v5,v6,v7,v8,v9,v10,v11,v12,v13,v14,v15,v16,v17,v18,v19,v20,v21,v22,xs,⟨⟩⟩ hw hn
  exact JI (mkM v1 v2 v3 v4 v5 v6 v7 v8 v9 v10 v11 v12 v13 v14 v15 v16 v17 v18 v19 v20 v21 v22 xs) (hn _ List.mem_cons_self) (hn _ (List.mem_cons_of_mem _ List.mem_cons_self))
noncomputable def lpAw:Lp:=(⟨3,ao [jM] Tryz.f310,(fun _=>none),(aH Tryz.f310 0),qAw,xAw⟩:Lp)
theorem Ov (s:Int) (i:Int) (v1:ByteArray) (v2:Int) (v3:Int) (v4:Int) (v5:Int) (v6:Int) (v7:Int) (v8:Int) (v9:Bool) (v10:Int) (v11:Int) (v12:Int) (v13:Int) (v14:List Phase) (v15:Int) (v16:Int) (v17:Bool) (v18:Int) (v19:Int) (v20:Int) (v21:Int) (v22:Int) (xs:List Innings) (hi:vg (s,i,v1,v2,v3,v4,v5,v6,v7,v8,v9,v10,v11,v12,v13,v14,v15,v16,v17,v18,v19,v20,v21,v22,xs,())) :(Go.Mir.stepG lpAw kY (fun y:Den (tyP lpAw.q)=>vg y∧FW y<FW (s,i,v1,v2,v3,v4,v5,v6,v7,v8,v9,v10,v11,v12,v13,v14,v15,v16,v17,v18,v19,v20,v21,v22,xs,())) (s,i,v1,v2,v3,v4,v5,v6,v7,v8,v9,v10,v11,v12,v13,v14,v15,v16,v17,v18,v19,v20,v21,v22,xs,())∧Go.Mir.stepE lpAw kY (s,i,v1,v2,v3,v4,v5,v6,v7,v8,v9,v10,v11,v12,v13,v14,v15,v16,v17,v18,v19,v20,v21,v22,xs,())=kY (s,i,v1,v2,v3,v4,v5,v6,v7,v8,v9,v10,v11,v12,v13,v14,v15,v16,v17,v18,v19,v20,v21,v22,xs,())):=by
 refine cast (by kernel_rfl) (?_:let r1:Bool:=decide (i≥(0:Int));let r2:Bool:=(xs.getD i.toNat (dflt (Ty.nm Nm.Innings))).1==s;((r1=true→((0:Int)≤i∧i <(↑xs.length:Int))∧(r2=true→((0:Int)≤i∧i <(↑xs.length:Int))∧ah (xs.getD i.toNat (dflt (Ty.nm Nm.Innings)))∧((0:Int)≤i∧i <(↑xs.length:Int))∧True)∧(r2=false→vg (s,IntKind.i64.wrap (i - (1:Int)),v1,v2,v3,v4,v5,v6,v7,v8,v9,v10,v11,v12,v13,v14,v15,v16,v17,v18,v19,v20,v21,v22,xs,())∧FW (s,IntKind.i64.wrap (i - (1:Int)),v1,v2,v3,v4,v5,v6,v7,v8,v9,v10,v11,v12,v13,v14,v15,v16,v17,v18,v19,v20,v21,v22,xs,())<FW (s,i,v1,v2,v3,v4,v5,v6,v7,v8,v9,v10,v11,v12,v13,v14,v15,v16,v17,v18,v19,v20,v21,v22,xs,())))∧(r1=false→True))∧(bif r1 then bif r2 then Sum.inl (v1,v2,v3,v4,v5,v6,v7,v8,v9,v10,v11,v12,v13,v14,v15,v16,v17,v18,v19,v20,v21,v22,xs.set i.toNat (Innings.mk (xs.getD i.toNat (dflt (Ty.nm Nm.Innings))).1 (xs.getD i.toNat (dflt (Ty.nm Nm.Innings))).2 (xs.getD i.toNat (dflt (Ty.nm Nm.Innings))).3 (W ((xs.getD i.toNat (dflt (Ty.nm Nm.Innings))).4 +(5:Int))) (xs.getD i.toNat (dflt (Ty.nm Nm.Innings))).5 (Extras.mk (xs.getD i.toNat (dflt (Ty.nm Nm.Innings))).6.1 (xs.getD i.toNat (dflt (Ty.nm Nm.Innings))).6.2 (xs.getD i.toNat (dflt (Ty.nm Nm.Innings))).6.3 (xs.getD i.toNat (dflt (Ty.nm Nm.Innings))).6.4 (W ((xs.getD i.toNat (dflt (Ty.nm Nm.Innings))).6.5 +(5:Int)))) (xs.getD i.toNat (dflt (Ty.nm Nm.Innings))).7 (xs.getD i.toNat (dflt (Ty.nm Nm.Innings))).8 (xs.getD i.toNat (dflt (Ty.nm Nm.Innings))).9 (xs.getD i.toNat (dflt (Ty.nm Nm.Innings))).10 (xs.getD i.toNat (dflt (Ty.nm Nm.Innings))).11 (xs.getD i.toNat (dflt (Ty.nm Nm.Innings))).12 (xs.getD i.toNat (dflt (Ty.nm Nm.Innings))).13 (xs.getD i.toNat (dflt (Ty.nm Nm.Innings))).14 (xs.getD i.toNat (dflt (Ty.nm Nm.Innings))).15 (xs.getD i.toNat (dflt (Ty.nm Nm.Innings))).16 (xs.getD i.toNat (dflt (Ty.nm Nm.Innings))).17 (xs.getD i.toNat (dflt (Ty.nm Nm.Innings))).18 (xs.getD i.toNat (dflt (Ty.nm Nm.Innings))).19 (xs.getD i.toNat (dflt (Ty.nm Nm.Innings))).20 (xs.getD i.toNat (dflt (Ty.nm Nm.Innings))).21 (xs.getD i.toNat (dflt (Ty.nm Nm.Innings))).22 (xs.getD i.toNat (dflt (Ty.nm Nm.Innings))).23),()) else kY (s,IntKind.i64.wrap (i - (1:Int)),v1,v2,v3,v4,v5,v6,v7,v8,v9,v10,v11,v12,v13,v14,v15,v16,v17,v18,v19,v20,v21,v22,xs,()) else Sum.inr (s,v1,v2,v3,v4,v5,v6,v7,v8,v9,v10,v11,v12,v13,v14,v15,v16,v17,v18,v19,v20,v21,v22,xs,()))=kY (s,i,v1,v2,v3,v4,v5,v6,v7,v8,v9,v10,v11,v12,v13,v14,v15,v16,v17,v18,v19,v20,v21,v22,xs,()))
 intro r1 r2
 clear_value (hr1:r1=_) (hr2:r2=_)
 obtain ⟨⟨h1,h2,h3⟩,hs⟩:=hi
 simp only at h1 h2 h3 hs
 refine ⟨⟨fun h=>?_,fun _=>trivial⟩,?_⟩
 ·have h:i≥0:=of_decide_eq_true (by rw [←hr1];exact h)
  have hl:i.toNat<xs.length:=by omega
  refine ⟨⟨h,by omega⟩,fun _=>⟨⟨h,by omega⟩,hs _ (jK hl _),⟨h,by omega⟩,trivial⟩,fun _=>?_⟩
  rw [bb (n:=i - 1) (by omega) (by omega)]
  exact ⟨⟨⟨by simp only;omega,by simp only;omega,h3⟩,hs⟩,by simp only [FW];omega⟩
 ·by_cases h:i≥0
  ·have e :(i+1).toNat=i.toNat+1:=by omega
   have eF:gz s xs (i+1).toNat=if r2 then some i.toNat else gz s xs i.toNat:=by rw [e,hr2];rfl
   rw [hr1,decide_eq_true h,cond_true]
   show _=vT s _ (gz s xs (i+1).toNat)
   rw [eF]
   cases r2 with
   | true=>rfl
   | false=>
    rw [bb (n:=i - 1) (by omega) (by omega)]
    show vT s _ (gz s xs (i - 1+1).toNat)=_
    rw [show (i - 1+1).toNat=i.toNat by omega]
    rfl
  ·have e :(i+1).toNat=0:=by omega
   rw [hr1,decide_eq_false h,cond_false]
   show _=vT s _ (gz s xs (i+1).toNat)
   rw [e]
   rfl
noncomputable def Na:LoopSum:=bh lpAw kY vg
noncomputable def MW:Nat:=rid (aH Tryz.f310 0)
theorem NJ:LoopOKp Tryz.prog 3 Tryz.f310.ntmps (aH Tryz.f310 0) (bh lpAw kY vg):=
 cj lpAw (al (.consU nW rfl .nil) _) mixed (fun b hb S hS=>by cases hS) kY vg FW (fun |⟨s,i,v1,v2,v3,v4,v5,v6,v7,v8,v9,v10,v11,v12,v13,v14,v15,v16,v17,v18,v19,v20,v21,v22,xs,⟨⟩⟩,hi=>Ov s i v1 v2 v3 v4 v5 v6 v7 v8 v9 v10 v11 v12 v13 v14 v15 v16 v17 v18 v19 v20 v21 v22 xs hi)
theorem GH (m:Match) (s:Int) (hm:aQ m) (hk:jE s) :(evPat (ao [jM] Tryz.f310) (find [(MW,Na)]) Tryz.f310 qPI qN (s,m.Rules.Name,m.Rules.Side,m.Rules.Innings,m.Rules.Overs,m.Rules.Balls,m.Rules.Quota,m.Rules.Wide,m.Rules.NoBall,m.Rules.FreeHit,m.Rules.NewBall,m.Rules.FollowOn,m.Rules.Reviews,m.Rules.Outside,m.Rules.Power,m.Stage,m.First,m.Follow,m.Penalty.1,m.Penalty.2.1,m.Result.Win,m.Result.Side,m.Result.Margin,m.Innings,())).sat fun z_=>z_ =(Ds (s,m.Rules.Name,m.Rules.Side,m.Rules.Innings,m.Rules.Overs,m.Rules.Balls,m.Rules.Quota,m.Rules.Wide,m.Rules.NoBall,m.Rules.FreeHit,m.Rules.NewBall,m.Rules.FollowOn,m.Rules.Reviews,m.Rules.Outside,m.Rules.Power,m.Stage,m.First,m.Follow,m.Penalty.1,m.Penalty.2.1,m.Result.Win,m.Result.Side,m.Result.Margin,m.Innings,())).2:=by
 refine cast (by kernel_rfl) (?_:let r1:Int:=IntKind.i64.wrap ((↑m.5.length:Int) - (1:Int));let r2:Bool:=isL (kY (s,r1,m.1.1,m.1.2,m.1.3,m.1.4,m.1.5,m.1.6,m.1.7,m.1.8,m.1.9,m.1.10,m.1.11,m.1.12,m.1.13,m.1.14,m.2,m.3,m.4,m.6.1,m.6.2.1,m.7.1,m.7.2,m.7.3,m.5,()));let r3:Int×ByteArray×Int×Int×Int×Int×Int×Int×Int×Bool×Int×Int×Int×Int×List Phase×Int×Int×Bool×Int×Int×Int×Int×Int×List Innings×PUnit:=xk (dflt (I.prod (Ty.str.prod (I.prod (I.prod (I.prod (I.prod (I.prod (I.prod (I.prod (Ty.bool.prod (I.prod (I.prod (I.prod (I.prod ((Ty.nm Nm.Phase).slice.prod (U8.prod (I.prod (Ty.bool.prod (I.prod (I.prod (U8.prod (I.prod (I.prod ((Ty.nm Nm.Innings).slice.prod Ty.unit))))))))))))))))))))))))) (kY (s,r1,m.1.1,m.1.2,m.1.3,m.1.4,m.1.5,m.1.6,m.1.7,m.1.8,m.1.9,m.1.10,m.1.11,m.1.12,m.1.13,m.1.14,m.2,m.3,m.4,m.6.1,m.6.2.1,m.7.1,m.7.2,m.7.3,m.5,()));let r4:Int:=IntKind.i64.wrap (r3.1 - (1:Int));let r5:Bool:=r4 ==(0:Int);let r6:Bool:=r4 ==(1:Int);((fW fun x=>none)∧((-1:Int)≤r1∧r1 <(↑m.5.length:Int)∧m.5.length≤(1000000:Nat))∧gb m.5)∧(r2=true→ov (dflt (Ty.str.prod (I.prod (I.prod (I.prod (I.prod (I.prod (I.prod (I.prod (Ty.bool.prod (I.prod (I.prod (I.prod (I.prod ((Ty.nm Nm.Phase).slice.prod (U8.prod (I.prod (Ty.bool.prod (I.prod (I.prod (U8.prod (I.prod (I.prod ((Ty.nm Nm.Innings).slice.prod Ty.unit)))))))))))))))))))))))) (kY (s,r1,m.1.1,m.1.2,m.1.3,m.1.4,m.1.5,m.1.6,m.1.7,m.1.8,m.1.9,m.1.10,m.1.11,m.1.12,m.1.13,m.1.14,m.2,m.3,m.4,m.6.1,m.6.2.1,m.7.1,m.7.2,m.7.3,m.5,())) =((aq m s).1.1,(aq m s).1.2,(aq m s).1.3,(aq m s).1.4,(aq m s).1.5,(aq m s).1.6,(aq m s).1.7,(aq m s).1.8,(aq m s).1.9,(aq m s).1.10,(aq m s).1.11,(aq m s).1.12,(aq m s).1.13,(aq m s).1.14,(aq m s).2,(aq m s).3,(aq m s).4,(aq m s).6.1,(aq m s).6.2.1,(aq m s).7.1,(aq m s).7.2,(aq m s).7.3,(aq m s).5,()))∧(r2=false→(r5=true→((0:Int)≤(0:Int)∧(0:Int) <(↑(2:Nat):Int))∧((0:Int)≤(0:Int)∧(0:Int) <(↑(2:Nat):Int))∧(r3.2.1,r3.2.2.1,r3.2.2.2.1,r3.2.2.2.2.1,r3.2.2.2.2.2.1,r3.2.2.2.2.2.2.1,r3.2.2.2.2.2.2.2.1,r3.2.2.2.2.2.2.2.2.1,r3.2.2.2.2.2.2.2.2.2.1,r3.2.2.2.2.2.2.2.2.2.2.1,r3.2.2.2.2.2.2.2.2.2.2.2.1,r3.2.2.2.2.2.2.2.2.2.2.2.2.1,r3.2.2.2.2.2.2.2.2.2.2.2.2.2.1,r3.2.2.2.2.2.2.2.2.2.2.2.2.2.2.1,r3.2.2.2.2.2.2.2.2.2.2.2.2.2.2.2.1,r3.2.2.2.2.2.2.2.2.2.2.2.2.2.2.2.2.1,r3.2.2.2.2.2.2.2.2.2.2.2.2.2.2.2.2.2.1,IntKind.i64.wrap (r3.2.2.2.2.2.2.2.2.2.2.2.2.2.2.2.2.2.2.1 +(5:Int)),r3.2.2.2.2.2.2.2.2.2.2.2.2.2.2.2.2.2.2.2) =((aq m s).1.1,(aq m s).1.2,(aq m s).1.3,(aq m s).1.4,(aq m s).1.5,(aq m s).1.6,(aq m s).1.7,(aq m s).1.8,(aq m s).1.9,(aq m s).1.10,(aq m s).1.11,(aq m s).1.12,(aq m s).1.13,(aq m s).1.14,(aq m s).2,(aq m s).3,(aq m s).4,(aq m s).6.1,(aq m s).6.2.1,(aq m s).7.1,(aq m s).7.2,(aq m s).7.3,(aq m s).5,()))∧(r5=false→(r6=true→((0:Int)≤(1:Int)∧(1:Int) <(↑(2:Nat):Int))∧((0:Int)≤(1:Int)∧(1:Int) <(↑(2:Nat):Int))∧(r3.2.1,r3.2.2.1,r3.2.2.2.1,r3.2.2.2.2.1,r3.2.2.2.2.2.1,r3.2.2.2.2.2.2.1,r3.2.2.2.2.2.2.2.1,r3.2.2.2.2.2.2.2.2.1,r3.2.2.2.2.2.2.2.2.2.1,r3.2.2.2.2.2.2.2.2.2.2.1,r3.2.2.2.2.2.2.2.2.2.2.2.1,r3.2.2.2.2.2.2.2.2.2.2.2.2.1,r3.2.2.2.2.2.2.2.2.2.2.2.2.2.1,r3.2.2.2.2.2.2.2.2.2.2.2.2.2.2.1,r3.2.2.2.2.2.2.2.2.2.2.2.2.2.2.2.1,r3.2.2.2.2.2.2.2.2.2.2.2.2.2.2.2.2.1,r3.2.2.2.2.2.2.2.2.2.2.2.2.2.2.2.2.2.1,r3.2.2.2.2.2.2.2.2.2.2.2.2.2.2.2.2.2.2.1,IntKind.i64.wrap (r3.2.2.2.2.2.2.2.2.2.2.2.2.2.2.2.2.2.2.2.1 +(5:Int)),r3.2.2.2.2.2.2.2.2.2.2.2.2.2.2.2.2.2.2.2.2) =((aq m s).1.1,(aq m s).1.2,(aq m s).1.3,(aq m s).1.4,(aq m s).1.5,(aq m s).1.6,(aq m s).1.7,(aq m s).1.8,(aq m s).1.9,(aq m s).1.10,(aq m s).1.11,(aq m s).1.12,(aq m s).1.13,(aq m s).1.14,(aq m s).2,(aq m s).3,(aq m s).4,(aq m s).6.1,(aq m s).6.2.1,(aq m s).7.1,(aq m s).7.2,(aq m s).7.3,(aq m s).5,()))∧(r6=false→False∧True))))
 intro r1 r2 r3 r4 r5 r6
 clear_value (hr1:r1=_) (hr2:r2=_) (hr3:r3=_) (hr4:r4=_) (hr5:r5=_) (hr6:r6=_)
 have hx:=hm.2.1
 have e0:r1 =(m.Innings.length:Int) - 1:=by rw [hr1];exact bb (by omega) (by omega)
 have er:kY (s,r1,m.Rules.Name,m.Rules.Side,m.Rules.Innings,m.Rules.Overs,m.Rules.Balls,m.Rules.Quota,m.Rules.Wide,m.Rules.NoBall,m.Rules.FreeHit,m.Rules.NewBall,m.Rules.FollowOn,m.Rules.Reviews,m.Rules.Outside,m.Rules.Power,m.Stage,m.First,m.Follow,m.Penalty.1,m.Penalty.2.1,m.Result.Win,m.Result.Side,m.Result.Margin,m.Innings,())=vT s (m.Rules.Name,m.Rules.Side,m.Rules.Innings,m.Rules.Overs,m.Rules.Balls,m.Rules.Quota,m.Rules.Wide,m.Rules.NoBall,m.Rules.FreeHit,m.Rules.NewBall,m.Rules.FollowOn,m.Rules.Reviews,m.Rules.Outside,m.Rules.Power,m.Stage,m.First,m.Follow,m.Penalty.1,m.Penalty.2.1,m.Result.Win,m.Result.Side,m.Result.Margin,m.Innings,()) (gz s m.Innings m.Innings.length):=by
  show vT s _ (gz s m.Innings (r1+1).toNat)=_
  rw [show (r1+1).toNat=m.Innings.length by omega]
 rw [er] at hr2 hr3 ⊢
 refine ⟨⟨rfl,⟨by omega,by omega,hx⟩,hm.1⟩,?_⟩
 clear er e0 hr1
 cases hF:gz s m.Innings m.Innings.length with
 | none=>
  rw [hF] at hr2 hr3
  have e2:r2=false:=hr2
  have e3:r3 =(s,m.Rules.Name,m.Rules.Side,m.Rules.Innings,m.Rules.Overs,m.Rules.Balls,m.Rules.Quota,m.Rules.Wide,m.Rules.NoBall,m.Rules.FreeHit,m.Rules.NewBall,m.Rules.FollowOn,m.Rules.Reviews,m.Rules.Outside,m.Rules.Power,m.Stage,m.First,m.Follow,m.Penalty.1,m.Penalty.2.1,m.Result.Win,m.Result.Side,m.Result.Margin,m.Innings,()):=hr3
  have ea:aq m s=BV m s:=by unfold aq;rw [hF];rfl
  subst e2 e3
  rw [ea]
  refine ⟨fun h=>Bool.noConfusion h,fun _=>?_⟩
  rcases hk with rfl|rfl
  ·have e5:r5=true:=by rw [hr5,hr4];rfl
   subst e5
   exact ⟨fun _=>⟨by decide,by decide,rfl⟩,fun h=>Bool.noConfusion h⟩
  ·have e5:r5=false:=by rw [hr5,hr4];rfl
   have e6:r6=true:=by rw [hr6,hr4];rfl
   subst e5 e6
   exact ⟨fun h=>Bool.noConfusion h,fun _=>⟨fun _=>⟨by decide,by decide,rfl⟩,fun h=>Bool.noConfusion h⟩⟩
 | some k=>
  rw [hF] at hr2
  have e2:r2=true:=hr2
  have ea:aq m s=tP m k (AR (m.Innings.getD k Innings.zero)):=by unfold aq;rw [hF];rfl
  subst e2
  rw [ea]
  exact ⟨fun _=>rfl,fun h=>Bool.noConfusion h⟩
def EM:FuncId×Ctr:=(310,af KE qPI qN Ds)
theorem IU:CtrOK Tryz.prog KE 310 (af KE qPI qN Ds):=by
 refine aw (C:=ao [jM] Tryz.f310) (al (.consU nW rfl .nil) _) mixed (fn:=Tryz.f310) Tryz.func310 (by kernel_rfl) (by kernel_rfl) (by kernel_rfl) (by kernel_rfl) (by kernel_rfl) (by kernel_rfl) (Λ:=fun x=>find [(MW,Na)]) ?_ ?_
 ·rintro ⟨s,v1,v2,v3,v4,v5,v6,v7,v8,v9,v10,v11,v12,v13,v14,v15,v16,v17,v18,v19,v20,v21,v22,xs,⟨⟩⟩ hw hn
  exact LoopsOKp.at (by kernel_rfl) (.cons (by kernel_rfl) (NJ) .nil)
 ·rintro ⟨s,v1,v2,v3,v4,v5,v6,v7,v8,v9,v10,v11,v12,v13,v14,v15,v16,v17,v18,v19,v20,v21,v22,xs,⟨⟩⟩ hw hn
  exact GH (mkM v1 v2 v3 v4 v5 v6 v7 v8 v9 v10 v11 v12 v13 v14 v15 v16 v17 v18 v19 v20 v21 v22 xs) s (hn _ List.mem_cons_self) (hn _ (List.mem_cons_of_mem _ List.mem_cons_self))
theorem pO (m:Match) (hm:aQ m) (ho:jh m) :(evPat (ao [mD,gq,vA] Tryz.f237) (fun _=>none) Tryz.f237 qPM qN (m.Rules.Name,m.Rules.Side,m.Rules.Innings,m.Rules.Overs,m.Rules.Balls,m.Rules.Quota,m.Rules.Wide,m.Rules.NoBall,m.Rules.FreeHit,m.Rules.NewBall,m.Rules.FollowOn,m.Rules.Reviews,m.Rules.Outside,m.Rules.Power,m.Stage,m.First,m.Follow,m.Penalty.1,m.Penalty.2.1,m.Result.Win,m.Result.Side,m.Result.Margin,m.Innings,())).sat fun z_=>z_ =(Dw (m.Rules.Name,m.Rules.Side,m.Rules.Innings,m.Rules.Overs,m.Rules.Balls,m.Rules.Quota,m.Rules.Wide,m.Rules.NoBall,m.Rules.FreeHit,m.Rules.NewBall,m.Rules.FollowOn,m.Rules.Reviews,m.Rules.Outside,m.Rules.Power,m.Stage,m.First,m.Follow,m.Penalty.1,m.Penalty.2.1,m.Result.Win,m.Result.Side,m.Result.Margin,m.Innings,())).2:=by
 refine cast (by kernel_rfl) (?_:let r1:Match:=Match.mk m.1 (2:Int) m.3 m.4 m.5 m.6 m.7;let r2:Match:=Match.mk m.1 (5:Int) m.3 m.4 m.5 m.6 m.7;let r3:Int:=IntKind.i64.wrap (lh m m.3 - lh m (dP m.3));let r4:Mir.Result:=cG r2;let r5:Int:=IntKind.i64.wrap ((↑m.5.length:Int) - (1:Int));let r6:Bool:=(↑m.5.length:Int)==IntKind.i64.wrap ((2:Int)*m.1.3);let r7:Innings:=m.5.getD r5.toNat (dflt (Ty.nm Nm.Innings));let r8:Int:=lh r1 r7.1;let r9:Int:=lh r1 (dP r7.1);let r10:Bool:=bif m.2 !=(3:Int) then true else r7.23 ==(0:Int);let r11:Bool:=bif (↑m.5.length:Int) ==(2:Int) then bif decide (m.1.11 >(0:Int)) then decide (r3≥m.1.11) else false else false;let r12:Bool:=bif r6 then r6 else bif (↑m.5.length:Int) ==(3:Int) then decide (r8<r9) else false;(((m.2 !=(3:Int))=true→True)∧((m.2 !=(3:Int))=false→((0:Int)≤r5∧r5 <(↑m.5.length:Int))∧True))∧(true=true→(r10=true→(m.1.1,m.1.2,m.1.3,m.1.4,m.1.5,m.1.6,m.1.7,m.1.8,m.1.9,m.1.10,m.1.11,m.1.12,m.1.13,m.1.14,m.2,m.3,m.4,m.6.1,m.6.2.1,m.7.1,m.7.2,m.7.3,m.5,()) =((ak m).1.1,(ak m).1.2,(ak m).1.3,(ak m).1.4,(ak m).1.5,(ak m).1.6,(ak m).1.7,(ak m).1.8,(ak m).1.9,(ak m).1.10,(ak m).1.11,(ak m).1.12,(ak m).1.13,(ak m).1.14,(ak m).2,(ak m).3,(ak m).4,(ak m).6.1,(ak m).6.2.1,(ak m).7.1,(ak m).7.2,(ak m).7.3,(ak m).5,()))∧(r10=false→((0:Int)≤r5∧r5 <(↑m.5.length:Int))∧(r12=true→jF r2∧(m.1.1,m.1.2,m.1.3,m.1.4,m.1.5,m.1.6,m.1.7,m.1.8,m.1.9,m.1.10,m.1.11,m.1.12,m.1.13,m.1.14,(5:Int),m.3,m.4,m.6.1,m.6.2.1,r4.1,r4.2,r4.3,m.5,()) =((ak m).1.1,(ak m).1.2,(ak m).1.3,(ak m).1.4,(ak m).1.5,(ak m).1.6,(ak m).1.7,(ak m).1.8,(ak m).1.9,(ak m).1.10,(ak m).1.11,(ak m).1.12,(ak m).1.13,(ak m).1.14,(ak m).2,(ak m).3,(ak m).4,(ak m).6.1,(ak m).6.2.1,(ak m).7.1,(ak m).7.2,(ak m).7.3,(ak m).5,()))∧(r12=false→(r11=true→(m.1.1,m.1.2,m.1.3,m.1.4,m.1.5,m.1.6,m.1.7,m.1.8,m.1.9,m.1.10,m.1.11,m.1.12,m.1.13,m.1.14,(4:Int),m.3,m.4,m.6.1,m.6.2.1,m.7.1,m.7.2,m.7.3,m.5,()) =((ak m).1.1,(ak m).1.2,(ak m).1.3,(ak m).1.4,(ak m).1.5,(ak m).1.6,(ak m).1.7,(ak m).1.8,(ak m).1.9,(ak m).1.10,(ak m).1.11,(ak m).1.12,(ak m).1.13,(ak m).1.14,(ak m).2,(ak m).3,(ak m).4,(ak m).6.1,(ak m).6.2.1,(ak m).7.1,(ak m).7.2,(ak m).7.3,(ak m).5,()))∧(r11=false→(m.1.1,m.1.2,m.1.3,m.1.4,m.1.5,m.1.6,m.1.7,m.1.8,m.1.9,m.1.10,m.1.11,m.1.12,m.1.13,m.1.14,(2:Int),m.3,m.4,m.6.1,m.6.2.1,m.7.1,m.7.2,m.7.3,m.5,()) =((ak m).1.1,(ak m).1.2,(ak m).1.3,(ak m).1.4,(ak m).1.5,(ak m).1.6,(ak m).1.7,(ak m).1.8,(ak m).1.9,(ak m).1.10,(ak m).1.11,(ak m).1.12,(ak m).1.13,(ak m).1.14,(ak m).2,(ak m).3,(ak m).4,(ak m).6.1,(ak m).6.2.1,(ak m).7.1,(ak m).7.2,(ak m).7.3,(ak m).5,()))))))
 intro r1 r2 r3 r4 r5 r6 r7 r8 r9 r10 r11 r12
 clear_value (hr1:r1=_) (hr2:r2=_) (hr3:r3=_) (hr4:r4=_) (hr5:r5=_) (hr6:r6=_) (hr7:r7=_) (hr8:r8=_) (hr9:r9=_) (hr10:r10=_) (hr11:r11=_) (hr12:r12=_)
 have hx:=hm.2.1
 have k7:m.Stage=3→(0≤r5∧r5 <(m.Innings.length:Int))∧r7=bj m:=fun h=>by
  have h0:=ho h
  have e0:r5 =(m.Innings.length:Int) - 1:=by rw [hr5];exact bb (by omega) (by omega)
  refine ⟨⟨by omega,by omega⟩,?_⟩
  rw [hr7,show r5.toNat=m.Innings.length - 1 by omega];rfl
 have e10:r10 =(m.Stage != 3 ||(bj m).Ending==0):=by
  cases h:m.Stage != 3 with
  | true=>rw [hr10,h];rfl
  | false=>rw [hr10,h,(k7 (by simpa using h)).2];rfl
 refine ⟨⟨fun _=>trivial,fun h=>⟨(k7 (by simpa using h)).1,trivial⟩⟩,fun _=>⟨fun a=>?_,fun a=>?_⟩⟩
 ·have:ak m=m:=by unfold ak;rw [←e10,a];rfl
  rw [this]
 ·have h3:m.Stage=3:=by
   rw [e10] at a
   simp only [Bool.or_eq_false_iff] at a
   simpa using a.1
  obtain ⟨hb,e7⟩:=k7 h3
  have e6:r6=vc m:=hr6
  have e12:r12 =(vc m||mo m):=by
   rw [hr12,e6];unfold mo;rw [hr8,hr9,hr1,e7]
   cases vc m <;> cases (m.Innings.length:Int)==3 <;> rfl
  have e11:r11=wM m:=by
   rw [hr11,hr3];unfold wM MO
   cases (m.Innings.length:Int)==2 <;> cases decide (m.Rules.FollowOn>0) <;> rfl
  have hC:ak m=if r12 then MG m else if r11 then tY m 4 else tY m 2:=by unfold ak;rw [←e10,a,←e12,←e11];rfl
  rw [hC]
  refine ⟨hb,fun b=>⟨by rw [hr2];exact hm.1,?_⟩,fun b=>⟨fun c=>?_,fun c=>?_⟩⟩
  ·rw [b,hr4,hr2];rfl
  ·rw [b,c];rfl
  ·rw [b,c];rfl
def lN:FuncId×Ctr:=(237,af KE qPM qN Dw)
theorem qz:CtrOK Tryz.prog KE 237 (af KE qPM qN Dw):=by
 refine aw (C:=ao [mD,gq,vA] Tryz.f237) (al (.consU sY rfl (.consU lW rfl (.consU CK rfl .nil))) _) mixed (fn:=Tryz.f237) Tryz.func237 (by kernel_rfl) (by kernel_rfl) (by kernel_rfl) (by kernel_rfl) (by kernel_rfl) (by kernel_rfl) (Λ:=fun _ _=>none) ?_ ?_
 ·exact fun _ _ _ _ _ _ _ _ h=>by cases h
 ·rintro ⟨v1,v2,v3,v4,v5,v6,v7,v8,v9,v10,v11,v12,v13,v14,v15,v16,v17,v18,v19,v20,v21,v22,xs,⟨⟩⟩ hw hn
  exact pO (mkM v1 v2 v3 v4 v5 v6 v7 v8 v9 v10 v11 v12 v13 v14 v15 v16 v17 v18 v19 v20 v21 v22 xs) (hn _ List.mem_cons_self) (hn _ (List.mem_cons_of_mem _ List.mem_cons_self))
end Go.Proofs.YtffdpnmioidloaaGreatDoor
namespace Go.Proofs.YtffdpnmioidloaaGreatDoor
open Go Go.Mir
attribute [local irreducible] Go.Mir.DT.sat Go.Mir.evPat Go.Mir.RT.sat Go.Mir.evFn
abbrev Qo:List (Nat×PB):= [(0,.cells (B2 (.c (.osl 1 3)))),(1,.row 3 (.nm .Innings))]
abbrev qPE:Pat:=⟨[(0,.c (.ptr 0 0)),(1,.h (.nm .Event))],Aa,3⟩
abbrev qPL:Pat:=⟨[(0,.h I)],Aa,3⟩
abbrev A9:Pat:=⟨[(0,.h I)],Qo,4⟩
def DE:Den (tyP qPE)→List Prop×Den (tyP A9):=fun x=>([aQ (mkX x.2),aW (mkX x.2)=true],(bd (mkX x.2) x.1,(ab (mkX x.2) x.1).Rules.Name,(ab (mkX x.2) x.1).Rules.Side,(ab (mkX x.2) x.1).Rules.Innings,(ab (mkX x.2) x.1).Rules.Overs,(ab (mkX x.2) x.1).Rules.Balls,(ab (mkX x.2) x.1).Rules.Quota,(ab (mkX x.2) x.1).Rules.Wide,(ab (mkX x.2) x.1).Rules.NoBall,(ab (mkX x.2) x.1).Rules.FreeHit,(ab (mkX x.2) x.1).Rules.NewBall,(ab (mkX x.2) x.1).Rules.FollowOn,(ab (mkX x.2) x.1).Rules.Reviews,(ab (mkX x.2) x.1).Rules.Outside,(ab (mkX x.2) x.1).Rules.Power,(ab (mkX x.2) x.1).Stage,(ab (mkX x.2) x.1).First,(ab (mkX x.2) x.1).Follow,(ab (mkX x.2) x.1).Penalty.1,(ab (mkX x.2) x.1).Penalty.2.1,(ab (mkX x.2) x.1).Result.Win,(ab (mkX x.2) x.1).Result.Side,(ab (mkX x.2) x.1).Result.Margin,(ab (mkX x.2) x.1).Innings,()))
def DJ:Den (tyP qPE)→List Prop×Den (tyP qPL):=fun x=>([aQ (mkX x.2),aW (mkX x.2)=true,bB x.1=0],(cJ (mkX x.2) x.1,(aj (mkX x.2) x.1).Rules.Name,(aj (mkX x.2) x.1).Rules.Side,(aj (mkX x.2) x.1).Rules.Innings,(aj (mkX x.2) x.1).Rules.Overs,(aj (mkX x.2) x.1).Rules.Balls,(aj (mkX x.2) x.1).Rules.Quota,(aj (mkX x.2) x.1).Rules.Wide,(aj (mkX x.2) x.1).Rules.NoBall,(aj (mkX x.2) x.1).Rules.FreeHit,(aj (mkX x.2) x.1).Rules.NewBall,(aj (mkX x.2) x.1).Rules.FollowOn,(aj (mkX x.2) x.1).Rules.Reviews,(aj (mkX x.2) x.1).Rules.Outside,(aj (mkX x.2) x.1).Rules.Power,(aj (mkX x.2) x.1).Stage,(aj (mkX x.2) x.1).First,(aj (mkX x.2) x.1).Follow,(aj (mkX x.2) x.1).Penalty.1,(aj (mkX x.2) x.1).Penalty.2.1,(aj (mkX x.2) x.1).Result.Win,(aj (mkX x.2) x.1).Result.Side,(aj (mkX x.2) x.1).Result.Margin,(aj (mkX x.2) x.1).Innings,()))
def DH:Den (tyP qPE)→List Prop×Den (tyP A9):=fun x=>([aQ (mkX x.2),aW (mkX x.2)=true,bB x.1=0],(bm (mkX x.2) x.1,(ag (mkX x.2) x.1).Rules.Name,(ag (mkX x.2) x.1).Rules.Side,(ag (mkX x.2) x.1).Rules.Innings,(ag (mkX x.2) x.1).Rules.Overs,(ag (mkX x.2) x.1).Rules.Balls,(ag (mkX x.2) x.1).Rules.Quota,(ag (mkX x.2) x.1).Rules.Wide,(ag (mkX x.2) x.1).Rules.NoBall,(ag (mkX x.2) x.1).Rules.FreeHit,(ag (mkX x.2) x.1).Rules.NewBall,(ag (mkX x.2) x.1).Rules.FollowOn,(ag (mkX x.2) x.1).Rules.Reviews,(ag (mkX x.2) x.1).Rules.Outside,(ag (mkX x.2) x.1).Rules.Power,(ag (mkX x.2) x.1).Stage,(ag (mkX x.2) x.1).First,(ag (mkX x.2) x.1).Follow,(ag (mkX x.2) x.1).Penalty.1,(ag (mkX x.2) x.1).Penalty.2.1,(ag (mkX x.2) x.1).Result.Win,(ag (mkX x.2) x.1).Result.Side,(ag (mkX x.2) x.1).Result.Margin,(ag (mkX x.2) x.1).Innings,()))
theorem HB {e:Mir.Event} (h:bB e=0) (hu:wt e.Kind=true):jE e.Side:=by
 cases hs:inW e.Side 1 2 with
 | true=>simp only [inW,Bool.and_eq_true,decide_eq_true_eq] at hs;unfold jE;omega
 | false=>
  unfold bB at h
  simp only [hu,hs] at h
  exfalso
  revert h
  repeat' split
  all_goals first |(intro h;exact absurd h (by decide))|simp_all
theorem IY {m:Match} {e:Mir.Event} (h :(bd m e != 0)=true):ab m e=m:=by simp only [ab,h,if_true]
theorem I8 {m:Match} {e:Mir.Event} (h :(cJ m e != 0)=true):aj m e=m:=by simp only [aj,h,if_true]
theorem JF (m:Match) (e:Mir.Event) (hm:aQ m) (hv:aW m=true) :(evPat (ao [xw,An,EI,xt] Tryz.f280) (fun _=>none) Tryz.f280 qPE A9 (e,m.Rules.Name,m.Rules.Side,m.Rules.Innings,m.Rules.Overs,m.Rules.Balls,m.Rules.Quota,m.Rules.Wide,m.Rules.NoBall,m.Rules.FreeHit,m.Rules.NewBall,m.Rules.FollowOn,m.Rules.Reviews,m.Rules.Outside,m.Rules.Power,m.Stage,m.First,m.Follow,m.Penalty.1,m.Penalty.2.1,m.Result.Win,m.Result.Side,m.Result.Margin,m.Innings,())).sat fun z_=>z_ =(DE (e,m.Rules.Name,m.Rules.Side,m.Rules.Innings,m.Rules.Overs,m.Rules.Balls,m.Rules.Quota,m.Rules.Wide,m.Rules.NoBall,m.Rules.FreeHit,m.Rules.NewBall,m.Rules.FollowOn,m.Rules.Reviews,m.Rules.Outside,m.Rules.Power,m.Stage,m.First,m.Follow,m.Penalty.1,m.Penalty.2.1,m.Result.Win,m.Result.Side,m.Result.Margin,m.Innings,())).2:=by
 refine cast (by kernel_rfl) (?_:let r1:Int:=IntKind.i64.wrap (da m (↑m.5.length:Int) - (1:Int));let r2:Innings:=mS m.1 (da m (↑m.5.length:Int)) (fG m (da m (↑m.5.length:Int))) m.6.1;let r3:Innings:=mS m.1 (da m (↑m.5.length:Int)) (fG m (da m (↑m.5.length:Int))) m.6.2.1;let r4:Int:=cC m.1 r2 e;let r5:Bool:=r1 ==(0:Int);let r6:Bool:=r1 ==(1:Int);let r7:Int:=cC m.1 r3 e;let r8:Bool:=mR m.1 (da m (↑m.5.length:Int)) (fG m (da m (↑m.5.length:Int))) m.6.1 !=(0:Int);let r9:Bool:=mR m.1 (da m (↑m.5.length:Int)) (fG m (da m (↑m.5.length:Int))) m.6.2.1 !=(0:Int);let r10:List Innings:= [cD m.1 r2 e];let r11:List Innings:= [cD m.1 r3 e];let r12:Bool:=r4 !=(0:Int);let r13:Bool:=r7 !=(0:Int);((m.2 !=(2:Int))=true→((1:Int),m.1.1,m.1.2,m.1.3,m.1.4,m.1.5,m.1.6,m.1.7,m.1.8,m.1.9,m.1.10,m.1.11,m.1.12,m.1.13,m.1.14,m.2,m.3,m.4,m.6.1,m.6.2.1,m.7.1,m.7.2,m.7.3,m.5,()) =(bd m e,(ab m e).1.1,(ab m e).1.2,(ab m e).1.3,(ab m e).1.4,(ab m e).1.5,(ab m e).1.6,(ab m e).1.7,(ab m e).1.8,(ab m e).1.9,(ab m e).1.10,(ab m e).1.11,(ab m e).1.12,(ab m e).1.13,(ab m e).1.14,(ab m e).2,(ab m e).3,(ab m e).4,(ab m e).6.1,(ab m e).6.2.1,(ab m e).7.1,(ab m e).7.2,(ab m e).7.3,(ab m e).5,()))∧((m.2 !=(2:Int))=false→(r5=true→((0:Int)≤(0:Int)∧(0:Int) <(↑(2:Nat):Int))∧(r8=true→((1:Int),m.1.1,m.1.2,m.1.3,m.1.4,m.1.5,m.1.6,m.1.7,m.1.8,m.1.9,m.1.10,m.1.11,m.1.12,m.1.13,m.1.14,m.2,m.3,m.4,m.6.1,m.6.2.1,m.7.1,m.7.2,m.7.3,m.5,()) =(bd m e,(ab m e).1.1,(ab m e).1.2,(ab m e).1.3,(ab m e).1.4,(ab m e).1.5,(ab m e).1.6,(ab m e).1.7,(ab m e).1.8,(ab m e).1.9,(ab m e).1.10,(ab m e).1.11,(ab m e).1.12,(ab m e).1.13,(ab m e).1.14,(ab m e).2,(ab m e).3,(ab m e).4,(ab m e).6.1,(ab m e).6.2.1,(ab m e).7.1,(ab m e).7.2,(ab m e).7.3,(ab m e).5,()))∧(r8=false→ah r2∧(r12=true→(r4,m.1.1,m.1.2,m.1.3,m.1.4,m.1.5,m.1.6,m.1.7,m.1.8,m.1.9,m.1.10,m.1.11,m.1.12,m.1.13,m.1.14,m.2,m.3,m.4,m.6.1,m.6.2.1,m.7.1,m.7.2,m.7.3,m.5,()) =(bd m e,(ab m e).1.1,(ab m e).1.2,(ab m e).1.3,(ab m e).1.4,(ab m e).1.5,(ab m e).1.6,(ab m e).1.7,(ab m e).1.8,(ab m e).1.9,(ab m e).1.10,(ab m e).1.11,(ab m e).1.12,(ab m e).1.13,(ab m e).1.14,(ab m e).2,(ab m e).3,(ab m e).4,(ab m e).6.1,(ab m e).6.2.1,(ab m e).7.1,(ab m e).7.2,(ab m e).7.3,(ab m e).5,()))∧(r12=false→(r5=true→((0:Int)≤(0:Int)∧(0:Int) <(↑(2:Nat):Int))∧(m.5.length+r10.length) *(304:Nat)≤(70368744177664:Nat)∧((0:Int),m.1.1,m.1.2,m.1.3,m.1.4,m.1.5,m.1.6,m.1.7,m.1.8,m.1.9,m.1.10,m.1.11,m.1.12,m.1.13,m.1.14,(3:Int),m.3,m.4,(0:Int),m.6.2.1,m.7.1,m.7.2,m.7.3,m.5++r10,()) =(bd m e,(ab m e).1.1,(ab m e).1.2,(ab m e).1.3,(ab m e).1.4,(ab m e).1.5,(ab m e).1.6,(ab m e).1.7,(ab m e).1.8,(ab m e).1.9,(ab m e).1.10,(ab m e).1.11,(ab m e).1.12,(ab m e).1.13,(ab m e).1.14,(ab m e).2,(ab m e).3,(ab m e).4,(ab m e).6.1,(ab m e).6.2.1,(ab m e).7.1,(ab m e).7.2,(ab m e).7.3,(ab m e).5,()))∧(r5=false→(r6=true→((0:Int)≤(1:Int)∧(1:Int) <(↑(2:Nat):Int))∧(m.5.length+r10.length) *(304:Nat)≤(70368744177664:Nat)∧((0:Int),m.1.1,m.1.2,m.1.3,m.1.4,m.1.5,m.1.6,m.1.7,m.1.8,m.1.9,m.1.10,m.1.11,m.1.12,m.1.13,m.1.14,(3:Int),m.3,m.4,m.6.1,(0:Int),m.7.1,m.7.2,m.7.3,m.5++r10,()) =(bd m e,(ab m e).1.1,(ab m e).1.2,(ab m e).1.3,(ab m e).1.4,(ab m e).1.5,(ab m e).1.6,(ab m e).1.7,(ab m e).1.8,(ab m e).1.9,(ab m e).1.10,(ab m e).1.11,(ab m e).1.12,(ab m e).1.13,(ab m e).1.14,(ab m e).2,(ab m e).3,(ab m e).4,(ab m e).6.1,(ab m e).6.2.1,(ab m e).7.1,(ab m e).7.2,(ab m e).7.3,(ab m e).5,()))∧(r6=false→False∧True)))))∧(r5=false→(r6=true→((0:Int)≤(1:Int)∧(1:Int) <(↑(2:Nat):Int))∧(r9=true→((1:Int),m.1.1,m.1.2,m.1.3,m.1.4,m.1.5,m.1.6,m.1.7,m.1.8,m.1.9,m.1.10,m.1.11,m.1.12,m.1.13,m.1.14,m.2,m.3,m.4,m.6.1,m.6.2.1,m.7.1,m.7.2,m.7.3,m.5,()) =(bd m e,(ab m e).1.1,(ab m e).1.2,(ab m e).1.3,(ab m e).1.4,(ab m e).1.5,(ab m e).1.6,(ab m e).1.7,(ab m e).1.8,(ab m e).1.9,(ab m e).1.10,(ab m e).1.11,(ab m e).1.12,(ab m e).1.13,(ab m e).1.14,(ab m e).2,(ab m e).3,(ab m e).4,(ab m e).6.1,(ab m e).6.2.1,(ab m e).7.1,(ab m e).7.2,(ab m e).7.3,(ab m e).5,()))∧(r9=false→ah r3∧(r13=true→(r7,m.1.1,m.1.2,m.1.3,m.1.4,m.1.5,m.1.6,m.1.7,m.1.8,m.1.9,m.1.10,m.1.11,m.1.12,m.1.13,m.1.14,m.2,m.3,m.4,m.6.1,m.6.2.1,m.7.1,m.7.2,m.7.3,m.5,()) =(bd m e,(ab m e).1.1,(ab m e).1.2,(ab m e).1.3,(ab m e).1.4,(ab m e).1.5,(ab m e).1.6,(ab m e).1.7,(ab m e).1.8,(ab m e).1.9,(ab m e).1.10,(ab m e).1.11,(ab m e).1.12,(ab m e).1.13,(ab m e).1.14,(ab m e).2,(ab m e).3,(ab m e).4,(ab m e).6.1,(ab m e).6.2.1,(ab m e).7.1,(ab m e).7.2,(ab m e).7.3,(ab m e).5,()))∧(r13=false→(r5=true→((0:Int)≤(0:Int)∧(0:Int) <(↑(2:Nat):Int))∧(m.5.length+r11.length) *(304:Nat)≤(70368744177664:Nat)∧((0:Int),m.1.1,m.1.2,m.1.3,m.1.4,m.1.5,m.1.6,m.1.7,m.1.8,m.1.9,m.1.10,m.1.11,m.1.12,m.1.13,m.1.14,(3:Int),m.3,m.4,(0:Int),m.6.2.1,m.7.1,m.7.2,m.7.3,m.5++r11,()) =(bd m e,(ab m e).1.1,(ab m e).1.2,(ab m e).1.3,(ab m e).1.4,(ab m e).1.5,(ab m e).1.6,(ab m e).1.7,(ab m e).1.8,(ab m e).1.9,(ab m e).1.10,(ab m e).1.11,(ab m e).1.12,(ab m e).1.13,(ab m e).1.14,(ab m e).2,(ab m e).3,(ab m e).4,(ab m e).6.1,(ab m e).6.2.1,(ab m e).7.1,(ab m e).7.2,(ab m e).7.3,(ab m e).5,()))∧(r5=false→(r6=true→((0:Int)≤(1:Int)∧(1:Int) <(↑(2:Nat):Int))∧(m.5.length+r11.length) *(304:Nat)≤(70368744177664:Nat)∧((0:Int),m.1.1,m.1.2,m.1.3,m.1.4,m.1.5,m.1.6,m.1.7,m.1.8,m.1.9,m.1.10,m.1.11,m.1.12,m.1.13,m.1.14,(3:Int),m.3,m.4,m.6.1,(0:Int),m.7.1,m.7.2,m.7.3,m.5++r11,()) =(bd m e,(ab m e).1.1,(ab m e).1.2,(ab m e).1.3,(ab m e).1.4,(ab m e).1.5,(ab m e).1.6,(ab m e).1.7,(ab m e).1.8,(ab m e).1.9,(ab m e).1.10,(ab m e).1.11,(ab m e).1.12,(ab m e).1.13,(ab m e).1.14,(ab m e).2,(ab m e).3,(ab m e).4,(ab m e).6.1,(ab m e).6.2.1,(ab m e).7.1,(ab m e).7.2,(ab m e).7.3,(ab m e).5,()))∧(r6=false→False∧True)))))∧(r6=false→False∧True))))
 intro r1 r2 r3 r4 r5 r6 r7 r8 r9 r10 r11 r12 r13
 clear_value (hr1:r1=_) (hr2:r2=_) (hr3:r3=_) (hr4:r4=_) (hr5:r5=_) (hr6:r6=_) (hr7:r7=_) (hr8:r8=_) (hr9:r9=_) (hr10:r10=_) (hr11:r11=_) (hr12:r12=_) (hr13:r13=_)
 have hx:=hm.2.1
 refine ⟨fun h=>?_,fun h=>?_⟩
 ·have hL:bd m e=1:=by unfold bd;rw [h];rfl
  have hY:ab m e=m:=by unfold ab;rw [hL];rfl
  rw [hL,hY]
 ·have h2:m.Stage=2:=by simpa using h
  rcases Hn hv h2 with hS|hS
  ·have hS:da m (m.Innings.length:Int)=1:=hS
   have e5:r5=true:=by rw [hr5,hr1,hS];rfl
   have hX:r2=ny m:=by rw [hr2];unfold ny nb bL;rw [hS];rfl
   have e8:r8 =(nw m != 0):=by rw [hr8];unfold nw nb bL;rw [hS];rfl
   have hI:ah r2:=by rw [hr2];exact nz _ _ _ _
   have hA :(m.Innings.length+r10.length)*304≤70368744177664:=by rw [hr10];simp only [List.length_singleton];omega
   have hq :(0≤(0:Int)∧(0:Int) <((2:Nat):Int)):=by decide
   have c1:r8=true→bd m e=1∧ab m e=m:=fun a=>by
    have hL:bd m e=1:=by unfold bd;rw [h,←e8,a];rfl
    exact ⟨hL,by unfold ab;rw [hL];rfl⟩
   have c2:r8=false→r12=true→bd m e=r4∧ab m e=m:=fun a b=>by
    have hL:bd m e=r4:=by unfold bd;rw [h,←e8,a,hr4,hX];rfl
    exact ⟨hL,by unfold ab;rw [hL,←hr12,b];rfl⟩
   have c3:r8=false→r12=false→bd m e=0∧ab m e=lY m e:=fun a b=>by
    have hL:bd m e=r4:=by unfold bd;rw [h,←e8,a,hr4,hX];rfl
    have hL0:bd m e=0:=by rw [hL];rw [hr12] at b;simpa using b
    exact ⟨hL0,by unfold ab;rw [hL0];rfl⟩
   subst e5
   refine ⟨fun _=>⟨hq,fun a=>?_,fun a=>⟨hI,fun b=>?_,fun b=>⟨fun _=>⟨hq,hA,?_⟩,fun z=>Bool.noConfusion z⟩⟩⟩,fun z=>Bool.noConfusion z⟩
   ·rw [(c1 a).1,(c1 a).2]
   ·rw [(c2 a b).1,(c2 a b).2]
   ·rw [(c3 a b).1,(c3 a b).2];unfold lY zk bL;rw [hS,hr10,hX];rfl
  ·have hS:da m (m.Innings.length:Int)=2:=hS
   have e5:r5=false:=by rw [hr5,hr1,hS];rfl
   have e6:r6=true:=by rw [hr6,hr1,hS];rfl
   have hX:r3=ny m:=by rw [hr3];unfold ny nb bL;rw [hS];rfl
   have e8:r9 =(nw m != 0):=by rw [hr9];unfold nw nb bL;rw [hS];rfl
   have hI:ah r3:=by rw [hr3];exact nz _ _ _ _
   have hA :(m.Innings.length+r11.length)*304≤70368744177664:=by rw [hr11];simp only [List.length_singleton];omega
   have hq :(0≤(1:Int)∧(1:Int) <((2:Nat):Int)):=by decide
   have c1:r9=true→bd m e=1∧ab m e=m:=fun a=>by
    have hL:bd m e=1:=by unfold bd;rw [h,←e8,a];rfl
    exact ⟨hL,by unfold ab;rw [hL];rfl⟩
   have c2:r9=false→r13=true→bd m e=r7∧ab m e=m:=fun a b=>by
    have hL:bd m e=r7:=by unfold bd;rw [h,←e8,a,hr7,hX];rfl
    exact ⟨hL,by unfold ab;rw [hL,←hr13,b];rfl⟩
   have c3:r9=false→r13=false→bd m e=0∧ab m e=lY m e:=fun a b=>by
    have hL:bd m e=r7:=by unfold bd;rw [h,←e8,a,hr7,hX];rfl
    have hL0:bd m e=0:=by rw [hL];rw [hr13] at b;simpa using b
    exact ⟨hL0,by unfold ab;rw [hL0];rfl⟩
   subst e5 e6
   refine ⟨fun z=>Bool.noConfusion z,fun _=>⟨fun _=>⟨hq,fun a=>?_,fun a=>⟨hI,fun b=>?_,fun b=>⟨fun z=>Bool.noConfusion z,fun _=>⟨fun _=>⟨hq,hA,?_⟩,fun z=>Bool.noConfusion z⟩⟩⟩⟩,fun z=>Bool.noConfusion z⟩⟩
   ·rw [(c1 a).1,(c1 a).2]
   ·rw [(c2 a b).1,(c2 a b).2]
   ·rw [(c3 a b).1,(c3 a b).2];unfold lY zk bL;rw [hS,hr11,hX];rfl
def Ih:FuncId×Ctr:=(280,af KE qPE A9 DE)
theorem Lq:CtrOK Tryz.prog KE 280 (af KE qPE A9 DE):=by
 refine aw (C:=ao [xw,An,EI,xt] Tryz.f280) (al (.consU AH rfl (.consU Gf rfl (.consU IP rfl (.consU E6 rfl .nil)))) _) mixed (fn:=Tryz.f280) Tryz.func280 (by kernel_rfl) (by kernel_rfl) (by kernel_rfl) (by kernel_rfl) (by kernel_rfl) (by kernel_rfl) (Λ:=fun _ _=>none) ?_ ?_
 ·exact fun _ _ _ _ _ _ _ _ h=>by cases h
 ·rintro ⟨e,v1,v2,v3,v4,v5,v6,v7,v8,v9,v10,v11,v12,v13,v14,v15,v16,v17,v18,v19,v20,v21,v22,xs,⟨⟩⟩ hw hn
  exact JF (mkM v1 v2 v3 v4 v5 v6 v7 v8 v9 v10 v11 v12 v13 v14 v15 v16 v17 v18 v19 v20 v21 v22 xs) e (hn _ List.mem_cons_self) (hn _ (List.mem_cons_of_mem _ List.mem_cons_self))
theorem JG (m:Match) (e:Mir.Event) (hm:aQ m) (hv:aW m=true) (he:bB e=0) :(evPat (ao [xt,EM] Tryz.f282) (fun _=>none) Tryz.f282 qPE qPL (e,m.Rules.Name,m.Rules.Side,m.Rules.Innings,m.Rules.Overs,m.Rules.Balls,m.Rules.Quota,m.Rules.Wide,m.Rules.NoBall,m.Rules.FreeHit,m.Rules.NewBall,m.Rules.FollowOn,m.Rules.Reviews,m.Rules.Outside,m.Rules.Power,m.Stage,m.First,m.Follow,m.Penalty.1,m.Penalty.2.1,m.Result.Win,m.Result.Side,m.Result.Margin,m.Innings,())).sat fun z_=>z_ =(DJ (e,m.Rules.Name,m.Rules.Side,m.Rules.Innings,m.Rules.Overs,m.Rules.Balls,m.Rules.Quota,m.Rules.Wide,m.Rules.NoBall,m.Rules.FreeHit,m.Rules.NewBall,m.Rules.FollowOn,m.Rules.Reviews,m.Rules.Outside,m.Rules.Power,m.Stage,m.First,m.Follow,m.Penalty.1,m.Penalty.2.1,m.Result.Win,m.Result.Side,m.Result.Margin,m.Innings,())).2:=by
 refine cast (by kernel_rfl) (?_:let r1:Int:=IntKind.i64.wrap ((↑m.5.length:Int) - (1:Int));let r2:Innings:=m.5.getD r1.toNat (dflt (Ty.nm Nm.Innings));let r3:Int:=cC m.1 r2 e;let r4:Innings:=cD m.1 r2 e;let r5:Bool:=r3 !=(0:Int);let r6:Bool:=bif e.1 ==(13:Int) then e.2 != r4.1 else false;let r7:List Innings:=m.5.set r1.toNat r4;let r8:Match:=Match.mk m.1 m.2 m.3 m.4 r7 m.6 m.7;let r9:Match:=aq r8 e.2;((m.2 !=(3:Int))=true→((1:Int),m.1.1,m.1.2,m.1.3,m.1.4,m.1.5,m.1.6,m.1.7,m.1.8,m.1.9,m.1.10,m.1.11,m.1.12,m.1.13,m.1.14,m.2,m.3,m.4,m.6.1,m.6.2.1,m.7.1,m.7.2,m.7.3,m.5,()) =(cJ m e,(aj m e).1.1,(aj m e).1.2,(aj m e).1.3,(aj m e).1.4,(aj m e).1.5,(aj m e).1.6,(aj m e).1.7,(aj m e).1.8,(aj m e).1.9,(aj m e).1.10,(aj m e).1.11,(aj m e).1.12,(aj m e).1.13,(aj m e).1.14,(aj m e).2,(aj m e).3,(aj m e).4,(aj m e).6.1,(aj m e).6.2.1,(aj m e).7.1,(aj m e).7.2,(aj m e).7.3,(aj m e).5,()))∧((m.2 !=(3:Int))=false→((0:Int)≤r1∧r1 <(↑m.5.length:Int))∧ah r2∧(r5=true→(r3,m.1.1,m.1.2,m.1.3,m.1.4,m.1.5,m.1.6,m.1.7,m.1.8,m.1.9,m.1.10,m.1.11,m.1.12,m.1.13,m.1.14,m.2,m.3,m.4,m.6.1,m.6.2.1,m.7.1,m.7.2,m.7.3,m.5,()) =(cJ m e,(aj m e).1.1,(aj m e).1.2,(aj m e).1.3,(aj m e).1.4,(aj m e).1.5,(aj m e).1.6,(aj m e).1.7,(aj m e).1.8,(aj m e).1.9,(aj m e).1.10,(aj m e).1.11,(aj m e).1.12,(aj m e).1.13,(aj m e).1.14,(aj m e).2,(aj m e).3,(aj m e).4,(aj m e).6.1,(aj m e).6.2.1,(aj m e).7.1,(aj m e).7.2,(aj m e).7.3,(aj m e).5,()))∧(r5=false→((0:Int)≤r1∧r1 <(↑m.5.length:Int))∧((r6=true→aQ r8∧jE e.2∧True)∧(r6=false→True))∧(true=true→((0:Int),bif r6 then r9.1.1 else m.1.1,bif r6 then r9.1.2 else m.1.2,bif r6 then r9.1.3 else m.1.3,bif r6 then r9.1.4 else m.1.4,bif r6 then r9.1.5 else m.1.5,bif r6 then r9.1.6 else m.1.6,bif r6 then r9.1.7 else m.1.7,bif r6 then r9.1.8 else m.1.8,bif r6 then r9.1.9 else m.1.9,bif r6 then r9.1.10 else m.1.10,bif r6 then r9.1.11 else m.1.11,bif r6 then r9.1.12 else m.1.12,bif r6 then r9.1.13 else m.1.13,bif r6 then r9.1.14 else m.1.14,bif r6 then r9.2 else m.2,bif r6 then r9.3 else m.3,bif r6 then r9.4 else m.4,bif r6 then r9.6.1 else m.6.1,bif r6 then r9.6.2.1 else m.6.2.1,bif r6 then r9.7.1 else m.7.1,bif r6 then r9.7.2 else m.7.2,bif r6 then r9.7.3 else m.7.3,bif r6 then r9.5 else r7,()) =(cJ m e,(aj m e).1.1,(aj m e).1.2,(aj m e).1.3,(aj m e).1.4,(aj m e).1.5,(aj m e).1.6,(aj m e).1.7,(aj m e).1.8,(aj m e).1.9,(aj m e).1.10,(aj m e).1.11,(aj m e).1.12,(aj m e).1.13,(aj m e).1.14,(aj m e).2,(aj m e).3,(aj m e).4,(aj m e).6.1,(aj m e).6.2.1,(aj m e).7.1,(aj m e).7.2,(aj m e).7.3,(aj m e).5,())))))
 intro r1 r2 r3 r4 r5 r6 r7 r8 r9
 clear_value (hr1:r1=_) (hr2:r2=_) (hr3:r3=_) (hr4:r4=_) (hr5:r5=_) (hr6:r6=_) (hr7:r7=_) (hr8:r8=_) (hr9:r9=_)
 have hx:=hm.2.1
 refine ⟨fun h=>?_,fun h=>?_⟩
 ·have hL:cJ m e=1:=by unfold cJ;rw [h];rfl
  have hY:aj m e=m:=by unfold aj;rw [hL];rfl
  rw [hL,hY]
 ·have h3:m.Stage=3:=by simpa using h
  have h0:=gg hv h3
  have e0:r1 =(m.Innings.length:Int) - 1:=by rw [hr1];exact bb (by omega) (by omega)
  have e1:r1.toNat=m.Innings.length - 1:=by omega
  have e2:r2=bj m:=by rw [hr2,e1];rfl
  have hL:cJ m e=r3:=by unfold cJ;rw [h,hr3,e2];rfl
  have e8:r8=gM m e:=by rw [hr8,hr7,hr4,e1,e2];rfl
  have e6:r6=pe m e:=by rw [hr6,hr4,e2];unfold pe;cases e.Kind==13 <;> rfl
  have hb:0≤r1∧r1 <(m.Innings.length:Int):=⟨by omega,by omega⟩
  refine ⟨hb,by rw [e2];exact kg hm.1,fun a=>?_,fun a=>⟨hb,⟨fun b=>⟨?_,?_,trivial⟩,fun _=>trivial⟩,fun _=>?_⟩⟩
  ·have hY:aj m e=m:=by unfold aj;rw [hL,←hr5,a];rfl
   rw [hL,hY]
  ·rw [e8]
   refine ⟨wv hm.1 _ (mf _ (kg hm.1)),?_,hm.2.2⟩
   show (m.Innings.set _ _).length≤_
   rw [List.length_set];exact hx
  ·refine HB he ?_
   rw [hr6] at b
   cases hk:e.Kind==13 with
   | false=>rw [hk] at b;cases b
   | true=>rw [eq_of_beq hk];rfl
  ·have hL0:cJ m e=0:=by rw [hL];rw [hr5] at a;simpa using a
   have hY:aj m e=if r6 then aq r8 e.Side else r8:=by unfold aj;rw [hL0,e6,e8];rfl
   rw [hL0,hY,hr9]
   cases r6 with
   | true=>rfl
   | false=>rw [hr8];rfl
def Ii:FuncId×Ctr:=(282,af KE qPE qPL DJ)
theorem Lr:CtrOK Tryz.prog KE 282 (af KE qPE qPL DJ):=by
 refine aw (C:=ao [xt,EM] Tryz.f282) (al (.consU E6 rfl (.consU IU rfl .nil)) _) mixed (fn:=Tryz.f282) Tryz.func282 (by kernel_rfl) (by kernel_rfl) (by kernel_rfl) (by kernel_rfl) (by kernel_rfl) (by kernel_rfl) (Λ:=fun _ _=>none) ?_ ?_
 ·exact fun _ _ _ _ _ _ _ _ h=>by cases h
 ·rintro ⟨e,v1,v2,v3,v4,v5,v6,v7,v8,v9,v10,v11,v12,v13,v14,v15,v16,v17,v18,v19,v20,v21,v22,xs,⟨⟩⟩ hw hn
  exact JG (mkM v1 v2 v3 v4 v5 v6 v7 v8 v9 v10 v11 v12 v13 v14 v15 v16 v17 v18 v19 v20 v21 v22 xs) e (hn _ List.mem_cons_self) (hn _ (List.mem_cons_of_mem _ List.mem_cons_self)) (hn _ (List.mem_cons_of_mem _ (List.mem_cons_of_mem _ List.mem_cons_self)))
theorem Bw (m:Match) (e:Mir.Event) (hm:aQ m) (hv:aW m=true) (he:bB e=0) :(evPat (ao [gq,Ih,Ik,Ii] Tryz.f236) (fun _=>none) Tryz.f236 qPE A9 (e,m.Rules.Name,m.Rules.Side,m.Rules.Innings,m.Rules.Overs,m.Rules.Balls,m.Rules.Quota,m.Rules.Wide,m.Rules.NoBall,m.Rules.FreeHit,m.Rules.NewBall,m.Rules.FollowOn,m.Rules.Reviews,m.Rules.Outside,m.Rules.Power,m.Stage,m.First,m.Follow,m.Penalty.1,m.Penalty.2.1,m.Result.Win,m.Result.Side,m.Result.Margin,m.Innings,())).sat fun z_=>z_ =(DH (e,m.Rules.Name,m.Rules.Side,m.Rules.Innings,m.Rules.Overs,m.Rules.Balls,m.Rules.Quota,m.Rules.Wide,m.Rules.NoBall,m.Rules.FreeHit,m.Rules.NewBall,m.Rules.FollowOn,m.Rules.Reviews,m.Rules.Outside,m.Rules.Power,m.Stage,m.First,m.Follow,m.Penalty.1,m.Penalty.2.1,m.Result.Win,m.Result.Side,m.Result.Margin,m.Innings,())).2:=by
 refine cast (by kernel_rfl) (?_ :(((e.1 ==(1:Int))=true→((m.2 !=(1:Int))=true→((1:Int),m.1.1,m.1.2,m.1.3,m.1.4,m.1.5,m.1.6,m.1.7,m.1.8,m.1.9,m.1.10,m.1.11,m.1.12,m.1.13,m.1.14,m.2,m.3,m.4,m.6.1,m.6.2.1,m.7.1,m.7.2,m.7.3,m.5,()) =(bm m e,(ag m e).1.1,(ag m e).1.2,(ag m e).1.3,(ag m e).1.4,(ag m e).1.5,(ag m e).1.6,(ag m e).1.7,(ag m e).1.8,(ag m e).1.9,(ag m e).1.10,(ag m e).1.11,(ag m e).1.12,(ag m e).1.13,(ag m e).1.14,(ag m e).2,(ag m e).3,(ag m e).4,(ag m e).6.1,(ag m e).6.2.1,(ag m e).7.1,(ag m e).7.2,(ag m e).7.3,(ag m e).5,()))∧((m.2 !=(1:Int))=false→True))∧((e.1 ==(1:Int))=false→((e.1 ==(2:Int))=true→aQ m∧aW m=true∧(bd m e,(ab m e).1.1,(ab m e).1.2,(ab m e).1.3,(ab m e).1.4,(ab m e).1.5,(ab m e).1.6,(ab m e).1.7,(ab m e).1.8,(ab m e).1.9,(ab m e).1.10,(ab m e).1.11,(ab m e).1.12,(ab m e).1.13,(ab m e).1.14,(ab m e).2,(ab m e).3,(ab m e).4,(ab m e).6.1,(ab m e).6.2.1,(ab m e).7.1,(ab m e).7.2,(ab m e).7.3,(ab m e).5,()) =(bm m e,(ag m e).1.1,(ag m e).1.2,(ag m e).1.3,(ag m e).1.4,(ag m e).1.5,(ag m e).1.6,(ag m e).1.7,(ag m e).1.8,(ag m e).1.9,(ag m e).1.10,(ag m e).1.11,(ag m e).1.12,(ag m e).1.13,(ag m e).1.14,(ag m e).2,(ag m e).3,(ag m e).4,(ag m e).6.1,(ag m e).6.2.1,(ag m e).7.1,(ag m e).7.2,(ag m e).7.3,(ag m e).5,()))∧((e.1 ==(2:Int))=false→((e.1 ==(12:Int))=true→((m.2 !=(4:Int))=true→((1:Int),m.1.1,m.1.2,m.1.3,m.1.4,m.1.5,m.1.6,m.1.7,m.1.8,m.1.9,m.1.10,m.1.11,m.1.12,m.1.13,m.1.14,m.2,m.3,m.4,m.6.1,m.6.2.1,m.7.1,m.7.2,m.7.3,m.5,()) =(bm m e,(ag m e).1.1,(ag m e).1.2,(ag m e).1.3,(ag m e).1.4,(ag m e).1.5,(ag m e).1.6,(ag m e).1.7,(ag m e).1.8,(ag m e).1.9,(ag m e).1.10,(ag m e).1.11,(ag m e).1.12,(ag m e).1.13,(ag m e).1.14,(ag m e).2,(ag m e).3,(ag m e).4,(ag m e).6.1,(ag m e).6.2.1,(ag m e).7.1,(ag m e).7.2,(ag m e).7.3,(ag m e).5,()))∧((m.2 !=(4:Int))=false→((e.2 != m.3)=true→((2:Int),m.1.1,m.1.2,m.1.3,m.1.4,m.1.5,m.1.6,m.1.7,m.1.8,m.1.9,m.1.10,m.1.11,m.1.12,m.1.13,m.1.14,m.2,m.3,m.4,m.6.1,m.6.2.1,m.7.1,m.7.2,m.7.3,m.5,()) =(bm m e,(ag m e).1.1,(ag m e).1.2,(ag m e).1.3,(ag m e).1.4,(ag m e).1.5,(ag m e).1.6,(ag m e).1.7,(ag m e).1.8,(ag m e).1.9,(ag m e).1.10,(ag m e).1.11,(ag m e).1.12,(ag m e).1.13,(ag m e).1.14,(ag m e).2,(ag m e).3,(ag m e).4,(ag m e).6.1,(ag m e).6.2.1,(ag m e).7.1,(ag m e).7.2,(ag m e).7.3,(ag m e).5,()))∧((e.2 != m.3)=false→True)))∧((e.1 ==(12:Int))=false→((e.1 ==(16:Int))=true→aQ m∧jh m∧True)∧((e.1 ==(16:Int))=false→aQ m∧aW m=true∧bB e =(0:Int)∧(cJ m e,(aj m e).1.1,(aj m e).1.2,(aj m e).1.3,(aj m e).1.4,(aj m e).1.5,(aj m e).1.6,(aj m e).1.7,(aj m e).1.8,(aj m e).1.9,(aj m e).1.10,(aj m e).1.11,(aj m e).1.12,(aj m e).1.13,(aj m e).1.14,(aj m e).2,(aj m e).3,(aj m e).4,(aj m e).6.1,(aj m e).6.2.1,(aj m e).7.1,(aj m e).7.2,(aj m e).7.3,(aj m e).5,()) =(bm m e,(ag m e).1.1,(ag m e).1.2,(ag m e).1.3,(ag m e).1.4,(ag m e).1.5,(ag m e).1.6,(ag m e).1.7,(ag m e).1.8,(ag m e).1.9,(ag m e).1.10,(ag m e).1.11,(ag m e).1.12,(ag m e).1.13,(ag m e).1.14,(ag m e).2,(ag m e).3,(ag m e).4,(ag m e).6.1,(ag m e).6.2.1,(ag m e).7.1,(ag m e).7.2,(ag m e).7.3,(ag m e).5,()))))))∧((bif e.1 ==(1:Int) then !m.2 !=(1:Int) else bif e.1 ==(2:Int) then false else bif e.1 ==(12:Int) then bif m.2 !=(4:Int) then false else !e.2 != m.3 else e.1 ==(16:Int))=true→((0:Int),bif e.1 ==(1:Int) then bif e.5 then m.1.1 else m.1.1 else bif e.1 ==(12:Int) then m.1.1 else (bq m).1.1,bif e.1 ==(1:Int) then bif e.5 then m.1.2 else m.1.2 else bif e.1 ==(12:Int) then m.1.2 else (bq m).1.2,bif e.1 ==(1:Int) then bif e.5 then m.1.3 else m.1.3 else bif e.1 ==(12:Int) then m.1.3 else (bq m).1.3,bif e.1 ==(1:Int) then bif e.5 then m.1.4 else m.1.4 else bif e.1 ==(12:Int) then m.1.4 else (bq m).1.4,bif e.1 ==(1:Int) then bif e.5 then m.1.5 else m.1.5 else bif e.1 ==(12:Int) then m.1.5 else (bq m).1.5,bif e.1 ==(1:Int) then bif e.5 then m.1.6 else m.1.6 else bif e.1 ==(12:Int) then m.1.6 else (bq m).1.6,bif e.1 ==(1:Int) then bif e.5 then m.1.7 else m.1.7 else bif e.1 ==(12:Int) then m.1.7 else (bq m).1.7,bif e.1 ==(1:Int) then bif e.5 then m.1.8 else m.1.8 else bif e.1 ==(12:Int) then m.1.8 else (bq m).1.8,bif e.1 ==(1:Int) then bif e.5 then m.1.9 else m.1.9 else bif e.1 ==(12:Int) then m.1.9 else (bq m).1.9,bif e.1 ==(1:Int) then bif e.5 then m.1.10 else m.1.10 else bif e.1 ==(12:Int) then m.1.10 else (bq m).1.10,bif e.1 ==(1:Int) then bif e.5 then m.1.11 else m.1.11 else bif e.1 ==(12:Int) then m.1.11 else (bq m).1.11,bif e.1 ==(1:Int) then bif e.5 then m.1.12 else m.1.12 else bif e.1 ==(12:Int) then m.1.12 else (bq m).1.12,bif e.1 ==(1:Int) then bif e.5 then m.1.13 else m.1.13 else bif e.1 ==(12:Int) then m.1.13 else (bq m).1.13,bif e.1 ==(1:Int) then bif e.5 then m.1.14 else m.1.14 else bif e.1 ==(12:Int) then m.1.14 else (bq m).1.14,bif e.1 ==(1:Int) then (2:Int) else bif e.1 ==(12:Int) then (2:Int) else (5:Int),bif e.1 ==(1:Int) then bif e.5 then e.2 else dP e.2 else bif e.1 ==(12:Int) then m.3 else (bq m).3,bif e.1 ==(1:Int) then bif e.5 then m.4 else m.4 else bif e.1 ==(12:Int) then e.5 else (bq m).4,bif e.1 ==(1:Int) then bif e.5 then m.6.1 else m.6.1 else bif e.1 ==(12:Int) then m.6.1 else (bq m).6.1,bif e.1 ==(1:Int) then bif e.5 then m.6.2.1 else m.6.2.1 else bif e.1 ==(12:Int) then m.6.2.1 else (bq m).6.2.1,bif e.1 ==(1:Int) then bif e.5 then m.7.1 else m.7.1 else bif e.1 ==(12:Int) then m.7.1 else dR m.1,bif e.1 ==(1:Int) then bif e.5 then m.7.2 else m.7.2 else bif e.1 ==(12:Int) then m.7.2 else (0:Int),bif e.1 ==(1:Int) then bif e.5 then m.7.3 else m.7.3 else bif e.1 ==(12:Int) then m.7.3 else (0:Int),bif e.1 ==(1:Int) then m.5 else bif e.1 ==(12:Int) then m.5 else (bq m).5,()) =(bm m e,(ag m e).1.1,(ag m e).1.2,(ag m e).1.3,(ag m e).1.4,(ag m e).1.5,(ag m e).1.6,(ag m e).1.7,(ag m e).1.8,(ag m e).1.9,(ag m e).1.10,(ag m e).1.11,(ag m e).1.12,(ag m e).1.13,(ag m e).1.14,(ag m e).2,(ag m e).3,(ag m e).4,(ag m e).6.1,(ag m e).6.2.1,(ag m e).7.1,(ag m e).7.2,(ag m e).7.3,(ag m e).5,())))
 simp only [Bool.cond_self] at *
 have ho:jh m:=fun h=>gg hv h
 refine ⟨⟨fun k1=>⟨fun a=>?_,fun _=>trivial⟩,fun n1=>⟨fun k2=>⟨hm,hv,?_⟩,fun n2=>⟨fun k12=>⟨fun a=>?_,fun a=>⟨fun b=>?_,fun _=>trivial⟩⟩,fun n12=>⟨fun k16=>⟨hm,ho,trivial⟩,fun n16=>⟨hm,hv,he,?_⟩⟩⟩⟩⟩,fun g=>?_⟩
 ·have hL:bm m e=1:=by unfold bm;rw [k1,a];rfl
  have hY:ag m e=m:=by unfold ag;rw [hL];rfl
  rw [hL,hY]
 ·have hL:bm m e=bd m e:=by unfold bm;rw [n1,k2];rfl
  have hY:ag m e=ab m e:=by
   unfold ag fY;rw [hL,n1,k2]
   cases h:bd m e != 0 with
   | true=>rw [IY h];rfl
   | false=>rfl
  rw [hL,hY]
 ·have hL:bm m e=1:=by unfold bm;rw [n1,n2,k12,a];rfl
  have hY:ag m e=m:=by unfold ag;rw [hL];rfl
  rw [hL,hY]
 ·have hL:bm m e=2:=by unfold bm;rw [n1,n2,k12,a,b];rfl
  have hY:ag m e=m:=by unfold ag;rw [hL];rfl
  rw [hL,hY]
 ·have hL:bm m e=cJ m e:=by unfold bm;rw [n1,n2,n12,n16];rfl
  have hY:ag m e=aj m e:=by
   unfold ag fY;rw [hL,n1,n2,n12,n16]
   cases h:cJ m e != 0 with
   | true=>rw [I8 h];rfl
   | false=>rfl
  rw [hL,hY]
 ·cases k1:e.Kind==1 with
  | true=>
   rw [k1] at g
   simp only [cond_true,Bool.not_eq_true'] at g
   have hL:bm m e=0:=by unfold bm;rw [k1,g];rfl
   have hY:ag m e=Kk m e:=by unfold ag fY;rw [hL,k1];rfl
   rw [hL,hY];unfold Kk;cases e.Yes <;> rfl
  | false=>
   rw [k1] at g
   cases k2:e.Kind==2 with
   | true=>rw [k2] at g;cases g
   | false=>
    rw [k2] at g
    cases k12:e.Kind==12 with
    | true=>
     rw [k12] at g
     simp only [cond_true,cond_false] at g
     cases a:m.Stage != 4 with
     | true=>rw [a] at g;cases g
     | false=>
      rw [a] at g
      simp only [cond_false,Bool.not_eq_true'] at g
      have hL:bm m e=0:=by unfold bm;rw [k1,k2,k12,a,g];rfl
      have hY:ag m e=Eo m e:=by unfold ag fY;rw [hL,k1,k2,k12];rfl
      rw [hL,hY];rfl
    | false=>
     rw [k12] at g
     have hL:bm m e=0:=by
      have g :(e.Kind==16)=true:=g
      unfold bm;rw [k1,k2,k12,g];rfl
     have hY:ag m e=dq m:=by
      have g :(e.Kind==16)=true:=g
      unfold ag fY;rw [hL,k1,k2,k12,g];rfl
     rw [hL,hY];rfl
def vB:FuncId×Ctr:=(236,af KE qPE A9 DH)
theorem CL:CtrOK Tryz.prog KE 236 (af KE qPE A9 DH):=by
 refine aw (C:=ao [gq,Ih,Ik,Ii] Tryz.f236) (al (.consU lW rfl (.consU Lq rfl (.consU Lt rfl (.consU Lr rfl .nil)))) _) mixed (fn:=Tryz.f236) Tryz.func236 (by kernel_rfl) (by kernel_rfl) (by kernel_rfl) (by kernel_rfl) (by kernel_rfl) (by kernel_rfl) (Λ:=fun _ _=>none) ?_ ?_
 ·exact fun _ _ _ _ _ _ _ _ h=>by cases h
 ·rintro ⟨e,v1,v2,v3,v4,v5,v6,v7,v8,v9,v10,v11,v12,v13,v14,v15,v16,v17,v18,v19,v20,v21,v22,xs,⟨⟩⟩ hw hn
  exact Bw (mkM v1 v2 v3 v4 v5 v6 v7 v8 v9 v10 v11 v12 v13 v14 v15 v16 v17 v18 v19 v20 v21 v22 xs) e (hn _ List.mem_cons_self) (hn _ (List.mem_cons_of_mem _ List.mem_cons_self)) (hn _ (List.mem_cons_of_mem _ (List.mem_cons_of_mem _ List.mem_cons_self)))
end Go.Proofs.YtffdpnmioidloaaGreatDoor
namespace Go.Proofs.YtffdpnmioidloaaGreatDoor
open Go Go.Mir
attribute [local irreducible] Go.Mir.DT.sat Go.Mir.evPat Go.Mir.RT.sat Go.Mir.evFn
abbrev qME:Pat:=bZ [.nm .Match,.nm .Event]
def DQ:Den (tyP qME)→List Prop×Den (tyP qK):=fun x=>([aQ x.1],(bt x.1 x.2.1,cp x.1 x.2.1,()))
theorem Ck {l:List Innings} (h:gb l) (k:Nat):ah (l.getD k Innings.zero):=by
 by_cases hl:k<l.length
 ·exact h _ (jK hl _)
 ·rw [List.getD_eq_getElem?_getD,List.getElem?_eq_none (by omega)];simp [ah,Innings.zero]
theorem nY {m:Match} (h:aQ m) (k:Nat) {x:Innings} (hx:ah x):aQ (tP m k x):=
 ⟨wv h.1 k hx,by show (m.Innings.set k x).length≤_;rw [List.length_set];exact h.2.1,h.2.2⟩
theorem wH {m:Match} (h:aQ m) (s:Int):aQ (aq m s):=by
 unfold aq
 cases gz s m.Innings m.Innings.length with
 | some k=>exact nY h k (D1 (Ck h.1 k))
 | none=>exact h
theorem FB (m:Match) (s:Int) :(aq m s).Innings.length=m.Innings.length:=by
 unfold aq
 cases gz s m.Innings m.Innings.length with
 | some k=>exact List.length_set
 | none=>rfl
theorem zq (m:Match) (s:Int) :(aq m s).Stage=m.Stage:=by
 unfold aq
 cases gz s m.Innings m.Innings.length <;> rfl
theorem A0 {m:Match} (e:Mir.Event) (h:aQ m):aQ (aj m e):=by
 have h1:aQ (gM m e):=nY h _ (mf e (kg h.1))
 unfold aj
 split
 ·exact h
 ·split
  ·exact wH h1 _
  ·exact h1
theorem AZ (m:Match) (e:Mir.Event) :(aj m e).Innings.length=m.Innings.length:=by
 have h1 :(gM m e).Innings.length=m.Innings.length:=List.length_set
 unfold aj
 split
 ·rfl
 ·split
  ·rw [FB,h1]
  ·exact h1
theorem CZ (m:Match) (e:Mir.Event) :(aj m e).Stage=m.Stage:=by
 unfold aj
 split
 ·rfl
 ·split
  ·rw [zq];rfl
  ·rfl
theorem qp {m:Match} (e:Mir.Event) (h:aQ m) (hv:aW m=true):aQ (ag m e):=by
 unfold ag
 split
 ·exact h
 ·unfold fY
  split
  ·exact h
  ·split
   ·unfold ab
    split
    ·exact h
    ·refine ⟨GY h.1 (mf e (nz _ _ _ _)),?_,h.2.2⟩
     show (m.Innings++[_]).length≤_
     have:=(pT hv).2
     rw [List.length_append,List.length_singleton];omega
   ·split
    ·exact h
    ·split
     ·have h2:aQ (bq m):=by
       unfold bq
       split
       ·exact nY h _ (show ah { bj m with Ending:=5 } from kg h.1)
       ·exact h
      exact h2
     ·exact A0 e h
theorem xR {m:Match} (e:Mir.Event) (hv:aW m=true):jh (ag m e):=by
 unfold ag
 split
 ·exact fun h=>gg hv h
 ·unfold fY
  split
  ·exact fun h=>absurd (show (2:Int)=3 from h) (by decide)
  ·split
   ·unfold ab
    split
    ·exact fun h=>gg hv h
    ·intro _
     show 0 <(m.Innings++[_]).length
     rw [List.length_append,List.length_singleton];omega
   ·split
    ·exact fun h=>absurd (show (2:Int)=3 from h) (by decide)
    ·split
     ·exact fun h=>absurd (show (5:Int)=3 from h) (by decide)
     ·intro h
      rw [CZ] at h
      rw [AZ]
      exact gg hv h
theorem kf (m:Match) :(ak m).Innings=m.Innings:=by
 unfold ak
 split
 ·rfl
 ·split
  ·rfl
  ·split <;> rfl
theorem p8 (m:Match) :(ak m).Rules=m.Rules:=by
 unfold ak
 split
 ·rfl
 ·split
  ·rfl
  ·split <;> rfl
theorem wN {m:Match} (h:aQ m):aQ (ak m):=by
 unfold aQ jF
 rw [kf,p8]
 exact h
theorem gd {m:Match} {e:Mir.Event} (h:cp m e=0):aW m=true∧bB e=0∧bm m e=0:=by
 unfold cp at h
 split at h
 ·cases h
 ·rename_i h1
  simp only [Bool.or_eq_true,Bool.not_eq_true',bne_iff_ne,ne_eq,not_or,Bool.not_eq_false,Decidable.not_not] at h1
  split at h
  ·cases h
  ·exact ⟨h1.1,h1.2,h⟩
theorem BH {m:Match} (e:Mir.Event) (h:aQ m):aQ (bt m e):=by
 unfold bt
 split
 ·exact h
 ·rename_i h1
  exact wN (qp e h (gd (by simpa using h1)).1)
theorem ub {m:Match} {e:Mir.Event} (h :(cp m e != 0)=true):bt m e=m:=by simp only [bt,h,if_true]
theorem wx {m:Match} {e:Mir.Event} (h:cp m e=0) (hk:e.Kind=4):0<m.Innings.length∧(bt m e).Innings.length=m.Innings.length:=by
 obtain ⟨hv,he,hp⟩:=gd h
 have h1:bm m e=cJ m e:=by unfold bm;rw [hk];rfl
 have h3:m.Stage=3:=by
  rw [h1] at hp
  unfold cJ at hp
  cases h3:m.Stage != 3 with
  | true=>rw [h3] at hp;cases hp
  | false=>simpa using h3
 refine ⟨gg hv h3,?_⟩
 have h2:bt m e=ak (ag m e):=by unfold bt;rw [h];rfl
 have h4:ag m e=aj m e:=by unfold ag fY;rw [hp,hk];rfl
 rw [h2,kf,h4,AZ]
theorem JH (m:Match) (e:Mir.Event) (hm:aQ m) :(evPat (ao [EN,q8,qZ,vB,lN] Tryz.f186) (fun _=>none) Tryz.f186 qME qK (m,e,())).sat fun z_=>z_ =(DQ (m,e,())).2:=by
 refine cast (by kernel_rfl) (?_:let r1:Bool:=bif !aW m then true else bB e !=(0:Int);(jF m∧((!aW m)=true→True)∧((!aW m)=false→True))∧(true=true→(r1=true→aQ m∧(m,(1:Int),()) =(bt m e,cp m e,()))∧(r1=false→((m.2 ==(5:Int))=true→aQ m∧(m,(26:Int),()) =(bt m e,cp m e,()))∧((m.2 ==(5:Int))=false→aQ m∧aQ m∧aW m=true∧bB e =(0:Int)∧((bm m e !=(0:Int))=true→aQ m∧(m,bm m e,()) =(bt m e,cp m e,()))∧((bm m e !=(0:Int))=false→aQ (ag m e)∧jh (ag m e)∧(ak (ag m e),(0:Int),()) =(bt m e,cp m e,()))))))
 intro r1
 clear_value (hr1:r1=_)
 have e1:r1 =(!aW m||bB e != 0):=by rw [hr1];cases aW m <;> rfl
 have hq:r1=false→aW m=true∧bB e=0:=fun h=>by rw [e1] at h;simpa using h
 refine ⟨⟨hm.1,fun _=>trivial,fun _=>trivial⟩,fun _=>⟨fun a=>⟨hm,?_⟩,fun a=>⟨fun b=>⟨hm,?_⟩,fun b=>⟨hm,hm,(hq a).1,(hq a).2,fun c=>⟨hm,?_⟩,fun c=>⟨qp e hm (hq a).1,xR e (hq a).1,?_⟩⟩⟩⟩⟩
 ·have hL:cp m e=1:=by unfold cp;rw [←e1,a];rfl
  rw [ub (by rw [hL];rfl),hL]
 ·have hL:cp m e=26:=by unfold cp;rw [←e1,a,b];rfl
  rw [ub (by rw [hL];rfl),hL]
 ·have hL:cp m e=bm m e:=by unfold cp;rw [←e1,a,b];rfl
  rw [ub (by rw [hL];exact c),hL]
 ·have hL:cp m e=bm m e:=by unfold cp;rw [←e1,a,b];rfl
  have h0:bm m e=0:=by simpa using c
  have hY:bt m e=ak (ag m e):=by unfold bt;rw [hL,c];rfl
  rw [hY,hL,h0]
def Ij:FuncId×Ctr:=(186,af KE qME qK DQ)
theorem Ls:CtrOK Tryz.prog KE 186 (af KE qME qK DQ):=by
 refine aw (C:=ao [EN,q8,qZ,vB,lN] Tryz.f186) (al (.consU IV rfl (.consU AI rfl (.consU AE rfl (.consU CL rfl (.consU qz rfl .nil))))) _) mixed (fn:=Tryz.f186) Tryz.func186 (by kernel_rfl) (by kernel_rfl) (by kernel_rfl) (by kernel_rfl) (by kernel_rfl) (by kernel_rfl) (Λ:=fun _ _=>none) ?_ ?_
 ·exact fun _ _ _ _ _ _ _ _ h=>by cases h
 ·rintro ⟨m,e,⟨⟩⟩ hw hn
  exact JH m e (hn _ List.mem_cons_self)
end Go.Proofs.YtffdpnmioidloaaGreatDoor
namespace Go.Proofs.YtffdpnmioidloaaGreatDoor
open Go Go.Mir
attribute [local irreducible] Go.Mir.DT.sat Go.Mir.evPat Go.Mir.RT.sat Go.Mir.evFn
end Go.Proofs.YtffdpnmioidloaaGreatDoor
namespace Go.Proofs.YtffdpnmioidloaaGreatDoor
open Go Go.Mir
attribute [local irreducible] Go.Mir.DT.sat Go.Mir.evPat Go.Mir.RT.sat Go.Mir.evFn
end Go.Proofs.YtffdpnmioidloaaGreatDoor
namespace Go.Proofs.YtffdpnmioidloaaGreatDoor
open Go Go.Mir
attribute [local irreducible] Go.Mir.DT.sat Go.Mir.evPat Go.Mir.RT.sat Go.Mir.evFn
end Go.Proofs.YtffdpnmioidloaaGreatDoor
namespace Go.Proofs.YtffdpnmioidloaaGreatDoor
open Go Go.Mir
attribute [local irreducible] Go.Mir.DT.sat Go.Mir.evPat Go.Mir.RT.sat Go.Mir.evFn
abbrev Evs:Ty:= .slice (.nm .Event)
abbrev OW:Ty:= .slice (.nm .Delivered)
abbrev L9:Pat:=bZ [.nm .Match,I,.nm .Event]
abbrev LU:Pat:=bZ [I,.nm .Match,.nm .Match,.nm .Delivery]
abbrev Fk:Pat:=bZ [.nm .Delivered]
abbrev qRL:Pat:=bZ [.nm .Rules,Evs]
abbrev xU:Pat:=bZ [OW,.nm .Match,I,I]
abbrev Fj:Pat:=bZ [.nm .Match,I,I]
def jO (m:Match) (i:Int) (e:Mir.Event):Int:=if decide (i≥4000) then 26 else cp m e
def c8 (m:Match) (i:Int) (e:Mir.Event):Match:=if decide (i≥4000) then m else bt m e
def tH:Den (tyP L9)→List Prop×Den (tyP qK):=fun x=>([aQ x.1],(c8 x.1 x.2.1 x.2.2.1,jO x.1 x.2.1 x.2.2.1,()))
def ed (r:Rules) (i:Int) (a b:Match) (d:Delivery):Delivered:=
 { Event:=i,Innings:=W ((a.Innings.length:Int) - 1),Over:=(bj a).Complete,Ball:=(bj a).InOver,Bowler:=(bj a).Bowler,Striker:=(bj a).Striker,Partner:=(bj a).Other,Free:=(bj a).FreeHit,Delivery:=d,Credit:=aB r d,Runs:=(bj b).Runs,Wickets:=(bj b).Wickets }
def Ht (a b:Match):Prop:=Qd a∧b.Innings.length=a.Innings.length
def Dy:Den (tyP LU)→List Prop×Den (tyP Fk):=fun x=>([Ht x.2.1 x.2.2.1],(ed x.2.1.Rules x.1 x.2.1 x.2.2.1 x.2.2.2.1,()))
def uk (r:Rules) (i:Int) (m y:Match) (e:Mir.Event) (o:List Delivered):List Delivered:=if e.Kind==4 then o++[ed r i m y e.Ball] else o
def gF:Match→List Mir.Event→Int→List Delivered→List Delivered×Match×Int×Int
 | m,[],_,o=>(o,m,-1,0)
 | m,e::l,i,o=>if jO m i e != 0 then (o,m,i,jO m i e) else gF (c8 m i e) l (i+1) (uk m.Rules i m (c8 m i e) e o)
def F3 (r:Rules):Match:={ Match.zero with Rules:=r,Stage:=1 }
def aN (r:Rules) (l:List Mir.Event):List Delivered×Match×Int×Int:=if aC r != 0 then ([],Match.zero,0,1) else gF (F3 r) l 0 []
def DI:Den (tyP qRL)→List Prop×Den (tyP xU):=fun x=>([],((aN x.1 x.2.1).1,(aN x.1 x.2.1).2.1,(aN x.1 x.2.1).2.2.1,(aN x.1 x.2.1).2.2.2,()))
def yg:Den (tyP qRL)→List Prop×Den (tyP Fj):=fun x=>([],((aN x.1 x.2.1).2.1,(aN x.1 x.2.1).2.2.1,(aN x.1 x.2.1).2.2.2,()))
def bR (r:Rules) (l:List Mir.Event):Int:=if aC r != 0 then aC r else if decide ((l.length:Int)>4000) then 9 else if (aN r l).2.2.2 != 0 then 10 else 0
def x9:Den (tyP qRL)→List Prop×Den (tyP bA):=fun x=>([],(bR x.1 x.2.1,()))
abbrev Pc:List (Nat×PB):= [(0,.dat (.nm .Match)),(1,.dat (.nm .Match)),(2,.row 3 (.nm .Delivered))]
abbrev qPy:Pat:=⟨[(5,.c (.ptr 0 0)),(8,.c (.ptr 1 0)),(10,.c (.osl 2 3)),(23,.h Evs),(24,.h I),(25,.h I)],Pc,4⟩
abbrev xPy:List (Lf×Pat):= [(.ret,⟨[(4,.c (.osl 2 3)),(5,.c (.ptr 0 0)),(6,.h I),(7,.h I)],[(0,.dat (.nm .Match)),(2,.row 3 (.nm .Delivered))],4⟩),(.ext 0,⟨[(5,.c (.ptr 0 0)),(8,.c (.ptr 1 0)),(10,.c (.osl 2 3))],Pc,4⟩)]
abbrev TPy:Type:=List Mir.Event×Int×Int×Match×Match×List Delivered×Unit
abbrev OPy:Type:=Sum (Int×Int×Match×List Delivered×Unit) (Match×Match×List Delivered×Unit)
def qk (x:TPy):Prop:=(x.2.1 =(x.1.length:Int)∧0≤x.2.2.1∧x.2.2.1≤x.2.1∧x.1.length≤aP)∧aQ x.2.2.2.2.1∧(x.2.2.2.2.2.1.length:Int)≤x.2.2.1∧x.2.2.2.2.2.1.length≤4000
def uH (x:TPy):Nat:=(x.2.1 - x.2.2.1).toNat
def ta (z:Match) (p:List Delivered×Match×Int×Int):OPy:=if p.2.2.2 != 0 then .inl (p.2.2.1,p.2.2.2,p.2.1,p.1,()) else .inr (z,p.2.1,p.1,())
def gV (x:TPy):OPy:=ta x.2.2.2.1 (gF x.2.2.2.2.1 (x.1.drop x.2.2.1.toNat) x.2.2.1 x.2.2.2.2.2.1)
theorem Cu {m:Match} (h:aQ m) (i:Int) (e:Mir.Event):aQ (c8 m i e):=by
 unfold c8
 split
 ·exact h
 ·exact BH e h
theorem xB {m:Match} {i:Int} {e:Mir.Event} (h :(jO m i e != 0)=false):i<4000∧cp m e=0:=by
 unfold jO at h
 by_cases hi:i≥4000
 ·rw [if_pos (decide_eq_true hi)] at h;cases h
 ·rw [if_neg (by simpa using hi)] at h
  exact ⟨by omega,by simpa using h⟩
theorem AY :∀ (l:List Mir.Event) (m:Match) (i:Int) (o:List Delivered),(gF m l i o).2.2.2=0→(gF m l i o).2.2.1 = -1
 | [],_,_,_,_=>rfl
 | e::l,m,i,o,h=>by
  unfold gF at h ⊢
  by_cases hc :(jO m i e != 0)=true
  ·rw [if_pos hc] at h
   have h:jO m i e=0:=h
   rw [h] at hc;cases hc
  ·rw [if_neg hc] at h ⊢
   exact AY l _ _ _ h
theorem Cz {r:Rules} (h:aC r=0):aQ (F3 r):=⟨fun z hz=>(by cases hz),Nat.zero_le _,by have:=p0 h;show r.Power.length≤_;omega⟩
theorem Ix {r:Rules} (h:aC r=0):pB r=F3 r:=by unfold pB;rw [h];rfl
theorem JE (m:Match) (i:Int) (e:Mir.Event) (hm:aQ m) :(evPat (ao [Ij] Tryz.f129) (fun _=>none) Tryz.f129 L9 qK (m,i,e,())).sat fun z_=>z_ =(tH (m,i,e,())).2:=by
 refine cast (by kernel_rfl) (?_:let r1:Bool:=decide (i≥(4000:Int));(r1=true→(m,(26:Int),()) =(c8 m i e,jO m i e,()))∧(r1=false→aQ m∧(bt m e,cp m e,()) =(c8 m i e,jO m i e,())))
 intro r1
 clear_value (hr1:r1=_)
 refine ⟨fun h=>?_,fun h=>⟨hm,?_⟩⟩
 ·rw [hr1] at h;simp only [c8,jO,h];rfl
 ·rw [hr1] at h;simp only [c8,jO,h];rfl
def Cr:FuncId×Ctr:=(129,af KE L9 qK tH)
theorem E8:CtrOK Tryz.prog KE 129 (af KE L9 qK tH):=by
 refine aw (C:=ao [Ij] Tryz.f129) (al (.consU Ls rfl .nil) _) mixed (fn:=Tryz.f129) Tryz.func129 (by kernel_rfl) (by kernel_rfl) (by kernel_rfl) (by kernel_rfl) (by kernel_rfl) (by kernel_rfl) (Λ:=fun _ _=>none) ?_ ?_
 ·exact fun _ _ _ _ _ _ _ _ h=>by cases h
 ·rintro ⟨m,i,e,⟨⟩⟩ hw hn
  exact JE m i e (hn _ List.mem_cons_self)
theorem uL (i:Int) (a:Match) (b:Match) (d:Delivery) (hd:Ht a b) :(evPat (ao [iH] Tryz.f130) (fun _=>none) Tryz.f130 LU Fk (i,a,b,d,())).sat fun z_=>z_ =(Dy (i,a,b,d,())).2:=by
 refine cast (by kernel_rfl) (?_:let r1:Int:=IntKind.i64.wrap ((↑a.5.length:Int) - (1:Int));let r2:Innings:=a.5.getD r1.toNat (dflt (Ty.nm Nm.Innings));let r3:Innings:=b.5.getD r1.toNat (dflt (Ty.nm Nm.Innings));((0:Int)≤r1∧r1 <(↑a.5.length:Int))∧((0:Int)≤r1∧r1 <(↑b.5.length:Int))∧(Delivered.mk i r1 r2.7 r2.8 r2.12 r2.9 r2.10 r2.17 d (aB a.1 d) r3.4 r3.5,()) =(ed a.1 i a b d,()))
 intro r1 r2 r3
 clear_value (hr1:r1=_) (hr2:r2=_) (hr3:r3=_)
 obtain ⟨⟨h0,hx⟩,hl⟩:=hd
 have e0:r1 =(a.Innings.length:Int) - 1:=by rw [hr1];exact bb (by omega) (by omega)
 have e1:r1.toNat=a.Innings.length - 1:=by omega
 have e2:r2=bj a:=by rw [hr2,e1];rfl
 have e3:r3=bj b:=by rw [hr3,e1,←hl];rfl
 refine ⟨⟨by omega,by omega⟩,⟨by omega,by omega⟩,?_⟩
 rw [e2,e3,hr1];rfl
def lM:FuncId×Ctr:=(130,af KE LU Fk Dy)
theorem oT:CtrOK Tryz.prog KE 130 (af KE LU Fk Dy):=by
 refine aw (C:=ao [iH] Tryz.f130) (al (.consU mN rfl .nil) _) mixed (fn:=Tryz.f130) Tryz.func130 (by kernel_rfl) (by kernel_rfl) (by kernel_rfl) (by kernel_rfl) (by kernel_rfl) (by kernel_rfl) (Λ:=fun _ _=>none) ?_ ?_
 ·exact fun _ _ _ _ _ _ _ _ h=>by cases h
 ·rintro ⟨i,a,b,d,⟨⟩⟩ hw hn
  exact uL i a b d (hn _ List.mem_cons_self)
noncomputable def lpPy:Lp:=(⟨0,ao [Cr,lM] Tryz.f76,(fun _=>none),(aH Tryz.f76 0),qPy,xPy⟩:Lp)
theorem OC (xs:List Mir.Event) (n:Int) (i:Int) (z:Match) (m:Match) (o:List Delivered) (hi:qk (xs,n,i,z,m,o,())) :(Go.Mir.stepG lpPy gV (fun y:Den (tyP lpPy.q)=>qk y∧uH y<uH (xs,n,i,z,m,o,())) (xs,n,i,z,m,o,())∧Go.Mir.stepE lpPy gV (xs,n,i,z,m,o,())=gV (xs,n,i,z,m,o,())):=by
 refine cast (by kernel_rfl) (?_:let r1:Innings:=bj (c8 m i (xs.getD i.toNat (dflt (Ty.nm Nm.Event))));let r2:Int:=IntKind.i64.wrap (i +(1:Int));let r3:Bool:=(xs.getD i.toNat (dflt (Ty.nm Nm.Event))).1 ==(4:Int);let r4:Bool:=jO m i (xs.getD i.toNat (dflt (Ty.nm Nm.Event))) !=(0:Int);let r5:List Delivered:= [Delivered.mk i (W ((↑m.5.length:Int) - (1:Int))) (bj m).7 (bj m).8 (bj m).12 (bj m).9 (bj m).10 (bj m).17 (xs.getD i.toNat (dflt (Ty.nm Nm.Event))).8 (aB m.1 (xs.getD i.toNat (dflt (Ty.nm Nm.Event))).8) r1.4 r1.5];((decide (i<n)=true→((0:Int)≤i∧i <(↑xs.length:Int))∧aQ m∧(r4=true→True)∧(r4=false→(r3=true→Ht m (c8 m i (xs.getD i.toNat (dflt (Ty.nm Nm.Event))))∧(o.length+r5.length) *(216:Nat)≤(70368744177664:Nat)∧qk (xs,n,r2,z,c8 m i (xs.getD i.toNat (dflt (Ty.nm Nm.Event))),o++r5,())∧uH (xs,n,r2,z,c8 m i (xs.getD i.toNat (dflt (Ty.nm Nm.Event))),o++r5,())<uH (xs,n,i,z,m,o,()))∧(r3=false→qk (xs,n,r2,z,c8 m i (xs.getD i.toNat (dflt (Ty.nm Nm.Event))),o,())∧uH (xs,n,r2,z,c8 m i (xs.getD i.toNat (dflt (Ty.nm Nm.Event))),o,())<uH (xs,n,i,z,m,o,()))))∧(decide (i<n)=false→True))∧(bif decide (i<n) then bif r4 then Sum.inl (i,jO m i (xs.getD i.toNat (dflt (Ty.nm Nm.Event))),m,o,()) else bif r3 then gV (xs,n,r2,z,c8 m i (xs.getD i.toNat (dflt (Ty.nm Nm.Event))),o++r5,()) else gV (xs,n,r2,z,c8 m i (xs.getD i.toNat (dflt (Ty.nm Nm.Event))),o,()) else Sum.inr (z,m,o,()))=gV (xs,n,i,z,m,o,()))
 intro r1 r2 r3 r4 r5
 clear_value (hr1:r1=_) (hr2:r2=_) (hr3:r3=_) (hr4:r4=_) (hr5:r5=_)
 obtain ⟨⟨h1,h2,h3,h4⟩,hm,h5,h6⟩:=hi
 simp only at h1 h2 h3 h4 hm h5 h6
 have hx :(xs.length:Int)≤140737488355328:=by have:xs.length≤140737488355328:=h4;omega
 by_cases h:i<n
 ·have e:xs.drop i.toNat=xs.getD i.toNat (dflt (Ty.nm Nm.Event))::xs.drop (i+1).toNat:=dI h2 (by omega) _
  have e2:r2=i+1:=by rw [hr2];exact bb (by omega) (by omega)
  rw [decide_eq_true h,cond_true]
  generalize xs.getD i.toNat (dflt (Ty.nm Nm.Event))=v at *
  have hs:aQ (c8 m i v):=Cu hm i v
  have hA:r5=[ed m.Rules i m (c8 m i v) v.Ball]:=by rw [hr5,hr1];rfl
  have hq:r4=false→i<4000∧cp m v=0:=fun a=>xB (by rw [←hr4];exact a)
  have hK :∀ o':List Delivered,(o'.length:Int)≤i+1→o'.length≤4000→qk (xs,n,r2,z,c8 m i v,o',())∧uH (xs,n,r2,z,c8 m i v,o',())<uH (xs,n,i,z,m,o,()):=fun o' k1 k2=>
   ⟨⟨⟨h1,by simp only;omega,by simp only;omega,h4⟩,hs,by simp only;omega,k2⟩,by simp only [uH];omega⟩
  refine ⟨⟨fun _=>⟨⟨h2,by omega⟩,hm,fun _=>trivial,fun a=>⟨fun b=>⟨?_,?_,?_⟩,fun _=>hK o (by omega) h6⟩⟩,fun z=>Bool.noConfusion z⟩,?_⟩
  ·have hy:c8 m i v=bt m v:=by unfold c8;rw [decide_eq_false (by have:=(hq a).1;omega)];rfl
   have hb:=wx (hq a).2 (by rw [hr3] at b;exact eq_of_beq b)
   exact ⟨⟨hb.1,hm.2.1⟩,by rw [hy];exact hb.2⟩
  ·rw [hA,List.length_singleton];omega
  ·refine hK _ ?_ ?_ <;> rw [hA,List.length_append,List.length_singleton]
   ·omega
   ·have:=(hq a).1;omega
  ·have eP:gF m (xs.drop i.toNat) i o=if r4 then (o,m,i,jO m i v) else gF (c8 m i v) (xs.drop (i+1).toNat) (i+1) (uk m.Rules i m (c8 m i v) v o):=by rw [e,hr4];rfl
   have eD:uk m.Rules i m (c8 m i v) v o=bif r3 then o++r5 else o:=by unfold uk;rw [←hr3,hA];cases r3 <;> rfl
   simp only [gV]
   rw [eP,e2,eD]
   cases r4 with
   | true=>unfold ta;simp only [if_true];rw [←hr4];rfl
   | false=>cases r3 <;> rfl
 ·rw [decide_eq_false h,cond_false]
  refine ⟨⟨fun z=>Bool.noConfusion z,fun _=>trivial⟩,?_⟩
  simp only [gV]
  rw [cM (l:=xs) (by omega)]
  rfl
noncomputable def Nh:LoopSum:=bh lpPy gV qk
noncomputable def M5:Nat:=rid (aH Tryz.f76 0)
theorem NP:LoopOKp Tryz.prog 0 Tryz.f76.ntmps (aH Tryz.f76 0) (bh lpPy gV qk):=
 cj lpPy (al (.consU E8 rfl (.consU oT rfl .nil)) _) mixed (fun b hb S hS=>by cases hS) gV qk uH (fun |⟨xs,n,i,z,m,o,⟨⟩⟩,hi=>OC xs n i z m o hi)
theorem JD (r:Rules) (l:List Mir.Event) (hx:l.length≤aP) :(evPat (ao [MM,Cr,lM] Tryz.f76) (find [(M5,Nh)]) Tryz.f76 qRL xU (r,l,())).sat fun z_=>z_ =(DI (r,l,())).2:=by
 refine cast (by kernel_rfl) (?_:let r1:Match:=Match.mk (Rules.mk ByteArray.empty (0:Int) (0:Int) (0:Int) (0:Int) (0:Int) (0:Int) (0:Int) false (0:Int) (0:Int) (0:Int) (0:Int) []) (0:Int) (0:Int) false [] ((0:Int),(0:Int),()) (Result.mk (0:Int) (0:Int) (0:Int));let r2:Bool:=isL (gV (l,(↑l.length:Int),(0:Int),r1,pB r,[],()));let r3:Int×Int×Match×List Delivered×PUnit:=ov (dflt (I.prod (I.prod ((Ty.nm Nm.Match).prod ((Ty.nm Nm.Delivered).slice.prod Ty.unit))))) (gV (l,(↑l.length:Int),(0:Int),r1,pB r,[],()));((aC r !=(0:Int))=true→([],r1,(0:Int),(1:Int),()) =((aN r l).1,(aN r l).2.1,(aN r l).2.2.1,(aN r l).2.2.2,()))∧((aC r !=(0:Int))=false→((fW fun x=>none)∧((↑l.length:Int) =(↑l.length:Int)∧(0:Int)≤(0:Int)∧(0:Int)≤(↑l.length:Int)∧l.length≤aP)∧aQ (pB r)∧(↑(0:Nat):Int)≤(0:Int)∧(0:Nat)≤(4000:Nat))∧(r2=true→(r3.2.2.2.1,r3.2.2.1,r3.1,r3.2.1,()) =((aN r l).1,(aN r l).2.1,(aN r l).2.2.1,(aN r l).2.2.2,()))∧(r2=false→((xk (dflt ((Ty.nm Nm.Match).prod ((Ty.nm Nm.Match).prod ((Ty.nm Nm.Delivered).slice.prod Ty.unit)))) (gV (l,(↑l.length:Int),(0:Int),r1,pB r,[],()))).2.2.1,(xk (dflt ((Ty.nm Nm.Match).prod ((Ty.nm Nm.Match).prod ((Ty.nm Nm.Delivered).slice.prod Ty.unit)))) (gV (l,(↑l.length:Int),(0:Int),r1,pB r,[],()))).2.1,(-1:Int),(0:Int),()) =((aN r l).1,(aN r l).2.1,(aN r l).2.2.1,(aN r l).2.2.2,()))))
 intro r1 r2 r3
 clear_value (hr1:r1=_) (hr2:r2=_) (hr3:r3=_)
 refine ⟨fun h=>?_,fun h=>?_⟩
 ·have:aN r l =([],Match.zero,0,1):=by unfold aN;rw [h];rfl
  rw [this,hr1];rfl
 ·have h0:aC r=0:=by simpa using h
  have hP:aN r l=gF (F3 r) l 0 []:=by unfold aN;rw [h];rfl
  have er:gV (l,(l.length:Int),0,r1,pB r,[],())=ta r1 (aN r l):=by rw [hP,Ix h0];rfl
  rw [er] at hr2 hr3 ⊢
  refine ⟨⟨rfl,⟨rfl,Int.le_refl _,by omega,hx⟩,by rw [Ix h0];exact Cz h0,Int.le_refl _,Nat.zero_le _⟩,?_⟩
  cases hl :(aN r l).2.2.2 != 0 with
  | true=>
   have eo:ta r1 (aN r l) = .inl ((aN r l).2.2.1,(aN r l).2.2.2,(aN r l).2.1,(aN r l).1,()):=by unfold ta;rw [hl];rfl
   rw [eo] at hr2 hr3
   have e2:r2=true:=hr2
   subst e2 hr3
   exact ⟨fun _=>rfl,fun z=>Bool.noConfusion z⟩
  | false=>
   have eo:ta r1 (aN r l) = .inr (r1,(aN r l).2.1,(aN r l).1,()):=by unfold ta;rw [hl];rfl
   rw [eo] at hr2 ⊢
   have e2:r2=false:=hr2
   have k1 :(aN r l).2.2.2=0:=by simpa using hl
   have k2 :(aN r l).2.2.1 = -1:=by rw [hP] at k1 ⊢;exact AY l _ _ _ k1
   subst e2
   refine ⟨fun z=>Bool.noConfusion z,fun _=>?_⟩
   rw [k1,k2];rfl
def xu:FuncId×Ctr:=(76,af KE qRL xU DI)
theorem E7:CtrOK Tryz.prog KE 76 (af KE qRL xU DI):=by
 refine aw (C:=ao [MM,Cr,lM] Tryz.f76) (al (.consU N5 rfl (.consU E8 rfl (.consU oT rfl .nil))) _) mixed (fn:=Tryz.f76) Tryz.func76 (by kernel_rfl) (by kernel_rfl) (by kernel_rfl) (by kernel_rfl) (by kernel_rfl) (by kernel_rfl) (Λ:=fun x=>find [(M5,Nh)]) ?_ ?_
 ·rintro ⟨r,l,⟨⟩⟩ hw hn
  exact LoopsOKp.at (by kernel_rfl) (.cons (by kernel_rfl) (NP) .nil)
 ·rintro ⟨r,l,⟨⟩⟩ hw hn
  exact JD r l (dT (bf (aG hw)))
theorem Di (r:Rules) (l:List Mir.Event) :(evPat (ao [xu] Tryz.f91) (fun _=>none) Tryz.f91 qRL Fj (r,l,())).sat fun z_=>z_ =(yg (r,l,())).2:=by
 refine cast (by kernel_rfl) (?_ :((aN r l).2.1,(aN r l).2.2.1,(aN r l).2.2.2,()) =((aN r l).2.1,(aN r l).2.2.1,(aN r l).2.2.2,()))
 rfl
def Am:FuncId×Ctr:=(91,af KE qRL Fj yg)
theorem Ge:CtrOK Tryz.prog KE 91 (af KE qRL Fj yg):=by
 refine aw (C:=ao [xu] Tryz.f91) (al (.consU E7 rfl .nil) _) mixed (fn:=Tryz.f91) Tryz.func91 (by kernel_rfl) (by kernel_rfl) (by kernel_rfl) (by kernel_rfl) (by kernel_rfl) (by kernel_rfl) (Λ:=fun _ _=>none) ?_ ?_
 ·exact fun _ _ _ _ _ _ _ _ h=>by cases h
 ·rintro ⟨r,l,⟨⟩⟩ hw hn
  exact Di r l
theorem GG (r:Rules) (l:List Mir.Event) :(evPat (ao [k85,Am] Tryz.f32) (fun _=>none) Tryz.f32 qRL bA (r,l,())).sat fun z_=>z_ =(x9 (r,l,())).2:=by
 refine cast (by kernel_rfl) (?_:let r1:Bool:=(aN r l).2.2.2 !=(0:Int);let r2:Bool:=decide ((↑l.length:Int) >(4000:Int));((aC r !=(0:Int))=true→(aC r,()) =(bR r l,()))∧((aC r !=(0:Int))=false→(r2=true→((9:Int),()) =(bR r l,()))∧(r2=false→(r1=true→((10:Int),()) =(bR r l,()))∧(r1=false→((0:Int),()) =(bR r l,())))))
 intro r1 r2
 clear_value (hr1:r1=_) (hr2:r2=_)
 refine ⟨fun h=>?_,fun h=>⟨fun a=>?_,fun a=>⟨fun b=>?_,fun b=>?_⟩⟩⟩
 ·simp only [bR,h,if_true]
 ·have:bR r l=9:=by unfold bR;rw [h,←hr2,a];rfl
  rw [this]
 ·have:bR r l=10:=by unfold bR;rw [h,←hr2,a,←hr1,b];rfl
  rw [this]
 ·have:bR r l=0:=by unfold bR;rw [h,←hr2,a,←hr1,b];rfl
  rw [this]
def EL:FuncId×Ctr:=(32,af KE qRL bA x9)
theorem IR:CtrOK Tryz.prog KE 32 (af KE qRL bA x9):=by
 refine aw (C:=ao [k85,Am] Tryz.f32) (al (.consU sS rfl (.consU Ge rfl .nil)) _) mixed (fn:=Tryz.f32) Tryz.func32 (by kernel_rfl) (by kernel_rfl) (by kernel_rfl) (by kernel_rfl) (by kernel_rfl) (by kernel_rfl) (Λ:=fun _ _=>none) ?_ ?_
 ·exact fun _ _ _ _ _ _ _ _ h=>by cases h
 ·rintro ⟨r,l,⟨⟩⟩ hw hn
  exact GG r l
end Go.Proofs.YtffdpnmioidloaaGreatDoor
namespace Go.Proofs.YtffdpnmioidloaaGreatDoor
open Go Go.Mir
attribute [local irreducible] Go.Mir.DT.sat Go.Mir.evPat Go.Mir.RT.sat Go.Mir.evFn
end Go.Proofs.YtffdpnmioidloaaGreatDoor
namespace Go.Proofs.YtffdpnmioidloaaGreatDoor
open Go Go.Mir
attribute [local irreducible] Go.Mir.DT.sat Go.Mir.evPat Go.Mir.RT.sat Go.Mir.evFn
end Go.Proofs.YtffdpnmioidloaaGreatDoor
namespace Go.Proofs.YtffdpnmioidloaaGreatDoor
open Go Go.Mir
attribute [local irreducible] Go.Mir.DT.sat Go.Mir.evPat Go.Mir.RT.sat Go.Mir.evFn
abbrev tv:Pat:=bZ [I]
abbrev qIb:Pat:=bZ [I,I]
abbrev dn:Pat:=bZ [.str]
def dgs36:ByteArray:=⟨#[48,49,50,51,52,53,54,55,56,57,97,98,99,100,101,102,103,104,105,106,107,108,109,110,111,112,113,114,115,116,117,118,119,120,121,122]⟩
def sm200:ByteArray:=⟨((List.range 100).flatMap fun n=> [UInt8.ofNat (48+n / 10),UInt8.ofNat (48+n % 10)]).toArray⟩
def gy (n:Int):ByteArray:=if decide (n<10) then dgs36.extract n.toNat (n+1).toNat else sm200.extract (n*2).toNat (n*2+2).toNat
def lQ (n:Int):Prop:=0≤n∧n<100
def rz (n:Int):Prop:=n=10
def pQ:Den (tyP tv)→List Prop×Den (tyP dn):=fun x=>([lQ x.1],(gy x.1,()))
def GW:Den (tyP qIb)→List Prop×Den (tyP dn):=fun x=>([lQ x.1,rz x.2.1],(gy x.1,()))
def jH (n:Int):ByteArray:=Utf8.encode (IntKind.i32.wrap (IntKind.i64.wrap (48+n)))
def Dz:Den (tyP tv)→List Prop×Den (tyP dn):=fun x=>([],(jH x.1,()))
def jX (t s:Int):ByteArray:=if s==0 then (if t != 2 then ⟨#[46]⟩ else ⟨#[]⟩) else if s==1 then (if t==2 then ⟨#[111]⟩ else ⟨#[]⟩) else if s==2 then ⟨#[98]⟩ else if s==3 then ⟨#[108]⟩ else ⟨#[]⟩
def yl:Den (tyP qD)→List Prop×Den (tyP dn):=fun x=>([],(jX x.1.Typ x.1.Source,()))
def lets:ByteArray:=⟨#[78,66,67,76,83,72,82,84,79,77,81]⟩
def Cl (h:Int):ByteArray:=lets.extract h.toNat (h+1).toNat
def nu (d:Delivery):Bool:=d.Fielder != 0 ||(d.Second != 0||d.Sub)
def BS (d:Delivery):ByteArray:=(⟨#[47]⟩++Cl d.How)++jH d.Victim
def Ha (d:Delivery):ByteArray:=BS d ++(⟨#[40]⟩++gy d.Fielder)
def Ea (d:Delivery):ByteArray:=if d.Second != 0 then Ha d ++(⟨#[44]⟩++gy d.Second) else Ha d
def Ee (d:Delivery):ByteArray:=if d.Sub then Ea d ++⟨#[115]⟩ else Ea d
def pb (d:Delivery):ByteArray:=if d.How==0&&(d.Victim==0&&!nu d) then ⟨#[]⟩ else if nu d then Ee d ++⟨#[41]⟩ else BS d
def HC (d:Delivery):Prop:=(0≤d.How∧d.How≤10)∧lQ d.Fielder∧lQ d.Second
def yq:Den (tyP qD)→List Prop×Den (tyP dn):=fun x=>([HC x.1],(pb x.1,()))
def G6 (t:Int):ByteArray:=if t==2 then ⟨#[119]⟩ else if t==3 then ⟨#[110]⟩ else ⟨#[]⟩
theorem O7 (n:Int) :(Utf8.encode n).size≤4:=by
 unfold Utf8.encode
 generalize (if Utf8.valid n then n.toNat else Utf8.runeError)=c
 show (ite _ _ _:ByteArray).size≤4
 by_cases h1:c<0x80
 ·rw [if_pos h1];exact Nat.le_of_ble_eq_true rfl
 ·rw [if_neg h1]
  by_cases h2:c<0x800
  ·rw [if_pos h2];exact Nat.le_of_ble_eq_true rfl
  ·rw [if_neg h2]
   by_cases h3:c<0x10000
   ·rw [if_pos h3];exact Nat.le_of_ble_eq_true rfl
   ·rw [if_neg h3];exact Nat.le_of_ble_eq_true rfl
theorem KC {n:Int} (h:lQ n) :(gy n).size≤200:=by
 have z5:dgs36.size=36:=rfl
 have z6:sm200.size=200:=by kernel_rfl
 unfold gy
 split <;> rw [ByteArray.size_extract] <;> omega
theorem Bk (n:Int) (hk:lQ n) :(evPat (ao [] Tryz.f210) (fun _=>none) Tryz.f210 tv dn (n,())).sat fun z_=>z_ =(pQ (n,())).2:=by
 refine cast (by kernel_rfl) (?_:let r1:Int:=IntKind.i64.wrap (n +(1:Int));let r2:Int:=IntKind.i64.wrap (n *(2:Int));let r3:Bool:=decide (n <(10:Int));let r4:Int:=IntKind.i64.wrap (r2 +(2:Int));let r5:ByteArray:=ByteArray.mk #[48,49,50,51,52,53,54,55,56,57,97,98,99,100,101,102,103,104,105,106,107,108,109,110,111,112,113,114,115,116,117,118,119,120,121,122];let r6:ByteArray:=ByteArray.mk (([(48:UInt8),(48:UInt8),(48:UInt8),(49:UInt8),(48:UInt8),(50:UInt8),(48:UInt8),(51:UInt8),(48:UInt8),(52:UInt8),(48:UInt8),(53:UInt8),(48:UInt8),(54:UInt8),(48:UInt8),(55:UInt8),(48:UInt8),(56:UInt8),(48:UInt8),(57:UInt8),(49:UInt8),(48:UInt8),(49:UInt8),(49:UInt8),(49:UInt8),(50:UInt8),(49:UInt8),(51:UInt8),(49:UInt8),(52:UInt8),(49:UInt8),(53:UInt8),(49:UInt8),(54:UInt8),(49:UInt8),(55:UInt8),(49:UInt8),(56:UInt8),(49:UInt8),(57:UInt8),(50:UInt8),(48:UInt8),(50:UInt8),(49:UInt8),(50:UInt8),(50:UInt8),(50:UInt8),(51:UInt8),(50:UInt8),(52:UInt8)].append [(50:UInt8),(53:UInt8),(50:UInt8),(54:UInt8),(50:UInt8),(55:UInt8),(50:UInt8),(56:UInt8),(50:UInt8),(57:UInt8),(51:UInt8),(48:UInt8),(51:UInt8),(49:UInt8),(51:UInt8),(50:UInt8),(51:UInt8),(51:UInt8),(51:UInt8),(52:UInt8),(51:UInt8),(53:UInt8),(51:UInt8),(54:UInt8),(51:UInt8),(55:UInt8),(51:UInt8),(56:UInt8),(51:UInt8),(57:UInt8),(52:UInt8),(48:UInt8),(52:UInt8),(49:UInt8),(52:UInt8),(50:UInt8),(52:UInt8),(51:UInt8),(52:UInt8),(52:UInt8),(52:UInt8),(53:UInt8),(52:UInt8),(54:UInt8),(52:UInt8),(55:UInt8),(52:UInt8),(56:UInt8),(52:UInt8),(57:UInt8)]).append ([(53:UInt8),(48:UInt8),(53:UInt8),(49:UInt8),(53:UInt8),(50:UInt8),(53:UInt8),(51:UInt8),(53:UInt8),(52:UInt8),(53:UInt8),(53:UInt8),(53:UInt8),(54:UInt8),(53:UInt8),(55:UInt8),(53:UInt8),(56:UInt8),(53:UInt8),(57:UInt8),(54:UInt8),(48:UInt8),(54:UInt8),(49:UInt8),(54:UInt8),(50:UInt8),(54:UInt8),(51:UInt8),(54:UInt8),(52:UInt8),(54:UInt8),(53:UInt8),(54:UInt8),(54:UInt8),(54:UInt8),(55:UInt8),(54:UInt8),(56:UInt8),(54:UInt8),(57:UInt8),(55:UInt8),(48:UInt8),(55:UInt8),(49:UInt8),(55:UInt8),(50:UInt8),(55:UInt8),(51:UInt8),(55:UInt8),(52:UInt8)].append [(55:UInt8),(53:UInt8),(55:UInt8),(54:UInt8),(55:UInt8),(55:UInt8),(55:UInt8),(56:UInt8),(55:UInt8),(57:UInt8),(56:UInt8),(48:UInt8),(56:UInt8),(49:UInt8),(56:UInt8),(50:UInt8),(56:UInt8),(51:UInt8),(56:UInt8),(52:UInt8),(56:UInt8),(53:UInt8),(56:UInt8),(54:UInt8),(56:UInt8),(55:UInt8),(56:UInt8),(56:UInt8),(56:UInt8),(57:UInt8),(57:UInt8),(48:UInt8),(57:UInt8),(49:UInt8),(57:UInt8),(50:UInt8),(57:UInt8),(51:UInt8),(57:UInt8),(52:UInt8),(57:UInt8),(53:UInt8),(57:UInt8),(54:UInt8),(57:UInt8),(55:UInt8),(57:UInt8),(56:UInt8),(57:UInt8),(57:UInt8)])).toArray;(r3=true→((0:Int)≤n∧n≤r1∧r1≤(↑r5.size:Int))∧(r5.extract n.toNat r1.toNat,()) =(gy n,()))∧(r3=false→((0:Int)≤r2∧r2≤r4∧r4≤(↑r6.size:Int))∧(r6.extract r2.toNat r4.toNat,()) =(gy n,())))
 intro r1 r2 r3 r4 r5 r6
 clear_value (hr1:r1=_) (hr2:r2=_) (hr3:r3=_) (hr4:r4=_) (hr5:r5=_) (hr6:r6=_)
 obtain ⟨h0,h1⟩:=hk
 have e1:r1=n+1:=by rw [hr1];exact dH (by omega) (by omega)
 have e2:r2=n*2:=by rw [hr2];exact dH (by omega) (by omega)
 have e4:r4=n*2+2:=by rw [hr4,e2];exact dH (by omega) (by omega)
 have e5:r5=dgs36:=hr5
 have e6:r6=sm200:=by rw [hr6];kernel_rfl
 have z5:dgs36.size=36:=rfl
 have z6:sm200.size=200:=by kernel_rfl
 clear hr1 hr2 hr4 hr5 hr6
 subst e1 e2 e4 e5 e6
 refine ⟨fun h=>?_,fun h=>?_⟩
 ·rw [hr3] at h
  have hd:=of_decide_eq_true h
  refine ⟨⟨h0,by omega,by omega⟩,?_⟩
  unfold gy;rw [h];rfl
 ·rw [hr3] at h
  refine ⟨⟨by omega,by omega,by omega⟩,?_⟩
  unfold gy;rw [h];rfl
def vq:FuncId×Ctr:=(210,af KE tv dn pQ)
theorem CC:CtrOK Tryz.prog KE 210 (af KE tv dn pQ):=by
 refine aw (C:=ao [] Tryz.f210) (al (CtrsOK.nil) _) mixed (fn:=Tryz.f210) Tryz.func210 (by kernel_rfl) (by kernel_rfl) (by kernel_rfl) (by kernel_rfl) (by kernel_rfl) (by kernel_rfl) (Λ:=fun _ _=>none) ?_ ?_
 ·exact fun _ _ _ _ _ _ _ _ h=>by cases h
 ·rintro ⟨n,⟨⟩⟩ hw hn
  exact Bk n (hn _ List.mem_cons_self)
theorem Gt (n:Int) (b:Int) (hk:lQ n) (hb:rz b) :(evPat (ao [vq] Tryz.f169) (fun _=>none) Tryz.f169 qIb dn (n,b,())).sat fun z_=>z_ =(GW (n,b,())).2:=by
 refine cast (by kernel_rfl) (?_:let r1:Bool:=bif decide ((0:Int)≤n) then decide (n <(100:Int)) else false;((b ==(10:Int))=true→(r1=true→lQ n∧(gy n,()) =(gy n,()))∧(r1=false→False))∧((b ==(10:Int))=false→False))
 intro r1
 clear_value (hr1:r1=_)
 have hb:b=10:=hb
 have e1:r1=true:=by rw [hr1,decide_eq_true hk.1,decide_eq_true hk.2];rfl
 subst hb
 exact ⟨fun _=>⟨fun _=>⟨hk,rfl⟩,fun h=>by rw [e1] at h;cases h⟩,fun h=>by cases h⟩
def EC:FuncId×Ctr:=(169,af KE qIb dn GW)
theorem IE:CtrOK Tryz.prog KE 169 (af KE qIb dn GW):=by
 refine aw (C:=ao [vq] Tryz.f169) (al (.consU CC rfl .nil) _) mixed (fn:=Tryz.f169) Tryz.func169 (by kernel_rfl) (by kernel_rfl) (by kernel_rfl) (by kernel_rfl) (by kernel_rfl) (by kernel_rfl) (Λ:=fun _ _=>none) ?_ ?_
 ·exact fun _ _ _ _ _ _ _ _ h=>by cases h
 ·rintro ⟨n,b,⟨⟩⟩ hw hn
  exact Gt n b (hn _ List.mem_cons_self) (hn _ (List.mem_cons_of_mem _ List.mem_cons_self))
theorem C7 (n:Int) (b:Int) (hk:lQ n) (hb:rz b) :(evPat (ao [EC] Tryz.f105) (fun _=>none) Tryz.f105 qIb dn (n,b,())).sat fun z_=>z_ =(GW (n,b,())).2:=by
 refine cast (by kernel_rfl) (?_:lQ n∧rz b∧(gy n,()) =(gy n,()))
 exact ⟨hk,hb,rfl⟩
def Ae:FuncId×Ctr:=(105,af KE qIb dn GW)
theorem F7:CtrOK Tryz.prog KE 105 (af KE qIb dn GW):=by
 refine aw (C:=ao [EC] Tryz.f105) (al (.consU IE rfl .nil) _) mixed (fn:=Tryz.f105) Tryz.func105 (by kernel_rfl) (by kernel_rfl) (by kernel_rfl) (by kernel_rfl) (by kernel_rfl) (by kernel_rfl) (Λ:=fun _ _=>none) ?_ ?_
 ·exact fun _ _ _ _ _ _ _ _ h=>by cases h
 ·rintro ⟨n,b,⟨⟩⟩ hw hn
  exact C7 n b (hn _ List.mem_cons_self) (hn _ (List.mem_cons_of_mem _ List.mem_cons_self))
theorem Bt (n:Int) (hk:lQ n) :(evPat (ao [Ae] Tryz.f45) (fun _=>none) Tryz.f45 tv dn (n,())).sat fun z_=>z_ =(pQ (n,())).2:=by
 refine cast (by kernel_rfl) (?_:lQ n∧rz (10:Int)∧(gy n,()) =(gy n,()))
 exact ⟨hk,rfl,rfl⟩
def vz:FuncId×Ctr:=(45,af KE tv dn pQ)
theorem CI:CtrOK Tryz.prog KE 45 (af KE tv dn pQ):=by
 refine aw (C:=ao [Ae] Tryz.f45) (al (.consU F7 rfl .nil) _) mixed (fn:=Tryz.f45) Tryz.func45 (by kernel_rfl) (by kernel_rfl) (by kernel_rfl) (by kernel_rfl) (by kernel_rfl) (by kernel_rfl) (Λ:=fun _ _=>none) ?_ ?_
 ·exact fun _ _ _ _ _ _ _ _ h=>by cases h
 ·rintro ⟨n,⟨⟩⟩ hw hn
  exact Bt n (hn _ List.mem_cons_self)
theorem GQ (n:Int) :(evPat (ao [] Tryz.f152) (fun _=>none) Tryz.f152 tv dn (n,())).sat fun z_=>z_ =(Dz (n,())).2:=by
 refine cast (by kernel_rfl) (?_ :(Utf8.encode (IntKind.i32.wrap (IntKind.i64.wrap ((48:Int)+n))),()) =(jH n,()))
 rfl
def q9:FuncId×Ctr:=(152,af KE tv dn Dz)
theorem AJ:CtrOK Tryz.prog KE 152 (af KE tv dn Dz):=by
 refine aw (C:=ao [] Tryz.f152) (al (CtrsOK.nil) _) mixed (fn:=Tryz.f152) Tryz.func152 (by kernel_rfl) (by kernel_rfl) (by kernel_rfl) (by kernel_rfl) (by kernel_rfl) (by kernel_rfl) (Λ:=fun _ _=>none) ?_ ?_
 ·exact fun _ _ _ _ _ _ _ _ h=>by cases h
 ·rintro ⟨n,⟨⟩⟩ hw hn
  exact GQ n
theorem Dn (d:Delivery) :(evPat (ao [] Tryz.f151) (fun _=>none) Tryz.f151 qD dn (d,())).sat fun z_=>z_ =(yl (d,())).2:=by
 refine cast (by kernel_rfl) (?_ :(((d.2 ==(0:Int))=true→((d.1 !=(2:Int))=true→(ByteArray.mk #[46],()) =(jX d.1 d.2,()))∧((d.1 !=(2:Int))=false→True))∧((d.2 ==(0:Int))=false→((d.2 ==(1:Int))=true→((d.1 ==(2:Int))=true→(ByteArray.mk #[111],()) =(jX d.1 d.2,()))∧((d.1 ==(2:Int))=false→True))∧((d.2 ==(1:Int))=false→((d.2 ==(2:Int))=true→(ByteArray.mk #[98],()) =(jX d.1 d.2,()))∧((d.2 ==(2:Int))=false→((d.2 ==(3:Int))=true→(ByteArray.mk #[108],()) =(jX d.1 d.2,()))∧((d.2 ==(3:Int))=false→True)))))∧((bif d.2 ==(0:Int) then !d.1 !=(2:Int) else bif d.2 ==(1:Int) then !d.1 ==(2:Int) else bif d.2 ==(2:Int) then false else !d.2 ==(3:Int))=true→(ByteArray.mk #[],()) =(jX d.1 d.2,())))
 unfold jX
 generalize d.Typ=t
 generalize d.Source=s
 cases h0:s==0 <;> cases h1:s==1 <;> cases h2:s==2 <;> cases h3:s==3 <;> cases ht:t==2 <;> simp [h0,h1,h2,h3,ht,bne]
def Ao:FuncId×Ctr:=(151,af KE qD dn yl)
theorem Gg:CtrOK Tryz.prog KE 151 (af KE qD dn yl):=by
 refine aw (C:=ao [] Tryz.f151) (al (CtrsOK.nil) _) mixed (fn:=Tryz.f151) Tryz.func151 (by kernel_rfl) (by kernel_rfl) (by kernel_rfl) (by kernel_rfl) (by kernel_rfl) (by kernel_rfl) (Λ:=fun _ _=>none) ?_ ?_
 ·exact fun _ _ _ _ _ _ _ _ h=>by cases h
 ·rintro ⟨d,⟨⟩⟩ hw hn
  exact Dn d
theorem Dp (d:Delivery) (hd:HC d) :(evPat (ao [q9,vz] Tryz.f153) (fun _=>none) Tryz.f153 qD dn (d,())).sat fun z_=>z_ =(yq (d,())).2:=by
 refine cast (by kernel_rfl) (?_:let r1:Int:=IntKind.u8.wrap (d.7 +(1:Int));let r2:ByteArray:=ByteArray.mk #[40]++gy d.9;let r3:ByteArray:=ByteArray.mk #[44]++gy d.10;let r4:Bool:=!bif d.9 !=(0:Int) then true else bif d.10 !=(0:Int) then true else d.11;let r5:Bool:=bif d.7 ==(0:Int) then bif d.8 ==(0:Int) then r4 else false else false;let r6:ByteArray:=ByteArray.mk #[78,66,67,76,83,72,82,84,79,77,81];let r7:ByteArray:=r6.extract d.7.toNat r1.toNat;let r8:ByteArray:=ByteArray.mk #[47]++r7;let r9:ByteArray:=r8++jH d.8;let r10:ByteArray:=r9++r2;let r11:ByteArray:=bif d.10 !=(0:Int) then r10++r3 else r10;let r12:ByteArray:=bif d.11 then r11++ByteArray.mk #[115] else r11;(r5=true→(ByteArray.mk #[],()) =(pb d,()))∧(r5=false→((0:Int)≤d.7∧d.7≤r1∧r1≤(↑r6.size:Int))∧(ByteArray.mk #[47]).size+r7.size≤aP∧r8.size +(jH d.8).size≤aP∧(r4=true→(r9,()) =(pb d,()))∧(r4=false→lQ d.9∧(ByteArray.mk #[40]).size +(gy d.9).size≤aP∧r9.size+r2.size≤aP∧(((d.10 !=(0:Int))=true→lQ d.10∧(ByteArray.mk #[44]).size +(gy d.10).size≤aP∧r10.size+r3.size≤aP∧True)∧((d.10 !=(0:Int))=false→True))∧(true=true→((d.11=true→r11.size +(ByteArray.mk #[115]).size≤aP∧True)∧(d.11=false→True))∧(true=true→r12.size +(ByteArray.mk #[41]).size≤aP∧(r12++ByteArray.mk #[41],()) =(pb d,()))))))
 intro r1 r2 r3 r4 r5 r6 r7 r8 r9 r10 r11 r12
 clear_value (hr1:r1=_) (hr2:r2=_) (hr3:r3=_) (hr4:r4=_) (hr5:r5=_) (hr6:r6=_) (hr7:r7=_) (hr8:r8=_) (hr9:r9=_) (hr10:r10=_) (hr11:r11=_) (hr12:r12=_)
 obtain ⟨⟨h0,h1⟩,hf,hs⟩:=hd
 have e1:r1=d.How+1:=by
  rw [hr1]
  simp only [IntKind.wrap,IntKind.bits,IntKind.signed]
  simp
  omega
 have e6:r6.size=11:=by rw [hr6];rfl
 have z7:r7.size≤11:=by rw [hr7,ByteArray.size_extract];omega
 have zd:=O7 (IntKind.i32.wrap (IntKind.i64.wrap (48+d.Victim)))
 have zd :(jH d.Victim).size≤4:=zd
 have zf:=KC hf
 have zs:=KC hs
 have z8:r8.size≤12:=by rw [hr8,ByteArray.size_append];show 1+_≤_;omega
 have z9:r9.size≤16:=by rw [hr9,ByteArray.size_append];omega
 have z2:r2.size≤201:=by rw [hr2,ByteArray.size_append];show 1+_≤_;omega
 have z3:r3.size≤201:=by rw [hr3,ByteArray.size_append];show 1+_≤_;omega
 have z10:r10.size≤217:=by rw [hr10,ByteArray.size_append];omega
 have z11:r11.size≤418:=by
  rw [hr11]
  cases d.Second != 0
  ·show r10.size≤_;omega
  ·show (r10++r3).size≤_;rw [ByteArray.size_append];omega
 have z12:r12.size≤419:=by
  rw [hr12]
  cases d.Sub
  ·show r11.size≤_;omega
  ·show (r11++_).size≤_;rw [ByteArray.size_append];show _+1≤_;omega
 have one :∀ c:UInt8,(ByteArray.mk #[c]).size=1:=fun _=>rfl
 have hL :(500:Nat)≤aP:=by decide
 have eA:r4=!nu d:=by rw [hr4];unfold nu;cases d.Fielder != 0 <;> cases d.Second != 0 <;> rfl
 have e7:r7=Cl d.How:=by rw [hr7,e1,hr6];rfl
 have w1:r9=BS d:=by rw [hr9,hr8,e7];rfl
 have w2:r10=Ha d:=by rw [hr10,w1,hr2];rfl
 have w3:r11=Ea d:=by rw [hr11,w2,hr3];unfold Ea;cases d.Second != 0 <;> rfl
 have w4:r12=Ee d:=by rw [hr12,w3];unfold Ee;cases d.Sub <;> rfl
 have e5 :(d.How==0&&(d.Victim==0&&!nu d))=r5:=by rw [hr5,eA];cases d.How==0 <;> cases d.Victim==0 <;> rfl
 refine ⟨fun h=>?_,fun h=>⟨⟨h0,by omega,by omega⟩,by rw [one];omega,by omega,fun a=>?_,fun a=>⟨hf,by rw [one];omega,by omega,⟨fun _=>⟨hs,by rw [one];omega,by omega,trivial⟩,fun _=>trivial⟩,fun _=>⟨⟨fun _=>⟨by rw [one];omega,trivial⟩,fun _=>trivial⟩,fun _=>⟨by rw [one];omega,?_⟩⟩⟩⟩⟩
 ·unfold pb;rw [e5,h];rfl
 ·have:nu d=false:=by rw [eA] at a;simpa using a
  unfold pb;rw [e5,h,this,w1];rfl
 ·have:nu d=true:=by rw [eA] at a;simpa using a
  unfold pb;rw [e5,h,this,w4];rfl
def Ap:FuncId×Ctr:=(153,af KE qD dn yq)
theorem Gh:CtrOK Tryz.prog KE 153 (af KE qD dn yq):=by
 refine aw (C:=ao [q9,vz] Tryz.f153) (al (.consU AJ rfl (.consU CI rfl .nil)) _) mixed (fn:=Tryz.f153) Tryz.func153 (by kernel_rfl) (by kernel_rfl) (by kernel_rfl) (by kernel_rfl) (by kernel_rfl) (by kernel_rfl) (Λ:=fun _ _=>none) ?_ ?_
 ·exact fun _ _ _ _ _ _ _ _ h=>by cases h
 ·rintro ⟨d,⟨⟩⟩ hw hn
  exact Dp d (hn _ List.mem_cons_self)
end Go.Proofs.YtffdpnmioidloaaGreatDoor
namespace Go.Proofs.YtffdpnmioidloaaGreatDoor
open Go Go.Mir
attribute [local irreducible] Go.Mir.DT.sat Go.Mir.evPat Go.Mir.RT.sat Go.Mir.evFn
abbrev LO:Pat:=bZ [.str,I]
def cb (b:Bool) (x y:ByteArray):ByteArray:=bif b then x else y
def GX (d:Delivery) (src:ByteArray):Bool:=decide (d.Runs>0) ||((src.toList ==(ByteArray.mk #[]).toList)&&(d.Boundary==0&&d.Typ != 2))
def prA (d:Delivery):ByteArray:=G6 d.Typ++jX d.Typ d.Source
def prB (d:Delivery):ByteArray:=cb (GX d (jX d.Typ d.Source)) (prA d++jH d.Runs) (prA d)
def prC (d:Delivery):ByteArray:=cb (d.Boundary==4) (prB d ++⟨#[70]⟩) (cb (d.Boundary==6) (prB d ++⟨#[83]⟩) (prB d))
def prD (d:Delivery):ByteArray:=cb (decide (d.Short>0)) (prC d ++(⟨#[45]⟩++jH d.Short)) (prC d)
def prE (d:Delivery):ByteArray:=cb d.Crossed (prD d ++⟨#[120]⟩) (prD d)
def prF (d:Delivery):ByteArray:=prE d++pb d
def prG (d:Delivery):ByteArray:=cb (decide (d.Sector>0)) (prF d ++(⟨#[64]⟩++jH d.Sector)) (prF d)
def prS (d:Delivery):ByteArray:=if b8 d != 0 then ⟨#[]⟩ else prG d
def DK:Den (tyP qD)→List Prop×Den (tyP LO):=fun x=>([],(prS x.1,b8 x.1,()))
theorem OQ {n:Nm} {x:n.T} (h:wfD (.nm n) x):wfD n.flds (n.to x):=by
 obtain ⟨S,w,cs,h⟩:=h
 cases h with
 | nm h=>exact ⟨_,_,_,h⟩
theorem OP {k:IntKind} {n:Int} (h:wfD (.int k) n):Mir.ok k n:=by
 obtain ⟨S,w,cs,h⟩:=h
 cases h with
 | int h=>exact h
theorem OO {d:Delivery} (h:wfD (.nm .Delivery) d):0≤d.How:=by
 have h1:wfD (.prod (.int .u8) (.prod (.int .u8) (.prod I (.prod I (.prod I (.prod .bool (.prod (.int .u8) (.prod I (.prod I (.prod I (.prod .bool (.prod I .unit)))))))))))) (d.Typ,d.Source,d.Runs,d.Short,d.Boundary,d.Crossed,d.How,d.Victim,d.Fielder,d.Second,d.Sub,d.Sector,()):=OQ h
 exact (OP (bf (aG (aG (aG (aG (aG (aG h1)))))))).1
theorem iD {d:Delivery} (h:b8 d=0) :(1≤d.Typ∧d.Typ≤3)∧d.Source≤3∧d.How≤10∧(0≤d.Fielder∧d.Fielder≤11)∧(0≤d.Second∧d.Second≤11):=by
 unfold b8 at h
 split at h
 ·cases h
 ·rename_i h1
  split at h
  ·cases h
  ·rename_i h2
   simp [inW] at h1 h2
   omega
theorem G0 (t s:Int) :(jX t s).size≤1:=by
 unfold jX
 repeat' split
 all_goals exact Nat.le_of_ble_eq_true rfl
theorem G7 (t:Int) :(G6 t).size≤1:=by
 unfold G6
 repeat' split
 all_goals exact Nat.le_of_ble_eq_true rfl
theorem mq (n:Int) :(jH n).size≤4:=O7 _
theorem Kp {d:Delivery} (h:HC d) :(pb d).size≤500:=by
 obtain ⟨⟨h0,h1⟩,hf,hs⟩:=h
 have one :∀ c:UInt8,(ByteArray.mk #[c]).size=1:=fun _=>rfl
 have zh :(Cl d.How).size≤11:=by
  have:lets.size=11:=rfl
  unfold Cl;rw [ByteArray.size_extract];omega
 have zd:=mq d.Victim
 have zf:=KC hf
 have zs:=KC hs
 have z1 :(BS d).size≤16:=by unfold BS;rw [ByteArray.size_append,ByteArray.size_append,one];omega
 have z2 :(Ha d).size≤217:=by unfold Ha;rw [ByteArray.size_append,ByteArray.size_append,one];omega
 have z3 :(Ea d).size≤418:=by
  unfold Ea
  split
  ·rw [ByteArray.size_append,ByteArray.size_append,one];omega
  ·omega
 have z4 :(Ee d).size≤419:=by
  unfold Ee
  split
  ·rw [ByteArray.size_append,one];omega
  ·omega
 unfold pb
 split
 ·exact Nat.zero_le _
 ·split
  ·rw [ByteArray.size_append,one];omega
  ·omega
theorem oc {b:Bool} {x y:ByteArray} {n:Nat} (hx:x.size≤n) (hy:y.size≤n) :(cb b x y).size≤n:=by cases b <;> assumption
theorem GS (d:Delivery) (hp:0≤d.How) :(evPat (ao [jn,Ao,q9,Ap] Tryz.f87) (fun _=>none) Tryz.f87 qD LO (d,())).sat fun z_=>z_ =(DK (d,())).2:=by
 refine cast (by kernel_rfl) (?_:let r1:Int:=IntKind.u8.wrap (d.1 - (1:Int));let r2:Bool:=decide (d.4 >(0:Int));let r3:Bool:=decide (d.12 >(0:Int));let r4:ByteArray:=ByteArray.mk #[45]++jH d.4;let r5:ByteArray:=ByteArray.mk #[64]++jH d.12;let r6:List ByteArray:= [ByteArray.mk #[],ByteArray.mk #[119],ByteArray.mk #[110]];let r7:ByteArray:=r6.getD r1.toNat (dflt Ty.str);let r8:Bool:=bif decide (d.3 >(0:Int)) then true else bif (jX d.1 d.2).toList ==(ByteArray.mk #[]).toList then bif d.5 ==(0:Int) then d.1 !=(2:Int) else false else false;let r9:ByteArray:=r7++jX d.1 d.2;let r10:ByteArray:=bif r8 then r9++jH d.3 else r9;let r11:ByteArray:=bif d.5 ==(4:Int) then r10++ByteArray.mk #[70] else bif d.5 ==(6:Int) then r10++ByteArray.mk #[83] else r10;let r12:ByteArray:=bif r2 then r11++r4 else r11;let r13:ByteArray:=bif d.6 then r12++ByteArray.mk #[120] else r12;let r14:ByteArray:=r13++pb d;((b8 d !=(0:Int))=true→(ByteArray.mk #[],b8 d,()) =(prS d,b8 d,()))∧((b8 d !=(0:Int))=false→((0:Int)≤r1∧r1 <(↑r6.length:Int))∧r7.size +(jX d.1 d.2).size≤aP∧((r8=true→r9.size +(jH d.3).size≤aP∧True)∧(r8=false→True))∧(true=true→(((d.5 ==(4:Int))=true→r10.size +(ByteArray.mk #[70]).size≤aP∧True)∧((d.5 ==(4:Int))=false→((d.5 ==(6:Int))=true→r10.size +(ByteArray.mk #[83]).size≤aP∧True)∧((d.5 ==(6:Int))=false→True)))∧(true=true→((r2=true→(ByteArray.mk #[45]).size +(jH d.4).size≤aP∧r11.size+r4.size≤aP∧True)∧(r2=false→True))∧(true=true→((d.6=true→r12.size +(ByteArray.mk #[120]).size≤aP∧True)∧(d.6=false→True))∧(true=true→HC d∧r13.size +(pb d).size≤aP∧((r3=true→(ByteArray.mk #[64]).size +(jH d.12).size≤aP∧r14.size+r5.size≤aP∧True)∧(r3=false→True))∧(true=true→(bif r3 then r14++r5 else r14,(0:Int),()) =(prS d,b8 d,()))))))))
 intro r1 r2 r3 r4 r5 r6 r7 r8 r9 r10 r11 r12 r13 r14
 clear_value (hr1:r1=_) (hr2:r2=_) (hr3:r3=_) (hr4:r4=_) (hr5:r5=_) (hr6:r6=_) (hr7:r7=_) (hr8:r8=_) (hr9:r9=_) (hr10:r10=_) (hr11:r11=_) (hr12:r12=_) (hr13:r13=_) (hr14:r14=_)
 refine ⟨fun h=>by unfold prS;rw [if_pos h],fun h=>?_⟩
 have hF:b8 d=0:=by simpa using h
 obtain ⟨⟨t1,t3⟩,s3,ho,⟨f0,f1⟩,k0,k1⟩:=iD hF
 have hD:HC d:=⟨⟨hp,ho⟩,⟨f0,by omega⟩,⟨k0,by omega⟩⟩
 have e1:r1=d.Typ - 1:=by
  rw [hr1]
  simp only [IntKind.wrap,IntKind.bits,IntKind.signed]
  simp
  omega
 have e6:r6.length=3:=by rw [hr6];rfl
 have e7:r7=G6 d.Typ:=by
  rw [hr7,e1,hr6]
  rcases (by omega:d.Typ=1∨d.Typ=2∨d.Typ=3) with h|h|h <;> rw [h] <;> rfl
 have one :∀ c:UInt8,(ByteArray.mk #[c]).size=1:=fun _=>rfl
 have hL :(2000:Nat)≤aP:=by decide
 have zt:=G7 d.Typ
 have zs:=G0 d.Typ d.Source
 have zr:=mq d.Runs
 have zh:=mq d.Short
 have zx:=mq d.Sector
 have zw:=Kp hD
 have e9:r9=prA d:=by rw [hr9,e7];rfl
 have e8:r8=GX d (jX d.Typ d.Source):=by
  rw [hr8];unfold GX
  cases decide (d.Runs>0) <;> cases (jX d.Typ d.Source).toList ==(ByteArray.mk #[]).toList <;> cases d.Boundary==0 <;> rfl
 have e10:r10=prB d:=by rw [hr10,e8,e9];rfl
 have e11:r11=prC d:=by rw [hr11,e10];rfl
 have e12:r12=prD d:=by rw [hr12,e11,hr2,hr4];rfl
 have e13:r13=prE d:=by rw [hr13,e12];rfl
 have e14:r14=prF d:=by rw [hr14,e13];rfl
 have z4:r4.size≤5:=by rw [hr4,ByteArray.size_append,one];omega
 have z5:r5.size≤5:=by rw [hr5,ByteArray.size_append,one];omega
 have zA :(prA d).size≤2:=by unfold prA;rw [ByteArray.size_append];omega
 have zB :(prB d).size≤6:=oc (by rw [ByteArray.size_append];omega) (by omega)
 have zC :(prC d).size≤7:=oc (by rw [ByteArray.size_append,one];omega) (oc (by rw [ByteArray.size_append,one];omega) (by omega))
 have zD :(prD d).size≤12:=oc (by rw [ByteArray.size_append,ByteArray.size_append,one];omega) (by omega)
 have zE :(prE d).size≤13:=oc (by rw [ByteArray.size_append,one];omega) (by omega)
 have zF :(prF d).size≤513:=by unfold prF;rw [ByteArray.size_append];omega
 have eS:prS d=prG d:=by unfold prS;rw [hF];rfl
 rw [e7,e9,e10,e11,e12,e13,e14,eS,hF]
 refine ⟨⟨by omega,by omega⟩,by omega,⟨fun _=>⟨by omega,trivial⟩,fun _=>trivial⟩,fun _=>⟨⟨fun _=>⟨by rw [one];omega,trivial⟩,fun _=>⟨fun _=>⟨by rw [one];omega,trivial⟩,fun _=>trivial⟩⟩,fun _=>⟨⟨fun _=>⟨by rw [one];omega,by omega,trivial⟩,fun _=>trivial⟩,fun _=>⟨⟨fun _=>⟨by rw [one];omega,trivial⟩,fun _=>trivial⟩,fun _=>⟨hD,by omega,⟨fun _=>⟨by rw [one];omega,by omega,trivial⟩,fun _=>trivial⟩,fun _=>?_⟩⟩⟩⟩⟩
 rw [hr3,hr5];rfl
def oE:FuncId×Ctr:=(87,af KE qD LO DK)
theorem sZ:CtrOK Tryz.prog KE 87 (af KE qD LO DK):=by
 refine aw (C:=ao [jn,Ao,q9,Ap] Tryz.f87) (al (.consU oU rfl (.consU Gg rfl (.consU AJ rfl (.consU Gh rfl .nil)))) _) mixed (fn:=Tryz.f87) Tryz.func87 (by kernel_rfl) (by kernel_rfl) (by kernel_rfl) (by kernel_rfl) (by kernel_rfl) (by kernel_rfl) (Λ:=fun _ _=>none) ?_ ?_
 ·exact fun _ _ _ _ _ _ _ _ h=>by cases h
 ·rintro ⟨d,⟨⟩⟩ hw hn
  exact GS d (OO (bf hw))
end Go.Proofs.YtffdpnmioidloaaGreatDoor
namespace Go.Proofs.YtffdpnmioidloaaGreatDoor
open Go Go.Mir
def ia (p:Delivered):Row:={ Innings:=p.Innings,Over:=p.Over,Ball:=p.Ball,Bowler:=p.Bowler,Striker:=p.Striker,Partner:=p.Partner,Symbol:=prS p.Delivery,Total:=p.Runs,Wickets:=p.Wickets }
def wrF:List Delivered→List Row→Sum (Int×Unit) (List Row×Unit)
 | [],o=> .inr (o,())
 | p::l,o=>if b8 p.Delivery != 0 then .inl (b8 p.Delivery,()) else wrF l (o++[ia p])
def Qj (x:Sum (Int×Unit) (List Row×Unit)):List Row×Int:=match x with | .inl z=>([],z.1) | .inr y=>(y.1,0)
def dd (r:Rules) (l:List Mir.Event):List Row×Int:=if bR r l != 0 then ([],bR r l) else Qj (wrF (aN r l).1 [])
def zi (r:Rules) (l:List Mir.Event):List Row×Int:=if bR r l != 0 then ([],bR r l) else ((aN r l).1.map ia,0)
theorem wb :∀ (l:List Mir.Event) (m:Match) (i:Int) (o:List Delivered),(o.length:Int)≤i→i≤4000→(gF m l i o).1.length≤4000
 | [],_,i,o,h,h1=>by show o.length≤4000;omega
 | e::l,m,i,o,h,h1=>by
  unfold gF
  cases hc:jO m i e != 0 with
  | true=>rw [if_pos rfl];show o.length≤4000;omega
  | false=>
   rw [if_neg Bool.false_ne_true]
   have:=(xB hc).1
   refine wb l _ _ _ ?_ (by omega)
   unfold uk
   split
   ·rw [List.length_append,List.length_singleton];omega
   ·omega
theorem vZ (r:Rules) (l:List Mir.Event) :(aN r l).1.length≤4000:=by
 unfold aN
 split
 ·exact Nat.zero_le _
 ·exact wb l _ _ _ (Int.le_refl _) (by decide)
theorem Ek {e:Mir.Event} (h:bB e=0) (hk:e.Kind=4):b8 e.Ball=0:=by
 have hb:rv e.Kind=true:=by rw [hk];rfl
 unfold bB at h
 split at h
 ·exact absurd h (by decide)
 ·split at h
  ·exact absurd h (by decide)
  ·split at h
   ·exact absurd h (by decide)
   ·first|exact h |(rw [if_pos hb] at h;exact h)
theorem wa :∀ (l:List Mir.Event) (m:Match) (i:Int) (o:List Delivered),(∀ p∈o,b8 p.Delivery=0)→∀ p∈(gF m l i o).1,b8 p.Delivery=0
 | [],_,_,_,h=>h
 | e::l,m,i,o,h=>by
  unfold gF
  cases hc:jO m i e != 0 with
  | true=>rw [if_pos rfl];exact h
  | false=>
   rw [if_neg Bool.false_ne_true]
   refine wa l _ _ _ ?_
   unfold uk
   split
   ·rename_i hk
    have hs:=(xB hc).2
    intro p hp
    rcases List.mem_append.1 hp with hp|hp
    ·exact h p hp
    ·rw [List.mem_singleton.1 hp]
     exact Ek (gd hs).2.1 (by simpa using hk)
   ·exact h
theorem tp (r:Rules) (l:List Mir.Event) :∀ p∈(aN r l).1,b8 p.Delivery=0:=by
 unfold aN
 split
 ·intro p hp;cases hp
 ·exact wa l _ _ _ fun p hp=>by cases hp
theorem zg :∀ (l:List Delivered) (o:List Row),(∀ p∈l,b8 p.Delivery=0)→wrF l o = .inr (o++l.map ia,())
 | [],o,_=>by show Sum.inr (o,())=_;rw [List.map_nil,List.append_nil]
 | p::l,o,h=>by
  have hp:=h p List.mem_cons_self
  unfold wrF
  rw [hp]
  show wrF l (o++[ia p])=_
  rw [zg l _ fun q hq=>h q (List.mem_cons_of_mem _ hq),List.map_cons,List.append_assoc]
  rfl
theorem BT (r:Rules) (l:List Mir.Event):dd r l=zi r l:=by
 unfold dd zi
 rw [zg _ _ (tp r l)]
 rfl
end Go.Proofs.YtffdpnmioidloaaGreatDoor
namespace Go.Proofs.YtffdpnmioidloaaGreatDoor
open Go Go.Mir
attribute [local irreducible] Go.Mir.DT.sat Go.Mir.evPat Go.Mir.RT.sat Go.Mir.evFn
theorem fO {a b:ByteArray} (h:a.data.toList=b.data.toList):a=b:=ByteArray.ext (Array.toList_inj.1 h)
theorem Fz (a:ByteArray):a++ByteArray.mk #[]=a:=fO (by simp [ByteArray.data_append])
theorem KD {n:Int} (h0:0≤n) (h1:n≤9):jH n=gy n:=by
 have key :((List.range 10).all fun k=>(jH (k:Int)).data.toList ==(gy (k:Int)).data.toList)=true:=by kernel_rfl
 have:=List.all_eq_true.1 key n.toNat (List.mem_range.2 (by omega))
 rw [show ((n.toNat:Nat):Int)=n from by omega] at this
 exact fO (eq_of_beq this)
theorem fS {d:Delivery} (h:b8 d=0) :(0≤d.Runs∧d.Runs≤7)∧(0≤d.Short∧d.Short≤7)∧(0≤d.Victim∧d.Victim≤2)∧(0≤d.Sector∧d.Sector≤8):=by
 unfold b8 at h
 split at h
 ·cases h
 ·rename_i h1
  split at h
  ·cases h
  ·rename_i h2
   simp [inW] at h1 h2
   omega
end Go.Proofs.YtffdpnmioidloaaGreatDoor
namespace Go.Proofs.YtffdpnmioidloaaGreatDoor
open Go Go.Mir
attribute [local irreducible] Go.Mir.DT.sat Go.Mir.evPat Go.Mir.RT.sat Go.Mir.evFn
def hd (s:ByteArray):Int:=((s.data.getD 0 0).toNat:Int)
def emp (s:ByteArray):Bool:=s.toList ==(ByteArray.mk #[]).toList
def tl (s:ByteArray):ByteArray:=s.extract 1 s.size
def tkB (s:ByteArray) (c:Int):Bool:=!emp s&&hd s==c
def tkR (s:ByteArray) (c:Int):ByteArray:=if tkB s c then tl s else s
def fJ (s:ByteArray):Bool:=!emp s&&(decide (hd s≥48)&&decide (hd s≤57))
def dgV (s:ByteArray):Int:=if fJ s then hd s - 48 else 0
def dgR (s:ByteArray):ByteArray:=if fJ s then tl s else s
def nmV (s:ByteArray):Int:=if fJ (dgR s) then 10*dgV s+dgV (dgR s) else dgV s
def nmR (s:ByteArray):ByteArray:=if fJ (dgR s) then dgR (dgR s) else dgR s
def soV (t:Int) (s:ByteArray):Int:=if tkB s 98 then 2 else if tkB s 108 then 3 else if t==2&&tkB s 111 then 1 else if t==2 then 0 else if tkB s 46 then 0 else 1
def soR (t:Int) (s:ByteArray):ByteArray:=if tkB s 98 then tl s else if tkB s 108 then tl s else if t==2&&tkB s 111 then tl s else if t==2 then s else tkR s 46
abbrev HL:List (Nat×PB):= [(0,.cells [.h .str])]
abbrev qTk:Pat:=⟨[(0,.c (.ptr 0 0)),(1,.h U8)],HL,1⟩
abbrev LP:Pat:=⟨[(0,.h .bool)],HL,1⟩
abbrev qRd:Pat:=⟨[(0,.c (.ptr 0 0))],HL,1⟩
abbrev qt:Pat:=⟨[(0,.h I)],HL,1⟩
abbrev Fi:Pat:=⟨[(0,.h U8)],HL,1⟩
def DR:Den (tyP qTk)→List Prop×Den (tyP LP):=fun x=>([],(tkB x.2.1 x.1,tkR x.2.1 x.1,()))
def DL:Den (tyP qRd)→List Prop×Den (tyP qt):=fun x=>([],(dgV x.1,dgR x.1,()))
def DM:Den (tyP qRd)→List Prop×Den (tyP qt):=fun x=>([],(nmV x.1,nmR x.1,()))
def DN:Den (tyP qTk)→List Prop×Den (tyP Fi):=fun x=>([],(soV x.1 x.2.1,soR x.1 x.2.1,()))
theorem lA {s:ByteArray} (h:emp s=false):1≤s.size:=by
 rcases Nat.eq_zero_or_pos s.size with hz|hz
 ·have hl:s.data.toList =(ByteArray.mk #[]).data.toList:=by
   have:s.data.toList.length=0:=by simpa using hz
   rw [List.eq_nil_of_length_eq_zero this]
  have:emp s=true:=bytes_eq_iff.2 hl
  rw [h] at this;cases this
 ·exact hz
theorem HJ (s:ByteArray):0≤hd s∧hd s≤255:=by
 unfold hd
 have:=(s.data.getD 0 0).toNat_lt
 omega
theorem OH {s:ByteArray} {c:Int} (h:emp s=true):tkB s c=false:=by unfold tkB;rw [h];rfl
theorem eY {s:ByteArray} {c:Int} (h:tkB s c=false):tkR s c=s:=by unfold tkR;rw [h];rfl
theorem cI {s:ByteArray} {c:Int} (h:tkB s c=true):tkR s c=tl s:=by unfold tkR;rw [h];rfl
theorem GT (c:Int) (s:ByteArray) :(evPat (ao [] Tryz.f116) (fun _=>none) Tryz.f116 qTk LP (c,s,())).sat fun z_=>z_ =(DR (c,s,())).2:=by
 refine cast (by kernel_rfl) (?_:let r1:Bool:=s.toList ==(ByteArray.mk #[]).toList;let r2:Bool:=bif r1 then true else (↑(s.1.getD (Int.toNat (0:Int)) (0:UInt8)).toNat:Int) != c;((r1=true→True)∧(r1=false→((0:Int)≤(0:Int)∧(0:Int) <(↑s.size:Int))∧True))∧(true=true→(r2=true→(false,s,()) =(tkB s c,tkR s c,()))∧(r2=false→((0:Int)≤(1:Int)∧(1:Int)≤(↑s.size:Int)∧(↑s.size:Int)≤(↑s.size:Int))∧(true,s.extract (Int.toNat (1:Int)) (↑s.size:Int).toNat,()) =(tkB s c,tkR s c,()))))
 intro r1 r2
 clear_value (hr1:r1=_) (hr2:r2=_)
 have e1:r1=emp s:=hr1
 have e2:r2=!tkB s c:=by rw [hr2,e1];unfold tkB;show (bif emp s then true else hd s != c)=_;cases emp s <;> simp [bne]
 have hz:r1=false→1≤s.size:=fun h=>lA (by rw [←e1];exact h)
 refine ⟨⟨fun _=>trivial,fun h=>⟨⟨Int.le_refl _,by have:=hz h;omega⟩,trivial⟩⟩,fun _=>⟨fun h=>?_,fun h=>?_⟩⟩
 ·have hb:tkB s c=false:=by rw [e2] at h;simpa using h
  rw [hb,eY hb]
 ·have hb:tkB s c=true:=by rw [e2] at h;simpa using h
  have h1:r1=false:=by rw [e1];cases he:emp s with|false=>rfl|true=>rw [OH he] at hb;cases hb
  have:=hz h1
  rw [hb,cI hb]
  exact ⟨⟨by decide,by omega,Int.le_refl _⟩,rfl⟩
def mE:FuncId×Ctr:=(116,af KE qTk LP DR)
theorem s8:CtrOK Tryz.prog KE 116 (af KE qTk LP DR):=by
 refine aw (C:=ao [] Tryz.f116) (al (CtrsOK.nil) _) mixed (fn:=Tryz.f116) Tryz.func116 (by kernel_rfl) (by kernel_rfl) (by kernel_rfl) (by kernel_rfl) (by kernel_rfl) (by kernel_rfl) (Λ:=fun _ _=>none) ?_ ?_
 ·exact fun _ _ _ _ _ _ _ _ h=>by cases h
 ·rintro ⟨c,s,⟨⟩⟩ hw hn
  exact GT c s
theorem Dq (s:ByteArray) :(evPat (ao [] Tryz.f118) (fun _=>none) Tryz.f118 qRd qt (s,())).sat fun z_=>z_ =(DL (s,())).2:=by
 refine cast (by kernel_rfl) (?_:let r1:Bool:=s.toList ==(ByteArray.mk #[]).toList;let r2:Int:=(↑(s.1.getD (Int.toNat (0:Int)) (0:UInt8)).toNat:Int);let r3:Bool:=decide (r2 <(48:Int));let r4:Bool:=bif r1 then true else bif r3 then true else decide (r2 >(57:Int));((r1=true→True)∧(r1=false→((0:Int)≤(0:Int)∧(0:Int) <(↑s.size:Int))∧(r3=true→True)∧(r3=false→((0:Int)≤(0:Int)∧(0:Int) <(↑s.size:Int))∧True)))∧(true=true→(r4=true→((0:Int),s,()) =(dgV s,dgR s,()))∧(r4=false→((0:Int)≤(0:Int)∧(0:Int) <(↑s.size:Int))∧((0:Int)≤(1:Int)∧(1:Int)≤(↑s.size:Int)∧(↑s.size:Int)≤(↑s.size:Int))∧(IntKind.i64.wrap (IntKind.u8.wrap (r2 - (48:Int))),s.extract (Int.toNat (1:Int)) (↑s.size:Int).toNat,()) =(dgV s,dgR s,()))))
 intro r1 r2 r3 r4
 clear_value (hr1:r1=_) (hr2:r2=_) (hr3:r3=_) (hr4:r4=_)
 have e1:r1=emp s:=hr1
 have e2:r2=hd s:=hr2
 have hr:=HJ s
 have e4:r4=!fJ s:=by
  rw [hr4,hr3,e1,e2];unfold fJ
  by_cases h1:hd s<48
  ·rw [decide_eq_true h1,decide_eq_false (show ¬ hd s≥48 by omega)];cases emp s <;> rfl
  ·rw [decide_eq_false h1,decide_eq_true (show hd s≥48 by omega)]
   by_cases h2:hd s≤57
   ·rw [decide_eq_true h2,decide_eq_false (show ¬ hd s>57 by omega)];cases emp s <;> rfl
   ·rw [decide_eq_false h2,decide_eq_true (show hd s>57 by omega)];cases emp s <;> rfl
 have hz:r1=false→1≤s.size:=fun h=>lA (by rw [←e1];exact h)
 refine ⟨⟨fun _=>trivial,fun h=>⟨⟨Int.le_refl _,by have:=hz h;omega⟩,fun _=>trivial,fun _=>⟨⟨Int.le_refl _,by have:=hz h;omega⟩,trivial⟩⟩⟩,fun _=>⟨fun h=>?_,fun h=>?_⟩⟩
 ·have hb:fJ s=false:=by rw [e4] at h;simpa using h
  unfold dgV dgR;rw [hb];rfl
 ·have hb:fJ s=true:=by rw [e4] at h;simpa using h
  have hb':=hb
  unfold fJ at hb'
  simp only [Bool.and_eq_true,Bool.not_eq_true',decide_eq_true_eq] at hb'
  have h1:r1=false:=by rw [e1];exact hb'.1
  have:=hz h1
  have ew:IntKind.i64.wrap (IntKind.u8.wrap (r2 - 48))=hd s - 48:=by
   rw [e2]
   have:IntKind.u8.wrap (hd s - 48)=hd s - 48:=by
    simp only [IntKind.wrap,IntKind.bits,IntKind.signed]
    simp
    omega
   rw [this]
   exact bb (by omega) (by omega)
  rw [ew]
  refine ⟨⟨Int.le_refl _,by omega⟩,⟨by decide,by omega,Int.le_refl _⟩,?_⟩
  unfold dgV dgR;rw [hb];rfl
def jN:FuncId×Ctr:=(118,af KE qRd qt DL)
theorem pI:CtrOK Tryz.prog KE 118 (af KE qRd qt DL):=by
 refine aw (C:=ao [] Tryz.f118) (al (CtrsOK.nil) _) mixed (fn:=Tryz.f118) Tryz.func118 (by kernel_rfl) (by kernel_rfl) (by kernel_rfl) (by kernel_rfl) (by kernel_rfl) (by kernel_rfl) (Λ:=fun _ _=>none) ?_ ?_
 ·exact fun _ _ _ _ _ _ _ _ h=>by cases h
 ·rintro ⟨s,⟨⟩⟩ hw hn
  exact Dq s
theorem Bz (s:ByteArray) :(evPat (ao [jN] Tryz.f175) (fun _=>none) Tryz.f175 qRd qt (s,())).sat fun z_=>z_ =(DM (s,())).2:=by
 refine cast (by kernel_rfl) (?_:let r1:Bool:=!(dgR s).toList ==(ByteArray.mk #[]).toList;let r2:Int:=(↑((dgR s).1.getD (Int.toNat (0:Int)) (0:UInt8)).toNat:Int);let r3:Bool:=decide (r2≥(48:Int));let r4:Bool:=bif r1 then bif r3 then decide (r2≤(57:Int)) else false else false;(((r1=true→((0:Int)≤(0:Int)∧(0:Int) <(↑(dgR s).size:Int))∧(r3=true→((0:Int)≤(0:Int)∧(0:Int) <(↑(dgR s).size:Int))∧True)∧(r3=false→True))∧(r1=false→True))∧(true=true→(r4=true→True)∧(r4=false→True)))∧(true=true→(bif r4 then IntKind.i64.wrap (IntKind.i64.wrap ((10:Int)*dgV s)+dgV (dgR s)) else dgV s,bif r4 then dgR (dgR s) else dgR s,()) =(nmV s,nmR s,())))
 intro r1 r2 r3 r4
 clear_value (hr1:r1=_) (hr2:r2=_) (hr3:r3=_) (hr4:r4=_)
 have e1:r1=!emp (dgR s):=hr1
 have e2:r2=hd (dgR s):=hr2
 have hz:r1=true→1≤(dgR s).size:=fun h=>lA (by rw [e1] at h;simpa using h)
 have e4:r4=fJ (dgR s):=by
  rw [hr4,hr3,e1,e2];unfold fJ
  cases emp (dgR s) <;> cases decide (hd (dgR s)≥48) <;> rfl
 have hv :∀ z:ByteArray,0≤dgV z∧dgV z≤9:=fun z=>by
  unfold dgV
  split
  ·rename_i h
   unfold fJ at h
   simp only [Bool.and_eq_true,Bool.not_eq_true',decide_eq_true_eq] at h
   omega
  ·omega
 have a:=hv s
 have b:=hv (dgR s)
 have ew:IntKind.i64.wrap (IntKind.i64.wrap (10*dgV s)+dgV (dgR s))=10*dgV s+dgV (dgR s):=by
  rw [show IntKind.i64.wrap (10*dgV s)=10*dgV s from bb (by omega) (by omega)]
  exact bb (by omega) (by omega)
 refine ⟨⟨⟨fun h=>⟨⟨Int.le_refl _,by have:=hz h;omega⟩,fun _=>⟨⟨Int.le_refl _,by have:=hz h;omega⟩,trivial⟩,fun _=>trivial⟩,fun _=>trivial⟩,fun _=>⟨fun _=>trivial,fun _=>trivial⟩⟩,fun _=>?_⟩
 rw [ew,e4]
 unfold nmV nmR
 cases fJ (dgR s) <;> rfl
def vD:FuncId×Ctr:=(175,af KE qRd qt DM)
theorem CN:CtrOK Tryz.prog KE 175 (af KE qRd qt DM):=by
 refine aw (C:=ao [jN] Tryz.f175) (al (.consU pI rfl .nil) _) mixed (fn:=Tryz.f175) Tryz.func175 (by kernel_rfl) (by kernel_rfl) (by kernel_rfl) (by kernel_rfl) (by kernel_rfl) (by kernel_rfl) (Λ:=fun _ _=>none) ?_ ?_
 ·exact fun _ _ _ _ _ _ _ _ h=>by cases h
 ·rintro ⟨s,⟨⟩⟩ hw hn
  exact Bz s
theorem BA (t:Int) (s:ByteArray) :(evPat (ao [mE] Tryz.f117) (fun _=>none) Tryz.f117 qTk Fi (t,s,())).sat fun z_=>z_ =(DN (t,s,())).2:=by
 refine cast (by kernel_rfl) (?_:let r1:Bool:=bif t ==(2:Int) then tkB (tkR (tkR s (98:Int)) (108:Int)) (111:Int) else false;let r2:ByteArray:=bif t ==(2:Int) then tkR (tkR (tkR s (98:Int)) (108:Int)) (111:Int) else tkR (tkR s (98:Int)) (108:Int);let r3:Bool:=tkB r2 (46:Int);(tkB s (98:Int)=true→((2:Int),tkR s (98:Int),()) =(soV t s,soR t s,()))∧(tkB s (98:Int)=false→(tkB (tkR s (98:Int)) (108:Int)=true→((3:Int),tkR (tkR s (98:Int)) (108:Int),()) =(soV t s,soR t s,()))∧(tkB (tkR s (98:Int)) (108:Int)=false→(r1=true→((1:Int),r2,()) =(soV t s,soR t s,()))∧(r1=false→((t ==(2:Int))=true→((0:Int),r2,()) =(soV t s,soR t s,()))∧((t ==(2:Int))=false→(r3=true→((0:Int),tkR r2 (46:Int),()) =(soV t s,soR t s,()))∧(r3=false→((1:Int),tkR r2 (46:Int),()) =(soV t s,soR t s,())))))))
 intro r1 r2 r3
 clear_value (hr1:r1=_) (hr2:r2=_) (hr3:r3=_)
 unfold soV soR
 cases hb:tkB s 98 with
 | true=>exact ⟨fun _=>(by rw [cI hb];rfl),fun h=>(by cases h)⟩
 | false=>
  rw [eY hb] at hr1 hr2 ⊢
  refine ⟨fun h=>(by cases h),fun _=>?_⟩
  cases hl:tkB s 108 with
  | true=>exact ⟨fun _=>(by rw [cI hl];rfl),fun h=>(by cases h)⟩
  | false=>
   rw [eY hl] at hr1 hr2 ⊢
   refine ⟨fun h=>(by cases h),fun _=>?_⟩
   cases ht:t==2 with
   | false=>
    rw [ht] at hr1 hr2
    have e1:r1=false:=hr1
    have e2:r2=s:=hr2
    rw [e1,hr3,e2]
    refine ⟨fun h=>(by cases h),fun _=>⟨fun h=>(by cases h),fun _=>⟨fun h=>?_,fun h=>?_⟩⟩⟩
    ·rw [h];rfl
    ·rw [h];rfl
   | true=>
    rw [ht] at hr1 hr2
    have e1:r1=tkB s 111:=hr1
    have e2:r2=tkR s 111:=hr2
    rw [e1,e2]
    refine ⟨fun h=>?_,fun h=>⟨fun _=>?_,fun h=>(by cases h)⟩⟩
    ·rw [h,cI h];rfl
    ·rw [h,eY h];rfl
def vE:FuncId×Ctr:=(117,af KE qTk Fi DN)
theorem CO:CtrOK Tryz.prog KE 117 (af KE qTk Fi DN):=by
 refine aw (C:=ao [mE] Tryz.f117) (al (.consU s8 rfl .nil) _) mixed (fn:=Tryz.f117) Tryz.func117 (by kernel_rfl) (by kernel_rfl) (by kernel_rfl) (by kernel_rfl) (by kernel_rfl) (by kernel_rfl) (Λ:=fun _ _=>none) ?_ ?_
 ·exact fun _ _ _ _ _ _ _ _ h=>by cases h
 ·rintro ⟨t,s,⟨⟩⟩ hw hn
  exact BA t s
end Go.Proofs.YtffdpnmioidloaaGreatDoor
namespace Go.Proofs.YtffdpnmioidloaaGreatDoor
open Go Go.Mir
attribute [local irreducible] Go.Mir.DT.sat Go.Mir.evPat Go.Mir.RT.sat Go.Mir.evFn
abbrev Pd:List (Nat×PB):= [(0,.cells [.h .str]),(1,.dat (.nm .Delivery))]
abbrev qWk:Pat:=⟨[(0,.c (.ptr 0 0)),(1,.c (.ptr 1 0))],Pd,2⟩
abbrev LQ:Pat:=⟨[],Pd,2⟩
def mxI (x:Int):Int:=if (0:Int)>x then 0 else x
def hwV (s:ByteArray):Int:=IntKind.u8.wrap (mxI (ixW lets (hd s)))
def wk1 (s:ByteArray):ByteArray:=tkR s 47
def ze (s:ByteArray):Bool:=tkB s 47&&!emp (wk1 s)
def wk2 (s:ByteArray):ByteArray:=tl (wk1 s)
def wk3 (s:ByteArray):ByteArray:=dgR (wk2 s)
def wk4 (s:ByteArray):ByteArray:=tkR (wk3 s) 40
def wk5 (s:ByteArray):ByteArray:=nmR (wk4 s)
def wk6 (s:ByteArray):ByteArray:=if tkB (wk5 s) 44 then nmR (tl (wk5 s)) else wk5 s
def wk7 (s:ByteArray):ByteArray:=tkR (wk6 s) 115
def Mz (d:Delivery) (s:ByteArray):Delivery:={ d with How:=hwV (wk1 s),Victim:=dgV (wk2 s) }
def OT (d:Delivery) (s:ByteArray):Delivery:={ Mz d s with Fielder:=nmV (wk4 s),Second:=if tkB (wk5 s) 44 then nmV (tl (wk5 s)) else d.Second,Sub:=tkB (wk6 s) 115 }
def wkD (d:Delivery) (s:ByteArray):Delivery:=if !ze s then d else if !tkB (wk3 s) 40 then Mz d s else OT d s
def wkR (s:ByteArray):ByteArray:=if !ze s then wk1 s else if !tkB (wk3 s) 40 then wk3 s else tkR (wk7 s) 41
def DP:Den (tyP qWk)→List Prop×Den (tyP LQ):=fun x=>([],(wkR x.1,wkD x.2.1 x.1,()))
abbrev Md:Pat:=bZ [.str]
abbrev LM:Pat:=bZ [.nm .Delivery,I]
def paT (s:ByteArray):Int:=if tkB s 119 then 2 else if tkB s 110 then 3 else 1
def pa1 (s:ByteArray):ByteArray:=if tkB s 119 then tl s else tkR s 110
def pa2 (s:ByteArray):ByteArray:=soR (paT s) (pa1 s)
def pa3 (s:ByteArray):ByteArray:=dgR (pa2 s)
def pa4 (s:ByteArray):ByteArray:=if tkB (pa3 s) 70 then tl (pa3 s) else tkR (pa3 s) 83
def pa5 (s:ByteArray):ByteArray:=if tkB (pa4 s) 45 then dgR (tl (pa4 s)) else pa4 s
def pa6 (s:ByteArray):ByteArray:=tkR (pa5 s) 120
def paD (s:ByteArray):Delivery:={ Typ:=paT s,Source:=soV (paT s) (pa1 s),Runs:=dgV (pa2 s),Short:=if tkB (pa4 s) 45 then dgV (tl (pa4 s)) else 0,Boundary:=if tkB (pa3 s) 70 then 4 else if tkB (pa3 s) 83 then 6 else 0,Crossed:=tkB (pa5 s) 120,How:=0,Victim:=0,Fielder:=0,Second:=0,Sub:=false,Sector:=0 }
def paW (s:ByteArray):Delivery:=wkD (paD s) (pa6 s)
def pa7 (s:ByteArray):ByteArray:=wkR (pa6 s)
def AQ (s:ByteArray):Delivery:={ paW s with Sector:=if tkB (pa7 s) 64 then dgV (tl (pa7 s)) else (paW s).Sector }
def vW (s:ByteArray):Bool:=b8 (AQ s) != 0||!((prS (AQ s)).toList==s.toList)
def fX (s:ByteArray):Delivery:=if vW s then Delivery.zero else AQ s
def pJ (s:ByteArray):Int:=if vW s then 4 else 0
def DG:Den (tyP Md)→List Prop×Den (tyP LM):=fun x=>([],(fX x.1,pJ x.1,()))
theorem BB (s:ByteArray) (d:Delivery) :(evPat (ao [mE,jN,vD,kx] Tryz.f119) (fun _=>none) Tryz.f119 qWk LQ (s,d,())).sat fun z_=>z_ =(DP (s,d,())).2:=by
 refine cast (by kernel_rfl) (?_:let r1:ByteArray:=bif !tkB s (47:Int) then tkR s (47:Int) else tkR s (47:Int);let r2:Int:=(↑r1.size:Int);let r3:Bool:=bif !tkB s (47:Int) then true else (tkR s (47:Int)).toList ==(ByteArray.mk #[]).toList;let r4:ByteArray:=r1.extract (Int.toNat (1:Int)) r2.toNat;let r5:ByteArray:=dgR r4;let r6:Int:=dgV r4;let r7:ByteArray:=tkR r5 (40:Int);let r8:Bool:=!tkB r5 (40:Int);let r9:ByteArray:=nmR r7;let r10:Int:=nmV r7;let r11:Bool:=tkB r9 (44:Int);let r12:ByteArray:=tkR r9 (44:Int);let r13:Int:=ixW (ByteArray.mk #[78,66,67,76,83,72,82,84,79,77,81]) (↑(r1.1.getD (Int.toNat (0:Int)) (0:UInt8)).toNat:Int);let r14:ByteArray:=bif r11 then nmR r12 else r12;let r15:Int:=IntKind.u8.wrap (if (0:Int)>r13 then (0:Int) else r13);(r3=true→(r1,d,()) =(wkR s,wkD d s,()))∧(r3=false→((0:Int)≤(0:Int)∧(0:Int)<r2)∧((0:Int)≤(1:Int)∧(1:Int)≤r2∧r2≤r2)∧(r8=true→(r7,Delivery.mk d.1 d.2 d.3 d.4 d.5 d.6 r15 r6 d.9 d.10 d.11 d.12,()) =(wkR s,wkD d s,()))∧(r8=false→(tkR (tkR r14 (115:Int)) (41:Int),Delivery.mk (bif r11 then d.1 else d.1) (bif r11 then d.2 else d.2) (bif r11 then d.3 else d.3) (bif r11 then d.4 else d.4) (bif r11 then d.5 else d.5) (bif r11 then d.6 else d.6) (bif r11 then r15 else r15) (bif r11 then r6 else r6) (bif r11 then r10 else r10) (bif r11 then nmV r12 else d.10) (tkB r14 (115:Int)) (bif r11 then d.12 else d.12),()) =(wkR s,wkD d s,()))))
 intro r1 r2 r3 r4 r5 r6 r7 r8 r9 r10 r11 r12 r13 r14 r15
 clear_value (hr1:r1=_) (hr2:r2=_) (hr3:r3=_) (hr4:r4=_) (hr5:r5=_) (hr6:r6=_) (hr7:r7=_) (hr8:r8=_) (hr9:r9=_) (hr10:r10=_) (hr11:r11=_) (hr12:r12=_) (hr13:r13=_) (hr14:r14=_) (hr15:r15=_)
 have e1:r1=wk1 s:=by rw [hr1];cases tkB s 47 <;> rfl
 have e2:r2 =((wk1 s).size:Int):=by rw [hr2,e1]
 have e3:r3=!ze s:=by
  rw [hr3];unfold ze
  show (bif !tkB s 47 then true else emp (wk1 s))=_
  cases tkB s 47 <;> cases emp (wk1 s) <;> rfl
 have e4:r4=wk2 s:=by rw [hr4,e2,e1];rfl
 have e5:r5=wk3 s:=by rw [hr5,e4];rfl
 have e6:r6=dgV (wk2 s):=by rw [hr6,e4]
 have e7:r7=wk4 s:=by rw [hr7,e5];rfl
 have e8:r8=!tkB (wk3 s) 40:=by rw [hr8,e5]
 have e9:r9=wk5 s:=by rw [hr9,e7];rfl
 have e10:r10=nmV (wk4 s):=by rw [hr10,e7]
 have e11:r11=tkB (wk5 s) 44:=by rw [hr11,e9]
 have e12:r12=tkR (wk5 s) 44:=by rw [hr12,e9]
 have e15:r15=hwV (wk1 s):=by rw [hr15,hr13,e1];rfl
 have e14:r14=wk6 s:=by
  rw [hr14,e11,e12];unfold wk6
  cases h:tkB (wk5 s) 44 with
  | true=>rw [cI h];rfl
  | false=>rw [eY h];rfl
 have hz:r3=false→1≤(wk1 s).size:=fun h=>by
  rw [e3] at h
  unfold ze at h
  cases ha:tkB s 47 with
  | false=>rw [ha] at h;cases h
  | true=>rw [ha] at h;exact lA (by simpa using h)
 refine ⟨fun h=>?_,fun h=>⟨⟨Int.le_refl _,by have:=hz h;omega⟩,⟨by decide,by have:=hz h;omega,Int.le_refl _⟩,fun a=>?_,fun a=>?_⟩⟩
 ·rw [e3] at h
  unfold wkR wkD
  rw [h,e1];rfl
 ·rw [e3] at h
  rw [e8] at a
  have h40:tkB (wk3 s) 40=false:=by simpa using a
  unfold wkR wkD
  rw [h,a,e7,e15,e6]
  unfold wk4
  rw [eY h40];rfl
 ·rw [e3] at h
  rw [e8] at a
  have h40:tkB (wk3 s) 40=true:=by simpa using a
  unfold wkR wkD
  rw [h,a,e14,e15,e6,e10,e11,e12]
  have e13 :(bif tkB (wk5 s) 44 then nmV (tkR (wk5 s) 44) else d.Second)=if tkB (wk5 s) 44 then nmV (tl (wk5 s)) else d.Second:=by
   cases h:tkB (wk5 s) 44 with
   | true=>rw [cI h];rfl
   | false=>rfl
  rw [e13]
  simp only [Bool.cond_self]
  rfl
def vF:FuncId×Ctr:=(119,af KE qWk LQ DP)
theorem CP:CtrOK Tryz.prog KE 119 (af KE qWk LQ DP):=by
 refine aw (C:=ao [mE,jN,vD,kx] Tryz.f119) (al (.consU s8 rfl (.consU pI rfl (.consU CN rfl (.consU ql rfl .nil)))) _) mixed (fn:=Tryz.f119) Tryz.func119 (by kernel_rfl) (by kernel_rfl) (by kernel_rfl) (by kernel_rfl) (by kernel_rfl) (by kernel_rfl) (Λ:=fun _ _=>none) ?_ ?_
 ·exact fun _ _ _ _ _ _ _ _ h=>by cases h
 ·rintro ⟨s,d,⟨⟩⟩ hw hn
  exact BB s d
theorem GR (s:ByteArray) :(evPat (ao [mE,vE,jN,vF,oE] Tryz.f67) (fun _=>none) Tryz.f67 Md LM (s,())).sat fun z_=>z_ =(DG (s,())).2:=by
 refine cast (by kernel_rfl) (?_:let r1:Int:=bif tkB s (119:Int) then (2:Int) else bif tkB (tkR s (119:Int)) (110:Int) then (3:Int) else (1:Int);let r2:Int:=bif tkB s (119:Int) then (0:Int) else bif tkB (tkR s (119:Int)) (110:Int) then (0:Int) else (0:Int);let r3:ByteArray:=bif tkB s (119:Int) then tkR s (119:Int) else bif tkB (tkR s (119:Int)) (110:Int) then tkR (tkR s (119:Int)) (110:Int) else tkR (tkR s (119:Int)) (110:Int);let r4:ByteArray:=soR r1 r3;let r5:Int:=soV r1 r3;let r6:ByteArray:=dgR r4;let r7:Int:=dgV r4;let r8:Bool:=tkB r6 (70:Int);let r9:ByteArray:=tkR r6 (70:Int);let r10:Bool:=tkB r9 (83:Int);let r11:ByteArray:=tkR r9 (83:Int);let r12:Int:=bif r8 then (4:Int) else bif r10 then (6:Int) else r2;let r13:Int:=bif r8 then r1 else bif r10 then r1 else r1;let r14:Int:=bif r8 then r2 else bif r10 then r2 else r2;let r15:Int:=bif r8 then r5 else bif r10 then r5 else r5;let r16:Int:=bif r8 then r7 else bif r10 then r7 else r7;let r17:ByteArray:=bif r8 then r9 else bif r10 then r11 else r11;let r18:Bool:=tkB r17 (45:Int);let r19:ByteArray:=tkR r17 (45:Int);let r20:Int:=bif r18 then r14 else r14;let r21:ByteArray:=bif r18 then dgR r19 else r19;let r22:ByteArray:=tkR r21 (120:Int);let r23:ByteArray:=wkR r22;let r24:Bool:=tkB r23 (64:Int);let r25:Delivery:=wkD (Delivery.mk (bif r18 then r13 else r13) (bif r18 then r15 else r15) (bif r18 then r16 else r16) (bif r18 then dgV r19 else r14) (bif r18 then r12 else r12) (tkB r21 (120:Int)) r20 r20 r20 r20 false r20) r22;let r26:Delivery:=Delivery.mk (bif r24 then r25.1 else r25.1) (bif r24 then r25.2 else r25.2) (bif r24 then r25.3 else r25.3) (bif r24 then r25.4 else r25.4) (bif r24 then r25.5 else r25.5) (bif r24 then r25.6 else r25.6) (bif r24 then r25.7 else r25.7) (bif r24 then r25.8 else r25.8) (bif r24 then r25.9 else r25.9) (bif r24 then r25.10 else r25.10) (bif r24 then r25.11 else r25.11) (bif r24 then dgV (tkR r23 (64:Int)) else r25.12);let r27:Bool:=bif b8 r26 !=(0:Int) then true else !(prS r26).toList==s.toList;(r27=true→(Delivery.mk (0:Int) (0:Int) (0:Int) (0:Int) (0:Int) false (0:Int) (0:Int) (0:Int) (0:Int) false (0:Int),(4:Int),()) =(fX s,pJ s,()))∧(r27=false→(r26,(0:Int),()) =(fX s,pJ s,())))
 intro r1 r2 r3 r4 r5 r6 r7 r8 r9 r10 r11 r12 r13 r14 r15 r16 r17 r18 r19 r20 r21 r22 r23 r24 r25 r26 r27
 clear_value (hr1:r1=_) (hr2:r2=_) (hr3:r3=_) (hr4:r4=_) (hr5:r5=_) (hr6:r6=_) (hr7:r7=_) (hr8:r8=_) (hr9:r9=_) (hr10:r10=_) (hr11:r11=_) (hr12:r12=_) (hr13:r13=_) (hr14:r14=_) (hr15:r15=_) (hr16:r16=_) (hr17:r17=_) (hr18:r18=_) (hr19:r19=_) (hr20:r20=_) (hr21:r21=_) (hr22:r22=_) (hr23:r23=_) (hr24:r24=_) (hr25:r25=_) (hr26:r26=_) (hr27:r27=_)
 have n119:tkB s 119=false→tkR s 119=s:=fun h=>eY h
 have e1:r1=paT s:=by
  rw [hr1];unfold paT
  cases h:tkB s 119 with
  | true=>rfl
  | false=>rw [n119 h];cases tkB s 110 <;> rfl
 have e2:r2=0:=by rw [hr2];simp only [Bool.cond_self]
 have e3:r3=pa1 s:=by
  rw [hr3];unfold pa1
  cases h:tkB s 119 with
  | true=>rw [cI h];rfl
  | false=>rw [n119 h];cases tkB s 110 <;> rfl
 have e4:r4=pa2 s:=by rw [hr4,e1,e3];rfl
 have e5:r5=soV (paT s) (pa1 s):=by rw [hr5,e1,e3]
 have e6:r6=pa3 s:=by rw [hr6,e4];rfl
 have e7:r7=dgV (pa2 s):=by rw [hr7,e4]
 have e8:r8=tkB (pa3 s) 70:=by rw [hr8,e6]
 have e9:tkB (pa3 s) 70=false→r9=pa3 s:=fun h=>by rw [hr9,e6];exact eY h
 have e12:r12=if tkB (pa3 s) 70 then 4 else if tkB (pa3 s) 83 then 6 else 0:=by
  rw [hr12,e8,hr10,e2]
  cases h:tkB (pa3 s) 70 with
  | true=>rfl
  | false=>rw [e9 h];cases tkB (pa3 s) 83 <;> rfl
 have e13:r13=paT s:=by rw [hr13,e1];simp only [Bool.cond_self]
 have e14:r14=0:=by rw [hr14,e2];simp only [Bool.cond_self]
 have e15:r15=soV (paT s) (pa1 s):=by rw [hr15,e5];simp only [Bool.cond_self]
 have e16:r16=dgV (pa2 s):=by rw [hr16,e7];simp only [Bool.cond_self]
 have e17:r17=pa4 s:=by
  rw [hr17,e8,hr11];unfold pa4
  cases h:tkB (pa3 s) 70 with
  | true=>rw [hr9,e6,cI h];rfl
  | false=>rw [e9 h];cases r10 <;> rfl
 have e18:r18=tkB (pa4 s) 45:=by rw [hr18,e17]
 have e19:tkB (pa4 s) 45=true→r19=tl (pa4 s):=fun h=>by rw [hr19,e17];exact cI h
 have e20:r20=0:=by rw [hr20,e14];simp only [Bool.cond_self]
 have e21:r21=pa5 s:=by
  rw [hr21,e18];unfold pa5
  cases h:tkB (pa4 s) 45 with
  | true=>rw [e19 h];rfl
  | false=>rw [hr19,e17];exact eY h
 have e22:r22=pa6 s:=by rw [hr22,e21];rfl
 have e23:r23=pa7 s:=by rw [hr23,e22];rfl
 have e25:r25=paW s:=by
  rw [hr25,e22,e13,e15,e16,e14,e12,e20,e21,e18]
  have h :(bif tkB (pa4 s) 45 then dgV r19 else 0)=if tkB (pa4 s) 45 then dgV (tl (pa4 s)) else 0:=by
   cases h:tkB (pa4 s) 45 with
   | true=>rw [e19 h];rfl
   | false=>rfl
  rw [h];simp only [Bool.cond_self];rfl
 have e26:r26=AQ s:=by
  rw [hr26,hr24,e23,e25]
  have h :(bif tkB (pa7 s) 64 then dgV (tkR (pa7 s) 64) else (paW s).Sector)=if tkB (pa7 s) 64 then dgV (tl (pa7 s)) else (paW s).Sector:=by
   cases h:tkB (pa7 s) 64 with
   | true=>rw [cI h];rfl
   | false=>rfl
  unfold AQ
  rw [←h];simp only [Bool.cond_self]
 have e27:r27=vW s:=by
  rw [hr27,e26];unfold vW
  cases b8 (AQ s) != 0 <;> rfl
 refine ⟨fun h=>?_,fun h=>?_⟩
 ·rw [e27] at h;unfold fX pJ;rw [h];rfl
 ·rw [e27] at h;unfold fX pJ;rw [h,e26];rfl
def xx:FuncId×Ctr:=(67,af KE Md LM DG)
theorem AK:CtrOK Tryz.prog KE 67 (af KE Md LM DG):=by
 refine aw (C:=ao [mE,vE,jN,vF,oE] Tryz.f67) (al (.consU s8 rfl (.consU CO rfl (.consU pI rfl (.consU CP rfl (.consU sZ rfl .nil))))) _) mixed (fn:=Tryz.f67) Tryz.func67 (by kernel_rfl) (by kernel_rfl) (by kernel_rfl) (by kernel_rfl) (by kernel_rfl) (by kernel_rfl) (Λ:=fun _ _=>none) ?_ ?_
 ·exact fun _ _ _ _ _ _ _ _ h=>by cases h
 ·rintro ⟨s,⟨⟩⟩ hw hn
  exact GR s
end Go.Proofs.YtffdpnmioidloaaGreatDoor
namespace Go.Proofs.YtffdpnmioidloaaGreatDoor
open Go Go.Mir
def nxB (r:Rules) (o:Int) (c:Bool):Int:=if c then W (o+1) else o
def nxO (r:Rules) (k o:Int) (c:Bool):Int:=if nxB r o c≥r.Balls then W (k+1) else k
def nxI (r:Rules) (o:Int) (c:Bool):Int:=if nxB r o c≥r.Balls then 0 else nxB r o c
abbrev Bef:Type:=Option (Row×Bool)
def inS (r:Rules) (n:Int):Bool:=decide (n≥1)&&decide (n≤r.Side)
def nM (r:Rules) (n:Int) (x:Row):Bool:=decide (x.Innings≥n)&&(decide (x.Innings<W (2*r.Innings))&&(x.Over==0&&x.Ball==0))
def gL (r:Rules) (b:Bef) (x:Row):Bool:=match b with
 | none=>nM r 0 x
 | some (y,c)=>if x.Innings==y.Innings then x.Over==nxO r y.Over y.Ball c&&x.Ball==nxI r y.Ball c else nM r (W (y.Innings+1)) x
def Gk (r:Rules) (x:Row):Int:=bX (aB r (fX x.Symbol))
def CW (x:Row):Int:=if (fX x.Symbol).How != 0 then 1 else 0
def D7 (r:Rules) (b:Bef) (x:Row):Int:=match b with
 | none=>Gk r x
 | some (y,_)=>if y.Innings==x.Innings then W (Gk r x+y.Total) else Gk r x
def Hb (b:Bef) (x:Row):Int:=match b with
 | none=>CW x
 | some (y,_)=>if y.Innings==x.Innings then W (CW x+y.Wickets) else CW x
def nZ (r:Rules) (b:Bef) (x:Row):Bool:=decide (x.Total<D7 r b x) ||((W (x.Total - D7 r b x)).tmod 5 != 0 ||(decide (x.Wickets<Hb b x) ||(decide (x.Wickets>r.Side)||decide (x.Total>1000000))))
def mm (r:Rules) (x:Row):Bool:=!inS r x.Bowler ||(!inS r x.Striker ||(!inS r x.Partner||x.Striker==x.Partner))
def fD (r:Rules) (b:Bef) (x:Row):Int:=
 if pJ x.Symbol != 0 then 4 else if bJ (fX x.Symbol) != 0 then 1 else if mm r x then 2 else if !gL r b x then 8 else if nZ r b x then 12 else 0
def sO (r:Rules) (x:Row):Bef:=some (x,(aB r (fX x.Symbol)).Counts)
def dv (r:Rules):Bef→Int→List Row→Int×Int
 | _,_,[]=>(-1,0)
 | b,i,x::l=>if fD r b x != 0 then (i,fD r b x) else dv r (sO r x) (i+1) l
def bp (r:Rules) (l:List Row):Int×Int:=if aC r != 0 then (-1,aC r) else if decide ((l.length:Int)>4000) then (-1,9) else dv r none 0 l
end Go.Proofs.YtffdpnmioidloaaGreatDoor
namespace Go.Proofs.YtffdpnmioidloaaGreatDoor
open Go Go.Mir
def gW (x y:Innings):Prop:=y.Side=x.Side∧y.Complete=x.Complete∧y.InOver=x.InOver∧(y.Runs=x.Runs∨y.Runs=W (x.Runs+5))∧(y.Wickets=x.Wickets∨y.Wickets=W (x.Wickets+1))
def pX (x y:Innings):Prop:=y.Side=x.Side∧y.Complete=x.Complete∧y.InOver=x.InOver∧y.Runs=x.Runs∧y.Wickets=x.Wickets
theorem ga (x:Innings):pX x x:=⟨rfl,rfl,rfl,rfl,rfl⟩
theorem ck {x y:Innings} (h:pX x y):gW x y:=⟨h.1,h.2.1,h.2.2.1,.inl h.2.2.2.1,.inl h.2.2.2.2⟩
theorem bk (x:Innings):gW x x:=ck (ga x)
theorem aK {c:Prop} [Decidable c] {x a b:Innings} (ha:gW x a) (hb:gW x b):gW x (if c then a else b):=by
 by_cases h:c
 ·rw [if_pos h];exact ha
 ·rw [if_neg h];exact hb
theorem uZ {x z:Innings} (p:Int) (h:pX x z):gW x (ek z p):=by
 obtain ⟨h1,h2,h3,h4,h5⟩:=h
 have hw:W (z.Wickets+1)=W (x.Wickets+1):=by rw [h5]
 unfold ek
 cases aI z p with
 | true=>exact ⟨h1,h2,h3,.inl h4,.inr hw⟩
 | false=>exact ⟨h1,h2,h3,.inl h4,.inr hw⟩
theorem Au (x:Innings) (b:Bool):pX x (cy x b):=by cases b <;> exact ga x
theorem C2 (x:Innings) (s:Int):pX x (wg x s):=⟨rfl,rfl,rfl,rfl,rfl⟩
theorem Gi (x:Innings) (s o:Int):gW x (jq x s o):=aK (bk x) (aK (bk x) (aK (bk x) (ck ⟨rfl,rfl,rfl,rfl,rfl⟩)))
theorem G4 (r:Rules) (x:Innings) (p:Int):gW x (bN r x p):=aK (ck ⟨rfl,rfl,rfl,rfl,rfl⟩) (bk x)
theorem Ca (x:Innings) (p:Int):gW x (jy x p):=aK (bk x) (aK (ck ⟨rfl,rfl,rfl,rfl,rfl⟩) (ck ⟨rfl,rfl,rfl,rfl,rfl⟩))
theorem G5 (x:Innings) (p:Int):gW x (mg x p):=aK (bk x) (uZ p (ga x))
theorem Bc (x:Innings) (p:Int) (b:Bool):gW x (dz x p b):=by
 have h:=Au x (p==x.Striker)
 exact aK (bk x) (aK (ck ⟨h.1,h.2.1,h.2.2.1,h.2.2.2.1,h.2.2.2.2⟩) (uZ p h))
theorem xO (x:Innings) (n:Int):gW x (au x n):=aK (bk x) (ck ⟨rfl,rfl,rfl,rfl,rfl⟩)
theorem Ah (x:Innings) (p:Int):gW x (ai x p):=aK (bk x) (aK (bk x) (aK (bk x) (ck ⟨rfl,rfl,rfl,rfl,rfl⟩)))
theorem D5 (x:Innings) (p:Int) (b:Bool):gW x (ax x p b):=aK (bk x) (aK (bk x) (ck ⟨rfl,rfl,rfl,rfl,rfl⟩))
theorem Iz (r:Rules) (x:Innings):gW x (bu r x):=aK (bk x) (ck ⟨rfl,rfl,rfl,rfl,rfl⟩)
theorem FK (r:Rules) (x:Innings) (e:Mir.Event):gW x (m3 r x e):=aK (bk x) (ck ⟨rfl,rfl,rfl,rfl,rfl⟩)
theorem I5 (x:Innings) (e:Mir.Event):gW x (qI x e):=aK (bk x) (aK ⟨rfl,rfl,rfl,.inr rfl,.inl rfl⟩ (aK (ck ⟨rfl,rfl,rfl,rfl,rfl⟩) (bk x)))
theorem Jh (r:Rules) (x:Innings) (s:Int) (k:Bool):gW x (l9 r x s k):=aK (bk x) (aK (bk x) (ck (C2 x s)))
theorem JK (r:Rules) (x:Innings) (t o:Int):gW x (oX r x t o):=by
 refine aK (bk x) (ck ?_)
 unfold Ml JJ
 by_cases h1:t>0
 ·rw [if_pos h1];by_cases h2:o>0
  ·rw [if_pos h2];exact ⟨rfl,rfl,rfl,rfl,rfl⟩
  ·rw [if_neg h2];exact ⟨rfl,rfl,rfl,rfl,rfl⟩
 ·rw [if_neg h1];by_cases h2:o>0
  ·rw [if_pos h2];exact ⟨rfl,rfl,rfl,rfl,rfl⟩
  ·rw [if_neg h2];exact ⟨rfl,rfl,rfl,rfl,rfl⟩
theorem Gl (r:Rules) (x:Innings) {e:Mir.Event} (hk:e.Kind≠4):gW x (aA r x e):=by
 have h4 :¬(e.Kind==4)=true:=by simpa using hk
 unfold aA
 rw [if_neg h4]
 exact aK (Gi ..) (aK (G4 ..) (aK (aK (G5 ..) (Ca ..)) (aK (Bc ..) (aK (xO ..) (aK (Ah ..) (aK (D5 ..) (aK (Iz ..) (aK (FK ..) (aK (I5 ..) (aK (Jh ..) (JK ..)))))))))))
theorem FV {x y:Innings} (r:Rules) (e:Mir.Event) (h:gW x y):gW x (od r (nK y e)):=aK h h
theorem wy (r:Rules) (x:Innings) {e:Mir.Event} (hk:e.Kind≠4):gW x (cD r x e):=aK (bk x) (FV r e (Gl r x hk))
theorem ua {r:Rules} {x:Innings} {e:Mir.Event} (h:cC r x e=0):bP r x=true∧ca r x e=0∧(e.Kind≠2→eM x=true):=by
 unfold cC at h
 split at h
 ·exact absurd h (by decide)
 ·rename_i h1
  split at h
  ·rename_i h2;exact absurd h (by decide)
  ·split at h
   ·exact absurd h (by decide)
   ·rename_i h3
    refine ⟨?_,h,fun hk=>?_⟩
    ·cases hv:bP r x with
     | true=>rfl
     | false=>exact absurd (by rw [hv];rfl) h1
    ·cases hb:eM x with
     | true=>rfl
     | false=>
      refine absurd ?_ h3
      have :(e.Kind != 2)=true:=by simpa using hk
      rw [hb,this];cases He e.Kind <;> rfl
theorem Gr {r:Rules} {x:Innings} {d:Delivery} (h:iU r x d=0):cR x=false∧x.Bowler≠0∧bJ d=0∧bD d x.FreeHit=0:=by
 unfold iU at h
 split at h
 ·exact absurd h (by decide)
 ·rename_i h1
  split at h
  ·exact absurd h (by decide)
  ·rename_i h2
   split at h
   ·rename_i h3;exact absurd h (by simpa using h3)
   ·split at h
    ·rename_i h3;exact absurd h (by simpa using h3)
    ·rename_i h4
     split at h
     ·rename_i h3;exact absurd h (by simpa using h3)
     ·rename_i h5
      exact ⟨by simpa using h1,by simpa using h2,by simpa using h4,by simpa using h5⟩
theorem A2 {d:Delivery} {f:Bool} (h:bD d f=0) (hh:d.How≠0):d.Victim=1∨d.Victim=2:=by
 unfold bD at h
 rw [if_neg (by simpa using hh)] at h
 split at h
 ·exact absurd h (by decide)
 ·split at h
  ·exact absurd h (by decide)
  ·split at h
   ·exact absurd h (by decide)
   ·rename_i h3
    by_cases h1:d.Victim=1
    ·exact .inl h1
    ·by_cases h2:d.Victim=2
     ·exact .inr h2
     ·refine absurd ?_ h3
      simp [h1,h2]
theorem y9 (x:Innings) (d:Delivery):pX x (cm x d)∧(cm x d).Bowler=x.Bowler∧(cm x d).Bowled=x.Bowled:=by
 unfold cm
 cases jw d <;> exact ⟨ga x,rfl,rfl⟩
theorem Gq {x:Innings} {d:Delivery} (h1:x.Striker≠0) (h2:x.Other≠0) (hv:d.How≠0→d.Victim=1∨d.Victim=2) :
  (bC x d).Side=x.Side∧(bC x d).Complete=x.Complete∧(bC x d).InOver=x.InOver∧(bC x d).Runs=x.Runs∧(bC x d).Wickets =(if d.How=0 then x.Wickets else W (x.Wickets+1))∧(bC x d).Bowler=x.Bowler∧(bC x d).Bowled=x.Bowled:=by
 obtain ⟨⟨s1,s2,s3,s4,s5⟩,s6,s7⟩:=y9 x d
 by_cases hh:d.How=0
 ·have ho:hZ x d=0:=by unfold hZ;rw [hh];rfl
  have e:bC x d=cm x d:=by unfold bC;rw [ho];rfl
  rw [e,if_pos hh]
  exact ⟨s1,s2,s3,s4,s5,s6,s7⟩
 ·have ho:hZ x d≠0:=by
   unfold hZ
   rw [if_pos (by simpa using hh)]
   rcases hv hh with v|v
   ·rw [v,if_pos (by simpa using h1)];decide
   ·rw [v,if_neg (by simp),if_pos (by simpa using h2)];decide
  have e :∀ b p,bC x d=ek (cy (cm x d) b) p∨True:=fun _ _=> .inr trivial
  unfold bC
  rw [if_neg (by simpa using ho),if_neg hh,zQ]
  cases ((hZ x d==1) != jw d) <;> exact ⟨s1,s2,s3,s4,rfl,s6,s7⟩
theorem mj {r:Rules} {x:Innings} (h:bP r x=true):aC r=0∧(x.Batters.length:Int)=r.Side∧(x.Bowled.length:Int)=r.Side∧nv x r.Side=true∧(0≤x.Bowler∧x.Bowler≤r.Side):=by
 unfold bP at h
 simp only [Bool.and_eq_true,beq_iff_eq] at h
 obtain ⟨hc,_,hl,_,hb,hw,_⟩:=h
 simp only [Aw,Bool.and_eq_true,beq_iff_eq] at hl
 simp only [inW,Bool.and_eq_true,decide_eq_true_eq] at hw
 exact ⟨hc,hl.1,hl.2.1,hb,by omega,by omega⟩
theorem wJ {S O:Int} :∀ (l:List Int) (i o b:Int) (g:Bool) {o' b':Int} {g':Bool},jx S O l i o b g=some (o',b',g')→o≤o'∧b≤b'∧o'+b'≤o+b+l.length
 | [],i,o,b,g,o',b',g',h=>by
  have h:some (o,b,g)=some (o',b',g'):=h
  cases h
  exact ⟨Int.le_refl _,Int.le_refl _,by simp⟩
 | s::l,i,o,b,g,o',b',g',h=>by
  have hl :((s::l).length:Int)=l.length+1:=by simp
  unfold jx at h
  split at h
  ·cases h
  ·split at h
   ·split at h
    ·cases h
    ·have:=wJ l _ _ _ _ h
     omega
   ·have:=wJ l _ _ _ _ h
    by_cases h2 :(s==2)=true
    ·rw [if_pos h2] at this;omega
    ·rw [if_neg h2] at this;omega
theorem Hk {x:Innings} {n:Int} (h:nv x n=true):0≤x.Wickets∧x.Wickets+fA x≤x.Batters.length∧(0≤x.Striker∧x.Striker≤n)∧(0≤x.Other∧x.Other≤n)∧(x.Striker=x.Other→x.Striker=0):=by
 unfold nv at h
 cases hc:jx x.Striker x.Other x.Batters 0 0 0 false with
 | none=>rw [hc] at h;exact Bool.noConfusion h
 | some p=>
  obtain ⟨o,b,g⟩:=p
  rw [hc] at h
  have hb:=wJ _ _ _ _ _ hc
  simp only [BZ] at h
  split at h
  ·cases h
  ·rename_i h1
   simp only [Bool.and_eq_true,beq_iff_eq] at h
   obtain ⟨⟨e1,_⟩,e2⟩:=h
   simp only [inW,Bool.or_eq_true,Bool.not_eq_true',Bool.and_eq_false_iff,decide_eq_false_iff_not,Bool.and_eq_true,beq_iff_eq,bne_iff_ne,ne_eq,not_or,not_and,Decidable.not_not] at h1
   refine ⟨by omega,by omega,by omega,by omega,h1.2⟩
theorem zH {r:Rules} {z:Innings} (c:Bool) (hn:gK r z=false) :(eb r z c).Side=z.Side∧(eb r z c).Runs=z.Runs∧(eb r z c).Wickets=z.Wickets∧(eb r z c).Complete=nxO r z.Complete z.InOver c∧(eb r z c).InOver=nxI r z.InOver c:=by
 have hc :(cu z c).InOver=nxB r z.InOver c:=by cases c <;> rfl
 have hs :(cu z c).Side=z.Side∧(cu z c).Runs=z.Runs∧(cu z c).Wickets=z.Wickets∧(cu z c).Complete=z.Complete:=by cases c <;> exact ⟨rfl,rfl,rfl,rfl⟩
 obtain ⟨s1,s2,s3,s4⟩:=hs
 unfold eb an iu nxO nxI
 rw [hn]
 simp only [Bool.false_eq_true,if_false]
 rw [hc]
 by_cases h:nxB r z.InOver c<r.Balls
 ·rw [if_pos h,if_pos h,if_neg (by omega),if_neg (by omega)]
  exact ⟨s1,s2,s3,s4,hc⟩
 ·rw [if_neg h,if_neg h,if_pos (by omega),if_pos (by omega)]
  exact ⟨s1,s2,s3,by rw [←s4];rfl,rfl⟩
theorem FR (r:Rules) (x:Innings) (d:Delivery):pX x (m5 r x d):=by
 unfold m5
 split
 ·exact ga x
 ·split <;> exact ga x
theorem FO (r:Rules) (x:Innings) (e:Mir.Event):pX x (od r (nK x e)):=by
 unfold od
 split <;> exact ga x
def O8 (r:Rules) (x:Innings) (d:Delivery):Prop:=bJ d=0∧aC r=0∧(1≤x.Bowler∧x.Bowler≤r.Side)∧(1≤x.Striker∧x.Striker≤r.Side)∧(1≤x.Other∧x.Other≤r.Side)∧x.Striker≠x.Other∧(0≤x.Wickets∧x.Wickets+2≤r.Side)
theorem FC {r:Rules} {x:Innings} {e:Mir.Event} (h:cC r x e=0) (hk:e.Kind=4):O8 r x e.Ball∧
  (cD r x e).Side=x.Side∧(cD r x e).Runs=W (x.Runs+bX (aB r e.Ball))∧(cD r x e).Wickets =(if e.Ball.How=0 then x.Wickets else W (x.Wickets+1))∧
  (cD r x e).Complete=nxO r x.Complete x.InOver (aB r e.Ball).Counts∧(cD r x e).InOver=nxI r x.InOver (aB r e.Ball).Counts:=by
 obtain ⟨hv,hp,hb⟩:=ua h
 have hb:=hb (by rw [hk];decide)
 have ep:ca r x e=iU r x e.Ball:=by unfold ca;rw [hk];rfl
 rw [ep] at hp
 obtain ⟨hvac,hbow,hleg,hpos⟩:=Gr hp
 obtain ⟨hc,l1,l2,hbat,b1,b2⟩:=mj hv
 obtain ⟨w1,w2,w3,w4,w5⟩:=Hk hbat
 unfold cR at hvac
 rw [hb] at hvac
 have hS:x.Striker≠0:=by intro z;rw [z] at hvac;exact Bool.noConfusion hvac
 have hO:x.Other≠0:=by intro z;rw [z] at hvac;revert hvac;cases x.Striker==0 <;> exact fun z=>Bool.noConfusion z
 have hpl:fA x=2:=by
  unfold fA
  rw [if_pos (by simpa using hS),if_pos (by simpa using hO)]
  rfl
 obtain ⟨f1,f2,f3,f4,f5,f6,f7⟩:=Gq (d:=e.Ball) hS hO (A2 hpos)
 have hn:gK r (zn (bC x e.Ball) (aB r e.Ball))=false:=by
  have k:bF (zn (bC x e.Ball) (aB r e.Ball)) (zn (bC x e.Ball) (aB r e.Ball)).Bowler=true:=by
   show (decide ((bC x e.Ball).Bowler≥1)&&decide ((bC x e.Ball).Bowler≤((bC x e.Ball).Bowled.length:Int)))=true
   rw [f6,f7,decide_eq_true (by omega),decide_eq_true (by omega)];rfl
  unfold gK
  rw [k,hc];rfl
 obtain ⟨c1,c2,c3,c4,c5⟩:=zH (r:=r) (aB r e.Ball).Counts hn
 have es:cD r x e=od r (nK (fK r x e.Ball) e):=by
  unfold cD
  rw [h]
  have:aA r x e=fK r x e.Ball:=by unfold aA;rw [hk];rfl
  rw [this];rfl
 have ey:fK r x e.Ball=m5 r (eb r (zn (bC x e.Ball) (aB r e.Ball)) (aB r e.Ball).Counts) e.Ball:=by
  unfold fK
  rw [hp];rfl
 obtain ⟨a1,a2,a3,a4,a5⟩:=FO r (fK r x e.Ball) e
 obtain ⟨d1,d2,d3,d4,d5⟩:=FR r (eb r (zn (bC x e.Ball) (aB r e.Ball)) (aB r e.Ball).Counts) e.Ball
 rw [←ey] at d1 d2 d3 d4 d5
 rw [es]
 refine ⟨⟨hleg,hc,by omega,by omega,by omega,fun z=>hS (w5 z),by omega⟩,?_,?_,?_,?_,?_⟩
 ·rw [a1,d1,c1];exact f1
 ·rw [a4,d4,c2]
  show W ((bC x e.Ball).Runs+_)=_
  rw [f4]
 ·rw [a5,d5,c3];exact f5
 ·rw [a2,d2,c4]
  show nxO r (bC x e.Ball).Complete (bC x e.Ball).InOver _=_
  rw [f2,f3]
 ·rw [a3,d3,c5]
  show nxI r (bC x e.Ball).InOver _=_
  rw [f3]
end Go.Proofs.YtffdpnmioidloaaGreatDoor
namespace Go.Proofs.YtffdpnmioidloaaGreatDoor
open Go Go.Mir
def bO (r:Rules) (k:Int):Bef→Int
 | some (y,c)=>if y.Innings=k then nxO r y.Over y.Ball c else 0
 | none=>0
def bI (r:Rules) (k:Int):Bef→Int
 | some (y,c)=>if y.Innings=k then nxI r y.Ball c else 0
 | none=>0
def bT (k:Int):Bef→Int
 | some (y,_)=>if y.Innings=k then y.Total else 0
 | none=>0
def bW (k:Int):Bef→Int
 | some (y,_)=>if y.Innings=k then y.Wickets else 0
 | none=>0
def Cur (r:Rules) (k N:Int) (b:Bef) (x:Innings):Prop:=x.Complete=bO r k b∧x.InOver=bI r k b∧bT k b≤x.Runs∧x.Runs≤N∧(x.Runs - bT k b) % 5=0∧bW k b≤x.Wickets
def qG (N p:Int):Prop:=0≤p∧p≤N∧p % 5=0
def uR (n:Nat) (b:Bef):Prop:=∀ y c,b=some (y,c)→0≤y.Innings∧y.Innings <(n:Int)∧0≤y.Total∧0≤y.Wickets
structure Inv (r:Rules) (m:Match) (N:Int) (b:Bef):Prop where
 rules:m.Rules=r
 p1:qG N m.Penalty.1
 p2:qG N m.Penalty.2.1
 bef:uR m.Innings.length b
 cur:0<m.Innings.length→Cur r ((m.Innings.length:Int) - 1) N b (bj m)
theorem Hm {n:Nat} {b:Bef} (h:uR n b) (k:Int):0≤bT k b∧0≤bW k b:=by
 cases b with
 | none=>exact ⟨Int.le_refl _,Int.le_refl _⟩
 | some p=>
  obtain ⟨y,c⟩:=p
  have:=h y c rfl
  unfold bT bW
  by_cases e:y.Innings=k
  ·simp only [if_pos e];omega
  ·simp only [if_neg e];omega
theorem Kv {n:Nat} {b:Bef} (h:uR n b) (r:Rules):bO r n b=0∧bI r n b=0∧bT n b=0∧bW n b=0:=by
 cases b with
 | none=>exact ⟨rfl,rfl,rfl,rfl⟩
 | some p=>
  obtain ⟨y,c⟩:=p
  have:=h y c rfl
  have e :¬ y.Innings =(n:Int):=by omega
  unfold bO bI bT bW
  simp only [if_neg e]
  exact ⟨trivial,trivial,trivial,trivial⟩
theorem Hl {n k:Nat} {b:Bef} (h:uR n b) (hk:n≤k):uR k b:=fun y c e=>by
 have:=h y c e
 omega
theorem zJ {r:Rules} {k N:Int} {b:Bef} {x y:Innings} (h:Cur r k N b x) (hk:gW x y) (hT:0≤bT k b) (hw:0≤x.Wickets∧x.Wickets≤1000) (hN:N≤1000000):Cur r k (N+5) b y:=by
 obtain ⟨h1,h2,h3,h4,h5,h6⟩:=h
 obtain ⟨_,k2,k3,k4,k5⟩:=hk
 have e1:W (x.Runs+5)=x.Runs+5:=bb (by omega) (by omega)
 have e2:W (x.Wickets+1)=x.Wickets+1:=bb (by omega) (by omega)
 rw [e1] at k4
 rw [e2] at k5
 exact ⟨k2.trans h1,k3.trans h2,by omega,by omega,by omega,by omega⟩
theorem rG {r:Rules} {k N M:Int} {b:Bef} {x:Innings} (h:Cur r k N b x) (hN:N≤M):Cur r k M b x:=⟨h.1,h.2.1,h.2.2.1,Int.le_trans h.2.2.2.1 hN,h.2.2.2.2.1,h.2.2.2.2.2⟩
theorem dD {N M p:Int} (h:qG N p) (hN:N≤M):qG M p:=⟨h.1,Int.le_trans h.2.1 hN,h.2.2⟩
theorem iG {r:Rules} {m:Match} {N M:Int} {b:Bef} (h:Inv r m N b) (hN:N≤M):Inv r m M b:=⟨h.rules,dD h.p1 hN,dD h.p2 hN,h.bef,fun k=>rG (h.cur k) hN⟩
theorem Hy {m n:Match} (h:n.Innings=m.Innings):bj n=bj m:=by unfold bj;rw [h]
theorem oy {r:Rules} {m n:Match} {N:Int} {b:Bef} (hI:n.Innings=m.Innings) (hP:n.Penalty=m.Penalty) (hR:n.Rules=m.Rules) (h:Inv r m N b):Inv r n N b:=
 ⟨hR.trans h.rules,by rw [hP];exact h.p1,by rw [hP];exact h.p2,by rw [hI];exact h.bef,by rw [hI,Hy hI];exact h.cur⟩
theorem FI (m:Match) :(ak m).Penalty=m.Penalty:=by
 unfold ak
 split
 ·rfl
 ·split
  ·rfl
  ·split <;> rfl
theorem uW {r:Rules} {m:Match} {N:Int} {b:Bef} (h:Inv r m N b):Inv r (ak m) N b:=oy (kf m) (FI m) (p8 m) h
theorem rl {m:Match} (h:0<m.Innings.length) (y:Innings):bj (tP m (F5 m) y)=y:=by
 show (m.Innings.set (m.Innings.length - 1) y).getD ((m.Innings.set (m.Innings.length - 1) y).length - 1) Innings.zero=y
 rw [List.length_set,List.getD_eq_getElem?_getD,List.getElem?_set_self (by omega)]
 rfl
theorem mO (m:Match) (k:Nat) (y:Innings) :(tP m k y).Innings.length=m.Innings.length:=List.length_set
theorem Fs {r:Rules} {m:Match} {N M:Int} {b:Bef} (h:Inv r m N b) (hN:N≤M) (y:Innings) (hy:0<m.Innings.length→Cur r ((m.Innings.length:Int) - 1) M b y):Inv r (tP m (F5 m) y) M b:=
 ⟨h.rules,dD h.p1 hN,dD h.p2 hN,by rw [mO];exact h.bef,fun k=>by
  rw [mO] at k ⊢
  rw [rl k]
  exact hy k⟩
theorem u9 {s:Int} {xs:List Innings} :∀ {n k:Nat},gz s xs n=some k→k<n∧(xs.getD k Innings.zero).Side=s
 | 0,k,h=>by cases h
 | n+1,k,h=>by
  unfold gz at h
  split at h
  ·rename_i hs
   cases h
   exact ⟨Nat.lt_succ_self _,by simpa using hs⟩
  ·have:=u9 h
   exact ⟨by omega,this.2⟩
theorem FA {r:Rules} {m:Match} {N:Int} {b:Bef} {s:Int} (h:Inv r m N b) (hN:N≤1000000) (hs :(bj m).Side≠s):Inv r (aq m s) (N+5) b:=by
 have q:N≤N+5:=by omega
 unfold aq
 cases hf:gz s m.Innings m.Innings.length with
 | none=>
  have pw :∀ p,qG N p→qG (N+5) (W (p+5)):=fun p hp=>by
   obtain ⟨h1,h2,h3⟩:=hp
   have e:W (p+5)=p+5:=bb (by omega) (by omega)
   rw [e]
   exact ⟨by omega,by omega,by omega⟩
  show Inv r (BV m s) (N+5) b
  refine ⟨h.rules,?_,?_,h.bef,fun k=>rG (h.cur k) q⟩
  ·show qG (N+5) (if s==1 then (W (m.Penalty.1+5),m.Penalty.2.1,()) else (m.Penalty.1,W (m.Penalty.2.1+5),())).1
   split
   ·exact pw _ h.p1
   ·exact dD h.p1 q
  ·show qG (N+5) (if s==1 then (W (m.Penalty.1+5),m.Penalty.2.1,()) else (m.Penalty.1,W (m.Penalty.2.1+5),())).2.1
   split
   ·exact dD h.p2 q
   ·exact pw _ h.p2
 | some k=>
  obtain ⟨h1,h2⟩:=u9 hf
  have hk:k≠m.Innings.length - 1:=fun z=>hs (by unfold bj;rw [←z];exact h2)
  show Inv r (tP m k (AR (m.Innings.getD k Innings.zero))) (N+5) b
  have he :∀ y,bj (tP m k y)=bj m:=fun y=>by
   show (m.Innings.set k y).getD ((m.Innings.set k y).length - 1) Innings.zero=m.Innings.getD (m.Innings.length - 1) Innings.zero
   rw [List.length_set,List.getD_eq_getElem?_getD,List.getElem?_set_ne hk,←List.getD_eq_getElem?_getD]
  exact ⟨h.rules,dD h.p1 q,dD h.p2 q,by rw [mO];exact h.bef,fun z=>by
   rw [mO] at z ⊢
   rw [he]
   exact rG (h.cur z) q⟩
theorem AX {m:Match} {e:Mir.Event} (h:cJ m e=0):m.Stage=3∧cC m.Rules (bj m) e=0:=by
 unfold cJ at h
 split at h
 ·exact absurd h (by decide)
 ·rename_i h1;exact ⟨by simpa using h1,h⟩
theorem Mt {r:Rules} {x:Innings} {e:Mir.Event} (h:cC r x e=0):0≤x.Wickets∧x.Wickets≤1000:=by
 obtain ⟨hc,l1,_,hb,_⟩:=mj (ua h).1
 have h1:=Hk hb
 have h2:=(fb hc).1
 have h3:0≤fA x:=by unfold fA;split <;> split <;> decide
 omega
theorem Ja {r:Rules} {m:Match} {N:Int} {b:Bef} {e:Mir.Event} (h:Inv r m N b) (hN:N≤900000) (hp:cJ m e=0) (hk:e.Kind≠4):Inv r (aj m e) (N+10) b:=by
 obtain ⟨_,hs⟩:=AX hp
 have hw:=Mt hs
 have h1:Inv r (gM m e) (N+5) b:=Fs h (by omega) _ fun k=>zJ (h.cur k) (wy m.Rules (bj m) hk) (Hm h.bef _).1 hw (by omega)
 unfold aj
 rw [hp]
 rw [if_neg (by decide)]
 split
 ·rename_i ha
  unfold pe at ha
  simp only [Bool.and_eq_true,bne_iff_ne,ne_eq] at ha
  have hside :(bj (gM m e)).Side≠e.Side:=by
   by_cases hl:0<m.Innings.length
   ·unfold gM;rw [rl hl];exact fun z=>ha.2 z.symm
   ·have e0:m.Innings=[]:=List.length_eq_zero_iff.1 (by omega)
    have ez:bj m=Innings.zero:=by unfold bj;rw [e0];rfl
    have hv:=(ua hs).1
    rw [ez] at hv
    obtain ⟨hc,l1,_⟩:=mj hv
    have:=(fb hc).1
    have l1 :(0:Int)=m.Rules.Side:=l1
    omega
  have:=FA h1 (by omega) hside
  exact iG this (by omega)
 ·exact iG h1 (by omega)
theorem IZ {r:Rules} {m:Match} {N:Int} {b:Bef} {e:Mir.Event} (h:Inv r m N b) (h0:0≤N) (hN:N≤900000) (hp:bd m e=0) (hk:e.Kind=2):Inv r (ab m e) (N+5) b:=by
 have q:N≤N+5:=by omega
 have hz:qG (N+5) 0:=⟨Int.le_refl _,by omega,by decide⟩
 have hy:ab m e=lY m e:=by unfold ab;rw [hp];rfl
 unfold bd at hp
 split at hp
 ·exact absurd hp (by decide)
 ·split at hp
  ·exact absurd hp (by decide)
  ·rename_i h2
   have hb:nw m=0:=by simpa using h2
   have hx:ny m=Kw m.Rules (bL m) (fG m (bL m)) (nb m (bL m)):=by
    unfold nw at hb
    unfold ny mS
    rw [hb];rfl
   have hpn:qG N (nb m (bL m)):=by
    unfold nb
    split
    ·exact h.p1
    ·exact h.p2
   obtain ⟨n1,n2,n3,n4⟩:=Kv h.bef r
   have c0:Cur r (m.Innings.length:Int) N b (ny m):=by
    rw [hx]
    unfold Cur
    rw [n1,n2,n3,n4]
    refine ⟨rfl,rfl,hpn.1,hpn.2.1,?_,Int.le_refl _⟩
    show (nb m (bL m) - 0) % 5=0
    rw [Int.sub_zero];exact hpn.2.2
   have hw:0≤(ny m).Wickets∧(ny m).Wickets≤1000:=by rw [hx];exact ⟨Int.le_refl _,show (0:Int)≤1000 by decide⟩
   have c1:=zJ c0 (wy m.Rules (ny m) (e:=e) (by rw [hk];decide)) (by rw [n3];exact Int.le_refl _) hw (by omega)
   rw [hy]
   have hl :(lY m e).Innings.length=m.Innings.length+1:=List.length_append
   have he:bj (lY m e)=cD m.Rules (ny m) e:=by
    show (m.Innings++[cD m.Rules (ny m) e]).getD ((m.Innings++[cD m.Rules (ny m) e]).length - 1) Innings.zero=_
    rw [List.length_append,List.length_singleton,Nat.add_sub_cancel,List.getD_eq_getElem?_getD,List.getElem?_concat_length]
    rfl
   refine ⟨h.rules,?_,?_,by rw [hl];exact Hl h.bef (Nat.le_succ _),fun _=>?_⟩
   ·show qG (N+5) (if bL m==1 then (0,m.Penalty.2.1,()) else (m.Penalty.1,0,())).1
    split
    ·exact hz
    ·exact dD h.p1 q
   ·show qG (N+5) (if bL m==1 then (0,m.Penalty.2.1,()) else (m.Penalty.1,0,())).2.1
    split
    ·exact dD h.p2 q
    ·exact hz
   ·rw [hl,he,show ((m.Innings.length+1:Nat):Int) - 1 =(m.Innings.length:Int) by omega]
    exact c1
theorem Ka {r:Rules} {m:Match} {N:Int} {b:Bef} (h:Inv r m N b):Inv r (dq m) N b:=by
 have h1:Inv r (bq m) N b:=by
  unfold bq
  split
  ·exact Fs h (Int.le_refl _) _ fun k=>h.cur k
  ·exact h
 exact oy (m:=bq m) rfl rfl rfl h1
theorem ud {m:Match} {e:Mir.Event} (hs:cp m e=0):bt m e=ak (fY m e):=by
 have hp:=(gd hs).2.2
 unfold bt ag
 rw [hs,hp]
 rfl
theorem FP {r:Rules} {m:Match} {N:Int} {b:Bef} {e:Mir.Event} (h:Inv r m N b) (h0:0≤N) (hN:N≤900000) (hs:cp m e=0) (hk:e.Kind≠4):Inv r (bt m e) (N+100) b:=by
 have hp:=(gd hs).2.2
 rw [ud hs]
 refine uW ?_
 unfold bm at hp
 unfold fY
 by_cases k1 :(e.Kind==1)=true
 ·rw [if_pos k1]
  exact oy (m:=m) rfl rfl rfl (iG h (by omega))
 ·rw [if_neg k1] at hp ⊢
  by_cases k2 :(e.Kind==2)=true
  ·rw [if_pos k2] at hp ⊢
   exact iG (IZ h h0 hN hp (by simpa using k2)) (by omega)
  ·rw [if_neg k2] at hp ⊢
   by_cases k3 :(e.Kind==12)=true
   ·rw [if_pos k3]
    exact oy (m:=m) rfl rfl rfl (iG h (by omega))
   ·rw [if_neg k3] at hp ⊢
    by_cases k4 :(e.Kind==16)=true
    ·rw [if_pos k4]
     exact iG (Ka h) (by omega)
    ·rw [if_neg k4] at hp ⊢
     exact iG (Ja h hN hp hk) (by omega)
theorem OI {r:Rules} {d:Delivery} (hl:bJ d=0) (hc:aC r=0):0≤bX (aB r d)∧bX (aB r d)≤90:=by
 have hr:0≤nk d∧nk d≤13:=by
  unfold bJ at hl
  split at hl
  ·exact absurd hl (by decide)
  ·split at hl
   ·exact absurd hl (by decide)
   ·rename_i h2
    simp only [inW,ge_iff_le,Bool.or_eq_true,Bool.not_eq_true',Bool.and_eq_false_iff,decide_eq_false_iff_not,Int.not_le,bne_iff_ne,ne_eq,Bool.and_eq_true,not_or,not_and,Decidable.not_not] at h2
    unfold nk
    have e1:W (d.Runs - d.Short)=d.Runs - d.Short:=bb (by omega) (by omega)
    rw [e1]
    have e2:W (d.Runs - d.Short+d.Boundary)=d.Runs - d.Short+d.Boundary:=bb (by omega) (by omega)
    rw [e2]
    omega
 have hw :(1≤r.Wide∧r.Wide≤5)∧(1≤r.NoBall∧r.NoBall≤5):=by
  have hr:cq r=true:=by
   cases hr:cq r with
   | true=>rfl
   | false=>
    unfold aC at hc
    cases hn:lR r.Name <;> simp [hn,hr] at hc
  simp only [cq,aX,Bool.and_eq_true,decide_eq_true_eq] at hr
  omega
 have e1:W (r.Wide+nk d)=r.Wide+nk d:=bb (by omega) (by omega)
 have t1:0≤du d∧du d≤18:=by unfold du;split <;> omega
 have t2:0≤fa r d∧fa r d≤18:=by unfold fa;rw [e1];split <;> omega
 have t3:0≤noW r d∧noW r d≤18:=by unfold noW;split <;> omega
 have t4:0≤m2 d∧m2 d≤18:=by unfold m2;split <;> omega
 have t5:0≤gB d∧gB d≤18:=by unfold gB;split <;> omega
 have ec:bX (aB r d)=W (W (W (W (du d+fa r d)+noW r d)+m2 d)+gB d):=by
  unfold aB
  rw [hl]
  rfl
 rw [ec]
 have w1:W (du d+fa r d)=du d+fa r d:=bb (by omega) (by omega)
 rw [w1]
 have w2:W (du d+fa r d+noW r d)=du d+fa r d+noW r d:=bb (by omega) (by omega)
 rw [w2]
 have w3:W (du d+fa r d+noW r d+m2 d)=du d+fa r d+noW r d+m2 d:=bb (by omega) (by omega)
 rw [w3]
 have w4:W (du d+fa r d+noW r d+m2 d+gB d)=du d+fa r d+noW r d+m2 d+gB d:=bb (by omega) (by omega)
 rw [w4]
 omega
def m0 (d:Delivery):Int:=if d.How=0 then 0 else 1
structure okRow (r:Rules) (b:Bef) (x:Row) (d:Delivery):Prop where
 sym:x.Symbol=prS d
 form:b8 d=0
 legal:bJ d=0
 pl :(1≤x.Bowler∧x.Bowler≤r.Side)∧(1≤x.Striker∧x.Striker≤r.Side)∧(1≤x.Partner∧x.Partner≤r.Side)∧x.Striker≠x.Partner
 inn:0≤x.Innings∧x.Innings<2*r.Innings∧r.Innings≤2
 bef :∀ y c,b=some (y,c)→0≤y.Innings∧y.Innings≤x.Innings
 place:x.Over=bO r x.Innings b∧x.Ball=bI r x.Innings b
 tot:0≤bX (aB r d)∧bX (aB r d)≤90
 sum:0≤bT x.Innings b∧bT x.Innings b+bX (aB r d)≤x.Total∧(x.Total - bT x.Innings b - bX (aB r d)) % 5=0∧x.Total≤999000
 wk:0≤bW x.Innings b∧bW x.Innings b+m0 d≤x.Wickets∧x.Wickets≤r.Side∧r.Side≤11
theorem Hi {r:Rules} {m:Match} {N:Int} {b:Bef} {e:Mir.Event} (i:Int) (h:Inv r m N b) (h0:0≤N) (hN:N≤900000) (hs:cp m e=0) (hk:e.Kind=4) :
  okRow r b (ia (ed r i m (bt m e) e.Ball)) e.Ball∧Inv r (bt m e) (N+100) (some (ia (ed r i m (bt m e) e.Ball),(aB r e.Ball).Counts)):=by
 obtain ⟨hv,he,hp⟩:=gd hs
 have hl:=(wx hs hk).1
 have hpl:cJ m e=0:=by
  have:bm m e=cJ m e:=by unfold bm;rw [hk];rfl
  rw [←this];exact hp
 obtain ⟨_,hst⟩:=AX hpl
 have es:bt m e=ak (gM m e):=by
  rw [ud hs]
  have:fY m e=aj m e:=by unfold fY;rw [hk];rfl
  rw [this]
  have:aj m e=gM m e:=by
   unfold aj
   rw [hpl]
   have:pe m e=false:=by unfold pe;rw [hk];rfl
   rw [this];rfl
  rw [this]
 have ey:bj (bt m e)=cD m.Rules (bj m) e:=by
  rw [es,Hy (kf _)]
  exact rl hl _
 obtain ⟨hf,_,b2,b3,b4,b5⟩:=FC hst hk
 have hr:=h.rules
 rw [hr] at hf b2 b3 b4 b5 ey
 obtain ⟨f1,f2,f3,f4,f5,f6,f7⟩:=hf
 obtain ⟨c1,c2,c3,c4,c5,c6⟩:=h.cur hl
 have hn:=Hm h.bef ((m.Innings.length:Int) - 1)
 obtain ⟨v1,v2⟩:=pT hv
 have hi:=nC f2
 have hsd:=(fb f2).1
 rw [hr] at v1
 have ht:=OI f1 f2
 have eK:W ((m.Innings.length:Int) - 1) =(m.Innings.length:Int) - 1:=bb (by omega) (by omega)
 have eT:W ((bj m).Runs+bX (aB r e.Ball)) =(bj m).Runs+bX (aB r e.Ball):=bb (by omega) (by omega)
 have eW:W ((bj m).Wickets+1) =(bj m).Wickets+1:=bb (by omega) (by omega)
 rw [eT] at b2
 rw [eW] at b3
 have eWk :(cD r (bj m) e).Wickets =(bj m).Wickets+m0 e.Ball:=by
  rw [b3];unfold m0
  split <;> omega
 have w01:0≤m0 e.Ball∧m0 e.Ball≤1:=by unfold m0;split <;> decide
 have x1 :(ia (ed r i m (bt m e) e.Ball)).Innings =(m.Innings.length:Int) - 1:=eK
 have x2 :(ia (ed r i m (bt m e) e.Ball)).Total =(bj m).Runs+bX (aB r e.Ball):=by
  show (bj (bt m e)).Runs=_
  rw [ey,b2]
 have x3 :(ia (ed r i m (bt m e) e.Ball)).Wickets =(bj m).Wickets+m0 e.Ball:=by
  show (bj (bt m e)).Wickets=_
  rw [ey,eWk]
 have x4 :(ia (ed r i m (bt m e) e.Ball)).Over =(bj m).Complete:=rfl
 have x5 :(ia (ed r i m (bt m e) e.Ball)).Ball =(bj m).InOver:=rfl
 refine ⟨⟨rfl,Ek he hk,f1,⟨f3,f4,f5,f6⟩,?_,?_,?_,ht,?_,?_⟩,?_⟩
 ·rw [x1];omega
 ·intro y c hy
  have:=h.bef y c hy
  rw [x1];omega
 ·rw [x1,x4,x5];exact ⟨c1,c2⟩
 ·rw [x1,x2];omega
 ·rw [x1,x3];omega
 ·rw [es]
  refine uW ?_
  rw [←es]
  generalize ia (ed r i m (bt m e) e.Ball)=X at *
  have hb:uR m.Innings.length (some (X,(aB r e.Ball).Counts)):=fun y c hy=>by
   cases hy
   rw [x1,x2,x3];omega
  refine ⟨h.rules,dD h.p1 (by omega),dD h.p2 (by omega),by unfold gM;rw [mO];exact hb,fun _=>?_⟩
  unfold gM
  rw [mO,rl hl,hr]
  have q:X.Innings =(m.Innings.length:Int) - 1:=x1
  unfold Cur bO bI bT bW
  simp only [if_pos q]
  rw [b4,b5,b2,eWk,x2,x3,x4,x5]
  exact ⟨rfl,rfl,Int.le_refl _,by omega,by rw [Int.sub_self];rfl,Int.le_refl _⟩
def vY:Match→List Mir.Event→Int→List Delivered
 | _,[],_=> []
 | m,e::l,i=>if jO m i e != 0 then [] else uk m.Rules i m (c8 m i e) e []++vY (c8 m i e) l (i+1)
theorem I9 :∀ (l:List Mir.Event) (m:Match) (i:Int) (o:List Delivered),(gF m l i o).1=o++vY m l i
 | [],_,_,o=>(List.append_nil o).symm
 | e::l,m,i,o=>by
  unfold gF vY
  cases hc:jO m i e != 0 with
  | true=>rw [if_pos rfl,if_pos rfl];exact (List.append_nil o).symm
  | false=>
   rw [if_neg Bool.false_ne_true,if_neg Bool.false_ne_true,I9 l,←List.append_assoc]
   congr 1
   unfold uk
   split
   ·rw [List.nil_append]
   ·rw [List.append_nil]
def sT (r:Rules):Bef→List Row→List Delivery→Prop
 | _,[],ds=>ds=[]
 | b,x::xs,ds=>∃ d t,ds=d::t∧okRow r b x d∧sT r (some (x,(aB r d).Counts)) xs t
theorem xZ {r:Rules} :∀ (l:List Mir.Event) (m:Match) (i:Int) (b:Bef),Inv r m (100*i) b→0≤i→sT r b ((vY m l i).map ia) ((vY m l i).map (·.Delivery))
 | [],_,_,_,_,_=>rfl
 | e::l,m,i,b,h,h0=>by
  unfold vY
  cases hc:jO m i e != 0 with
  | true=>rw [if_pos rfl];rfl
  | false=>
   rw [if_neg Bool.false_ne_true]
   obtain ⟨hi,hs⟩:=xB hc
   have hy:c8 m i e=bt m e:=by unfold c8;rw [decide_eq_false (by omega)];rfl
   have e1:100*i+100=100 *(i+1):=by omega
   rw [hy]
   unfold uk
   cases hk:e.Kind==4 with
   | true=>
    rw [if_pos rfl]
    have hb:=Hi i h (by omega) (by omega) hs (by simpa using hk)
    rw [h.rules,List.nil_append,List.singleton_append,List.map_cons,List.map_cons]
    rw [e1] at hb
    exact ⟨_,_,rfl,hb.1,xZ l _ _ _ hb.2 (by omega)⟩
   | false=>
    rw [if_neg Bool.false_ne_true,List.nil_append]
    have hb:=FP h (by omega) (by omega) hs (by simpa using hk)
    rw [e1] at hb
    exact xZ l _ _ _ hb (by omega)
theorem Iy (r:Rules):Inv r (F3 r) 0 none:=⟨rfl,⟨Int.le_refl _,Int.le_refl _,rfl⟩,⟨Int.le_refl _,Int.le_refl _,rfl⟩,(fun _ _ z=>by cases z),fun z=>absurd z (show ¬ 0 <([]:List Innings).length by decide)⟩
theorem Iq (r:Rules) (l:List Mir.Event):sT r none ((aN r l).1.map ia) ((aN r l).1.map (·.Delivery)):=by
 unfold aN
 split
 ·rfl
 ·rw [I9,List.nil_append]
  exact xZ l _ 0 none (Iy r) (Int.le_refl _)
end Go.Proofs.YtffdpnmioidloaaGreatDoor
namespace Go.Proofs.YtffdpnmioidloaaGreatDoor
open Go Go.Mir
attribute [local irreducible] Go.Mir.DT.sat Go.Mir.evPat Go.Mir.RT.sat Go.Mir.evFn
theorem O6 (s:ByteArray):emp s=!decide ((s.size:Int)>0):=by
 cases h:emp s with
 | false=>have:=lA h;rw [decide_eq_true (show (s.size:Int)>0 by omega)];rfl
 | true=>
  have h2:=bytes_eq_iff.1 h
  have:s.data.toList.length=0:=by rw [h2];rfl
  have:s.size=0:=by simpa using this
  rw [decide_eq_false (show ¬(s.size:Int)>0 by omega)];rfl
theorem Mw (s:ByteArray) :(tl s).data.toList=s.data.toList.drop 1:=by
 unfold tl
 rw [ByteArray.data_extract,Array.toList_extract]
 show (s.data.toList.drop 1).take (s.size - 1)=_
 rw [List.take_of_length_le (by simp)]
theorem KO (s:ByteArray):hd s =((s.data.toList.headD 0).toNat:Int):=by
 unfold hd
 rw [Array.getD_eq_getD_getElem?,←Array.getElem?_toList]
 cases s.data.toList <;> rfl
end Go.Proofs.YtffdpnmioidloaaGreatDoor
namespace Go.Proofs.YtffdpnmioidloaaGreatDoor
open Go Go.Mir
attribute [local irreducible] Go.Mir.DT.sat Go.Mir.evPat Go.Mir.RT.sat Go.Mir.evFn
end Go.Proofs.YtffdpnmioidloaaGreatDoor
