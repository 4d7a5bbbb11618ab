/- Texts of the mirror and contracts, put together. -/
import Derived.Test.YtkgplaoappjkcaaGreatPS7
import Derived.Test.YtkgplaoappjkcaaGreatPS3
import Derived.Test.YtkgplaoappjkcaaGreatPS1
import Derived.Shelf.SlLaysN
import Derived.Shelf.RegionOpenPlain
import Derived.WalkKit
import Derived.Deep.LoopGhost
import Derived.Deep.RegionLaw
import Derived.Lib.Walk
import Derived.Sort.WalkB12
import Derived.Lib.SliceRun
namespace Go.Proofs.YtkgplaoappjkcaaGreat
open Go Go.Mir
attribute [local irreducible] Go.Mir.DT.sat Go.Mir.evPat Go.Mir.RT.sat Go.Mir.evFn
abbrev TME:Type:=ByteArray×Int×Int×Int×Int×Int×Int×Int×Bool×Int×Int×Int×Int×List Phase×Int×Int×Bool×Int×Int×Int×Int×Int×Mir.Event×List Innings×Unit
def _root_.Go.Mir.mkE (x:TME):Match:=(mkM x.1 x.2.1 x.2.2.1 x.2.2.2.1 x.2.2.2.2.1 x.2.2.2.2.2.1 x.2.2.2.2.2.2.1 x.2.2.2.2.2.2.2.1 x.2.2.2.2.2.2.2.2.1 x.2.2.2.2.2.2.2.2.2.1 x.2.2.2.2.2.2.2.2.2.2.1 x.2.2.2.2.2.2.2.2.2.2.2.1 x.2.2.2.2.2.2.2.2.2.2.2.2.1 x.2.2.2.2.2.2.2.2.2.2.2.2.2.1 x.2.2.2.2.2.2.2.2.2.2.2.2.2.2.1 x.2.2.2.2.2.2.2.2.2.2.2.2.2.2.2.1 x.2.2.2.2.2.2.2.2.2.2.2.2.2.2.2.2.1 x.2.2.2.2.2.2.2.2.2.2.2.2.2.2.2.2.2.1 x.2.2.2.2.2.2.2.2.2.2.2.2.2.2.2.2.2.2.1 x.2.2.2.2.2.2.2.2.2.2.2.2.2.2.2.2.2.2.2.1 x.2.2.2.2.2.2.2.2.2.2.2.2.2.2.2.2.2.2.2.2.1 x.2.2.2.2.2.2.2.2.2.2.2.2.2.2.2.2.2.2.2.2.2.1 x.2.2.2.2.2.2.2.2.2.2.2.2.2.2.2.2.2.2.2.2.2.2.2.1)
abbrev sW:Pat:=⟨[(0,.a (oR (.c (.osl 0 1)))),(1,.h (.nm .Event))],[(0,.row 1 (.nm .Innings))],2⟩
abbrev sX:Pat:=⟨[(0,.a (oR (.c (.osl 0 2)))),(1,.h I)],[(0,.row 2 (.nm .Innings))],3⟩
def Fw:Den (tyP sW)→List Prop×Den (tyP sX):=fun x=>([aE (mkE x),aO (mkE x)=true,(mkE x).Stage=2],((aa (mkE x) x.2.2.2.2.2.2.2.2.2.2.2.2.2.2.2.2.2.2.2.2.2.2.1).Rules.Name,(aa (mkE x) x.2.2.2.2.2.2.2.2.2.2.2.2.2.2.2.2.2.2.2.2.2.2.1).Rules.Side,(aa (mkE x) x.2.2.2.2.2.2.2.2.2.2.2.2.2.2.2.2.2.2.2.2.2.2.1).Rules.Innings,(aa (mkE x) x.2.2.2.2.2.2.2.2.2.2.2.2.2.2.2.2.2.2.2.2.2.2.1).Rules.Overs,(aa (mkE x) x.2.2.2.2.2.2.2.2.2.2.2.2.2.2.2.2.2.2.2.2.2.2.1).Rules.Balls,(aa (mkE x) x.2.2.2.2.2.2.2.2.2.2.2.2.2.2.2.2.2.2.2.2.2.2.1).Rules.Quota,(aa (mkE x) x.2.2.2.2.2.2.2.2.2.2.2.2.2.2.2.2.2.2.2.2.2.2.1).Rules.Wide,(aa (mkE x) x.2.2.2.2.2.2.2.2.2.2.2.2.2.2.2.2.2.2.2.2.2.2.1).Rules.NoBall,(aa (mkE x) x.2.2.2.2.2.2.2.2.2.2.2.2.2.2.2.2.2.2.2.2.2.2.1).Rules.FreeHit,(aa (mkE x) x.2.2.2.2.2.2.2.2.2.2.2.2.2.2.2.2.2.2.2.2.2.2.1).Rules.NewBall,(aa (mkE x) x.2.2.2.2.2.2.2.2.2.2.2.2.2.2.2.2.2.2.2.2.2.2.1).Rules.FollowOn,(aa (mkE x) x.2.2.2.2.2.2.2.2.2.2.2.2.2.2.2.2.2.2.2.2.2.2.1).Rules.Reviews,(aa (mkE x) x.2.2.2.2.2.2.2.2.2.2.2.2.2.2.2.2.2.2.2.2.2.2.1).Rules.Outside,(aa (mkE x) x.2.2.2.2.2.2.2.2.2.2.2.2.2.2.2.2.2.2.2.2.2.2.1).Rules.Power,(aa (mkE x) x.2.2.2.2.2.2.2.2.2.2.2.2.2.2.2.2.2.2.2.2.2.2.1).Stage,(aa (mkE x) x.2.2.2.2.2.2.2.2.2.2.2.2.2.2.2.2.2.2.2.2.2.2.1).First,(aa (mkE x) x.2.2.2.2.2.2.2.2.2.2.2.2.2.2.2.2.2.2.2.2.2.2.1).Follow,(aa (mkE x) x.2.2.2.2.2.2.2.2.2.2.2.2.2.2.2.2.2.2.2.2.2.2.1).Penalty.1,(aa (mkE x) x.2.2.2.2.2.2.2.2.2.2.2.2.2.2.2.2.2.2.2.2.2.2.1).Penalty.2.1,(aa (mkE x) x.2.2.2.2.2.2.2.2.2.2.2.2.2.2.2.2.2.2.2.2.2.2.1).Result.Win,(aa (mkE x) x.2.2.2.2.2.2.2.2.2.2.2.2.2.2.2.2.2.2.2.2.2.2.1).Result.Side,(aa (mkE x) x.2.2.2.2.2.2.2.2.2.2.2.2.2.2.2.2.2.2.2.2.2.2.1).Result.Margin,aN (mkE x) x.2.2.2.2.2.2.2.2.2.2.2.2.2.2.2.2.2.2.2.2.2.2.1,(aa (mkE x) x.2.2.2.2.2.2.2.2.2.2.2.2.2.2.2.2.2.2.2.2.2.2.1).Innings,()))
def FA:Den (tyP sW)→List Prop×Den (tyP sX):=fun x=>([aE (mkE x),aO (mkE x)=true,(mkE x).Stage=3,bk x.2.2.2.2.2.2.2.2.2.2.2.2.2.2.2.2.2.2.2.2.2.2.1=0],((ag (mkE x) x.2.2.2.2.2.2.2.2.2.2.2.2.2.2.2.2.2.2.2.2.2.2.1).Rules.Name,(ag (mkE x) x.2.2.2.2.2.2.2.2.2.2.2.2.2.2.2.2.2.2.2.2.2.2.1).Rules.Side,(ag (mkE x) x.2.2.2.2.2.2.2.2.2.2.2.2.2.2.2.2.2.2.2.2.2.2.1).Rules.Innings,(ag (mkE x) x.2.2.2.2.2.2.2.2.2.2.2.2.2.2.2.2.2.2.2.2.2.2.1).Rules.Overs,(ag (mkE x) x.2.2.2.2.2.2.2.2.2.2.2.2.2.2.2.2.2.2.2.2.2.2.1).Rules.Balls,(ag (mkE x) x.2.2.2.2.2.2.2.2.2.2.2.2.2.2.2.2.2.2.2.2.2.2.1).Rules.Quota,(ag (mkE x) x.2.2.2.2.2.2.2.2.2.2.2.2.2.2.2.2.2.2.2.2.2.2.1).Rules.Wide,(ag (mkE x) x.2.2.2.2.2.2.2.2.2.2.2.2.2.2.2.2.2.2.2.2.2.2.1).Rules.NoBall,(ag (mkE x) x.2.2.2.2.2.2.2.2.2.2.2.2.2.2.2.2.2.2.2.2.2.2.1).Rules.FreeHit,(ag (mkE x) x.2.2.2.2.2.2.2.2.2.2.2.2.2.2.2.2.2.2.2.2.2.2.1).Rules.NewBall,(ag (mkE x) x.2.2.2.2.2.2.2.2.2.2.2.2.2.2.2.2.2.2.2.2.2.2.1).Rules.FollowOn,(ag (mkE x) x.2.2.2.2.2.2.2.2.2.2.2.2.2.2.2.2.2.2.2.2.2.2.1).Rules.Reviews,(ag (mkE x) x.2.2.2.2.2.2.2.2.2.2.2.2.2.2.2.2.2.2.2.2.2.2.1).Rules.Outside,(ag (mkE x) x.2.2.2.2.2.2.2.2.2.2.2.2.2.2.2.2.2.2.2.2.2.2.1).Rules.Power,(ag (mkE x) x.2.2.2.2.2.2.2.2.2.2.2.2.2.2.2.2.2.2.2.2.2.2.1).Stage,(ag (mkE x) x.2.2.2.2.2.2.2.2.2.2.2.2.2.2.2.2.2.2.2.2.2.2.1).First,(ag (mkE x) x.2.2.2.2.2.2.2.2.2.2.2.2.2.2.2.2.2.2.2.2.2.2.1).Follow,(ag (mkE x) x.2.2.2.2.2.2.2.2.2.2.2.2.2.2.2.2.2.2.2.2.2.2.1).Penalty.1,(ag (mkE x) x.2.2.2.2.2.2.2.2.2.2.2.2.2.2.2.2.2.2.2.2.2.2.1).Penalty.2.1,(ag (mkE x) x.2.2.2.2.2.2.2.2.2.2.2.2.2.2.2.2.2.2.2.2.2.2.1).Result.Win,(ag (mkE x) x.2.2.2.2.2.2.2.2.2.2.2.2.2.2.2.2.2.2.2.2.2.2.1).Result.Side,(ag (mkE x) x.2.2.2.2.2.2.2.2.2.2.2.2.2.2.2.2.2.2.2.2.2.2.1).Result.Margin,cb (mkE x) x.2.2.2.2.2.2.2.2.2.2.2.2.2.2.2.2.2.2.2.2.2.2.1,(ag (mkE x) x.2.2.2.2.2.2.2.2.2.2.2.2.2.2.2.2.2.2.2.2.2.2.1).Innings,()))
def Lb:Den (tyP sW)→List Prop×Den (tyP sX):=fun x=>([aE (mkE x),aO (mkE x)=true,bk x.2.2.2.2.2.2.2.2.2.2.2.2.2.2.2.2.2.2.2.2.2.2.1=0],((ab (mkE x) x.2.2.2.2.2.2.2.2.2.2.2.2.2.2.2.2.2.2.2.2.2.2.1).Rules.Name,(ab (mkE x) x.2.2.2.2.2.2.2.2.2.2.2.2.2.2.2.2.2.2.2.2.2.2.1).Rules.Side,(ab (mkE x) x.2.2.2.2.2.2.2.2.2.2.2.2.2.2.2.2.2.2.2.2.2.2.1).Rules.Innings,(ab (mkE x) x.2.2.2.2.2.2.2.2.2.2.2.2.2.2.2.2.2.2.2.2.2.2.1).Rules.Overs,(ab (mkE x) x.2.2.2.2.2.2.2.2.2.2.2.2.2.2.2.2.2.2.2.2.2.2.1).Rules.Balls,(ab (mkE x) x.2.2.2.2.2.2.2.2.2.2.2.2.2.2.2.2.2.2.2.2.2.2.1).Rules.Quota,(ab (mkE x) x.2.2.2.2.2.2.2.2.2.2.2.2.2.2.2.2.2.2.2.2.2.2.1).Rules.Wide,(ab (mkE x) x.2.2.2.2.2.2.2.2.2.2.2.2.2.2.2.2.2.2.2.2.2.2.1).Rules.NoBall,(ab (mkE x) x.2.2.2.2.2.2.2.2.2.2.2.2.2.2.2.2.2.2.2.2.2.2.1).Rules.FreeHit,(ab (mkE x) x.2.2.2.2.2.2.2.2.2.2.2.2.2.2.2.2.2.2.2.2.2.2.1).Rules.NewBall,(ab (mkE x) x.2.2.2.2.2.2.2.2.2.2.2.2.2.2.2.2.2.2.2.2.2.2.1).Rules.FollowOn,(ab (mkE x) x.2.2.2.2.2.2.2.2.2.2.2.2.2.2.2.2.2.2.2.2.2.2.1).Rules.Reviews,(ab (mkE x) x.2.2.2.2.2.2.2.2.2.2.2.2.2.2.2.2.2.2.2.2.2.2.1).Rules.Outside,(ab (mkE x) x.2.2.2.2.2.2.2.2.2.2.2.2.2.2.2.2.2.2.2.2.2.2.1).Rules.Power,(ab (mkE x) x.2.2.2.2.2.2.2.2.2.2.2.2.2.2.2.2.2.2.2.2.2.2.1).Stage,(ab (mkE x) x.2.2.2.2.2.2.2.2.2.2.2.2.2.2.2.2.2.2.2.2.2.2.1).First,(ab (mkE x) x.2.2.2.2.2.2.2.2.2.2.2.2.2.2.2.2.2.2.2.2.2.2.1).Follow,(ab (mkE x) x.2.2.2.2.2.2.2.2.2.2.2.2.2.2.2.2.2.2.2.2.2.2.1).Penalty.1,(ab (mkE x) x.2.2.2.2.2.2.2.2.2.2.2.2.2.2.2.2.2.2.2.2.2.2.1).Penalty.2.1,(ab (mkE x) x.2.2.2.2.2.2.2.2.2.2.2.2.2.2.2.2.2.2.2.2.2.2.1).Result.Win,(ab (mkE x) x.2.2.2.2.2.2.2.2.2.2.2.2.2.2.2.2.2.2.2.2.2.2.1).Result.Side,(ab (mkE x) x.2.2.2.2.2.2.2.2.2.2.2.2.2.2.2.2.2.2.2.2.2.2.1).Result.Margin,aM (mkE x) x.2.2.2.2.2.2.2.2.2.2.2.2.2.2.2.2.2.2.2.2.2.2.1,(ab (mkE x) x.2.2.2.2.2.2.2.2.2.2.2.2.2.2.2.2.2.2.2.2.2.2.1).Innings,()))
abbrev Qz:List (Nat×PB):= [(2,.cells (oR (.c (.osl 0 1)))),(3,.dat (.nm .Event)),(4,.dat (.nm .Match)),(0,.row 1 (.nm .Innings))]
abbrev qPl:Pat:=⟨[(2,.c (.ptr 2 0)),(3,.c (.ptr 3 0)),(4,.c (.ptr 4 0)),(9,.h I)],Qz,5⟩
abbrev xPl:List (Lf×Pat):= [(.ret,⟨[(4,.c (.ptr 4 0)),(5,.h I)],[(4,.cells (oR (.c (.osl 0 1)))),(0,.row 1 (.nm .Innings))],5⟩),(.ext 0,⟨[(2,.c (.ptr 2 0)),(3,.c (.ptr 3 0)),(4,.c (.ptr 4 0))],Qz,5⟩)]
abbrev TP1:Type:=ByteArray×Int×Int×Int×Int×Int×Int×Int×Bool×Int×Int×Int×Int×List Phase×Int×Int×Bool×Int×Int×Int×Int×Int×Mir.Event×Match×List Innings×Unit
abbrev TPl:Type:=Int×TP1
def xy (x:TPl):Prop:=(-1≤x.1∧x.1<x.2.2.2.2.2.2.2.2.2.2.2.2.2.2.2.2.2.2.2.2.2.2.2.2.2.1.length∧x.2.2.2.2.2.2.2.2.2.2.2.2.2.2.2.2.2.2.2.2.2.2.2.2.2.1.length≤1000000)∧dX x.2.2.2.2.2.2.2.2.2.2.2.2.2.2.2.2.2.2.2.2.2.2.2.2.2.1
def HF (x:TPl):Nat:=(x.1+1).toNat
def SN (y:TP1) (xs:List Innings):Int×TM:=(0,y.1,y.2.1,y.2.2.1,y.2.2.2.1,y.2.2.2.2.1,y.2.2.2.2.2.1,y.2.2.2.2.2.2.1,y.2.2.2.2.2.2.2.1,y.2.2.2.2.2.2.2.2.1,y.2.2.2.2.2.2.2.2.2.1,y.2.2.2.2.2.2.2.2.2.2.1,y.2.2.2.2.2.2.2.2.2.2.2.1,y.2.2.2.2.2.2.2.2.2.2.2.2.1,y.2.2.2.2.2.2.2.2.2.2.2.2.2.1,y.2.2.2.2.2.2.2.2.2.2.2.2.2.2.1,y.2.2.2.2.2.2.2.2.2.2.2.2.2.2.2.1,y.2.2.2.2.2.2.2.2.2.2.2.2.2.2.2.2.1,y.2.2.2.2.2.2.2.2.2.2.2.2.2.2.2.2.2.1,y.2.2.2.2.2.2.2.2.2.2.2.2.2.2.2.2.2.2.1,y.2.2.2.2.2.2.2.2.2.2.2.2.2.2.2.2.2.2.2.1,y.2.2.2.2.2.2.2.2.2.2.2.2.2.2.2.2.2.2.2.2.1,y.2.2.2.2.2.2.2.2.2.2.2.2.2.2.2.2.2.2.2.2.2.1,xs,())
def yi (y:TP1):Option Nat→Sum (Int×TM) TP1
 | some k=> .inl (SN y (y.2.2.2.2.2.2.2.2.2.2.2.2.2.2.2.2.2.2.2.2.2.2.2.2.1.set k (wR (y.2.2.2.2.2.2.2.2.2.2.2.2.2.2.2.2.2.2.2.2.2.2.2.2.1.getD k Innings.zero))))
 | none=> .inr y
def l9 (x:TPl):Sum (Int×TM) TP1:=yi x.2 (d7 x.2.2.2.2.2.2.2.2.2.2.2.2.2.2.2.2.2.2.2.2.2.2.2.1.Side x.2.2.2.2.2.2.2.2.2.2.2.2.2.2.2.2.2.2.2.2.2.2.2.2.2.1 (x.1+1).toNat)
theorem Gz {r:Rules} (h:ar r=0):IntKind.i64.wrap (2*r.Innings)=2*r.Innings:=by
 have:=kX h
 exact bi (by omega) (by omega)
theorem Ba {m:Match} (h:aO m=true) (h2:m.Stage=2) :(m.Innings.length:Int)<2*m.Rules.Innings∧m.Innings.length<4:=by
 have hc:=np h
 have h1:=nq h
 have h3:=Gz hc
 have h4:=(kQ h).1
 have h5:=kX hc
 simp only [gh,Bool.or_eq_false_iff,W,h3,h2] at h1
 have h6:=h1.1.1.2
 simp at h6
 omega
theorem Ff (m:Match) (e:Mir.Event) (hm:aE m) (hv:aO m=true) (h2:m.Stage=2) :(evPat (ao [sf,dV,iV,xS,pV] Tryz.f120) (fun _=>none) Tryz.f120 sW sX (m.Rules.Name,m.Rules.Side,m.Rules.Innings,m.Rules.Overs,m.Rules.Balls,m.Rules.Quota,m.Rules.Wide,m.Rules.NoBall,m.Rules.FreeHit,m.Rules.NewBall,m.Rules.FollowOn,m.Rules.Reviews,m.Rules.Outside,m.Rules.Power,m.Stage,m.First,m.Follow,m.Penalty.1,m.Penalty.2.1,m.Result.Win,m.Result.Side,m.Result.Margin,e,m.Innings,())).sat fun z_=>z_ =(Fw (m.Rules.Name,m.Rules.Side,m.Rules.Innings,m.Rules.Overs,m.Rules.Balls,m.Rules.Quota,m.Rules.Wide,m.Rules.NoBall,m.Rules.FreeHit,m.Rules.NewBall,m.Rules.FollowOn,m.Rules.Reviews,m.Rules.Outside,m.Rules.Power,m.Stage,m.First,m.Follow,m.Penalty.1,m.Penalty.2.1,m.Result.Win,m.Result.Side,m.Result.Margin,e,m.Innings,())).2:=by
 refine cast (by kernel_rfl) (?_:let r1:Int:=IntKind.i64.wrap (bR m - (1:Int));let r2:Bool:=r1 ==(0:Int);let r3:Bool:=r1 ==(1:Int);let r4:Int:=bif IntKind.i64.wrap ((↑m.5.length:Int) +(1:Int))==IntKind.i64.wrap ((2:Int)*m.1.3) then IntKind.i64.wrap (IntKind.i64.wrap (fD m (bX (bR m)) - fD m (bR m)) +(1:Int)) else (0:Int);let r5:Innings:=gM m.1 (bR m) r4 m.6.1;let r6:Innings:=gM m.1 (bR m) r4 m.6.2.1;let r7:Int:=bZ m.1 r5 e;let r8:Int:=bZ m.1 r6 e;let r9:Bool:=gn m.1 (bR m) r4 m.6.1 !=(0:Int);let r10:Bool:=gn m.1 (bR m) r4 m.6.2.1 !=(0:Int);let r11:List Innings:= [cK m.1 r5 e];let r12:List Innings:= [cK m.1 r6 e];let r13:Bool:=r7 !=(0:Int);let r14:Bool:=r8 !=(0:Int);c9 m∧(r2=true→((0:Int)≤(0:Int)∧(0:Int) <(↑(2:Nat):Int))∧(r9=true→(m.1.1,m.1.2,m.1.3,m.1.4,m.1.5,m.1.6,m.1.7,m.1.8,m.1.9,m.1.10,m.1.11,m.1.12,m.1.13,m.1.14,m.2,m.3,m.4,m.6.1,m.6.2.1,m.7.1,m.7.2,m.7.3,(1:Int),m.5,()) =((aa m e).1.1,(aa m e).1.2,(aa m e).1.3,(aa m e).1.4,(aa m e).1.5,(aa m e).1.6,(aa m e).1.7,(aa m e).1.8,(aa m e).1.9,(aa m e).1.10,(aa m e).1.11,(aa m e).1.12,(aa m e).1.13,(aa m e).1.14,(aa m e).2,(aa m e).3,(aa m e).4,(aa m e).6.1,(aa m e).6.2.1,(aa m e).7.1,(aa m e).7.2,(aa m e).7.3,aN m e,(aa m e).5,()))∧(r9=false→aj r5∧(r13=true→(m.1.1,m.1.2,m.1.3,m.1.4,m.1.5,m.1.6,m.1.7,m.1.8,m.1.9,m.1.10,m.1.11,m.1.12,m.1.13,m.1.14,m.2,m.3,m.4,m.6.1,m.6.2.1,m.7.1,m.7.2,m.7.3,r7,m.5,()) =((aa m e).1.1,(aa m e).1.2,(aa m e).1.3,(aa m e).1.4,(aa m e).1.5,(aa m e).1.6,(aa m e).1.7,(aa m e).1.8,(aa m e).1.9,(aa m e).1.10,(aa m e).1.11,(aa m e).1.12,(aa m e).1.13,(aa m e).1.14,(aa m e).2,(aa m e).3,(aa m e).4,(aa m e).6.1,(aa m e).6.2.1,(aa m e).7.1,(aa m e).7.2,(aa m e).7.3,aN m e,(aa m e).5,()))∧(r13=false→(r2=true→((0:Int)≤(0:Int)∧(0:Int) <(↑(2:Nat):Int))∧(m.5.length+r11.length) *(304:Nat)≤(70368744177664:Nat)∧(m.1.1,m.1.2,m.1.3,m.1.4,m.1.5,m.1.6,m.1.7,m.1.8,m.1.9,m.1.10,m.1.11,m.1.12,m.1.13,m.1.14,(3:Int),m.3,m.4,(0:Int),m.6.2.1,m.7.1,m.7.2,m.7.3,(0:Int),m.5++r11,()) =((aa m e).1.1,(aa m e).1.2,(aa m e).1.3,(aa m e).1.4,(aa m e).1.5,(aa m e).1.6,(aa m e).1.7,(aa m e).1.8,(aa m e).1.9,(aa m e).1.10,(aa m e).1.11,(aa m e).1.12,(aa m e).1.13,(aa m e).1.14,(aa m e).2,(aa m e).3,(aa m e).4,(aa m e).6.1,(aa m e).6.2.1,(aa m e).7.1,(aa m e).7.2,(aa m e).7.3,aN m e,(aa m e).5,()))∧(r2=false→(r3=true→((0:Int)≤(1:Int)∧(1:Int) <(↑(2:Nat):Int))∧(m.5.length+r11.length) *(304:Nat)≤(70368744177664:Nat)∧(m.1.1,m.1.2,m.1.3,m.1.4,m.1.5,m.1.6,m.1.7,m.1.8,m.1.9,m.1.10,m.1.11,m.1.12,m.1.13,m.1.14,(3:Int),m.3,m.4,m.6.1,(0:Int),m.7.1,m.7.2,m.7.3,(0:Int),m.5++r11,()) =((aa m e).1.1,(aa m e).1.2,(aa m e).1.3,(aa m e).1.4,(aa m e).1.5,(aa m e).1.6,(aa m e).1.7,(aa m e).1.8,(aa m e).1.9,(aa m e).1.10,(aa m e).1.11,(aa m e).1.12,(aa m e).1.13,(aa m e).1.14,(aa m e).2,(aa m e).3,(aa m e).4,(aa m e).6.1,(aa m e).6.2.1,(aa m e).7.1,(aa m e).7.2,(aa m e).7.3,aN m e,(aa m e).5,()))∧(r3=false→False∧True)))))∧(r2=false→(r3=true→((0:Int)≤(1:Int)∧(1:Int) <(↑(2:Nat):Int))∧(r10=true→(m.1.1,m.1.2,m.1.3,m.1.4,m.1.5,m.1.6,m.1.7,m.1.8,m.1.9,m.1.10,m.1.11,m.1.12,m.1.13,m.1.14,m.2,m.3,m.4,m.6.1,m.6.2.1,m.7.1,m.7.2,m.7.3,(1:Int),m.5,()) =((aa m e).1.1,(aa m e).1.2,(aa m e).1.3,(aa m e).1.4,(aa m e).1.5,(aa m e).1.6,(aa m e).1.7,(aa m e).1.8,(aa m e).1.9,(aa m e).1.10,(aa m e).1.11,(aa m e).1.12,(aa m e).1.13,(aa m e).1.14,(aa m e).2,(aa m e).3,(aa m e).4,(aa m e).6.1,(aa m e).6.2.1,(aa m e).7.1,(aa m e).7.2,(aa m e).7.3,aN m e,(aa m e).5,()))∧(r10=false→aj r6∧(r14=true→(m.1.1,m.1.2,m.1.3,m.1.4,m.1.5,m.1.6,m.1.7,m.1.8,m.1.9,m.1.10,m.1.11,m.1.12,m.1.13,m.1.14,m.2,m.3,m.4,m.6.1,m.6.2.1,m.7.1,m.7.2,m.7.3,r8,m.5,()) =((aa m e).1.1,(aa m e).1.2,(aa m e).1.3,(aa m e).1.4,(aa m e).1.5,(aa m e).1.6,(aa m e).1.7,(aa m e).1.8,(aa m e).1.9,(aa m e).1.10,(aa m e).1.11,(aa m e).1.12,(aa m e).1.13,(aa m e).1.14,(aa m e).2,(aa m e).3,(aa m e).4,(aa m e).6.1,(aa m e).6.2.1,(aa m e).7.1,(aa m e).7.2,(aa m e).7.3,aN m e,(aa m e).5,()))∧(r14=false→(r2=true→((0:Int)≤(0:Int)∧(0:Int) <(↑(2:Nat):Int))∧(m.5.length+r12.length) *(304:Nat)≤(70368744177664:Nat)∧(m.1.1,m.1.2,m.1.3,m.1.4,m.1.5,m.1.6,m.1.7,m.1.8,m.1.9,m.1.10,m.1.11,m.1.12,m.1.13,m.1.14,(3:Int),m.3,m.4,(0:Int),m.6.2.1,m.7.1,m.7.2,m.7.3,(0:Int),m.5++r12,()) =((aa m e).1.1,(aa m e).1.2,(aa m e).1.3,(aa m e).1.4,(aa m e).1.5,(aa m e).1.6,(aa m e).1.7,(aa m e).1.8,(aa m e).1.9,(aa m e).1.10,(aa m e).1.11,(aa m e).1.12,(aa m e).1.13,(aa m e).1.14,(aa m e).2,(aa m e).3,(aa m e).4,(aa m e).6.1,(aa m e).6.2.1,(aa m e).7.1,(aa m e).7.2,(aa m e).7.3,aN m e,(aa m e).5,()))∧(r2=false→(r3=true→((0:Int)≤(1:Int)∧(1:Int) <(↑(2:Nat):Int))∧(m.5.length+r12.length) *(304:Nat)≤(70368744177664:Nat)∧(m.1.1,m.1.2,m.1.3,m.1.4,m.1.5,m.1.6,m.1.7,m.1.8,m.1.9,m.1.10,m.1.11,m.1.12,m.1.13,m.1.14,(3:Int),m.3,m.4,m.6.1,(0:Int),m.7.1,m.7.2,m.7.3,(0:Int),m.5++r12,()) =((aa m e).1.1,(aa m e).1.2,(aa m e).1.3,(aa m e).1.4,(aa m e).1.5,(aa m e).1.6,(aa m e).1.7,(aa m e).1.8,(aa m e).1.9,(aa m e).1.10,(aa m e).1.11,(aa m e).1.12,(aa m e).1.13,(aa m e).1.14,(aa m e).2,(aa m e).3,(aa m e).4,(aa m e).6.1,(aa m e).6.2.1,(aa m e).7.1,(aa m e).7.2,(aa m e).7.3,aN m e,(aa m e).5,()))∧(r3=false→False∧True)))))∧(r3=false→False∧True)))
 intro r1 r2 r3 r4 r5 r6 r7 r8 r9 r10 r11 r12 r13 r14
 clear_value (hr1:r1=_) (hr2:r2=_) (hr3:r3=_) (hr4:r4=_) (hr5:r5=_) (hr6:r6=_) (hr7:r7=_) (hr8:r8=_) (hr9:r9=_) (hr10:r10=_) (hr11:r11=_) (hr12:r12=_) (hr13:r13=_) (hr14:r14=_)
 have hx:=hm.2.1
 have h :(m.Stage != 2)=false:=by rw [h2];rfl
 have hb:=Ba hv h2
 have hB:bR m=cC m (m.Innings.length:Int):=by
  unfold bR;rw [hv,h2]
  exact (Cx m (by omega) (by omega)).symm
 have hT:r4=fv m (cC m (m.Innings.length:Int)):=by
  rw [hr4,hB]
  unfold fv W
  rw [Gz (np hv),bi (n:=(m.Innings.length:Int)+1) (by omega) (by omega)]
  by_cases hc :(m.Innings.length:Int)+1=2*m.Rules.Innings
  ·rw [hc];simp
  ·have :(m.Innings.length:Int)+1<2*m.Rules.Innings:=by omega
   have h5 :((m.Innings.length:Int)+1==2*m.Rules.Innings)=false:=by simpa using hc
   rw [h5]
   simp [this]
 rw [hB] at hr1 hr5 hr6 hr9 hr10
 clear hr4 hB
 rcases Bk hv h2 with hS|hS
 ·have hS:cC m (m.Innings.length:Int)=1:=hS
  have e2:r2=true:=by rw [hr2,hr1,hS];rfl
  have hX:r5=sG m:=by rw [hr5,hT];unfold sG oE cj;rw [hS];rfl
  have e8:r9 =(kU m != 0):=by rw [hr9,hT];unfold kU oE cj;rw [hS];rfl
  have hI:aj r5:=by rw [hr5];exact i3 _ _ _ _
  have hA :(m.Innings.length+r11.length)*304≤70368744177664:=by rw [hr11];simp only [List.length_singleton];omega
  have hq :(0≤(0:Int)∧(0:Int) <((2:Nat):Int)):=by decide
  have c1:r9=true→aN m e=1∧aa m e=m:=fun a=>by
   have hL:aN m e=1:=by unfold aN;rw [h,←e8,a];rfl
   exact ⟨hL,by unfold aa;rw [hL];rfl⟩
  have c2:r9=false→r13=true→aN m e=r7∧aa m e=m:=fun a b=>by
   have hL:aN m e=r7:=by unfold aN;rw [h,←e8,a,hr7,hX];rfl
   exact ⟨hL,by unfold aa;rw [hL,←hr13,b];rfl⟩
  have c3:r9=false→r13=false→aN m e=0∧aa m e=lB m e:=fun a b=>by
   have hL:aN m e=r7:=by unfold aN;rw [h,←e8,a,hr7,hX];rfl
   have hL0:aN m e=0:=by rw [hL];rw [hr13] at b;simpa using b
   exact ⟨hL0,by unfold aa;rw [hL0];rfl⟩
  subst e2
  refine ⟨hm.1,fun _=>⟨hq,fun a=>?_,fun a=>⟨hI,fun b=>?_,fun b=>⟨fun _=>⟨hq,hA,?_⟩,fun z=>Bool.noConfusion z⟩⟩⟩,fun z=>Bool.noConfusion z⟩
  ·rw [(c1 a).1,(c1 a).2]
  ·rw [(c2 a b).1,(c2 a b).2]
  ·rw [(c3 a b).1,(c3 a b).2];unfold lB qy cj;rw [hS,hr11,hX];rfl
 ·have hS:cC m (m.Innings.length:Int)=2:=hS
  have e2:r2=false:=by rw [hr2,hr1,hS];rfl
  have e3:r3=true:=by rw [hr3,hr1,hS];rfl
  have hX:r6=sG m:=by rw [hr6,hT];unfold sG oE cj;rw [hS];rfl
  have e8:r10 =(kU m != 0):=by rw [hr10,hT];unfold kU oE cj;rw [hS];rfl
  have hI:aj r6:=by rw [hr6];exact i3 _ _ _ _
  have hA :(m.Innings.length+r12.length)*304≤70368744177664:=by rw [hr12];simp only [List.length_singleton];omega
  have hq :(0≤(1:Int)∧(1:Int) <((2:Nat):Int)):=by decide
  have c1:r10=true→aN m e=1∧aa m e=m:=fun a=>by
   have hL:aN m e=1:=by unfold aN;rw [h,←e8,a];rfl
   exact ⟨hL,by unfold aa;rw [hL];rfl⟩
  have c2:r10=false→r14=true→aN m e=r8∧aa m e=m:=fun a b=>by
   have hL:aN m e=r8:=by unfold aN;rw [h,←e8,a,hr8,hX];rfl
   exact ⟨hL,by unfold aa;rw [hL,←hr14,b];rfl⟩
  have c3:r10=false→r14=false→aN m e=0∧aa m e=lB m e:=fun a b=>by
   have hL:aN m e=r8:=by unfold aN;rw [h,←e8,a,hr8,hX];rfl
   have hL0:aN m e=0:=by rw [hL];rw [hr14] at b;simpa using b
   exact ⟨hL0,by unfold aa;rw [hL0];rfl⟩
  subst e2 e3
  refine ⟨hm.1,fun z=>Bool.noConfusion z,fun _=>⟨fun _=>⟨hq,fun a=>?_,fun a=>⟨hI,fun b=>?_,fun b=>⟨fun z=>Bool.noConfusion z,fun _=>⟨fun _=>⟨hq,hA,?_⟩,fun z=>Bool.noConfusion z⟩⟩⟩⟩,fun z=>Bool.noConfusion z⟩⟩
  ·rw [(c1 a).1,(c1 a).2]
  ·rw [(c2 a b).1,(c2 a b).2]
  ·rw [(c3 a b).1,(c3 a b).2];unfold lB qy cj;rw [hS,hr12,hX];rfl
def BX:FuncId×Ctr:=(120,ae KE sW sX Fw)
theorem HX:CtrOK Tryz.prog KE 120 (ae KE sW sX Fw):=by
 refine aq (C:=ao [sf,dV,iV,xS,pV] Tryz.f120) (al (.consU zQ rfl (.consU jm rfl (.consU pq rfl (.consU EA rfl (.consU x8 rfl .nil))))) _) mixed (fn:=Tryz.f120) Tryz.func120 (by kernel_rfl) (by kernel_rfl) (by kernel_rfl) (by kernel_rfl) (by kernel_rfl) (by kernel_rfl) (Λ:=fun _ _=>none) ?_ ?_
 ·exact fun _ _ _ _ _ _ _ _ h=>by cases h
 ·rintro ⟨v1,v2,v3,v4,v5,v6,v7,v8,v9,v10,v11,v12,v13,v14,v15,v16,v17,v18,v19,v20,v21,v22,e,xs,⟨⟩⟩ hw hn
  exact Ff (mkM v1 v2 v3 v4 v5 v6 v7 v8 v9 v10 v11 v12 v13 v14 v15 v16 v17 v18 v19 v20 v21 v22 xs) e (hn _ List.mem_cons_self) (hn _ (List.mem_cons_of_mem _ List.mem_cons_self)) (hn _ (List.mem_cons_of_mem _ (List.mem_cons_of_mem _ List.mem_cons_self)))
noncomputable def lpPl:Lp:=(⟨2,ao [gT] Tryz.f121,(fun _=>none),(aA Tryz.f121 0),qPl,xPl⟩:Lp)
theorem Qe (i:Int) (v1:ByteArray) (v2:Int) (v3:Int) (v4:Int) (v5:Int) (v6:Int) (v7:Int) (v8:Int) (v9:Bool) (v10:Int) (v11:Int) (v12:Int) (v13:Int) (v14:List Phase) (v15:Int) (v16:Int) (v17:Bool) (v18:Int) (v19:Int) (v20:Int) (v21:Int) (v22:Int) (e:Mir.Event) (z:Match) (xs:List Innings) (hi:xy (i,v1,v2,v3,v4,v5,v6,v7,v8,v9,v10,v11,v12,v13,v14,v15,v16,v17,v18,v19,v20,v21,v22,e,z,xs,())) :(Go.Mir.stepG lpPl l9 (fun y:Den (tyP lpPl.q)=>xy y∧HF y<HF (i,v1,v2,v3,v4,v5,v6,v7,v8,v9,v10,v11,v12,v13,v14,v15,v16,v17,v18,v19,v20,v21,v22,e,z,xs,())) (i,v1,v2,v3,v4,v5,v6,v7,v8,v9,v10,v11,v12,v13,v14,v15,v16,v17,v18,v19,v20,v21,v22,e,z,xs,())∧Go.Mir.stepE lpPl l9 (i,v1,v2,v3,v4,v5,v6,v7,v8,v9,v10,v11,v12,v13,v14,v15,v16,v17,v18,v19,v20,v21,v22,e,z,xs,())=l9 (i,v1,v2,v3,v4,v5,v6,v7,v8,v9,v10,v11,v12,v13,v14,v15,v16,v17,v18,v19,v20,v21,v22,e,z,xs,())):=by
 refine cast (by kernel_rfl) (?_:let r1:Bool:=decide (i≥(0:Int));let r2:Bool:=(xs.getD i.toNat (dflt (Ty.nm Nm.Innings))).1==e.2;((r1=true→((0:Int)≤i∧i <(↑xs.length:Int))∧(r2=true→((0:Int)≤i∧i <(↑xs.length:Int))∧aj (xs.getD i.toNat (dflt (Ty.nm Nm.Innings)))∧((0:Int)≤i∧i <(↑xs.length:Int))∧True)∧(r2=false→xy (IntKind.i64.wrap (i - (1:Int)),v1,v2,v3,v4,v5,v6,v7,v8,v9,v10,v11,v12,v13,v14,v15,v16,v17,v18,v19,v20,v21,v22,e,z,xs,())∧HF (IntKind.i64.wrap (i - (1:Int)),v1,v2,v3,v4,v5,v6,v7,v8,v9,v10,v11,v12,v13,v14,v15,v16,v17,v18,v19,v20,v21,v22,e,z,xs,())<HF (i,v1,v2,v3,v4,v5,v6,v7,v8,v9,v10,v11,v12,v13,v14,v15,v16,v17,v18,v19,v20,v21,v22,e,z,xs,())))∧(r1=false→True))∧(bif r1 then bif r2 then Sum.inl ((0:Int),v1,v2,v3,v4,v5,v6,v7,v8,v9,v10,v11,v12,v13,v14,v15,v16,v17,v18,v19,v20,v21,v22,xs.set i.toNat (Innings.mk (xs.getD i.toNat (dflt (Ty.nm Nm.Innings))).1 (xs.getD i.toNat (dflt (Ty.nm Nm.Innings))).2 (xs.getD i.toNat (dflt (Ty.nm Nm.Innings))).3 (W ((xs.getD i.toNat (dflt (Ty.nm Nm.Innings))).4 +(5:Int))) (xs.getD i.toNat (dflt (Ty.nm Nm.Innings))).5 (Extras.mk (xs.getD i.toNat (dflt (Ty.nm Nm.Innings))).6.1 (xs.getD i.toNat (dflt (Ty.nm Nm.Innings))).6.2 (xs.getD i.toNat (dflt (Ty.nm Nm.Innings))).6.3 (xs.getD i.toNat (dflt (Ty.nm Nm.Innings))).6.4 (W ((xs.getD i.toNat (dflt (Ty.nm Nm.Innings))).6.5 +(5:Int)))) (xs.getD i.toNat (dflt (Ty.nm Nm.Innings))).7 (xs.getD i.toNat (dflt (Ty.nm Nm.Innings))).8 (xs.getD i.toNat (dflt (Ty.nm Nm.Innings))).9 (xs.getD i.toNat (dflt (Ty.nm Nm.Innings))).10 (xs.getD i.toNat (dflt (Ty.nm Nm.Innings))).11 (xs.getD i.toNat (dflt (Ty.nm Nm.Innings))).12 (xs.getD i.toNat (dflt (Ty.nm Nm.Innings))).13 (xs.getD i.toNat (dflt (Ty.nm Nm.Innings))).14 (xs.getD i.toNat (dflt (Ty.nm Nm.Innings))).15 (xs.getD i.toNat (dflt (Ty.nm Nm.Innings))).16 (xs.getD i.toNat (dflt (Ty.nm Nm.Innings))).17 (xs.getD i.toNat (dflt (Ty.nm Nm.Innings))).18 (xs.getD i.toNat (dflt (Ty.nm Nm.Innings))).19 (xs.getD i.toNat (dflt (Ty.nm Nm.Innings))).20 (xs.getD i.toNat (dflt (Ty.nm Nm.Innings))).21 (xs.getD i.toNat (dflt (Ty.nm Nm.Innings))).22 (xs.getD i.toNat (dflt (Ty.nm Nm.Innings))).23),()) else l9 (IntKind.i64.wrap (i - (1:Int)),v1,v2,v3,v4,v5,v6,v7,v8,v9,v10,v11,v12,v13,v14,v15,v16,v17,v18,v19,v20,v21,v22,e,z,xs,()) else Sum.inr (v1,v2,v3,v4,v5,v6,v7,v8,v9,v10,v11,v12,v13,v14,v15,v16,v17,v18,v19,v20,v21,v22,e,z,xs,()))=l9 (i,v1,v2,v3,v4,v5,v6,v7,v8,v9,v10,v11,v12,v13,v14,v15,v16,v17,v18,v19,v20,v21,v22,e,z,xs,()))
 intro r1 r2
 clear_value (hr1:r1=_) (hr2:r2=_)
 obtain ⟨⟨h1,h2,h3⟩,hs⟩:=hi
 simp only at h1 h2 h3 hs
 refine ⟨⟨fun h=>?_,fun _=>trivial⟩,?_⟩
 ·have h:i≥0:=of_decide_eq_true (by rw [←hr1];exact h)
  have hl:i.toNat<xs.length:=by omega
  refine ⟨⟨h,by omega⟩,fun _=>⟨⟨h,by omega⟩,hs _ (fZ hl _),⟨h,by omega⟩,trivial⟩,fun _=>?_⟩
  rw [bi (n:=i - 1) (by omega) (by omega)]
  exact ⟨⟨⟨by simp only;omega,by simp only;omega,h3⟩,hs⟩,by simp only [HF];omega⟩
 ·by_cases h:i≥0
  ·have q :(i+1).toNat=i.toNat+1:=by omega
   have eF:d7 e.Side xs (i+1).toNat=if r2 then some i.toNat else d7 e.Side xs i.toNat:=by rw [q,hr2];rfl
   rw [hr1,decide_eq_true h,cond_true]
   show _=yi _ (d7 e.Side xs (i+1).toNat)
   rw [eF]
   cases r2 with
   | true=>rfl
   | false=>
    rw [bi (n:=i - 1) (by omega) (by omega)]
    show yi _ (d7 e.Side xs (i - 1+1).toNat)=_
    rw [show (i - 1+1).toNat=i.toNat by omega]
    rfl
  ·have q :(i+1).toNat=0:=by omega
   rw [hr1,decide_eq_false h,cond_false]
   show _=yi _ (d7 e.Side xs (i+1).toNat)
   rw [q]
   rfl
noncomputable def Ol:LoopSum:=aI lpPl l9 xy
noncomputable def NX:Nat:=rid (aA Tryz.f121 0)
theorem Pe:LoopOKp Tryz.prog 2 Tryz.f121.ntmps (aA Tryz.f121 0) (aI lpPl l9 xy):=
 bj lpPl (al (.consU lw rfl .nil) _) mixed (fun b hb S hS=>by cases hS) l9 xy HF (fun |⟨i,v1,v2,v3,v4,v5,v6,v7,v8,v9,v10,v11,v12,v13,v14,v15,v16,v17,v18,v19,v20,v21,v22,e,z,xs,⟨⟩⟩,hi=>Qe i v1 v2 v3 v4 v5 v6 v7 v8 v9 v10 v11 v12 v13 v14 v15 v16 v17 v18 v19 v20 v21 v22 e z xs hi)
theorem Fg (m:Match) (e:Mir.Event) (hm:aE m) (hv:aO m=true) (h3:m.Stage=3) (he:bk e=0) :(evPat (ao [pV,gT] Tryz.f121) (find [(NX,Ol)]) Tryz.f121 sW sX (m.Rules.Name,m.Rules.Side,m.Rules.Innings,m.Rules.Overs,m.Rules.Balls,m.Rules.Quota,m.Rules.Wide,m.Rules.NoBall,m.Rules.FreeHit,m.Rules.NewBall,m.Rules.FollowOn,m.Rules.Reviews,m.Rules.Outside,m.Rules.Power,m.Stage,m.First,m.Follow,m.Penalty.1,m.Penalty.2.1,m.Result.Win,m.Result.Side,m.Result.Margin,e,m.Innings,())).sat fun z_=>z_ =(FA (m.Rules.Name,m.Rules.Side,m.Rules.Innings,m.Rules.Overs,m.Rules.Balls,m.Rules.Quota,m.Rules.Wide,m.Rules.NoBall,m.Rules.FreeHit,m.Rules.NewBall,m.Rules.FollowOn,m.Rules.Reviews,m.Rules.Outside,m.Rules.Power,m.Stage,m.First,m.Follow,m.Penalty.1,m.Penalty.2.1,m.Result.Win,m.Result.Side,m.Result.Margin,e,m.Innings,())).2:=by
 refine cast (by kernel_rfl) (?_:let r1:Int:=IntKind.i64.wrap ((↑m.5.length:Int) - (1:Int));let r2:Innings:=m.5.getD r1.toNat (dflt (Ty.nm Nm.Innings));let r3:Int:=bZ m.1 r2 e;let r4:Innings:=cK m.1 r2 e;let r5:Bool:=r3 !=(0:Int);let r6:Bool:=bif e.1 !=(13:Int) then true else e.2==r4.1;let r7:List Innings:=m.5.set r1.toNat r4;let r8:Bool:=isL (l9 (r1,m.1.1,m.1.2,m.1.3,m.1.4,m.1.5,m.1.6,m.1.7,m.1.8,m.1.9,m.1.10,m.1.11,m.1.12,m.1.13,m.1.14,m.2,m.3,m.4,m.6.1,m.6.2.1,m.7.1,m.7.2,m.7.3,e,Match.mk (Rules.mk ByteArray.empty (0:Int) (0:Int) (0:Int) (0:Int) (0:Int) (0:Int) (0:Int) false (0:Int) (0:Int) (0:Int) (0:Int) []) (0:Int) (0:Int) false [] ((0:Int),(0:Int),()) (Result.mk (0:Int) (0:Int) (0:Int)),r7,()));let r9:Int×ByteArray×Int×Int×Int×Int×Int×Int×Int×Bool×Int×Int×Int×Int×List Phase×Int×Int×Bool×Int×Int×Int×Int×Int×List Innings×PUnit:=ij (dflt (I.prod (Ty.str.prod (I.prod (I.prod (I.prod (I.prod (I.prod (I.prod (I.prod (Ty.bool.prod (I.prod (I.prod (I.prod (I.prod ((Ty.nm Nm.Phase).slice.prod (U8.prod (I.prod (Ty.bool.prod (I.prod (I.prod (U8.prod (I.prod (I.prod ((Ty.nm Nm.Innings).slice.prod Ty.unit))))))))))))))))))))))))) (l9 (r1,m.1.1,m.1.2,m.1.3,m.1.4,m.1.5,m.1.6,m.1.7,m.1.8,m.1.9,m.1.10,m.1.11,m.1.12,m.1.13,m.1.14,m.2,m.3,m.4,m.6.1,m.6.2.1,m.7.1,m.7.2,m.7.3,e,Match.mk (Rules.mk ByteArray.empty (0:Int) (0:Int) (0:Int) (0:Int) (0:Int) (0:Int) (0:Int) false (0:Int) (0:Int) (0:Int) (0:Int) []) (0:Int) (0:Int) false [] ((0:Int),(0:Int),()) (Result.mk (0:Int) (0:Int) (0:Int)),r7,()));let r10:ByteArray×Int×Int×Int×Int×Int×Int×Int×Bool×Int×Int×Int×Int×List Phase×Int×Int×Bool×Int×Int×Int×Int×Int×Mir.Event×Match×List Innings×PUnit:=pN (dflt (Ty.str.prod (I.prod (I.prod (I.prod (I.prod (I.prod (I.prod (I.prod (Ty.bool.prod (I.prod (I.prod (I.prod (I.prod ((Ty.nm Nm.Phase).slice.prod (U8.prod (I.prod (Ty.bool.prod (I.prod (I.prod (U8.prod (I.prod (I.prod ((Ty.nm Nm.Event).prod ((Ty.nm Nm.Match).prod ((Ty.nm Nm.Innings).slice.prod Ty.unit)))))))))))))))))))))))))) (l9 (r1,m.1.1,m.1.2,m.1.3,m.1.4,m.1.5,m.1.6,m.1.7,m.1.8,m.1.9,m.1.10,m.1.11,m.1.12,m.1.13,m.1.14,m.2,m.3,m.4,m.6.1,m.6.2.1,m.7.1,m.7.2,m.7.3,e,Match.mk (Rules.mk ByteArray.empty (0:Int) (0:Int) (0:Int) (0:Int) (0:Int) (0:Int) (0:Int) false (0:Int) (0:Int) (0:Int) (0:Int) []) (0:Int) (0:Int) false [] ((0:Int),(0:Int),()) (Result.mk (0:Int) (0:Int) (0:Int)),r7,()));let r11:Int:=IntKind.i64.wrap (r10.2.2.2.2.2.2.2.2.2.2.2.2.2.2.2.2.2.2.2.2.2.2.1.2 - (1:Int));let r12:Bool:=r11 ==(0:Int);let r13:Bool:=r11 ==(1:Int);((0:Int)≤r1∧r1 <(↑m.5.length:Int))∧aj r2∧(r5=true→(m.1.1,m.1.2,m.1.3,m.1.4,m.1.5,m.1.6,m.1.7,m.1.8,m.1.9,m.1.10,m.1.11,m.1.12,m.1.13,m.1.14,m.2,m.3,m.4,m.6.1,m.6.2.1,m.7.1,m.7.2,m.7.3,r3,m.5,()) =((ag m e).1.1,(ag m e).1.2,(ag m e).1.3,(ag m e).1.4,(ag m e).1.5,(ag m e).1.6,(ag m e).1.7,(ag m e).1.8,(ag m e).1.9,(ag m e).1.10,(ag m e).1.11,(ag m e).1.12,(ag m e).1.13,(ag m e).1.14,(ag m e).2,(ag m e).3,(ag m e).4,(ag m e).6.1,(ag m e).6.2.1,(ag m e).7.1,(ag m e).7.2,(ag m e).7.3,cb m e,(ag m e).5,()))∧(r5=false→((0:Int)≤r1∧r1 <(↑m.5.length:Int))∧(r6=true→(m.1.1,m.1.2,m.1.3,m.1.4,m.1.5,m.1.6,m.1.7,m.1.8,m.1.9,m.1.10,m.1.11,m.1.12,m.1.13,m.1.14,m.2,m.3,m.4,m.6.1,m.6.2.1,m.7.1,m.7.2,m.7.3,(0:Int),r7,()) =((ag m e).1.1,(ag m e).1.2,(ag m e).1.3,(ag m e).1.4,(ag m e).1.5,(ag m e).1.6,(ag m e).1.7,(ag m e).1.8,(ag m e).1.9,(ag m e).1.10,(ag m e).1.11,(ag m e).1.12,(ag m e).1.13,(ag m e).1.14,(ag m e).2,(ag m e).3,(ag m e).4,(ag m e).6.1,(ag m e).6.2.1,(ag m e).7.1,(ag m e).7.2,(ag m e).7.3,cb m e,(ag m e).5,()))∧(r6=false→((cR fun x=>none)∧((-1:Int)≤r1∧r1 <(↑r7.length:Int)∧r7.length≤(1000000:Nat))∧dX r7)∧(r8=true→(r9.2.1,r9.2.2.1,r9.2.2.2.1,r9.2.2.2.2.1,r9.2.2.2.2.2.1,r9.2.2.2.2.2.2.1,r9.2.2.2.2.2.2.2.1,r9.2.2.2.2.2.2.2.2.1,r9.2.2.2.2.2.2.2.2.2.1,r9.2.2.2.2.2.2.2.2.2.2.1,r9.2.2.2.2.2.2.2.2.2.2.2.1,r9.2.2.2.2.2.2.2.2.2.2.2.2.1,r9.2.2.2.2.2.2.2.2.2.2.2.2.2.1,r9.2.2.2.2.2.2.2.2.2.2.2.2.2.2.1,r9.2.2.2.2.2.2.2.2.2.2.2.2.2.2.2.1,r9.2.2.2.2.2.2.2.2.2.2.2.2.2.2.2.2.1,r9.2.2.2.2.2.2.2.2.2.2.2.2.2.2.2.2.2.1,r9.2.2.2.2.2.2.2.2.2.2.2.2.2.2.2.2.2.2.1,r9.2.2.2.2.2.2.2.2.2.2.2.2.2.2.2.2.2.2.2.1,r9.2.2.2.2.2.2.2.2.2.2.2.2.2.2.2.2.2.2.2.2.1,r9.2.2.2.2.2.2.2.2.2.2.2.2.2.2.2.2.2.2.2.2.2.1,r9.2.2.2.2.2.2.2.2.2.2.2.2.2.2.2.2.2.2.2.2.2.2.1,r9.1,r9.2.2.2.2.2.2.2.2.2.2.2.2.2.2.2.2.2.2.2.2.2.2.2) =((ag m e).1.1,(ag m e).1.2,(ag m e).1.3,(ag m e).1.4,(ag m e).1.5,(ag m e).1.6,(ag m e).1.7,(ag m e).1.8,(ag m e).1.9,(ag m e).1.10,(ag m e).1.11,(ag m e).1.12,(ag m e).1.13,(ag m e).1.14,(ag m e).2,(ag m e).3,(ag m e).4,(ag m e).6.1,(ag m e).6.2.1,(ag m e).7.1,(ag m e).7.2,(ag m e).7.3,cb m e,(ag m e).5,()))∧(r8=false→(r12=true→((0:Int)≤(0:Int)∧(0:Int) <(↑(2:Nat):Int))∧((0:Int)≤(0:Int)∧(0:Int) <(↑(2:Nat):Int))∧(r10.1,r10.2.1,r10.2.2.1,r10.2.2.2.1,r10.2.2.2.2.1,r10.2.2.2.2.2.1,r10.2.2.2.2.2.2.1,r10.2.2.2.2.2.2.2.1,r10.2.2.2.2.2.2.2.2.1,r10.2.2.2.2.2.2.2.2.2.1,r10.2.2.2.2.2.2.2.2.2.2.1,r10.2.2.2.2.2.2.2.2.2.2.2.1,r10.2.2.2.2.2.2.2.2.2.2.2.2.1,r10.2.2.2.2.2.2.2.2.2.2.2.2.2.1,r10.2.2.2.2.2.2.2.2.2.2.2.2.2.2.1,r10.2.2.2.2.2.2.2.2.2.2.2.2.2.2.2.1,r10.2.2.2.2.2.2.2.2.2.2.2.2.2.2.2.2.1,IntKind.i64.wrap (r10.2.2.2.2.2.2.2.2.2.2.2.2.2.2.2.2.2.1 +(5:Int)),r10.2.2.2.2.2.2.2.2.2.2.2.2.2.2.2.2.2.2.1,r10.2.2.2.2.2.2.2.2.2.2.2.2.2.2.2.2.2.2.2.1,r10.2.2.2.2.2.2.2.2.2.2.2.2.2.2.2.2.2.2.2.2.1,r10.2.2.2.2.2.2.2.2.2.2.2.2.2.2.2.2.2.2.2.2.2.1,(0:Int),r10.2.2.2.2.2.2.2.2.2.2.2.2.2.2.2.2.2.2.2.2.2.2.2.2) =((ag m e).1.1,(ag m e).1.2,(ag m e).1.3,(ag m e).1.4,(ag m e).1.5,(ag m e).1.6,(ag m e).1.7,(ag m e).1.8,(ag m e).1.9,(ag m e).1.10,(ag m e).1.11,(ag m e).1.12,(ag m e).1.13,(ag m e).1.14,(ag m e).2,(ag m e).3,(ag m e).4,(ag m e).6.1,(ag m e).6.2.1,(ag m e).7.1,(ag m e).7.2,(ag m e).7.3,cb m e,(ag m e).5,()))∧(r12=false→(r13=true→((0:Int)≤(1:Int)∧(1:Int) <(↑(2:Nat):Int))∧((0:Int)≤(1:Int)∧(1:Int) <(↑(2:Nat):Int))∧(r10.1,r10.2.1,r10.2.2.1,r10.2.2.2.1,r10.2.2.2.2.1,r10.2.2.2.2.2.1,r10.2.2.2.2.2.2.1,r10.2.2.2.2.2.2.2.1,r10.2.2.2.2.2.2.2.2.1,r10.2.2.2.2.2.2.2.2.2.1,r10.2.2.2.2.2.2.2.2.2.2.1,r10.2.2.2.2.2.2.2.2.2.2.2.1,r10.2.2.2.2.2.2.2.2.2.2.2.2.1,r10.2.2.2.2.2.2.2.2.2.2.2.2.2.1,r10.2.2.2.2.2.2.2.2.2.2.2.2.2.2.1,r10.2.2.2.2.2.2.2.2.2.2.2.2.2.2.2.1,r10.2.2.2.2.2.2.2.2.2.2.2.2.2.2.2.2.1,r10.2.2.2.2.2.2.2.2.2.2.2.2.2.2.2.2.2.1,IntKind.i64.wrap (r10.2.2.2.2.2.2.2.2.2.2.2.2.2.2.2.2.2.2.1 +(5:Int)),r10.2.2.2.2.2.2.2.2.2.2.2.2.2.2.2.2.2.2.2.1,r10.2.2.2.2.2.2.2.2.2.2.2.2.2.2.2.2.2.2.2.2.1,r10.2.2.2.2.2.2.2.2.2.2.2.2.2.2.2.2.2.2.2.2.2.1,(0:Int),r10.2.2.2.2.2.2.2.2.2.2.2.2.2.2.2.2.2.2.2.2.2.2.2.2) =((ag m e).1.1,(ag m e).1.2,(ag m e).1.3,(ag m e).1.4,(ag m e).1.5,(ag m e).1.6,(ag m e).1.7,(ag m e).1.8,(ag m e).1.9,(ag m e).1.10,(ag m e).1.11,(ag m e).1.12,(ag m e).1.13,(ag m e).1.14,(ag m e).2,(ag m e).3,(ag m e).4,(ag m e).6.1,(ag m e).6.2.1,(ag m e).7.1,(ag m e).7.2,(ag m e).7.3,cb m e,(ag m e).5,()))∧(r13=false→False∧True))))))
 intro r1 r2 r3 r4 r5 r6 r7 r8 r9 r10 r11 r12 r13
 clear_value (hr1:r1=_) (hr2:r2=_) (hr3:r3=_) (hr4:r4=_) (hr5:r5=_) (hr6:r6=_) (hr7:r7=_) (hr8:r8=_) (hr9:r9=_) (hr10:r10=_) (hr11:r11=_) (hr12:r12=_) (hr13:r13=_)
 have hx:=hm.2.1
 have h :(m.Stage != 3)=false:=by rw [h3];rfl
 have h0:=dL hv h3
 have e0:r1 =(m.Innings.length:Int) - 1:=by rw [hr1];exact bi (by omega) (by omega)
 have e1:r1.toNat=m.Innings.length - 1:=by omega
 have e2:r2=bt m:=by rw [hr2,e1];rfl
 have hL:cb m e=r3:=by unfold cb;rw [h,hr3,e2];rfl
 have e8:rl m e={ m with Innings:=r7 }:=by rw [hr7,hr4,e1,e2];rfl
 have e6:qK m e=!r6:=by
  rw [hr6,hr4,e2];unfold qK
  cases hk:e.Kind==13 <;> simp [bne,hk]
 have hb:0≤r1∧r1 <(m.Innings.length:Int):=⟨by omega,by omega⟩
 have hl7:r7.length=m.Innings.length:=by rw [hr7,List.length_set]
 have hs7:dX r7:=by rw [hr7,hr4,e2];exact rE hm.1 _ (jX _ (go hm.1))
 have er :∀ z:Match,l9 (r1,m.Rules.Name,m.Rules.Side,m.Rules.Innings,m.Rules.Overs,m.Rules.Balls,m.Rules.Quota,m.Rules.Wide,m.Rules.NoBall,m.Rules.FreeHit,m.Rules.NewBall,m.Rules.FollowOn,m.Rules.Reviews,m.Rules.Outside,m.Rules.Power,m.Stage,m.First,m.Follow,m.Penalty.1,m.Penalty.2.1,m.Result.Win,m.Result.Side,m.Result.Margin,e,z,r7,())=yi (m.Rules.Name,m.Rules.Side,m.Rules.Innings,m.Rules.Overs,m.Rules.Balls,m.Rules.Quota,m.Rules.Wide,m.Rules.NoBall,m.Rules.FreeHit,m.Rules.NewBall,m.Rules.FollowOn,m.Rules.Reviews,m.Rules.Outside,m.Rules.Power,m.Stage,m.First,m.Follow,m.Penalty.1,m.Penalty.2.1,m.Result.Win,m.Result.Side,m.Result.Margin,e,z,r7,()) (d7 e.Side r7 r7.length):=fun z=>by
  show yi _ (d7 e.Side r7 (r1+1).toNat)=_
  rw [show (r1+1).toNat=r7.length by omega]
 rw [er] at hr8 hr9 hr10
 have hY:r5=false→cb m e=0∧ag m e=if r6 then { m with Innings:=r7 } else ay { m with Innings:=r7 } e.Side:=fun a=>by
  have hL0:cb m e=0:=by rw [hL];rw [hr5] at a;simpa using a
  refine ⟨hL0,?_⟩
  unfold ag;rw [hL0,e6,e8];cases r6 <;> rfl
 refine ⟨hb,by rw [e2];exact go hm.1,fun a=>?_,fun a=>⟨hb,fun b=>?_,fun b=>⟨⟨rfl,⟨by omega,by omega,by omega⟩,hs7⟩,?_⟩⟩⟩
 ·have hY:ag m e=m:=by unfold ag;rw [hL,←hr5,a];rfl
  rw [hL,hY]
 ·rw [(hY a).1,(hY a).2,b];rfl
 ·have hk:gg e.Side:=by
   refine Bw he ?_
   rw [b] at e6
   unfold qK at e6
   cases hk:e.Kind==13 with
   | false=>rw [hk] at e6;cases e6
   | true=>rw [eq_of_beq hk];rfl
  rw [(hY a).1,(hY a).2,b]
  clear er hY hL e0 e1 e2 e6 e8 hr1 hr2 hr3 hr4 hr5 hr6 hr7
  cases hF:d7 e.Side r7 r7.length with
  | none=>
   rw [hF] at hr8 hr10
   have f8:r8=false:=hr8
   have ea:ay { m with Innings:=r7 } e.Side=DG { m with Innings:=r7 } e.Side:=by unfold ay;simp only [hF];rfl
   rw [ea]
   have e11:r11=IntKind.i64.wrap (e.Side - 1):=by rw [hr11,hr10];rfl
   rw [e11] at hr12 hr13
   clear e11 hr11
   subst f8 hr10
   refine ⟨fun z=>Bool.noConfusion z,fun _=>?_⟩
   rcases hk with hk|hk
   ·have f12:r12=true:=by rw [hr12,hk];rfl
    subst f12
    rw [hk]
    exact ⟨fun _=>⟨by decide,by decide,rfl⟩,fun z=>Bool.noConfusion z⟩
   ·have f12:r12=false:=by rw [hr12,hk];rfl
    have f13:r13=true:=by rw [hr13,hk];rfl
    subst f12 f13
    rw [hk]
    exact ⟨fun z=>Bool.noConfusion z,fun _=>⟨fun _=>⟨by decide,by decide,rfl⟩,fun z=>Bool.noConfusion z⟩⟩
  | some k=>
   rw [hF] at hr8 hr9
   have f8:r8=true:=hr8
   have ea:ay { m with Innings:=r7 } e.Side=Dv { m with Innings:=r7 } k (wR (r7.getD k Innings.zero)):=by unfold ay;simp only [hF];rfl
   rw [ea]
   subst f8 hr9
   exact ⟨fun _=>rfl,fun z=>Bool.noConfusion z⟩
def BZ:FuncId×Ctr:=(121,ae KE sW sX FA)
theorem HY:CtrOK Tryz.prog KE 121 (ae KE sW sX FA):=by
 refine aq (C:=ao [pV,gT] Tryz.f121) (al (.consU x8 rfl (.consU lw rfl .nil)) _) mixed (fn:=Tryz.f121) Tryz.func121 (by kernel_rfl) (by kernel_rfl) (by kernel_rfl) (by kernel_rfl) (by kernel_rfl) (by kernel_rfl) (Λ:=fun x=>find [(NX,Ol)]) ?_ ?_
 ·rintro ⟨v1,v2,v3,v4,v5,v6,v7,v8,v9,v10,v11,v12,v13,v14,v15,v16,v17,v18,v19,v20,v21,v22,e,xs,⟨⟩⟩ hw hn
  exact LoopsOKp.at (by kernel_rfl) (.cons (by kernel_rfl) (Pe) .nil)
 ·rintro ⟨v1,v2,v3,v4,v5,v6,v7,v8,v9,v10,v11,v12,v13,v14,v15,v16,v17,v18,v19,v20,v21,v22,e,xs,⟨⟩⟩ hw hn
  exact Fg (mkM v1 v2 v3 v4 v5 v6 v7 v8 v9 v10 v11 v12 v13 v14 v15 v16 v17 v18 v19 v20 v21 v22 xs) e (hn _ List.mem_cons_self) (hn _ (List.mem_cons_of_mem _ List.mem_cons_self)) (hn _ (List.mem_cons_of_mem _ (List.mem_cons_of_mem _ List.mem_cons_self))) (hn _ (List.mem_cons_of_mem _ (List.mem_cons_of_mem _ (List.mem_cons_of_mem _ List.mem_cons_self))))
theorem II (m:Match) (e:Mir.Event) (hm:aE m) (hv:aO m=true) (he:bk e=0) :(evPat (ao [dV,BX,BZ] Tryz.f101) (fun _=>none) Tryz.f101 sW sX (m.Rules.Name,m.Rules.Side,m.Rules.Innings,m.Rules.Overs,m.Rules.Balls,m.Rules.Quota,m.Rules.Wide,m.Rules.NoBall,m.Rules.FreeHit,m.Rules.NewBall,m.Rules.FollowOn,m.Rules.Reviews,m.Rules.Outside,m.Rules.Power,m.Stage,m.First,m.Follow,m.Penalty.1,m.Penalty.2.1,m.Result.Win,m.Result.Side,m.Result.Margin,e,m.Innings,())).sat fun z_=>z_ =(Lb (m.Rules.Name,m.Rules.Side,m.Rules.Innings,m.Rules.Overs,m.Rules.Balls,m.Rules.Quota,m.Rules.Wide,m.Rules.NoBall,m.Rules.FreeHit,m.Rules.NewBall,m.Rules.FollowOn,m.Rules.Reviews,m.Rules.Outside,m.Rules.Power,m.Stage,m.First,m.Follow,m.Penalty.1,m.Penalty.2.1,m.Result.Win,m.Result.Side,m.Result.Margin,e,m.Innings,())).2:=by
 refine cast (by kernel_rfl) (?_:let r1:Int:=IntKind.i64.wrap ((↑m.5.length:Int) - (1:Int));let r2:Int:=bif m.1.4 ==(0:Int) then (0:Int) else (0:Int);let r3:Innings:=m.5.getD r1.toNat (dflt (Ty.nm Nm.Innings));((e.1 ==(1:Int))=true→((m.2 !=(1:Int))=true→(m.1.1,m.1.2,m.1.3,m.1.4,m.1.5,m.1.6,m.1.7,m.1.8,m.1.9,m.1.10,m.1.11,m.1.12,m.1.13,m.1.14,m.2,m.3,m.4,m.6.1,m.6.2.1,m.7.1,m.7.2,m.7.3,(1:Int),m.5,()) =((ab m e).1.1,(ab m e).1.2,(ab m e).1.3,(ab m e).1.4,(ab m e).1.5,(ab m e).1.6,(ab m e).1.7,(ab m e).1.8,(ab m e).1.9,(ab m e).1.10,(ab m e).1.11,(ab m e).1.12,(ab m e).1.13,(ab m e).1.14,(ab m e).2,(ab m e).3,(ab m e).4,(ab m e).6.1,(ab m e).6.2.1,(ab m e).7.1,(ab m e).7.2,(ab m e).7.3,aM m e,(ab m e).5,()))∧((m.2 !=(1:Int))=false→(bif !e.5 then m.1.1 else m.1.1,bif !e.5 then m.1.2 else m.1.2,bif !e.5 then m.1.3 else m.1.3,bif !e.5 then m.1.4 else m.1.4,bif !e.5 then m.1.5 else m.1.5,bif !e.5 then m.1.6 else m.1.6,bif !e.5 then m.1.7 else m.1.7,bif !e.5 then m.1.8 else m.1.8,bif !e.5 then m.1.9 else m.1.9,bif !e.5 then m.1.10 else m.1.10,bif !e.5 then m.1.11 else m.1.11,bif !e.5 then m.1.12 else m.1.12,bif !e.5 then m.1.13 else m.1.13,bif !e.5 then m.1.14 else m.1.14,(2:Int),bif !e.5 then bX e.2 else e.2,bif !e.5 then m.4 else m.4,bif !e.5 then m.6.1 else m.6.1,bif !e.5 then m.6.2.1 else m.6.2.1,bif !e.5 then m.7.1 else m.7.1,bif !e.5 then m.7.2 else m.7.2,bif !e.5 then m.7.3 else m.7.3,(0:Int),m.5,()) =((ab m e).1.1,(ab m e).1.2,(ab m e).1.3,(ab m e).1.4,(ab m e).1.5,(ab m e).1.6,(ab m e).1.7,(ab m e).1.8,(ab m e).1.9,(ab m e).1.10,(ab m e).1.11,(ab m e).1.12,(ab m e).1.13,(ab m e).1.14,(ab m e).2,(ab m e).3,(ab m e).4,(ab m e).6.1,(ab m e).6.2.1,(ab m e).7.1,(ab m e).7.2,(ab m e).7.3,aM m e,(ab m e).5,())))∧((e.1 ==(1:Int))=false→((e.1 ==(2:Int))=true→((m.2 !=(2:Int))=true→(m.1.1,m.1.2,m.1.3,m.1.4,m.1.5,m.1.6,m.1.7,m.1.8,m.1.9,m.1.10,m.1.11,m.1.12,m.1.13,m.1.14,m.2,m.3,m.4,m.6.1,m.6.2.1,m.7.1,m.7.2,m.7.3,(1:Int),m.5,()) =((ab m e).1.1,(ab m e).1.2,(ab m e).1.3,(ab m e).1.4,(ab m e).1.5,(ab m e).1.6,(ab m e).1.7,(ab m e).1.8,(ab m e).1.9,(ab m e).1.10,(ab m e).1.11,(ab m e).1.12,(ab m e).1.13,(ab m e).1.14,(ab m e).2,(ab m e).3,(ab m e).4,(ab m e).6.1,(ab m e).6.2.1,(ab m e).7.1,(ab m e).7.2,(ab m e).7.3,aM m e,(ab m e).5,()))∧((m.2 !=(2:Int))=false→aE m∧aO m=true∧m.2 =(2:Int)∧((aa m e).1.1,(aa m e).1.2,(aa m e).1.3,(aa m e).1.4,(aa m e).1.5,(aa m e).1.6,(aa m e).1.7,(aa m e).1.8,(aa m e).1.9,(aa m e).1.10,(aa m e).1.11,(aa m e).1.12,(aa m e).1.13,(aa m e).1.14,(aa m e).2,(aa m e).3,(aa m e).4,(aa m e).6.1,(aa m e).6.2.1,(aa m e).7.1,(aa m e).7.2,(aa m e).7.3,aN m e,(aa m e).5,()) =((ab m e).1.1,(ab m e).1.2,(ab m e).1.3,(ab m e).1.4,(ab m e).1.5,(ab m e).1.6,(ab m e).1.7,(ab m e).1.8,(ab m e).1.9,(ab m e).1.10,(ab m e).1.11,(ab m e).1.12,(ab m e).1.13,(ab m e).1.14,(ab m e).2,(ab m e).3,(ab m e).4,(ab m e).6.1,(ab m e).6.2.1,(ab m e).7.1,(ab m e).7.2,(ab m e).7.3,aM m e,(ab m e).5,())))∧((e.1 ==(2:Int))=false→((e.1 ==(12:Int))=true→((m.2 !=(4:Int))=true→(m.1.1,m.1.2,m.1.3,m.1.4,m.1.5,m.1.6,m.1.7,m.1.8,m.1.9,m.1.10,m.1.11,m.1.12,m.1.13,m.1.14,m.2,m.3,m.4,m.6.1,m.6.2.1,m.7.1,m.7.2,m.7.3,(1:Int),m.5,()) =((ab m e).1.1,(ab m e).1.2,(ab m e).1.3,(ab m e).1.4,(ab m e).1.5,(ab m e).1.6,(ab m e).1.7,(ab m e).1.8,(ab m e).1.9,(ab m e).1.10,(ab m e).1.11,(ab m e).1.12,(ab m e).1.13,(ab m e).1.14,(ab m e).2,(ab m e).3,(ab m e).4,(ab m e).6.1,(ab m e).6.2.1,(ab m e).7.1,(ab m e).7.2,(ab m e).7.3,aM m e,(ab m e).5,()))∧((m.2 !=(4:Int))=false→((e.2 != m.3)=true→(m.1.1,m.1.2,m.1.3,m.1.4,m.1.5,m.1.6,m.1.7,m.1.8,m.1.9,m.1.10,m.1.11,m.1.12,m.1.13,m.1.14,m.2,m.3,m.4,m.6.1,m.6.2.1,m.7.1,m.7.2,m.7.3,(2:Int),m.5,()) =((ab m e).1.1,(ab m e).1.2,(ab m e).1.3,(ab m e).1.4,(ab m e).1.5,(ab m e).1.6,(ab m e).1.7,(ab m e).1.8,(ab m e).1.9,(ab m e).1.10,(ab m e).1.11,(ab m e).1.12,(ab m e).1.13,(ab m e).1.14,(ab m e).2,(ab m e).3,(ab m e).4,(ab m e).6.1,(ab m e).6.2.1,(ab m e).7.1,(ab m e).7.2,(ab m e).7.3,aM m e,(ab m e).5,()))∧((e.2 != m.3)=false→(m.1.1,m.1.2,m.1.3,m.1.4,m.1.5,m.1.6,m.1.7,m.1.8,m.1.9,m.1.10,m.1.11,m.1.12,m.1.13,m.1.14,(2:Int),m.3,e.5,m.6.1,m.6.2.1,m.7.1,m.7.2,m.7.3,(0:Int),m.5,()) =((ab m e).1.1,(ab m e).1.2,(ab m e).1.3,(ab m e).1.4,(ab m e).1.5,(ab m e).1.6,(ab m e).1.7,(ab m e).1.8,(ab m e).1.9,(ab m e).1.10,(ab m e).1.11,(ab m e).1.12,(ab m e).1.13,(ab m e).1.14,(ab m e).2,(ab m e).3,(ab m e).4,(ab m e).6.1,(ab m e).6.2.1,(ab m e).7.1,(ab m e).7.2,(ab m e).7.3,aM m e,(ab m e).5,()))))∧((e.1 ==(12:Int))=false→((e.1 ==(16:Int))=true→(((m.2 ==(3:Int))=true→((0:Int)≤r1∧r1 <(↑m.5.length:Int))∧True)∧((m.2 ==(3:Int))=false→True))∧(true=true→(bif m.1.4 ==(0:Int) then m.1.1 else m.1.1,bif m.1.4 ==(0:Int) then m.1.2 else m.1.2,bif m.1.4 ==(0:Int) then m.1.3 else m.1.3,bif m.1.4 ==(0:Int) then m.1.4 else m.1.4,bif m.1.4 ==(0:Int) then m.1.5 else m.1.5,bif m.1.4 ==(0:Int) then m.1.6 else m.1.6,bif m.1.4 ==(0:Int) then m.1.7 else m.1.7,bif m.1.4 ==(0:Int) then m.1.8 else m.1.8,bif m.1.4 ==(0:Int) then m.1.9 else m.1.9,bif m.1.4 ==(0:Int) then m.1.10 else m.1.10,bif m.1.4 ==(0:Int) then m.1.11 else m.1.11,bif m.1.4 ==(0:Int) then m.1.12 else m.1.12,bif m.1.4 ==(0:Int) then m.1.13 else m.1.13,bif m.1.4 ==(0:Int) then m.1.14 else m.1.14,bif m.1.4 ==(0:Int) then (5:Int) else (5:Int),bif m.1.4 ==(0:Int) then m.3 else m.3,bif m.1.4 ==(0:Int) then m.4 else m.4,bif m.1.4 ==(0:Int) then m.6.1 else m.6.1,bif m.1.4 ==(0:Int) then m.6.2.1 else m.6.2.1,bif m.1.4 ==(0:Int) then (5:Int) else (6:Int),r2,r2,(0:Int),bif m.2 ==(3:Int) then m.5.set r1.toNat (Innings.mk r3.1 r3.2 r3.3 r3.4 r3.5 r3.6 r3.7 r3.8 r3.9 r3.10 r3.11 r3.12 r3.13 r3.14 r3.15 r3.16 r3.17 r3.18 r3.19 r3.20 r3.21 r3.22 (5:Int)) else m.5,()) =((ab m e).1.1,(ab m e).1.2,(ab m e).1.3,(ab m e).1.4,(ab m e).1.5,(ab m e).1.6,(ab m e).1.7,(ab m e).1.8,(ab m e).1.9,(ab m e).1.10,(ab m e).1.11,(ab m e).1.12,(ab m e).1.13,(ab m e).1.14,(ab m e).2,(ab m e).3,(ab m e).4,(ab m e).6.1,(ab m e).6.2.1,(ab m e).7.1,(ab m e).7.2,(ab m e).7.3,aM m e,(ab m e).5,())))∧((e.1 ==(16:Int))=false→((m.2 !=(3:Int))=true→(m.1.1,m.1.2,m.1.3,m.1.4,m.1.5,m.1.6,m.1.7,m.1.8,m.1.9,m.1.10,m.1.11,m.1.12,m.1.13,m.1.14,m.2,m.3,m.4,m.6.1,m.6.2.1,m.7.1,m.7.2,m.7.3,(1:Int),m.5,()) =((ab m e).1.1,(ab m e).1.2,(ab m e).1.3,(ab m e).1.4,(ab m e).1.5,(ab m e).1.6,(ab m e).1.7,(ab m e).1.8,(ab m e).1.9,(ab m e).1.10,(ab m e).1.11,(ab m e).1.12,(ab m e).1.13,(ab m e).1.14,(ab m e).2,(ab m e).3,(ab m e).4,(ab m e).6.1,(ab m e).6.2.1,(ab m e).7.1,(ab m e).7.2,(ab m e).7.3,aM m e,(ab m e).5,()))∧((m.2 !=(3:Int))=false→aE m∧aO m=true∧m.2 =(3:Int)∧bk e =(0:Int)∧((ag m e).1.1,(ag m e).1.2,(ag m e).1.3,(ag m e).1.4,(ag m e).1.5,(ag m e).1.6,(ag m e).1.7,(ag m e).1.8,(ag m e).1.9,(ag m e).1.10,(ag m e).1.11,(ag m e).1.12,(ag m e).1.13,(ag m e).1.14,(ag m e).2,(ag m e).3,(ag m e).4,(ag m e).6.1,(ag m e).6.2.1,(ag m e).7.1,(ag m e).7.2,(ag m e).7.3,cb m e,(ag m e).5,()) =((ab m e).1.1,(ab m e).1.2,(ab m e).1.3,(ab m e).1.4,(ab m e).1.5,(ab m e).1.6,(ab m e).1.7,(ab m e).1.8,(ab m e).1.9,(ab m e).1.10,(ab m e).1.11,(ab m e).1.12,(ab m e).1.13,(ab m e).1.14,(ab m e).2,(ab m e).3,(ab m e).4,(ab m e).6.1,(ab m e).6.2.1,(ab m e).7.1,(ab m e).7.2,(ab m e).7.3,aM m e,(ab m e).5,())))))))
 intro r1 r2 r3
 clear_value (hr1:r1=_) (hr2:r2=_) (hr3:r3=_)
 simp only [Bool.cond_self] at *
 have hx:=hm.2.1
 have ho:iz m:=fun h=>dL hv h
 have no :∀ k:Int,k≠0→aM m e=k→ab m e=m:=fun k hk hL=>by
  unfold ab;rw [hL]
  have :(k != 0)=true:=by simpa using hk
  rw [this];rfl
 refine ⟨fun k1=>⟨fun a=>?_,fun a=>?_⟩,fun n1=>⟨fun k2=>⟨fun a=>?_,fun a=>⟨hm,hv,by simpa using a,?_⟩⟩,fun n2=>⟨fun k12=>⟨fun a=>?_,fun a=>⟨fun b=>?_,fun b=>?_⟩⟩,fun n12=>⟨fun k16=>⟨⟨fun c=>⟨?_,trivial⟩,fun _=>trivial⟩,fun _=>?_⟩,fun n16=>⟨fun a=>?_,fun a=>⟨hm,hv,by simpa using a,he,?_⟩⟩⟩⟩⟩⟩
 ·have hL:aM m e=1:=by unfold aM;rw [k1,a];rfl
  rw [no _ (by decide) hL,hL]
 ·have hL:aM m e=0:=by unfold aM;rw [k1,a];rfl
  have hY:ab m e=Dy m e:=by unfold ab gd;rw [hL,k1];rfl
  rw [hL,hY];unfold Dy;cases e.Yes <;> rfl
 ·have hL:aM m e=1:=by unfold aM aN;rw [n1,k2,a];rfl
  rw [no _ (by decide) hL,hL]
 ·have hL:aM m e=aN m e:=by unfold aM;rw [n1,k2];rfl
  have hY:ab m e=aa m e:=by
   unfold ab gd;rw [hL,n1,k2]
   cases h:aN m e != 0 with
   | true=>rw [Cv h];rfl
   | false=>rfl
  rw [hL,hY]
 ·have hL:aM m e=1:=by unfold aM;rw [n1,n2,k12,a];rfl
  rw [no _ (by decide) hL,hL]
 ·have hL:aM m e=2:=by unfold aM;rw [n1,n2,k12,a,b];rfl
  rw [no _ (by decide) hL,hL]
 ·have hL:aM m e=0:=by unfold aM;rw [n1,n2,k12,a,b];rfl
  have hY:ab m e=zj m e:=by unfold ab gd;rw [hL,n1,n2,k12];rfl
  rw [hL,hY];rfl
 ·have h0:=ho (by simpa using c)
  rw [hr1,bi (n:=(m.Innings.length:Int) - 1) (by omega) (by omega)]
  omega
 ·have hL:aM m e=0:=by unfold aM;rw [n1,n2,n12,k16];rfl
  have hY:ab m e=dz m:=by unfold ab gd;rw [hL,n1,n2,n12,k16];rfl
  have hw:cL m.Rules=bif m.Rules.Overs==0 then 5 else 6:=by unfold cL;cases m.Rules.Overs==0 <;> rfl
  rw [hL,hY]
  unfold dz
  rw [hw,hr2]
  cases c:m.Stage==3 with
  | true=>
   have h0:=ho (by simpa using c)
   have e1:r1.toNat=Cc m:=by rw [hr1];exact zJ h0 hx
   have e2:r3=bt m:=by rw [hr3,e1];rfl
   have eS:bN m=Dv m (Cc m) { bt m with Ending:=5 }:=by unfold bN;rw [c];rfl
   rw [eS,e1,e2];rfl
  | false=>
   have eS:bN m=m:=by unfold bN;rw [c];rfl
   rw [eS];rfl
 ·have hL:aM m e=1:=by unfold aM cb;rw [n1,n2,n12,n16,a];rfl
  rw [no _ (by decide) hL,hL]
 ·have hL:aM m e=cb m e:=by unfold aM;rw [n1,n2,n12,n16];rfl
  have hY:ab m e=ag m e:=by
   unfold ab gd;rw [hL,n1,n2,n12,n16]
   cases h:cb m e != 0 with
   | true=>rw [CC h];rfl
   | false=>rfl
  rw [hL,hY]
def Gp:FuncId×Ctr:=(101,ae KE sW sX Lb)
theorem Kl:CtrOK Tryz.prog KE 101 (ae KE sW sX Lb):=by
 refine aq (C:=ao [dV,BX,BZ] Tryz.f101) (al (.consU jm rfl (.consU HX rfl (.consU HY rfl .nil))) _) mixed (fn:=Tryz.f101) Tryz.func101 (by kernel_rfl) (by kernel_rfl) (by kernel_rfl) (by kernel_rfl) (by kernel_rfl) (by kernel_rfl) (Λ:=fun _ _=>none) ?_ ?_
 ·exact fun _ _ _ _ _ _ _ _ h=>by cases h
 ·rintro ⟨v1,v2,v3,v4,v5,v6,v7,v8,v9,v10,v11,v12,v13,v14,v15,v16,v17,v18,v19,v20,v21,v22,e,xs,⟨⟩⟩ hw hn
  exact II (mkM v1 v2 v3 v4 v5 v6 v7 v8 v9 v10 v11 v12 v13 v14 v15 v16 v17 v18 v19 v20 v21 v22 xs) e (hn _ List.mem_cons_self) (hn _ (List.mem_cons_of_mem _ List.mem_cons_self)) (hn _ (List.mem_cons_of_mem _ (List.mem_cons_of_mem _ List.mem_cons_self)))
end Go.Proofs.YtkgplaoappjkcaaGreat
namespace Go.Proofs.YtkgplaoappjkcaaGreat
open Go Go.Mir
attribute [local irreducible] Go.Mir.DT.sat Go.Mir.evPat Go.Mir.RT.sat Go.Mir.evFn
theorem Fd (m:Match) (e:Mir.Event) (hm:aE m) :(evPat (ao [xT,iW,pX,Gp,nJ,uO] Tryz.f73) (fun _=>none) Tryz.f73 qME mc (m,e,())).sat fun z_=>z_ =(rA (m,e,())).2:=by
 refine cast (by kernel_rfl) (?_:let r1:Bool:=(ab m e).2 ==(3:Int);let r2:Bool:=bif !cS m then true else bk e !=(0:Int);let r3:Bool:=bif r1 then (bt (ab m e)).23 !=(0:Int) else false;aE m∧(c9 m∧((!cS m)=true→True)∧((!cS m)=false→True))∧(true=true→(r2=true→(m,(1:Int),()) =(bF m e,aV m e,()))∧(r2=false→((m.2 ==(5:Int))=true→(m,(26:Int),()) =(bF m e,aV m e,()))∧((m.2 ==(5:Int))=false→aE m∧aE m∧aO m=true∧bk e =(0:Int)∧((aM m e !=(0:Int))=true→(m,aM m e,()) =(bF m e,aV m e,()))∧((aM m e !=(0:Int))=false→(((r1=true→kM (ab m e)∧True)∧(r1=false→True))∧(true=true→(r3=true→aE (ab m e)∧kM (ab m e)∧True)∧(r3=false→True)))∧(true=true→(Match.mk (Rules.mk (bif r3 then (aD (ab m e)).1.1 else (ab m e).1.1) (bif r3 then (aD (ab m e)).1.2 else (ab m e).1.2) (bif r3 then (aD (ab m e)).1.3 else (ab m e).1.3) (bif r3 then (aD (ab m e)).1.4 else (ab m e).1.4) (bif r3 then (aD (ab m e)).1.5 else (ab m e).1.5) (bif r3 then (aD (ab m e)).1.6 else (ab m e).1.6) (bif r3 then (aD (ab m e)).1.7 else (ab m e).1.7) (bif r3 then (aD (ab m e)).1.8 else (ab m e).1.8) (bif r3 then (aD (ab m e)).1.9 else (ab m e).1.9) (bif r3 then (aD (ab m e)).1.10 else (ab m e).1.10) (bif r3 then (aD (ab m e)).1.11 else (ab m e).1.11) (bif r3 then (aD (ab m e)).1.12 else (ab m e).1.12) (bif r3 then (aD (ab m e)).1.13 else (ab m e).1.13) (bif r3 then (aD (ab m e)).1.14 else (ab m e).1.14)) (bif r3 then (aD (ab m e)).2 else (ab m e).2) (bif r3 then (aD (ab m e)).3 else (ab m e).3) (bif r3 then (aD (ab m e)).4 else (ab m e).4) (bif r3 then (aD (ab m e)).5 else (ab m e).5) (bif r3 then (aD (ab m e)).6.1 else (ab m e).6.1,bif r3 then (aD (ab m e)).6.2.1 else (ab m e).6.2.1,()) (Result.mk (bif r3 then (aD (ab m e)).7.1 else (ab m e).7.1) (bif r3 then (aD (ab m e)).7.2 else (ab m e).7.2) (bif r3 then (aD (ab m e)).7.3 else (ab m e).7.3)),(0:Int),()) =(bF m e,aV m e,())))))))
 intro r1 r2 r3
 clear_value (hr1:r1=_) (hr2:r2=_) (hr3:r3=_)
 rw [←rG] at *
 have e2:r2 =(!aO m||bk e != 0):=by rw [hr2];cases aO m <;> rfl
 have hq:r2=false→aO m=true∧bk e=0:=fun h=>by rw [e2] at h;simpa using h
 clear hr2
 refine ⟨hm,⟨hm.1,fun _=>trivial,fun _=>trivial⟩,fun _=>⟨fun a=>?_,fun a=>⟨fun b=>?_,fun b=>⟨hm,hm,(hq a).1,(hq a).2,fun c=>?_,fun c=>?_⟩⟩⟩⟩
 ·have hL:aV m e=1:=by unfold aV;rw [←e2,a];rfl
  rw [kN (by rw [hL];rfl),hL]
 ·have hL:aV m e=26:=by unfold aV;rw [←e2,a,b];rfl
  rw [kN (by rw [hL];rfl),hL]
 ·have hL:aV m e=aM m e:=by unfold aV;rw [←e2,a,b];rfl
  rw [kN (by rw [hL];exact c),hL]
 ·have hL:aV m e=aM m e:=by unfold aV;rw [←e2,a,b];rfl
  have h0:aM m e=0:=by simpa using c
  have hY:bF m e=aw (ab m e):=by unfold bF;rw [hL,c];rfl
  have hn:=mV e hm (hq a).1
  have ho:=qm e (hq a).1
  rw [hY,hL,h0]
  clear hY hL h0 c b a hq e2
  generalize ab m e=y at *
  have hC:aw y=if r3 then aD y else y:=by
   unfold aw aD
   rw [hr3,hr1]
   cases hs:y.Stage==3 <;> cases he :(bt y).Ending==0 <;> simp [bne,hs,he]
  have hs:r1=true→kM y:=fun h=>⟨ho (by rw [hr1] at h;simpa using h),hn.2.1⟩
  have h31:r3=true→r1=true:=fun h=>by rw [hr3] at h;cases r1 with|true=>rfl|false=>cases h
  rw [hC]
  refine ⟨⟨⟨fun h=>⟨hs h,trivial⟩,fun _=>trivial⟩,fun _=>⟨fun h=>⟨hn,hs (h31 h),trivial⟩,fun _=>trivial⟩⟩,fun _=>?_⟩
  cases r3 <;> rfl
def uN:FuncId×Ctr:=(73,ae KE qME mc rA)
theorem x9:CtrOK Tryz.prog KE 73 (ae KE qME mc rA):=by
 refine aq (C:=ao [xT,iW,pX,Gp,nJ,uO] Tryz.f73) (al (.consU EB rfl (.consU pu rfl (.consU yb rfl (.consU Kl rfl (.consU vj rfl (.consU Cq rfl .nil)))))) _) mixed (fn:=Tryz.f73) Tryz.func73 (by kernel_rfl) (by kernel_rfl) (by kernel_rfl) (by kernel_rfl) (by kernel_rfl) (by kernel_rfl) (Λ:=fun _ _=>none) ?_ ?_
 ·exact fun _ _ _ _ _ _ _ _ h=>by cases h
 ·rintro ⟨m,e,⟨⟩⟩ hw hn
  exact Fd m e (hn _ List.mem_cons_self)
end Go.Proofs.YtkgplaoappjkcaaGreat
namespace Go.Proofs.YtkgplaoappjkcaaGreat
open Go Go.Mir
attribute [local irreducible] Go.Mir.DT.sat Go.Mir.evPat Go.Mir.RT.sat Go.Mir.evFn
abbrev Evs:Ty:= .slice (.nm .Event)
abbrev R3:Ty:= .slice (.nm .Delivered)
abbrev MY:Pat:=cg [.nm .Match,I,.nm .Event]
abbrev MV:Pat:=cg [I,.nm .Match,.nm .Match,.nm .Delivery]
abbrev GZ:Pat:=cg [.nm .Delivered]
abbrev qRL:Pat:=cg [.nm .Rules,Evs]
abbrev sy:Pat:=cg [.nm .Match,I,I]
def pc (m:Match) (i:Int) (e:Mir.Event):Int:=if decide (i≥4000) then 26 else aV m e
def gw (m:Match) (i:Int) (e:Mir.Event):Match:=if decide (i≥4000) then m else bF m e
def vO:Den (tyP MY)→List Prop×Den (tyP mc):=fun x=>([aE x.1],(gw x.1 x.2.1 x.2.2.1,pc x.1 x.2.1 x.2.2.1,()))
def yY (r:Rules) (i:Int) (a b:Match) (d:Delivery):Delivered:=
 { Event:=i,Innings:=W ((a.Innings.length:Int) - 1),Over:=(bt a).Complete,Ball:=(bt a).InOver,Bowler:=(bt a).Bowler,Striker:=(bt a).Striker,Partner:=(bt a).Other,Free:=(bt a).FreeHit,Delivery:=d,Credit:=au r d,Runs:=(bt b).Runs,Wickets:=(bt b).Wickets }
def Jh (a b:Match):Prop:=kM a∧b.Innings.length=a.Innings.length
def Fq:Den (tyP MV)→List Prop×Den (tyP GZ):=fun x=>([Jh x.2.1 x.2.2.1],(yY x.2.1.Rules x.1 x.2.1 x.2.2.1 x.2.2.2.1,()))
def LQ (r:Rules) (i:Int) (m y:Match) (e:Mir.Event) (o:List Delivered):List Delivered:=if e.Kind==4 then o++[yY r i m y e.Ball] else o
def l6:Match→List Mir.Event→Int→List Delivered→List Delivered×Match×Int×Int
 | m,[],_,o=>(o,m,-1,0)
 | m,e::l,i,o=>if pc m i e != 0 then (o,m,i,pc m i e) else l6 (gw m i e) l (i+1) (LQ m.Rules i m (gw m i e) e o)
def kA (r:Rules):Match:={ Match.zero with Rules:=r,Stage:=1 }
def aW (r:Rules) (l:List Mir.Event):List Delivered×Match×Int×Int:=if ar r != 0 then ([],Match.zero,0,1) else l6 (kA r) l 0 []
def Ay:Den (tyP qRL)→List Prop×Den (tyP sy):=fun x=>([],((aW x.1 x.2.1).2.1,(aW x.1 x.2.1).2.2.1,(aW x.1 x.2.1).2.2.2,()))
abbrev TPy:Type:=List Mir.Event×Int×Int×Match×Match×List Delivered×Unit
def QE (x:TPy):Prop:=(x.2.1 =(x.1.length:Int)∧0≤x.2.2.1∧x.2.2.1≤x.2.1∧x.1.length≤aS)∧aE x.2.2.2.2.1∧(x.2.2.2.2.2.1.length:Int)≤x.2.2.1∧x.2.2.2.2.2.1.length≤4000
theorem Ea {m:Match} (h:aE m) (i:Int) (e:Mir.Event):aE (gw m i e):=by
 unfold gw
 split
 ·exact h
 ·exact ia e h
theorem OT {m:Match} {i:Int} {e:Mir.Event} (h :(pc m i e != 0)=false):i<4000∧aV m e=0:=by
 unfold pc at h
 by_cases hi:i≥4000
 ·rw [if_pos (decide_eq_true hi)] at h;cases h
 ·rw [if_neg (by simpa using hi)] at h
  exact ⟨by omega,by simpa using h⟩
theorem vw :∀ (l:List Mir.Event) (m:Match) (i:Int) (o:List Delivered),(l6 m l i o).2.2.2=0→(l6 m l i o).2.2.1 = -1
 | [],_,_,_,_=>rfl
 | e::l,m,i,o,h=>by
  unfold l6 at h ⊢
  by_cases hc :(pc m i e != 0)=true
  ·rw [if_pos hc] at h
   have h:pc m i e=0:=h
   rw [h] at hc;cases hc
  ·rw [if_neg hc] at h ⊢
   exact vw l _ _ _ h
theorem jj {r:Rules} (h:ar r=0):aE (kA r):=⟨fun z hz=>(by cases hz),Nat.zero_le _,by have:=mm h;show r.Power.length≤_;omega⟩
theorem uZ {r:Rules} (h:ar r=0):gY r=kA r:=by unfold gY;rw [h];rfl
theorem KY (m:Match) (i:Int) (e:Mir.Event) (hm:aE m) :(evPat (ao [o9] Tryz.f74) (fun _=>none) Tryz.f74 MY mc (m,i,e,())).sat fun z_=>z_ =(vO (m,i,e,())).2:=by
 refine cast (by kernel_rfl) (?_:let r1:Bool:=decide (i≥(4000:Int));(r1=true→(m,(26:Int),()) =(gw m i e,pc m i e,()))∧(r1=false→aE m∧(bF m e,aV m e,()) =(gw m i e,pc m i e,())))
 intro r1
 clear_value (hr1:r1=_)
 refine ⟨fun h=>?_,fun h=>⟨hm,?_⟩⟩
 ·rw [hr1] at h;simp only [gw,pc,h];rfl
 ·rw [hr1] at h;simp only [gw,pc,h];rfl
def D5:FuncId×Ctr:=(74,ae KE MY mc vO)
theorem GI:CtrOK Tryz.prog KE 74 (ae KE MY mc vO):=by
 refine aq (C:=ao [o9] Tryz.f74) (al (.consU tx rfl .nil) _) mixed (fn:=Tryz.f74) Tryz.func74 (by kernel_rfl) (by kernel_rfl) (by kernel_rfl) (by kernel_rfl) (by kernel_rfl) (by kernel_rfl) (Λ:=fun _ _=>none) ?_ ?_
 ·exact fun _ _ _ _ _ _ _ _ h=>by cases h
 ·rintro ⟨m,i,e,⟨⟩⟩ hw hn
  exact KY m i e (hn _ List.mem_cons_self)
theorem wW (i:Int) (a:Match) (b:Match) (d:Delivery) (hd:Jh a b) :(evPat (ao [pR] Tryz.f75) (fun _=>none) Tryz.f75 MV GZ (i,a,b,d,())).sat fun z_=>z_ =(Fq (i,a,b,d,())).2:=by
 refine cast (by kernel_rfl) (?_:let r1:Int:=IntKind.i64.wrap ((↑a.5.length:Int) - (1:Int));let r2:Innings:=a.5.getD r1.toNat (dflt (Ty.nm Nm.Innings));let r3:Innings:=b.5.getD r1.toNat (dflt (Ty.nm Nm.Innings));((0:Int)≤r1∧r1 <(↑a.5.length:Int))∧((0:Int)≤r1∧r1 <(↑b.5.length:Int))∧(Delivered.mk i r1 r2.7 r2.8 r2.12 r2.9 r2.10 r2.17 d (au a.1 d) r3.4 r3.5,()) =(yY a.1 i a b d,()))
 intro r1 r2 r3
 clear_value (hr1:r1=_) (hr2:r2=_) (hr3:r3=_)
 obtain ⟨⟨h0,hx⟩,hl⟩:=hd
 have e0:r1 =(a.Innings.length:Int) - 1:=by rw [hr1];exact bi (by omega) (by omega)
 have e1:r1.toNat=a.Innings.length - 1:=by omega
 have e2:r2=bt a:=by rw [hr2,e1];rfl
 have e3:r3=bt b:=by rw [hr3,e1,←hl];rfl
 refine ⟨⟨by omega,by omega⟩,⟨by omega,by omega⟩,?_⟩
 rw [e2,e3,hr1];rfl
def mG:FuncId×Ctr:=(75,ae KE MV GZ Fq)
theorem qi:CtrOK Tryz.prog KE 75 (ae KE MV GZ Fq):=by
 refine aq (C:=ao [pR] Tryz.f75) (al (.consU x5 rfl .nil) _) mixed (fn:=Tryz.f75) Tryz.func75 (by kernel_rfl) (by kernel_rfl) (by kernel_rfl) (by kernel_rfl) (by kernel_rfl) (by kernel_rfl) (Λ:=fun _ _=>none) ?_ ?_
 ·exact fun _ _ _ _ _ _ _ _ h=>by cases h
 ·rintro ⟨i,a,b,d,⟨⟩⟩ hw hn
  exact wW i a b d (hn _ List.mem_cons_self)
end Go.Proofs.YtkgplaoappjkcaaGreat
namespace Go.Proofs.YtkgplaoappjkcaaGreat
open Go Go.Mir
attribute [local irreducible] Go.Mir.DT.sat Go.Mir.evPat Go.Mir.RT.sat Go.Mir.evFn
abbrev qML:Pat:=cg [.nm .Match,Evs]
def bT:Match→List Mir.Event→Int→Match×Int×Int
 | m,[],_=>(m,-1,0)
 | m,e::l,i=>if decide (i≥4000) then (m,i,26) else if aV m e != 0 then (m,i,aV m e) else bT (bF m e) l (i+1)
def Lg:Den (tyP qML)→List Prop×Den (tyP sy):=fun x=>([aE x.1],((bT x.1 x.2.1 0).1,(bT x.1 x.2.1 0).2.1,(bT x.1 x.2.1 0).2.2,()))
abbrev Qy:List (Nat×PB):= [(0,.dat (.nm .Match)),(1,.dat (.nm .Match))]
abbrev qFm:Pat:=⟨[(2,.c (.ptr 0 0)),(4,.c (.ptr 1 0)),(11,.h Evs),(12,.h I),(13,.h I)],Qy,2⟩
abbrev xFm:List (Lf×Pat):= [(.ret,⟨[(4,.c (.ptr 1 0)),(5,.h I),(6,.h I)],[(1,.dat (.nm .Match))],2⟩),(.ext 0,⟨[(2,.c (.ptr 0 0)),(4,.c (.ptr 1 0))],Qy,2⟩)]
abbrev TFm:Type:=List Mir.Event×Int×Int×Match×Match×Unit
abbrev OFm:Type:=Sum (Int×Int×Match×Unit) (Match×Match×Unit)
def xx (x:TFm):Prop:=(x.2.1 =(x.1.length:Int)∧0≤x.2.2.1∧x.2.2.1≤x.2.1∧x.1.length≤aS)∧aE x.2.2.2.1
def HD (x:TFm):Nat:=(x.2.1 - x.2.2.1).toNat
def sq (z:Match) (p:Match×Int×Int):OFm:=if p.2.2 != 0 then .inl (p.2.1,p.2.2,p.1,()) else .inr (p.1,z,())
def jU (x:TFm):OFm:=sq x.2.2.2.2.1 (bT x.2.2.2.1 (x.1.drop x.2.2.1.toNat) x.2.2.1)
theorem nu :∀ (l:List Mir.Event) (m:Match) (i:Int) (o:List Delivered),bT m l i =(l6 m l i o).2
 | [],_,_,_=>rfl
 | e::l,m,i,o=>by
  unfold bT l6 pc gw
  by_cases h:decide (i≥4000)=true
  ·simp only [if_pos h];rfl
  ·simp only [if_neg h]
   by_cases hc :(aV m e != 0)=true
   ·rw [if_pos hc,if_pos hc]
   ·rw [if_neg hc,if_neg hc]
    exact nu l _ _ _
theorem BB (l:List Mir.Event) (m:Match) (i:Int) (h :(bT m l i).2.2=0) :(bT m l i).2.1 = -1:=by
 rw [nu l m i []] at h ⊢
 exact vw l m i [] h
noncomputable def lpFm:Lp:=(⟨0,ao [uN] Tryz.f49,(fun _=>none),(aA Tryz.f49 0),qFm,xFm⟩:Lp)
theorem Qb (xs:List Mir.Event) (n:Int) (i:Int) (m:Match) (z:Match) (hi:xx (xs,n,i,m,z,())) :(Go.Mir.stepG lpFm jU (fun y:Den (tyP lpFm.q)=>xx y∧HD y<HD (xs,n,i,m,z,())) (xs,n,i,m,z,())∧Go.Mir.stepE lpFm jU (xs,n,i,m,z,())=jU (xs,n,i,m,z,())):=by
 refine cast (by kernel_rfl) (?_:let r1:Bool:=decide (i≥(4000:Int));let r2:Bool:=aV m (xs.getD i.toNat (dflt (Ty.nm Nm.Event))) !=(0:Int);((decide (i<n)=true→((0:Int)≤i∧i <(↑xs.length:Int))∧(r1=true→True)∧(r1=false→aE m∧(r2=true→True)∧(r2=false→xx (xs,n,IntKind.i64.wrap (i +(1:Int)),bF m (xs.getD i.toNat (dflt (Ty.nm Nm.Event))),z,())∧HD (xs,n,IntKind.i64.wrap (i +(1:Int)),bF m (xs.getD i.toNat (dflt (Ty.nm Nm.Event))),z,())<HD (xs,n,i,m,z,()))))∧(decide (i<n)=false→True))∧(bif decide (i<n) then bif r1 then Sum.inl (i,(26:Int),m,()) else bif r2 then Sum.inl (i,aV m (xs.getD i.toNat (dflt (Ty.nm Nm.Event))),m,()) else jU (xs,n,IntKind.i64.wrap (i +(1:Int)),bF m (xs.getD i.toNat (dflt (Ty.nm Nm.Event))),z,()) else Sum.inr (m,z,()))=jU (xs,n,i,m,z,()))
 intro r1 r2
 clear_value (hr1:r1=_) (hr2:r2=_)
 obtain ⟨⟨h1,h2,h3,h4⟩,hm⟩:=hi
 simp only at h1 h2 h3 h4 hm
 have hx :(xs.length:Int)≤140737488355328:=by have:xs.length≤140737488355328:=h4;omega
 by_cases h:i<n
 ·have e:xs.drop i.toNat=xs.getD i.toNat (dflt (Ty.nm Nm.Event))::xs.drop (i+1).toNat:=b7 h2 (by omega) _
  rw [decide_eq_true h,cond_true,bi (n:=i+1) (by omega) (by omega)]
  generalize xs.getD i.toNat (dflt (Ty.nm Nm.Event))=v at *
  refine ⟨⟨fun _=>⟨⟨h2,by omega⟩,fun _=>trivial,fun a=>⟨hm,fun _=>trivial,fun _=>⟨⟨⟨h1,by simp only;omega,by simp only;omega,h4⟩,ia v hm⟩,by simp only [HD];omega⟩⟩⟩,fun z=>Bool.noConfusion z⟩,?_⟩
  have eP:bT m (xs.drop i.toNat) i=if r1 then (m,i,26) else if r2 then (m,i,aV m v) else bT (bF m v) (xs.drop (i+1).toNat) (i+1):=by rw [e,hr1,hr2];rfl
  simp only [jU]
  rw [eP]
  cases r1 with
  | true=>rfl
  | false=>
   cases r2 with
   | true=>
    show _=sq z (m,i,aV m v)
    unfold sq;simp only;rw [←hr2];rfl
   | false=>rfl
 ·rw [decide_eq_false h,cond_false]
  refine ⟨⟨fun z=>Bool.noConfusion z,fun _=>trivial⟩,?_⟩
  simp only [jU]
  rw [bK (l:=xs) (by omega)]
  rfl
noncomputable def Oi:LoopSum:=aI lpFm jU xx
noncomputable def NU:Nat:=rid (aA Tryz.f49 0)
theorem Pb:LoopOKp Tryz.prog 0 Tryz.f49.ntmps (aA Tryz.f49 0) (aI lpFm jU xx):=
 bj lpFm (al (.consU x9 rfl .nil) _) mixed (fun b hb S hS=>by cases hS) jU xx HD (fun |⟨xs,n,i,m,z,⟨⟩⟩,hi=>Qb xs n i m z hi)
theorem Fh (m:Match) (l:List Mir.Event) (hm:aE m) (hx:l.length≤aS) :(evPat (ao [uN] Tryz.f49) (find [(NU,Oi)]) Tryz.f49 qML sy (m,l,())).sat fun z_=>z_ =(Lg (m,l,())).2:=by
 refine cast (by kernel_rfl) (?_:let r1:Bool:=isL (jU (l,(↑l.length:Int),(0:Int),m,Match.mk (Rules.mk ByteArray.empty (0:Int) (0:Int) (0:Int) (0:Int) (0:Int) (0:Int) (0:Int) false (0:Int) (0:Int) (0:Int) (0:Int) []) (0:Int) (0:Int) false [] ((0:Int),(0:Int),()) (Result.mk (0:Int) (0:Int) (0:Int)),()));let r2:Int×Int×Match×PUnit:=ij (dflt (I.prod (I.prod ((Ty.nm Nm.Match).prod Ty.unit)))) (jU (l,(↑l.length:Int),(0:Int),m,Match.mk (Rules.mk ByteArray.empty (0:Int) (0:Int) (0:Int) (0:Int) (0:Int) (0:Int) (0:Int) false (0:Int) (0:Int) (0:Int) (0:Int) []) (0:Int) (0:Int) false [] ((0:Int),(0:Int),()) (Result.mk (0:Int) (0:Int) (0:Int)),()));((cR fun x=>none)∧((↑l.length:Int) =(↑l.length:Int)∧(0:Int)≤(0:Int)∧(0:Int)≤(↑l.length:Int)∧l.length≤aS)∧aE m)∧(r1=true→(r2.2.2.1,r2.1,r2.2.1,()) =((bT m l (0:Int)).1,(bT m l (0:Int)).2.1,(bT m l (0:Int)).2.2,()))∧(r1=false→((pN (dflt ((Ty.nm Nm.Match).prod ((Ty.nm Nm.Match).prod Ty.unit))) (jU (l,(↑l.length:Int),(0:Int),m,Match.mk (Rules.mk ByteArray.empty (0:Int) (0:Int) (0:Int) (0:Int) (0:Int) (0:Int) (0:Int) false (0:Int) (0:Int) (0:Int) (0:Int) []) (0:Int) (0:Int) false [] ((0:Int),(0:Int),()) (Result.mk (0:Int) (0:Int) (0:Int)),()))).1,(-1:Int),(0:Int),()) =((bT m l (0:Int)).1,(bT m l (0:Int)).2.1,(bT m l (0:Int)).2.2,())))
 intro r1 r2
 clear_value (hr1:r1=_) (hr2:r2=_)
 have er :∀ z:Match,jU (l,(l.length:Int),0,m,z,())=sq z (bT m l 0):=fun _=>rfl
 rw [er] at hr1 hr2 ⊢
 refine ⟨⟨rfl,⟨rfl,Int.le_refl _,by omega,hx⟩,hm⟩,?_⟩
 cases hl :(bT m l 0).2.2 != 0 with
 | true=>
  have eo :∀ z,sq z (bT m l 0) = .inl ((bT m l 0).2.1,(bT m l 0).2.2,(bT m l 0).1,()):=fun z=>by unfold sq;rw [hl];rfl
  rw [eo] at hr1 hr2
  have e1:r1=true:=hr1
  subst e1 hr2
  exact ⟨fun _=>rfl,fun z=>Bool.noConfusion z⟩
 | false=>
  have eo :∀ z,sq z (bT m l 0) = .inr ((bT m l 0).1,z,()):=fun z=>by unfold sq;rw [hl];rfl
  rw [eo] at hr1 ⊢
  have e1:r1=false:=hr1
  have k1 :(bT m l 0).2.2=0:=by simpa using hl
  have k2:=BB l m 0 k1
  subst e1
  refine ⟨fun z=>Bool.noConfusion z,fun _=>?_⟩
  rw [k1,k2];rfl
def B0:FuncId×Ctr:=(49,ae KE qML sy Lg)
theorem HZ:CtrOK Tryz.prog KE 49 (ae KE qML sy Lg):=by
 refine aq (C:=ao [uN] Tryz.f49) (al (.consU x9 rfl .nil) _) mixed (fn:=Tryz.f49) Tryz.func49 (by kernel_rfl) (by kernel_rfl) (by kernel_rfl) (by kernel_rfl) (by kernel_rfl) (by kernel_rfl) (Λ:=fun x=>find [(NU,Oi)]) ?_ ?_
 ·rintro ⟨m,l,⟨⟩⟩ hw hn
  exact LoopsOKp.at (by kernel_rfl) (.cons (by kernel_rfl) (Pb) .nil)
 ·rintro ⟨m,l,⟨⟩⟩ hw hn
  exact Fh m l (hn _ List.mem_cons_self) (cu (aY (aP hw)))
theorem An (r:Rules) (l:List Mir.Event) :(evPat (ao [Gn,B0] Tryz.f30) (fun _=>none) Tryz.f30 qRL sy (r,l,())).sat fun z_=>z_ =(Ay (r,l,())).2:=by
 refine cast (by kernel_rfl) (?_ :((ar r !=(0:Int))=true→(Match.mk (Rules.mk ByteArray.empty (0:Int) (0:Int) (0:Int) (0:Int) (0:Int) (0:Int) (0:Int) false (0:Int) (0:Int) (0:Int) (0:Int) []) (0:Int) (0:Int) false [] ((0:Int),(0:Int),()) (Result.mk (0:Int) (0:Int) (0:Int)),(0:Int),(1:Int),()) =((aW r l).2.1,(aW r l).2.2.1,(aW r l).2.2.2,()))∧((ar r !=(0:Int))=false→aE (gY r)∧((bT (gY r) l (0:Int)).1,(bT (gY r) l (0:Int)).2.1,(bT (gY r) l (0:Int)).2.2,()) =((aW r l).2.1,(aW r l).2.2.1,(aW r l).2.2.2,())))
 refine ⟨fun h=>?_,fun h=>?_⟩
 ·have:aW r l =([],Match.zero,0,1):=by unfold aW;rw [h];rfl
  rw [this];rfl
 ·have h0:ar r=0:=by simpa using h
  have hP:aW r l=l6 (kA r) l 0 []:=by unfold aW;rw [h];rfl
  rw [uZ h0,hP,nu l (kA r) 0 []]
  exact ⟨jj h0,rfl⟩
def ll:FuncId×Ctr:=(30,ae KE qRL sy Ay)
theorem so:CtrOK Tryz.prog KE 30 (ae KE qRL sy Ay):=by
 refine aq (C:=ao [Gn,B0] Tryz.f30) (al (.consU Kk rfl (.consU HZ rfl .nil)) _) mixed (fn:=Tryz.f30) Tryz.func30 (by kernel_rfl) (by kernel_rfl) (by kernel_rfl) (by kernel_rfl) (by kernel_rfl) (by kernel_rfl) (Λ:=fun _ _=>none) ?_ ?_
 ·exact fun _ _ _ _ _ _ _ _ h=>by cases h
 ·rintro ⟨r,l,⟨⟩⟩ hw hn
  exact An r l
end Go.Proofs.YtkgplaoappjkcaaGreat
namespace Go.Proofs.YtkgplaoappjkcaaGreat
open Go Go.Mir
attribute [local irreducible] Go.Mir.DT.sat Go.Mir.evPat Go.Mir.RT.sat Go.Mir.evFn
def okG (m:Match) (l:List Mir.Event) (i:Int):Prop:=(bT m l i).2.2=0
theorem J1 {m:Match} {e:Mir.Event} {l:List Mir.Event} {i:Int} (h:okG m (e::l) i):i<4000∧aV m e=0∧okG (bF m e) l (i+1):=by
 unfold okG bT at h
 by_cases hd:decide (i≥4000)=true
 ·rw [if_pos hd] at h;exact absurd (show (26:Int)=0 from h) (by decide)
 ·rw [if_neg hd] at h
  by_cases hc :(aV m e != 0)=true
  ·rw [if_pos hc] at h
   have h:aV m e=0:=h
   rw [h] at hc;cases hc
  ·rw [if_neg hc] at h
   exact ⟨by simpa using hd,by simpa using hc,h⟩
end Go.Proofs.YtkgplaoappjkcaaGreat
namespace Go.Proofs.YtkgplaoappjkcaaGreat
open Go Go.Mir
theorem uq :∀ (l:List Mir.Event) (m:Match) (i:Int) (e:Mir.Event),okG m l i→
  bT m (l++[e]) i=if decide (i +(l.length:Int)≥4000) then ((bT m l i).1,i +(l.length:Int),26)
   else if aV (bT m l i).1 e != 0 then ((bT m l i).1,i +(l.length:Int),aV (bT m l i).1 e) else (bF (bT m l i).1 e,-1,0)
 | [],m,i,e,_=>by
  simp only [List.nil_append,List.length_nil,Int.natCast_zero,Int.add_zero]
  rfl
 | x::l,m,i,e,h=>by
  obtain ⟨h1,h2,h3⟩:=J1 h
  have hd :¬ decide (i≥4000)=true:=by rw [decide_eq_true_eq];omega
  have hc :¬(aV m x != 0)=true:=by rw [h2];decide
  have e1 :∀ r,bT m (x::r) i=bT (bF m x) r (i+1):=fun r=>by show (if _ then _ else _)=_;rw [if_neg hd,if_neg hc]
  rw [List.cons_append,e1,e1,uq l (bF m x) (i+1) e h3]
  have e2:i+1 +(l.length:Int)=i +((x::l).length:Int):=by simp only [List.length_cons];omega
  rw [e2]
theorem ur :∀ (l:List Mir.Event) (m:Match) (i:Int),aE m→aE (bT m l i).1
 | [],_,_,h=>h
 | x::l,m,i,h=>by
  unfold bT
  split
  ·exact h
  ·split
   ·exact h
   ·exact ur l _ _ (ia x h)
abbrev Srv:Type:=live_Server
def okS (s:Srv):Prop:=ar s.rules=0∧bT (kA s.rules) s.log 0 =(s.match_,-1,0)∧s.log.length≤4000
def iG (s:Srv) (e:Mir.Event):Int:=if decide ((s.log.length:Int)≥4000) then 26 else aV s.match_ e
def cV (s:Srv) (e:Mir.Event):Srv:=if iG s e != 0 then s else { s with match_:=bF s.match_ e,log:=s.log++[e] }
def Hq (s:Srv) (k:Int):Bool:=decide (k<0)||decide (k≥(s.log.length:Int))
def Bo (s:Srv) (k:Int) (e:Mir.Event):Match×Int×Int:=(aW s.rules (s.log.set k.toNat e)).2
def sH (s:Srv) (k:Int) (e:Mir.Event):Int:=if Hq s k then -1 else if (Bo s k e).2.2 != 0 then (Bo s k e).2.1 else -1
def oh (s:Srv) (k:Int) (e:Mir.Event):Int:=if Hq s k then 1 else (Bo s k e).2.2
def da (s:Srv) (k:Int) (e:Mir.Event):Srv:=if oh s k e != 0 then s else { s with match_:=(Bo s k e).1,log:=s.log.set k.toNat e,epoch:=W (s.epoch+1) }
theorem vu {r:Rules} (h:ar r=0) (l:List Mir.Event) :(aW r l).2=bT (kA r) l 0:=by
 unfold aW
 rw [h]
 exact (nu l (kA r) 0 []).symm
theorem HM {s:Srv} (h:okS s):aE s.match_:=by
 have:=ur s.log (kA s.rules) 0 (jj h.1)
 rw [h.2.1] at this
 exact this
theorem MU {s:Srv} (h:okS s) (e:Mir.Event) (hl :¬((s.log.length:Int)≥4000)) :(aW s.rules (s.log++[e])).2.2.2=aV s.match_ e:=by
 obtain ⟨h1,h2,h3⟩:=h
 have ho:okG (kA s.rules) s.log 0:=by unfold okG;rw [h2]
 rw [vu h1,uq _ _ _ _ ho,h2]
 have hd :¬ decide (0 +(s.log.length:Int)≥4000)=true:=by rw [decide_eq_true_eq];omega
 rw [if_neg hd]
 by_cases hc :(aV s.match_ e != 0)=true
 ·rw [if_pos hc]
 ·rw [if_neg hc]
  have:aV s.match_ e=0:=by simpa using hc
  rw [this]
theorem EL {s:Srv} (h:okS s) (e:Mir.Event):okS (cV s e):=by
 unfold cV
 split
 ·exact h
 ·rename_i hc
  have h0:iG s e=0:=by simpa using hc
  unfold iG at h0
  by_cases hl :(s.log.length:Int)≥4000
  ·rw [if_pos (decide_eq_true hl)] at h0;cases h0
  ·rw [if_neg (by rw [decide_eq_true_eq];exact hl)] at h0
   have hk:=h
   obtain ⟨h1,h2,h3⟩:=h
   refine ⟨h1,?_,?_⟩
   ·have ho:okG (kA s.rules) s.log 0:=by unfold okG;rw [h2]
    show bT (kA s.rules) (s.log++[e]) 0=_
    rw [uq _ _ _ _ ho,h2]
    have hd :¬ decide (0 +(s.log.length:Int)≥4000)=true:=by rw [decide_eq_true_eq];omega
    rw [if_neg hd,if_neg (by rw [h0];decide)]
   ·show (s.log++[e]).length≤_
    rw [List.length_append,List.length_singleton];omega
theorem OH {s:Srv} (h:okS s) (k:Int) (e:Mir.Event):okS (da s k e):=by
 unfold da
 split
 ·exact h
 ·rename_i hc
  have h0:oh s k e=0:=by simpa using hc
  unfold oh at h0
  by_cases hg:Hq s k=true
  ·rw [if_pos hg] at h0;cases h0
  ·rw [if_neg hg] at h0
   obtain ⟨h1,h2,h3⟩:=h
   have h4 :(Bo s k e).2.2=0:=h0
   refine ⟨h1,?_,?_⟩
   ·show bT (kA s.rules) (s.log.set k.toNat e) 0 =((Bo s k e).1,-1,0)
    unfold Bo at h4 ⊢
    rw [vu h1] at h4 ⊢
    exact Prod.ext rfl (Prod.ext (BB _ _ _ h4) h4)
   ·show (s.log.set k.toNat e).length≤_
    rw [List.length_set];exact h3
end Go.Proofs.YtkgplaoappjkcaaGreat
namespace Go.Proofs.YtkgplaoappjkcaaGreat
open Go Go.Mir
attribute [local irreducible] Go.Mir.DT.sat Go.Mir.evPat Go.Mir.RT.sat Go.Mir.evFn
abbrev CM:Pat:=⟨[(0,.h (.nm .Rules)),(1,.c (.osl 0 1))],[(0,.row 1 (.nm .Event))],2⟩
abbrev tz:Pat:=⟨[(0,.h R3),(1,.h (.nm .Match)),(2,.h I),(3,.h I)],[(0,.row 1 (.nm .Event))],2⟩
abbrev z6:Pat:=⟨[(0,.h (.nm .Match)),(1,.h I),(2,.h I)],[(0,.row 1 (.nm .Event))],2⟩
def Fz:Den (tyP CM)→List Prop×Den (tyP tz):=fun x=>([],((aW x.1 x.2.1).1,(aW x.1 x.2.1).2.1,(aW x.1 x.2.1).2.2.1,(aW x.1 x.2.1).2.2.2,x.2.1,()))
def vT:Den (tyP CM)→List Prop×Den (tyP z6):=fun x=>([],((aW x.1 x.2.1).2.1,(aW x.1 x.2.1).2.2.1,(aW x.1 x.2.1).2.2.2,x.2.1,()))
abbrev QA:List (Nat×PB):= [(2,.dat (.nm .Match)),(3,.dat (.nm .Match)),(4,.row 5 (.nm .Delivered)),(0,.row 1 (.nm .Event))]
abbrev qPo:Pat:=⟨[(5,.c (.ptr 2 0)),(8,.c (.ptr 3 0)),(10,.c (.osl 4 5)),(23,.c (.osl 0 1)),(24,.h I),(25,.h I)],QA,6⟩
abbrev xPo:List (Lf×Pat):= [(.ret,⟨[(4,.c (.osl 4 5)),(5,.c (.ptr 2 0)),(6,.h I),(7,.h I)],[(2,.dat (.nm .Match)),(4,.row 5 (.nm .Delivered)),(0,.row 1 (.nm .Event))],6⟩),(.ext 0,⟨[(5,.c (.ptr 2 0)),(8,.c (.ptr 3 0)),(10,.c (.osl 4 5))],QA,6⟩)]
abbrev TPo:Type:=Int×Int×Match×Match×List Delivered×List Mir.Event×Unit
abbrev OPo:Type:=Sum (Int×Int×Match×List Delivered×List Mir.Event×Unit) (Match×Match×List Delivered×List Mir.Event×Unit)
def rY (x:TPo):Prop:=QE (x.2.2.2.2.2.1,x.1,x.2.1,x.2.2.1,x.2.2.2.1,x.2.2.2.2.1,())
def wP (x:TPo):Nat:=(x.1 - x.2.1).toNat
def vn (z:Match) (l:List Mir.Event) (p:List Delivered×Match×Int×Int):OPo:=if p.2.2.2 != 0 then .inl (p.2.2.1,p.2.2.2,p.2.1,p.1,l,()) else .inr (z,p.2.1,p.1,l,())
def hJ (x:TPo):OPo:=vn x.2.2.1 x.2.2.2.2.2.1 (l6 x.2.2.2.1 (x.2.2.2.2.2.1.drop x.2.1.toNat) x.2.1 x.2.2.2.2.1)
noncomputable def lpPo:Lp:=(⟨2,ao [D5,mG] Tryz.f50,(fun _=>none),(aA Tryz.f50 0),qPo,xPo⟩:Lp)
theorem Qf (n:Int) (i:Int) (z:Match) (m:Match) (o:List Delivered) (xs:List Mir.Event) (hi:rY (n,i,z,m,o,xs,())) :(Go.Mir.stepG lpPo hJ (fun y:Den (tyP lpPo.q)=>rY y∧wP y<wP (n,i,z,m,o,xs,())) (n,i,z,m,o,xs,())∧Go.Mir.stepE lpPo hJ (n,i,z,m,o,xs,())=hJ (n,i,z,m,o,xs,())):=by
 refine cast (by kernel_rfl) (?_:let r1:Innings:=bt (gw m i (xs.getD i.toNat (dflt (Ty.nm Nm.Event))));let r2:Int:=IntKind.i64.wrap (i +(1:Int));let r3:Bool:=(xs.getD i.toNat (dflt (Ty.nm Nm.Event))).1 ==(4:Int);let r4:Bool:=pc m i (xs.getD i.toNat (dflt (Ty.nm Nm.Event))) !=(0:Int);let r5:List Delivered:= [Delivered.mk i (W ((↑m.5.length:Int) - (1:Int))) (bt m).7 (bt m).8 (bt m).12 (bt m).9 (bt m).10 (bt m).17 (xs.getD i.toNat (dflt (Ty.nm Nm.Event))).8 (au m.1 (xs.getD i.toNat (dflt (Ty.nm Nm.Event))).8) r1.4 r1.5];((decide (i<n)=true→((0:Int)≤i∧i <(↑xs.length:Int))∧aE m∧(r4=true→True)∧(r4=false→(r3=true→Jh m (gw m i (xs.getD i.toNat (dflt (Ty.nm Nm.Event))))∧(o.length+r5.length) *(216:Nat)≤(70368744177664:Nat)∧rY (n,r2,z,gw m i (xs.getD i.toNat (dflt (Ty.nm Nm.Event))),o++r5,xs,())∧wP (n,r2,z,gw m i (xs.getD i.toNat (dflt (Ty.nm Nm.Event))),o++r5,xs,())<wP (n,i,z,m,o,xs,()))∧(r3=false→rY (n,r2,z,gw m i (xs.getD i.toNat (dflt (Ty.nm Nm.Event))),o,xs,())∧wP (n,r2,z,gw m i (xs.getD i.toNat (dflt (Ty.nm Nm.Event))),o,xs,())<wP (n,i,z,m,o,xs,()))))∧(decide (i<n)=false→True))∧(bif decide (i<n) then bif r4 then Sum.inl (i,pc m i (xs.getD i.toNat (dflt (Ty.nm Nm.Event))),m,o,xs,()) else bif r3 then hJ (n,r2,z,gw m i (xs.getD i.toNat (dflt (Ty.nm Nm.Event))),o++r5,xs,()) else hJ (n,r2,z,gw m i (xs.getD i.toNat (dflt (Ty.nm Nm.Event))),o,xs,()) else Sum.inr (z,m,o,xs,()))=hJ (n,i,z,m,o,xs,()))
 intro r1 r2 r3 r4 r5
 clear_value (hr1:r1=_) (hr2:r2=_) (hr3:r3=_) (hr4:r4=_) (hr5:r5=_)
 obtain ⟨⟨h1,h2,h3,h4⟩,hm,h5,h6⟩:=hi
 simp only at h1 h2 h3 h4 hm h5 h6
 have hx :(xs.length:Int)≤140737488355328:=by have:xs.length≤140737488355328:=h4;omega
 by_cases h:i<n
 ·have e:xs.drop i.toNat=xs.getD i.toNat (dflt (Ty.nm Nm.Event))::xs.drop (i+1).toNat:=b7 h2 (by omega) _
  have e2:r2=i+1:=by rw [hr2];exact bi (by omega) (by omega)
  rw [decide_eq_true h,cond_true]
  generalize xs.getD i.toNat (dflt (Ty.nm Nm.Event))=v at *
  have hs:aE (gw m i v):=Ea hm i v
  have hA:r5=[yY m.Rules i m (gw m i v) v.Ball]:=by rw [hr5,hr1];rfl
  have hq:r4=false→i<4000∧aV m v=0:=fun a=>OT (by rw [←hr4];exact a)
  have hK :∀ o':List Delivered,(o'.length:Int)≤i+1→o'.length≤4000→rY (n,r2,z,gw m i v,o',xs,())∧wP (n,r2,z,gw m i v,o',xs,())<wP (n,i,z,m,o,xs,()):=fun o' k1 k2=>
   ⟨⟨⟨h1,by simp only;omega,by simp only;omega,h4⟩,hs,by simp only;omega,k2⟩,by simp only [wP];omega⟩
  refine ⟨⟨fun _=>⟨⟨h2,by omega⟩,hm,fun _=>trivial,fun a=>⟨fun b=>⟨?_,?_,?_⟩,fun _=>hK o (by omega) h6⟩⟩,fun z=>Bool.noConfusion z⟩,?_⟩
  ·have hy:gw m i v=bF m v:=by unfold gw;rw [decide_eq_false (by have:=(hq a).1;omega)];rfl
   have hb:=IY (hq a).2 (by rw [hr3] at b;exact eq_of_beq b)
   exact ⟨⟨hb.1,hm.2.1⟩,by rw [hy];exact hb.2⟩
  ·rw [hA,List.length_singleton];omega
  ·refine hK _ ?_ ?_ <;> rw [hA,List.length_append,List.length_singleton]
   ·omega
   ·have:=(hq a).1;omega
  ·have eP:l6 m (xs.drop i.toNat) i o=if r4 then (o,m,i,pc m i v) else l6 (gw m i v) (xs.drop (i+1).toNat) (i+1) (LQ m.Rules i m (gw m i v) v o):=by rw [e,hr4];rfl
   have eD:LQ m.Rules i m (gw m i v) v o=bif r3 then o++r5 else o:=by unfold LQ;rw [←hr3,hA];cases r3 <;> rfl
   simp only [hJ]
   rw [eP,e2,eD]
   cases r4 with
   | true=>unfold vn;simp only [if_true];rw [←hr4];rfl
   | false=>cases r3 <;> rfl
 ·rw [decide_eq_false h,cond_false]
  refine ⟨⟨fun z=>Bool.noConfusion z,fun _=>trivial⟩,?_⟩
  simp only [hJ]
  rw [bK (l:=xs) (by omega)]
  rfl
noncomputable def Om:LoopSum:=aI lpPo hJ rY
noncomputable def NY:Nat:=rid (aA Tryz.f50 0)
theorem Pf:LoopOKp Tryz.prog 2 Tryz.f50.ntmps (aA Tryz.f50 0) (aI lpPo hJ rY):=
 bj lpPo (al (.consU GI rfl (.consU qi rfl .nil)) _) mixed (fun b hb S hS=>by cases hS) hJ rY wP (fun |⟨n,i,z,m,o,xs,⟨⟩⟩,hi=>Qf n i z m o xs hi)
theorem Iq (r:Rules) (l:List Mir.Event) (hx:l.length≤aS) :(evPat (ao [sa,D5,mG] Tryz.f50) (find [(NY,Om)]) Tryz.f50 CM tz (r,l,())).sat fun z_=>z_ =(Fz (r,l,())).2:=by
 refine cast (by kernel_rfl) (?_:let r1:Match:=Match.mk (Rules.mk ByteArray.empty (0:Int) (0:Int) (0:Int) (0:Int) (0:Int) (0:Int) (0:Int) false (0:Int) (0:Int) (0:Int) (0:Int) []) (0:Int) (0:Int) false [] ((0:Int),(0:Int),()) (Result.mk (0:Int) (0:Int) (0:Int));let r2:Bool:=isL (hJ ((↑l.length:Int),(0:Int),r1,gY r,[],l,()));let r3:Int×Int×Match×List Delivered×List Mir.Event×PUnit:=ij (dflt (I.prod (I.prod ((Ty.nm Nm.Match).prod ((Ty.nm Nm.Delivered).slice.prod ((Ty.nm Nm.Event).slice.prod Ty.unit)))))) (hJ ((↑l.length:Int),(0:Int),r1,gY r,[],l,()));((ar r !=(0:Int))=true→([],r1,(0:Int),(1:Int),l,()) =((aW r l).1,(aW r l).2.1,(aW r l).2.2.1,(aW r l).2.2.2,l,()))∧((ar r !=(0:Int))=false→((cR fun x=>none)∧((↑l.length:Int) =(↑l.length:Int)∧(0:Int)≤(0:Int)∧(0:Int)≤(↑l.length:Int)∧l.length≤aS)∧aE (gY r)∧(↑(0:Nat):Int)≤(0:Int)∧(0:Nat)≤(4000:Nat))∧(r2=true→(r3.2.2.2.1,r3.2.2.1,r3.1,r3.2.1,r3.2.2.2.2) =((aW r l).1,(aW r l).2.1,(aW r l).2.2.1,(aW r l).2.2.2,l,()))∧(r2=false→((pN (dflt ((Ty.nm Nm.Match).prod ((Ty.nm Nm.Match).prod ((Ty.nm Nm.Delivered).slice.prod ((Ty.nm Nm.Event).slice.prod Ty.unit))))) (hJ ((↑l.length:Int),(0:Int),r1,gY r,[],l,()))).2.2.1,(pN (dflt ((Ty.nm Nm.Match).prod ((Ty.nm Nm.Match).prod ((Ty.nm Nm.Delivered).slice.prod ((Ty.nm Nm.Event).slice.prod Ty.unit))))) (hJ ((↑l.length:Int),(0:Int),r1,gY r,[],l,()))).2.1,(-1:Int),(0:Int),(pN (dflt ((Ty.nm Nm.Match).prod ((Ty.nm Nm.Match).prod ((Ty.nm Nm.Delivered).slice.prod ((Ty.nm Nm.Event).slice.prod Ty.unit))))) (hJ ((↑l.length:Int),(0:Int),r1,gY r,[],l,()))).2.2.2) =((aW r l).1,(aW r l).2.1,(aW r l).2.2.1,(aW r l).2.2.2,l,()))))
 intro r1 r2 r3
 clear_value (hr1:r1=_) (hr2:r2=_) (hr3:r3=_)
 refine ⟨fun h=>?_,fun h=>?_⟩
 ·have:aW r l =([],Match.zero,0,1):=by unfold aW;rw [h];rfl
  rw [this,hr1];rfl
 ·have h0:ar r=0:=by simpa using h
  have hP:aW r l=l6 (kA r) l 0 []:=by unfold aW;rw [h];rfl
  have er:hJ ((l.length:Int),0,r1,gY r,[],l,())=vn r1 l (aW r l):=by rw [hP,uZ h0];rfl
  rw [er] at hr2 hr3 ⊢
  refine ⟨⟨rfl,⟨rfl,Int.le_refl _,by omega,hx⟩,by rw [uZ h0];exact jj h0,Int.le_refl _,Nat.zero_le _⟩,?_⟩
  cases hl :(aW r l).2.2.2 != 0 with
  | true=>
   have eo:vn r1 l (aW r l) = .inl ((aW r l).2.2.1,(aW r l).2.2.2,(aW r l).2.1,(aW r l).1,l,()):=by unfold vn;rw [hl];rfl
   rw [eo] at hr2 hr3
   have e2:r2=true:=hr2
   subst e2 hr3
   exact ⟨fun _=>rfl,fun z=>Bool.noConfusion z⟩
  | false=>
   have eo:vn r1 l (aW r l) = .inr (r1,(aW r l).2.1,(aW r l).1,l,()):=by unfold vn;rw [hl];rfl
   rw [eo] at hr2 ⊢
   have e2:r2=false:=hr2
   have k1 :(aW r l).2.2.2=0:=by simpa using hl
   have k2 :(aW r l).2.2.1 = -1:=by rw [hP] at k1 ⊢;exact vw l _ _ _ k1
   subst e2
   refine ⟨fun z=>Bool.noConfusion z,fun _=>?_⟩
   rw [k1,k2];rfl
def Gf:FuncId×Ctr:=(50,ae KE CM tz Fz)
theorem Kc:CtrOK Tryz.prog KE 50 (ae KE CM tz Fz):=by
 refine aq (C:=ao [sa,D5,mG] Tryz.f50) (al (.consU zO rfl (.consU GI rfl (.consU qi rfl .nil))) _) mixed (fn:=Tryz.f50) Tryz.func50 (by kernel_rfl) (by kernel_rfl) (by kernel_rfl) (by kernel_rfl) (by kernel_rfl) (by kernel_rfl) (Λ:=fun x=>find [(NY,Om)]) ?_ ?_
 ·rintro ⟨r,l,⟨⟩⟩ hw hn
  exact LoopsOKp.at (by kernel_rfl) (.cons (by kernel_rfl) (Pf) .nil)
 ·rintro ⟨r,l,⟨⟩⟩ hw hn
  exact Iq r l (cu (aY (aP hw)))
theorem C4 (r:Rules) (l:List Mir.Event) :(evPat (ao [Gf] Tryz.f32) (fun _=>none) Tryz.f32 CM z6 (r,l,())).sat fun z_=>z_ =(vT (r,l,())).2:=by
 refine cast (by kernel_rfl) (?_ :((aW r l).2.1,(aW r l).2.2.1,(aW r l).2.2.2,l,()) =((aW r l).2.1,(aW r l).2.2.1,(aW r l).2.2.2,l,()))
 rfl
def xK:FuncId×Ctr:=(32,ae KE CM z6 vT)
theorem Er:CtrOK Tryz.prog KE 32 (ae KE CM z6 vT):=by
 refine aq (C:=ao [Gf] Tryz.f32) (al (.consU Kc rfl .nil) _) mixed (fn:=Tryz.f32) Tryz.func32 (by kernel_rfl) (by kernel_rfl) (by kernel_rfl) (by kernel_rfl) (by kernel_rfl) (by kernel_rfl) (Λ:=fun _ _=>none) ?_ ?_
 ·exact fun _ _ _ _ _ _ _ _ h=>by cases h
 ·rintro ⟨r,l,⟨⟩⟩ hw hn
  exact C4 r l
end Go.Proofs.YtkgplaoappjkcaaGreat
namespace Go.Mir
open Go.RowKit
variable {P:Program}
inductive PF where
 | dat
 | ptr
 | clo (g:FuncId)
def GR (H:bm) (t:Ty):V→Option (Den t)
 | .ptr h off=>match Nat.beq off 0 with
  | true=>match H h with
   | some (.cells cs)=>sR H t cs
   | _=>none
  | false=>none
 | .fp t' xs i off=>match Nat.beq off 0 with
  | true=>if e:t'=t then xs[i.toNat]?.map fun x=>(e▸x:Den t) else none
  | false=>none
 | _=>none
def Nt (H:bm) (g:FuncId) (t:Ty):V→Option (Den t)
 | .fn g' [.nilmap,p]=>match Nat.beq g' g with
  | true=>GR H t p
  | false=>none
 | _=>none
def GL (H:bm) (q:PF) (a:Ty) (v:V):Option (Den a):=
 match q with
 | .ptr=>GR H a v
 | .clo g=>Nt H g a v
 | .dat=>(dR H (.prod a .unit) [v]).map (·.1)
def dy (H:bm):List PF→(ps:Ty)→List V→Option (Den ps)
 | q,.prod a b,v::vs=>match GL H (q.headD .dat) a v with
  | some x=>match dy H q.tail b vs with
   | some y=>some (x,y)
   | none=>none
  | none=>none
 | _,.unit,[]=>some ()
 | _,_,_=>none
def Qs (q:PF) (a:Ty) (x:Den a):V:=
 match q with
 | .ptr=> .fp a [x] 0 0
 | .clo g=> .fn g [.nilmap,.fp a [x] 0 0]
 | .dat=>fS a x
def gm:List PF→(ps:Ty)→Den ps→List V
 | q,.prod a b,x=>Qs (q.headD .dat) a x.1::gm q.tail b x.2
 | _,_,_=> []
def QB (H:bm):V→List Nat
 | .ptr h _=>(match H h with|some (.cells cs)=>hss cs|_=> [])
 | _=> []
def OP (H:bm):List PF→List V→List Nat
 | q,v::vs=>(match q.headD .dat with
  | .ptr=>QB H v
  | .clo _=>(match v with | .fn _ [_,p]=>QB H p|_=> [])
  | .dat=>v.hs)++OP H q.tail vs
 | _,[]=> []
def eQ (K:Nat) (q:List PF) (ps:Ty) (spec:Den ps→PRes):Ctr:=fun args H m=>
 match dy (roL H (OP H q args)) q ps args with
 | some x=>
  let r:=spec x
  bif Nat.ble r.rows.length K&&r.flat then some (r.needs,r.v.shift m,jq m 0 r.rows) else none
 | none=>none
def DH (E:Env):Env:=⟨fun _=>False,fun _=>none,fun b=>b<E.w.heap.size,E.w,fun _=>none⟩
theorem sw {B:Base} {E:Env} (hE:HRel B E) {t:Ty} {v:V} {u:Value} {x:Den t} (hv:ac E v u) (h:GR E.H t v=some x) :
  ac (DH E) (.fp t [x] 0 0) u∧∃ cs,Rd (fun b=>b<E.w.heap.size) E.w t x cs:=by
 have up :∀ {t:Ty} {x:Den t} {cs:List Value},Rd E.S E.w t x cs→Rd (fun b=>b<E.w.heap.size) E.w t x cs:=fun h=>h.ext (fun b hb=>hE.stab b hb) (fun _ _=>rfl)
 unfold GR at h
 split at h
 ·rename_i hh off
  split at h
  case h_2=>cases h
  rename_i hoff
  have hoff:=Nat.eq_of_beq_eq_true hoff
  subst hoff
  split at h
  case h_2=>cases h
  rename_i cs hcs
  obtain ⟨b,c,T,fr,k1,k2,k3,k4,k5⟩:=hE.blk _ _ hcs
  have hrd:=c7 hE h k5
  have hp:=hv
  simp only [ac] at hp
  obtain ⟨b',k6,k7⟩:=hp.2.2 cs hcs
  rw [k1] at k6
  cases k6
  have hlen:=hrd.len
  refine ⟨?_,_,up hrd⟩
  simp only [ac]
  refine ⟨b,0,c,T,fr,hE.lt _ _ _ hcs k1,k2,?_,fun j hj=>?_,Int.le_refl _,by simp,?_⟩
  ·simp only [List.length_singleton]
   have:c.toList.length=c.size:=by simp
   omega
  ·have:j=0:=by simpa using hj
   subst this
   have e:seg c (0+0*sz t) (sz t)=c.toList:=by
    unfold seg
    simp only [Nat.zero_mul,Nat.add_zero,List.drop_zero]
    exact List.take_of_length_le (by omega)
   rw [e]
   exact up hrd
  ·rw [k7];simp
 ·rename_i t' xs i off
  split at h
  case h_2=>cases h
  rename_i hoff
  have hoff:=Nat.eq_of_beq_eq_true hoff
  subst hoff
  split at h
  case isFalse=>cases h
  rename_i e
  subst e
  simp only [ac] at hv
  obtain ⟨b,o,c,T,fr,k1,k2,k3,k4,k5,k6,k7⟩:=hv
  rw [List.getElem?_eq_getElem k6] at h
  simp only [Option.map_some,Option.some.injEq] at h
  subst h
  have hm :(i.toNat+1)*sz t'≤xs.length*sz t':=Nat.mul_le_mul_right _ k6
  rw [Nat.add_mul] at hm
  refine ⟨?_,_,up (k4 _ k6)⟩
  simp only [ac]
  refine ⟨b,o+i.toNat*sz t',c,T,fr,hE.stab _ k1,k2,by simp only [List.length_singleton];omega,fun j hj=>?_,Int.le_refl _,by simp,?_⟩
  ·have:j=0:=by simpa using hj
   subst this
   simp only [Nat.zero_mul,Nat.add_zero]
   exact up (k4 _ k6)
  ·rw [k7];simp
 ·cases h
theorem Cu {B:Base} {E:Env} (hE:HRel B E) {q:PF} {t:Ty} {v:V} {u:Value} {x:Den t} (hv:ac E v u) (h:GL E.H q t v=some x) :
  ac (DH E) (Qs q t x) u∧∃ cs,Rd (fun b=>b<E.w.heap.size) E.w t x cs:=by
 have up :∀ {t:Ty} {x:Den t} {cs:List Value},Rd E.S E.w t x cs→Rd (fun b=>b<E.w.heap.size) E.w t x cs:=fun h=>h.ext (fun b hb=>hE.stab b hb) (fun _ _=>rfl)
 cases q with
 | ptr=>exact sw hE hv h
 | clo g=>
  simp only [GL] at h
  unfold Nt at h
  split at h
  ·rename_i g' p
   split at h
   case h_2=>cases h
   rename_i hg
   have hg:=Nat.eq_of_beq_eq_true hg
   subst hg
   simp only [ac] at hv
   obtain ⟨l,h1,h2⟩:=hv
   obtain ⟨l⟩:=l
   match l,h2 with
   | [m,pv],h2=>
    simp only [ai] at h2
    obtain ⟨k1,k2⟩:=sw hE h2.2.1 h
    refine ⟨?_,k2⟩
    show ac (DH E) (.fn g' [.nilmap,.fp t [x] 0 0]) u
    unfold ac
    exact ⟨⟨[m,pv]⟩,h1,by simp only [ai];exact ⟨by simpa only [ac] using h2.1,k1,trivial⟩⟩
   | [],h2=>simp [ai] at h2
   | [_],h2=>simp [ai] at h2
   | _::_::_::_,h2=>simp [ai] at h2
  ·cases h
 | dat=>
  simp only [GL,Option.map_eq_some_iff] at h
  obtain ⟨x1,hx1,rfl⟩:=h
  let Ec:Env:=⟨fun _=>False,fun _=>none,E.S,E.w,fun _=>none⟩
  have hv1:ai E [v] [u]:=by simp only [ai];exact ⟨hv,trivial⟩
  obtain ⟨j1,cs1,j2⟩:=gc hE (Ec:=Ec) rfl rfl hv1 hx1
  have X:Ext Ec (DH E):=⟨fun _ h=>h,fun b hb=>hE.stab b hb,fun _ _=>rfl,fun h cs _ hx=>(by cases hx),fun h ver rw t xs _ _ hx=>(by cases hx),fun h ver esz cs _ _ hx=>(by cases hx),fun h es _ hx=>(by cases hx)⟩
  have j3:=bD X _ _ j1
  simp only [bh,ai] at j3
  refine ⟨j3.1,?_⟩
  cases j2 with
  | prod ha hb=>exact ⟨_,up ha⟩
theorem sU {B:Base} {E:Env} (hE:HRel B E) :∀ {q:List PF} {ps:Ty} {args:List V} {av:List Value} {x:Den ps},ai E args av→dy E.H q ps args=some x→
  ai (DH E) (gm q ps x) av∧∃ cs,Rd (fun b=>b<E.w.heap.size) E.w ps x cs:=by
 intro q ps
 induction ps generalizing q with
 | prod a b iha ihb=>
  intro args av x hv h
  cases args with
  | nil=>simp [dy] at h
  | cons v vs=>
   cases av with
   | nil=>simp [ai] at hv
   | cons u us=>
    simp only [ai] at hv
    simp only [dy] at h
    simp only [gm,ai]
    split at h
    case h_2=>cases h
    rename_i x1 hx1
    split at h
    case h_2=>cases h
    rename_i y1 hy1
    cases h
    obtain ⟨i1,cs2,i2⟩:=ihb hv.2 hy1
    obtain ⟨k1,cs1,k2⟩:=Cu hE hv.1 hx1
    exact ⟨⟨k1,i1⟩,_,.prod k2 i2⟩
 | unit=>
  intro args av x hv h
  cases args with
  | nil=>
   cases av with
   | nil=>exact ⟨trivial,[],.unit⟩
   | cons=>simp [ai] at hv
  | cons=>simp [dy] at h
 | int=>intro args av x hv h;cases args <;> simp [dy] at h
 | bool=>intro args av x hv h;cases args <;> simp [dy] at h
 | str=>intro args av x hv h;cases args <;> simp [dy] at h
 | slice=>intro args av x hv h;cases args <;> simp [dy] at h
 | nm=>intro args av x hv h;cases args <;> simp [dy] at h
theorem pA {C:Cfg} (hC:CfgOK P C) (hP:P.follows .mixedOrders=true) {f:FuncId} {fn:Func} (hf:P.funcs[f]?=some fn) (hbody:fn.body.isSome=true) (hname :(fn.name == "runtime.NumGoroutine")=false) (hN:C.N=fn.ntmps)
  {q:List PF} {ps:Ty} {spec:Den ps→PRes} {Λ:Den ps→Nat→Option LoopSum}
  (hΛ :∀ x:Den ps,wfD ps x→(∀ p∈(spec x).needs,p)→∀ c,fn.body=some c→∀ b∈bd (Λ x) c,∀ L,Λ x (rid b)=some L→LoopOK P C.N b L) (hlen :∀ x:Den ps,(gm q ps x).length≤fn.ntmps)
  (h :∀ x:Den ps,wfD ps x→(∀ p∈(spec x).needs,p)→(evFn C (Λ x) fn (gm q ps x)).sat fun v rows=>leV v (spec x).v∧rows =(spec x).rows):CtrOK P C.K f (eQ C.K q ps spec):=by
 refine ⟨⟨fn,hf,hbody,hname⟩,fun B E hE args av hav m hm ps' v dh hct hps=>?_⟩
 unfold eQ at hct
 split at hct
 case h_2=>cases hct
 rename_i x hx
 simp only at hct
 cases hle:Nat.ble (spec x).rows.length C.K&&(spec x).flat with
 | false=>rw [hle] at hct;cases hct
 | true=>
  rw [hle] at hct
  simp only [cond_true,Option.some.injEq,Prod.mk.injEq] at hct
  obtain ⟨rfl,rfl,rfl⟩:=hct
  simp only [Bool.and_eq_true] at hle
  obtain ⟨hle,hfl⟩:=hle
  obtain ⟨hSE,XS⟩:=dF hE (OP E.H q args)
  have hE0:HRel (Bj E.w (fun _=>False) (fun b=>b<E.w.heap.size)) (DH E):=by
   refine ⟨fun h b hx=>?_,fun b hb=>hb,fun h k b hx=>?_,fun h h' k k' b hx=>?_,fun h k hx=>?_,Keeps.refl _ _,fun h k b hx=>?_,fun _ h=>h,fun _ h=> .inl h⟩ <;> cases hx
  obtain ⟨hav0,cs,hrd⟩:=sU hSE (bD XS _ _ hav) hx
  have hav0:ai (DH E) (gm q ps x) av:=hav0
  have hwf:wfD ps x:=⟨_,_,_,hrd⟩
  have hl0:av.length≤fn.ntmps:=by rw [←bu hav0];exact hlen x
  refine Calls.mono (t8 hC hP hf hN (hΛ x hwf hps) (h x hwf hps) hE0 (fun _=>trivial) rfl (fun _ h=>h) hav0 hl0) fun e w' hr=>?_
  obtain ⟨Ec,v',v0,v,acc,rfl,hEc,rfl,hv,hcan,hq1,hq2⟩:=hr
  have hcs:=oQ hEc m v0 [] v acc v' hcan hv
  have hacc:=hcs.acc ⟨by simp,fun h r hr=>by simp at hr⟩
  have hlenK:acc.length≤C.K:=by
   have:=Nat.le_of_ble_eq_true hle
   rw [←hq2] at this
   simpa using this
  simp only [PRes.flat,Bool.and_eq_true,List.all_eq_true] at hfl
  obtain ⟨E',G,hren,_⟩:=I7 hE hm (S1:=fun b=>b<E.w.heap.size) (fun b hb=>hE.stab b hb) hEc hacc hlenK (.inr fun q hq=>hfl.2 _ (by rw [←hq2];exact List.mem_map_of_mem hq))
  refine ⟨E',v',rfl,?_,?_⟩
  ·rw [←hq2];exact G
  ·exact nL _ _ _ hq1 (hcs.rel E' G.w (.inr (zx _ _ hq1 hfl.1)) hren)
end Go.Mir
namespace Go.Proofs.YtkgplaoappjkcaaGreat
open Go Go.Mir
attribute [local irreducible] Go.Mir.DT.sat Go.Mir.evPat Go.Mir.RT.sat Go.Mir.evFn
abbrev Je (l:PC0):List PC0:= [.d (.nm .Rules),.h I,l,.d (.nm .Match)]
abbrev TS:Type:=Rules×Int×Match×List Mir.Event×Unit
def _root_.Go.Mir.mkS (v1:Rules) (v2:Int) (v3:Match) (lg:List Mir.Event):live_Server:={ rules:=v1,epoch:=v2,log:=lg,match_:=v3 }
def _root_.Go.Mir.mkSX (x:TS):live_Server:=mkS x.1 x.2.1 x.2.2.1 x.2.2.2.1
def MQ:Ty:= .prod Evs .unit
def A3:Den MQ→PRes:=fun x=>⟨[x.1.length≤1000000],.osl 0 0,[⟨.nm .Event,x.1⟩]⟩
def gR:FuncId×Ctr:=(31,ap KE MQ A3)
abbrev hpS (v:Nat):List (Nat×PB):= [(0,.cells (Je (.c (.osl 1 v)))),(1,.row v (.nm .Event))]
abbrev G5:Pat:=⟨[(0,.c (.ptr 0 0)),(1,.h I)],hpS 2,3⟩
abbrev G6:Pat:=⟨[(0,.c .nilptr),(1,.h I)],[],0⟩
def Me (r:Rules):live_Server:={ rules:=r,epoch:=1,log:= [],match_:=kA r }
def zL (r:Rules):Prop:=ar r=0
def Bh (r:Rules):Prop:=ar r≠0
def Fu:Den (tyP qRu)→List Prop×Den (tyP G5):=fun x=>([zL x.1],((0:Int),(Me x.1).rules,(Me x.1).epoch,(Me x.1).match_,[],()))
def Au:Den (tyP qRu)→List Prop×Den (tyP G6):=fun x=>([Bh x.1],(ar x.1,()))
abbrev qSE:Pat:=⟨[(0,.c (.ptr 0 0)),(1,.h (.nm .Event))],hpS 2,3⟩
abbrev qSL:Pat:=⟨[(0,.h I)],hpS 3,4⟩
def ip (s:live_Server):Prop:=aE s.match_∧s.log.length≤4000
def vQ:Den (tyP qSE)→List Prop×Den (tyP qSL):=fun x=>([ip (mkSX x.2)],(iG (mkSX x.2) x.1,(cV (mkSX x.2) x.1).rules,(cV (mkSX x.2) x.1).epoch,(cV (mkSX x.2) x.1).match_,(cV (mkSX x.2) x.1).log,()))
abbrev MZ:Pat:=⟨[(0,.c (.ptr 0 0)),(1,.h I),(2,.h (.nm .Event))],hpS 2,3⟩
abbrev qSC:Pat:=⟨[(0,.h I),(1,.h I)],hpS 3,4⟩
def vN:Den (tyP MZ)→List Prop×Den (tyP qSC):=fun x=>([ip (mkSX x.2.2)],(sH (mkSX x.2.2) x.1 x.2.1,oh (mkSX x.2.2) x.1 x.2.1,(da (mkSX x.2.2) x.1 x.2.1).rules,(da (mkSX x.2.2) x.1 x.2.1).epoch,(da (mkSX x.2.2) x.1 x.2.1).match_,(da (mkSX x.2.2) x.1 x.2.1).log,()))
def CH:Ty:= .prod (.nm .live_Server) .unit
def GQ:Ty:= .prod (.nm .live_Server) (.prod I .unit)
def lO:Den CH→PRes:=fun x=>⟨[],.tup [.int .i64 x.1.epoch,.int .i64 x.1.log.length],[]⟩
def tF:Den CH→PRes:=fun x=>⟨[x.1.log.length≤1000000],.osl 0 0,[⟨.nm .Event,x.1.log⟩]⟩
def wN (s:live_Server) (k:Int):Bool:=decide (k<0)||decide (k >(s.log.length:Int))
def ji (s:live_Server) (k:Int):Int:=if wN s k then 2 else 0
def il (s:live_Server) (k n:Int):Int:=if wN s k then 0 else n
def ky (s:live_Server) (k:Int):List Mir.Event:=if wN s k then [] else s.log.drop k.toNat
def tG:Den GQ→PRes:=fun x=>⟨[x.1.log.length≤1000000],.tup [.agg [.int .i64 (il x.1 x.2.1 x.1.epoch),.int .i64 (il x.1 x.2.1 x.2.1),.int .i64 (il x.1 x.2.1 x.1.log.length),.osl 0 0],.int .i64 (ji x.1 x.2.1)],[⟨.nm .Event,ky x.1 x.2.1⟩]⟩
theorem ER (x:List Mir.Event) (hs:x.length≤1000000) :(evFn (ao [] Tryz.f31) (fun _=>none) Tryz.f31 (bh MQ (x,()))).sat fun v' rows=>leV v' (A3 (x,())).v∧rows =(A3 (x,())).rows:=by
 refine cast (by kernel_rfl) (?_ :(x.isEmpty=true→(nat_lit 0=nat_lit 0∧nat_lit 0=nat_lit 0)∧ [RowD.mk (Ty.nm Nm.Event) []]=[RowD.mk (Ty.nm Nm.Event) x])∧((0:Nat)+x.length) *(136:Nat)≤(70368744177664:Nat)∧(nat_lit 0=nat_lit 0∧nat_lit 0=nat_lit 0)∧ [RowD.mk (Ty.nm Nm.Event) ([]++x)]=[RowD.mk (Ty.nm Nm.Event) x])
 refine ⟨fun h=>⟨⟨rfl,rfl⟩,?_⟩,?_,⟨rfl,rfl⟩,rfl⟩
 ·have:x=[]:=List.isEmpty_iff.1 h
  subst this;rfl
 ·omega
theorem nR:CtrOK Tryz.prog KE 31 (ap KE MQ A3):=by
 refine aJ (C:=ao [] Tryz.f31) (al (CtrsOK.nil) _) mixed (fn:=Tryz.f31) Tryz.func31 (by kernel_rfl) (by kernel_rfl) (by kernel_rfl) (Λ:=fun _ _=>none) ?_ ?_ ?_
 ·exact fun _ _ _ _ _ _ _ _ h=>by cases h
 ·rintro ⟨x,⟨⟩⟩
  exact of_decide_eq_true (by kernel_rfl)
 ·rintro ⟨x,⟨⟩⟩ hw hn
  exact ER x (hn _ (List.mem_singleton.2 rfl))
theorem K1 (r:Rules) (h0:zL r) :(evPat (ao [sa] Tryz.f7) (fun _=>none) Tryz.f7 qRu G5 (r,())).sat fun z_=>z_ =(Fu (r,())).2:=by
 refine cast (by kernel_rfl) (?_ :((ar r !=(0:Int))=true→False)∧((ar r !=(0:Int))=false→((0:Int),(gY r).1,(1:Int),gY r,([]:List Mir.Event),()) =((0:Int),r,(1:Int),kA r,([]:List Mir.Event),())))
 have h0':ar r=0:=h0
 refine ⟨fun h=>?_,fun _=>?_⟩
 ·rw [h0'] at h;exact absurd h (by decide)
 ·rw [uZ h0'];rfl
def zu:FuncId×Ctr:=(7,ae KE qRu G5 Fu)
theorem GJ:CtrOK Tryz.prog KE 7 (ae KE qRu G5 Fu):=by
 refine aq (C:=ao [sa] Tryz.f7) (al (.consU zO rfl .nil) _) mixed (fn:=Tryz.f7) Tryz.func7 (by kernel_rfl) (by kernel_rfl) (by kernel_rfl) (by kernel_rfl) (by kernel_rfl) (by kernel_rfl) (Λ:=fun _ _=>none) ?_ ?_
 ·exact fun _ _ _ _ _ _ _ _ h=>by cases h
 ·rintro ⟨r,⟨⟩⟩ hw hn
  exact K1 r (hn _ List.mem_cons_self)
theorem It (r:Rules) (h0:Bh r) :(evPat (ao [sa] Tryz.f7) (fun _=>none) Tryz.f7 qRu G6 (r,())).sat fun z_=>z_ =(Au (r,())).2:=by
 refine cast (by kernel_rfl) (?_ :((ar r !=(0:Int))=true→(ar r,()) =(ar r,()))∧((ar r !=(0:Int))=false→False))
 exact ⟨fun _=>rfl,fun h=>h0 (by simpa using h)⟩
def Gh:FuncId×Ctr:=(7,ae KE qRu G6 Au)
theorem Ke:CtrOK Tryz.prog KE 7 (ae KE qRu G6 Au):=by
 refine aq (C:=ao [sa] Tryz.f7) (al (.consU zO rfl .nil) _) mixed (fn:=Tryz.f7) Tryz.func7 (by kernel_rfl) (by kernel_rfl) (by kernel_rfl) (by kernel_rfl) (by kernel_rfl) (by kernel_rfl) (Λ:=fun _ _=>none) ?_ ?_
 ·exact fun _ _ _ _ _ _ _ _ h=>by cases h
 ·rintro ⟨r,⟨⟩⟩ hw hn
  exact It r (hn _ List.mem_cons_self)
theorem Ac (s:live_Server) (e:Mir.Event) (hs:ip s) :(evPat (ao [o9] Tryz.f9) (fun _=>none) Tryz.f9 qSE qSL (e,s.rules,s.epoch,s.match_,s.log,())).sat fun z_=>z_ =(vQ (e,s.rules,s.epoch,s.match_,s.log,())).2:=by
 refine cast (by kernel_rfl) (?_:let r1:Bool:=aV s.4 e ==(0:Int);let r2:Bool:=decide ((↑s.3.length:Int)≥(4000:Int));(r2=true→((26:Int),s.1,s.2,s.4,s.3,()) =(iG s e,(cV s e).1,(cV s e).2,(cV s e).4,(cV s e).3,()))∧(r2=false→aE s.4∧(r1=true→(s.3.length+[e].length) *(136:Nat)≤(70368744177664:Nat)∧(aV s.4 e,s.1,s.2,bF s.4 e,s.3++[e],()) =(iG s e,(cV s e).1,(cV s e).2,(cV s e).4,(cV s e).3,()))∧(r1=false→(aV s.4 e,s.1,s.2,s.4,s.3,()) =(iG s e,(cV s e).1,(cV s e).2,(cV s e).4,(cV s e).3,()))))
 intro r1 r2
 clear_value (hr1:r1=_) (hr2:r2=_)
 have hr2':decide ((s.log.length:Int)≥4000)=r2:=hr2.symm
 refine ⟨fun h=>?_,fun h=>⟨hs.1,fun h1=>⟨?_,?_⟩,fun h1=>?_⟩⟩
 ·have hp:iG s e=26:=by unfold iG;rw [hr2',h];rfl
  have hS:cV s e=s:=by unfold cV;rw [if_pos (by rw [hp];decide)]
  rw [hS,hp]
 ·have:=hs.2;simp only [List.length_singleton];omega
 ·have hz:aV s.match_ e=0:=by rw [hr1] at h1;exact eq_of_beq h1
  have hp:iG s e=0:=by unfold iG;rw [hr2',h,hz];rfl
  have hS:cV s e={ s with match_:=bF s.match_ e,log:=s.log++[e] }:=by unfold cV;rw [if_neg (by rw [hp];decide)]
  rw [hS,hp,hz]
 ·have hp:iG s e=aV s.match_ e:=by unfold iG;rw [hr2',h];rfl
  have hS:cV s e=s:=by
   unfold cV
   rw [if_pos]
   show (!(iG s e==0))=true
   rw [hp,←hr1,h1];rfl
  rw [hS,hp]
def fz:FuncId×Ctr:=(9,ae KE qSE qSL vQ)
theorem jM:CtrOK Tryz.prog KE 9 (ae KE qSE qSL vQ):=by
 refine aq (C:=ao [o9] Tryz.f9) (al (.consU tx rfl .nil) _) mixed (fn:=Tryz.f9) Tryz.func9 (by kernel_rfl) (by kernel_rfl) (by kernel_rfl) (by kernel_rfl) (by kernel_rfl) (by kernel_rfl) (Λ:=fun _ _=>none) ?_ ?_
 ·exact fun _ _ _ _ _ _ _ _ h=>by cases h
 ·rintro ⟨e,v1,v2,v3,lg,⟨⟩⟩ hw hn
  exact Ac (mkS v1 v2 v3 lg) e (hn _ List.mem_cons_self)
def kr:FuncId×Ctr:=(16,eQ KE ([.ptr]:List PF) CH lO)
theorem C7 (s:live_Server) :(evFn (ao [] Tryz.f16) (fun _=>none) Tryz.f16 (gm ([.ptr]:List PF) CH (s,()))).sat fun v' rows=>leV v' (lO (s,())).v∧rows =(lO (s,())).rows:=by
 refine cast (by kernel_rfl) (?_ :(([s].getD (Int.toNat (0:Int)) (dflt (Ty.nm Nm.live_Server))).2=s.2∧(↑([s].getD (Int.toNat (0:Int)) (dflt (Ty.nm Nm.live_Server))).3.length:Int) =(↑s.3.length:Int)∧True)∧([]:List RowD)=[])
 exact ⟨⟨rfl,rfl,trivial⟩,rfl⟩
theorem pm:CtrOK Tryz.prog KE 16 (eQ KE ([.ptr]:List PF) CH lO):=by
 refine pA (C:=ao [] Tryz.f16) (al (CtrsOK.nil) _) mixed (fn:=Tryz.f16) Tryz.func16 (by kernel_rfl) (by kernel_rfl) (by kernel_rfl) (Λ:=fun _ _=>none) ?_ ?_ ?_
 ·exact fun _ _ _ _ _ _ _ _ h=>by cases h
 ·rintro ⟨s,⟨⟩⟩
  exact of_decide_eq_true (by kernel_rfl)
 ·rintro ⟨s,⟨⟩⟩ hw hn
  exact C7 s
def uH:FuncId×Ctr:=(18,eQ KE ([.ptr]:List PF) CH tF)
theorem K0 (s:live_Server) (hl:s.log.length≤1000000) :(evFn (ao [gR] Tryz.f18) (fun _=>none) Tryz.f18 (gm ([.ptr]:List PF) CH (s,()))).sat fun v' rows=>leV v' (tF (s,())).v∧rows =(tF (s,())).rows:=by
 refine cast (by kernel_rfl) (?_ :([s].getD (Int.toNat (0:Int)) (dflt (Ty.nm Nm.live_Server))).3.length≤(1000000:Nat)∧(nat_lit 0=nat_lit 0∧nat_lit 0=nat_lit 0)∧ [RowD.mk (Ty.nm Nm.Event) ([s].getD (Int.toNat (0:Int)) (dflt (Ty.nm Nm.live_Server))).3]=[RowD.mk (Ty.nm Nm.Event) s.3])
 exact ⟨hl,⟨rfl,rfl⟩,rfl⟩
theorem zN:CtrOK Tryz.prog KE 18 (eQ KE ([.ptr]:List PF) CH tF):=by
 refine pA (C:=ao [gR] Tryz.f18) (al (.consU nR rfl .nil) _) mixed (fn:=Tryz.f18) Tryz.func18 (by kernel_rfl) (by kernel_rfl) (by kernel_rfl) (Λ:=fun _ _=>none) ?_ ?_ ?_
 ·exact fun _ _ _ _ _ _ _ _ h=>by cases h
 ·rintro ⟨s,⟨⟩⟩
  exact of_decide_eq_true (by kernel_rfl)
 ·rintro ⟨s,⟨⟩⟩ hw hn
  exact K0 s (hn _ List.mem_cons_self)
def fy:FuncId×Ctr:=(13,eQ KE ([.ptr,.dat]:List PF) GQ tG)
theorem Ab (s:live_Server) (k:Int) (hl:s.log.length≤1000000) :(evFn (ao [gR] Tryz.f13) (fun _=>none) Tryz.f13 (gm ([.ptr,.dat]:List PF) GQ (s,k,()))).sat fun v' rows=>leV v' (tG (s,k,())).v∧rows =(tG (s,k,())).rows:=by
 refine cast (by kernel_rfl) (?_ :((bif decide (k <(0:Int)) then true else decide (k >(↑([s].getD (Int.toNat (0:Int)) (dflt (Ty.nm Nm.live_Server))).3.length:Int)))=true→(((0:Int)=il s k s.2∧(0:Int)=il s k k∧(0:Int)=il s k (↑s.3.length:Int)∧(nat_lit 0=nat_lit 0∧nat_lit 0=nat_lit 0)∧True)∧(2:Int)=ji s k∧True)∧ [RowD.mk (Ty.nm Nm.Event) []]=[RowD.mk (Ty.nm Nm.Event) (ky s k)])∧((bif decide (k <(0:Int)) then true else decide (k >(↑([s].getD (Int.toNat (0:Int)) (dflt (Ty.nm Nm.live_Server))).3.length:Int)))=false→((0:Int)≤k∧k≤(↑([s].getD (Int.toNat (0:Int)) (dflt (Ty.nm Nm.live_Server))).3.length:Int)∧(↑([s].getD (Int.toNat (0:Int)) (dflt (Ty.nm Nm.live_Server))).3.length:Int)≤(↑([s].getD (Int.toNat (0:Int)) (dflt (Ty.nm Nm.live_Server))).3.length:Int))∧(List.drop k.toNat (List.take (↑([s].getD (Int.toNat (0:Int)) (dflt (Ty.nm Nm.live_Server))).3.length:Int).toNat ([s].getD (Int.toNat (0:Int)) (dflt (Ty.nm Nm.live_Server))).3)).length≤(1000000:Nat)∧((([s].getD (Int.toNat (0:Int)) (dflt (Ty.nm Nm.live_Server))).2=il s k s.2∧k=il s k k∧(↑([s].getD (Int.toNat (0:Int)) (dflt (Ty.nm Nm.live_Server))).3.length:Int)=il s k (↑s.3.length:Int)∧(nat_lit 0=nat_lit 0∧nat_lit 0=nat_lit 0)∧True)∧(0:Int)=ji s k∧True)∧ [RowD.mk (Ty.nm Nm.Event) (List.drop k.toNat (List.take (↑([s].getD (Int.toNat (0:Int)) (dflt (Ty.nm Nm.live_Server))).3.length:Int).toNat ([s].getD (Int.toNat (0:Int)) (dflt (Ty.nm Nm.live_Server))).3))]=[RowD.mk (Ty.nm Nm.Event) (ky s k)]))
 have eG :(bif decide (k<0) then true else decide (k >(s.log.length:Int)))=wN s k:=by unfold wN;cases decide (k<0) <;> rfl
 refine ⟨fun h=>?_,fun h=>?_⟩
 ·have h:wN s k=true:=eG.symm.trans h
  have a :∀ n,il s k n=0:=fun n=>by unfold il;rw [if_pos h]
  have b:ji s k=2:=by unfold ji;rw [if_pos h]
  have c:ky s k=[]:=by unfold ky;rw [if_pos h]
  exact ⟨⟨⟨(a _).symm,(a _).symm,(a _).symm,⟨rfl,rfl⟩,trivial⟩,b.symm,trivial⟩,by rw [c];rfl⟩
 ·have h:wN s k=false:=eG.symm.trans h
  have hn :¬ wN s k=true:=by rw [h];decide
  have a :∀ n,il s k n=n:=fun n=>by unfold il;rw [if_neg hn]
  have b:ji s k=0:=by unfold ji;rw [if_neg hn]
  have c:ky s k=s.log.drop k.toNat:=by unfold ky;rw [if_neg hn]
  have hb:=h
  unfold wN at hb
  simp only [Bool.or_eq_false_iff,decide_eq_false_iff_not] at hb
  have t:List.take ((s.log.length:Int)).toNat s.log=s.log:=List.take_of_length_le (by omega)
  have c':ky s k =(List.take ((s.log.length:Int)).toNat s.log).drop k.toNat:=by rw [t];exact c
  have b1:k≤(s.log.length:Int):=by omega
  have b2 :((List.take ((s.log.length:Int)).toNat s.log).drop k.toNat).length≤1000000:=by rw [t,List.length_drop];omega
  exact ⟨⟨by omega,b1,Int.le_refl _⟩,b2,⟨⟨(a _).symm,(a _).symm,(a _).symm,⟨rfl,rfl⟩,trivial⟩,b.symm,trivial⟩,by rw [c'];rfl⟩
theorem jL:CtrOK Tryz.prog KE 13 (eQ KE ([.ptr,.dat]:List PF) GQ tG):=by
 refine pA (C:=ao [gR] Tryz.f13) (al (.consU nR rfl .nil) _) mixed (fn:=Tryz.f13) Tryz.func13 (by kernel_rfl) (by kernel_rfl) (by kernel_rfl) (Λ:=fun _ _=>none) ?_ ?_ ?_
 ·exact fun _ _ _ _ _ _ _ _ h=>by cases h
 ·rintro ⟨s,k,⟨⟩⟩
  exact of_decide_eq_true (by kernel_rfl)
 ·rintro ⟨s,k,⟨⟩⟩ hw hn
  exact Ab s k (hn _ List.mem_cons_self)
theorem Aa (s:live_Server) (k:Int) (e:Mir.Event) (hs:ip s) :(evPat (ao [gR,xK] Tryz.f11) (fun _=>none) Tryz.f11 MZ qSC (k,e,s.rules,s.epoch,s.match_,s.log,())).sat fun z_=>z_ =(vN (k,e,s.rules,s.epoch,s.match_,s.log,())).2:=by
 refine cast (by kernel_rfl) (?_:let r1:Bool:=(aW s.1 (s.3.set k.toNat e)).2.2.2 !=(0:Int);let r2:Bool:=bif decide (k <(0:Int)) then true else decide (k≥(↑s.3.length:Int));(r2=true→((-1:Int),(1:Int),s.1,s.2,s.4,s.3,()) =(sH s k e,oh s k e,(da s k e).1,(da s k e).2,(da s k e).4,(da s k e).3,()))∧(r2=false→s.3.length≤(1000000:Nat)∧((0:Int)≤k∧k <(↑s.3.length:Int))∧(r1=true→((aW s.1 (s.3.set k.toNat e)).2.2.1,(aW s.1 (s.3.set k.toNat e)).2.2.2,s.1,s.2,s.4,s.3,()) =(sH s k e,oh s k e,(da s k e).1,(da s k e).2,(da s k e).4,(da s k e).3,()))∧(r1=false→((-1:Int),(0:Int),s.1,IntKind.i64.wrap (s.2 +(1:Int)),(aW s.1 (s.3.set k.toNat e)).2.1,s.3.set k.toNat e,()) =(sH s k e,oh s k e,(da s k e).1,(da s k e).2,(da s k e).4,(da s k e).3,()))))
 intro r1 r2
 clear_value (hr1:r1=_) (hr2:r2=_)
 have hG:Hq s k=r2:=by rw [hr2];unfold Hq;cases decide (k<0) <;> rfl
 have hb:r2=false→0≤k∧k<s.log.length:=fun h=>by
  have hb:=hG.trans h
  unfold Hq at hb
  simp only [Bool.or_eq_false_iff,decide_eq_false_iff_not] at hb
  omega
 have hl:r2=false→oh s k e =(aW s.rules (s.log.set k.toNat e)).2.2.2:=fun h=>by unfold oh;rw [hG,h];rfl
 refine ⟨fun h=>?_,fun h=>⟨by have:=hs.2;omega,hb h,fun h1=>?_,fun h1=>?_⟩⟩
 ·have hL:oh s k e=1:=by unfold oh;rw [hG,h];rfl
  have hI:sH s k e = -1:=by unfold sH;rw [hG,h];rfl
  have hS:da s k e=s:=by unfold da;rw [hL];rfl
  rw [hL,hI,hS]
 ·have hL :¬ oh s k e=0:=by rw [hr1,←hl h] at h1;simpa using h1
  have hS:da s k e=s:=by unfold da;rw [if_pos (by simpa using hL)]
  have hI:sH s k e =(aW s.rules (s.log.set k.toNat e)).2.2.1:=by
   unfold sH
   rw [hG,h,if_neg (by decide),if_pos]
   ·rfl
   ·show ((aW s.rules (s.log.set k.toNat e)).2.2.2 != 0)=true
    rw [←hr1];exact h1
  rw [hS,hl h,hI]
 ·have hc':oh s k e=0:=by rw [hr1,←hl h] at h1;simpa using h1
  have hS:da s k e={ s with match_:=(Bo s k e).1,log:=s.log.set k.toNat e,epoch:=W (s.epoch+1) }:=by unfold da;rw [if_neg (by rw [hc'];decide)]
  have hI:sH s k e = -1:=by
   unfold sH
   rw [hG,h,if_neg (by decide),if_neg]
   show ¬((aW s.rules (s.log.set k.toNat e)).2.2.2 != 0)=true
   rw [←hl h,hc'];decide
  rw [hS,hI,hc']
  rfl
def jf:FuncId×Ctr:=(11,ae KE MZ qSC vN)
theorem mP:CtrOK Tryz.prog KE 11 (ae KE MZ qSC vN):=by
 refine aq (C:=ao [gR,xK] Tryz.f11) (al (.consU nR rfl (.consU Er rfl .nil)) _) mixed (fn:=Tryz.f11) Tryz.func11 (by kernel_rfl) (by kernel_rfl) (by kernel_rfl) (by kernel_rfl) (by kernel_rfl) (by kernel_rfl) (Λ:=fun _ _=>none) ?_ ?_
 ·exact fun _ _ _ _ _ _ _ _ h=>by cases h
 ·rintro ⟨k,e,v1,v2,v3,lg,⟨⟩⟩ hw hn
  exact Aa (mkS v1 v2 v3 lg) k e (hn _ List.mem_cons_self)
end Go.Proofs.YtkgplaoappjkcaaGreat
namespace Go.Proofs.YtkgplaoappjkcaaGreat
open Go Go.Mir
attribute [local irreducible] Go.Mir.DT.sat Go.Mir.evPat Go.Mir.RT.sat Go.Mir.evFn
abbrev Ref:Ty:= .nm .ref59_Server
abbrev sx:Pat:=cg [Ref,I]
def Eh (r:Rules):ref59_Server:=if ar r != 0 then ref59_Server.zero else { Rules:=r,Events:= [],Epoch:=1 }
def Ax:Den (tyP qRu)→List Prop×Den (tyP sx):=fun x=>([],(Eh x.1,ar x.1,()))
abbrev qTE:Pat:=cg [Ref,.nm .Event]
def kc (t:ref59_Server):Prop:=t.Events.length≤4000
def it (t:ref59_Server) (e:Mir.Event):Int:=if decide ((t.Events.length:Int)≥4000) then 26 else (aW t.Rules (t.Events++[e])).2.2.2
def lE (t:ref59_Server) (e:Mir.Event):ref59_Server:=if it t e != 0 then t else { t with Events:=t.Events++[e] }
def m3:Den (tyP qTE)→List Prop×Den (tyP sx):=fun x=>([kc x.1],(lE x.1 x.2.1,it x.1 x.2.1,()))
abbrev M3:Pat:=cg [Ref,I,.nm .Event]
abbrev GU:Pat:=cg [Ref,I,I]
def Bp (t:ref59_Server) (k:Int):Bool:=decide (k<0)||decide (k≥(t.Events.length:Int))
def Jg (t:ref59_Server) (k:Int) (e:Mir.Event):Match×Int×Int:=(aW t.Rules (t.Events.set k.toNat e)).2
def lV (t:ref59_Server) (k:Int) (e:Mir.Event):Int:=if Bp t k then 1 else (Jg t k e).2.2
def lU (t:ref59_Server) (k:Int) (e:Mir.Event):Int:=if Bp t k then -1 else if (Jg t k e).2.2 != 0 then (Jg t k e).2.1 else -1
def qO (t:ref59_Server) (k:Int) (e:Mir.Event):ref59_Server:=if lV t k e != 0 then t else { t with Events:=t.Events.set k.toNat e,Epoch:=W (t.Epoch+1) }
def m1:Den (tyP M3)→List Prop×Den (tyP GU):=fun x=>([kc x.1],(qO x.1 x.2.1 x.2.2.1,lU x.1 x.2.1 x.2.2.1,lV x.1 x.2.1 x.2.2.1,()))
abbrev qTK:Pat:=cg [Ref,I]
abbrev GX:Pat:=cg [.nm .Message,I]
def xW (t:ref59_Server) (k:Int):Bool:=decide (k<0)||decide (k >(t.Events.length:Int))
def wO (t:ref59_Server) (k:Int):Message:=if xW t k then Message.zero else { Epoch:=t.Epoch,From:=k,To:=t.Events.length,Events:=t.Events.drop k.toNat }
def qc (t:ref59_Server) (k:Int):Int:=if xW t k then 2 else 0
def m2:Den (tyP qTK)→List Prop×Den (tyP GX):=fun x=>([kc x.1],(wO x.1 x.2.1,qc x.1 x.2.1,()))
def eqE (x z:Mir.Event):Bool:=x.Kind==z.Kind&&(x.Side==z.Side&&(x.Player==z.Player&&(x.Other==z.Other&&(x.Yes==z.Yes&&(x.Runs==z.Runs&&(x.Overs==z.Overs&&(x.Ball.Typ==z.Ball.Typ&&(x.Ball.Source==z.Ball.Source&&(x.Ball.Runs==z.Ball.Runs&&(x.Ball.Short==z.Ball.Short&&(x.Ball.Boundary==z.Ball.Boundary&&(x.Ball.Crossed==z.Ball.Crossed&&(x.Ball.How==z.Ball.How&&(x.Ball.Victim==z.Ball.Victim&&(x.Ball.Fielder==z.Ball.Fielder&&(x.Ball.Second==z.Ball.Second&&(x.Ball.Sub==z.Ball.Sub&&(x.Ball.Sector==z.Ball.Sector&&true))))))))))))))))))
def sI:List Mir.Event→List Mir.Event→Bool
 | x::l,z::r=>if eqE x z then sI l r else false
 | _,_=>true
def i9 (a b:List Mir.Event):Bool:=(a.length:Int)==b.length&&sI a b
abbrev G0:Pat:=cg [Evs,Evs]
def Ar:Den (tyP G0)→List Prop×Den (tyP ax):=fun x=>([],(i9 x.1 x.2.1,()))
abbrev G2:Pat:=cg [.nm .Message,.nm .Message]
def Hy (a b:Message):Bool:=a.Epoch==b.Epoch&&(a.From==b.From&&(a.To==b.To&&i9 a.Events b.Events))
def Lm:Den (tyP G2)→List Prop×Den (tyP ax):=fun x=>([],(Hy x.1 x.2.1,()))
abbrev qXe:Pat:=⟨[(0,.h Evs),(1,.h Evs),(12,.h I),(13,.h I)],[],0⟩
abbrev xXe:List (Lf×Pat):= [(.ret,⟨[(4,.h .bool)],[],0⟩),(.ext 0,⟨[],[],0⟩)]
abbrev TXe:Type:=List Mir.Event×List Mir.Event×Int×Int×Unit
def xz (x:TXe):Prop:=x.2.2.1 =(x.1.length:Int)∧x.1.length=x.2.1.length∧0≤x.2.2.2.1∧x.2.2.2.1≤x.2.2.1∧x.1.length≤aS
def HG (x:TXe):Nat:=(x.2.2.1 - x.2.2.2.1).toNat
def kI (x:TXe):Sum (Bool×Unit) Unit:=qe (sI (x.1.drop x.2.2.2.1.toNat) (x.2.1.drop x.2.2.2.1.toNat))
def DI (s:ByteArray):ByteArray:=s.extract 0 (zE s.size 20).toNat
def oO (r:Rules):Rules:={ r with Name:=DI r.Name,Power:=r.Power.take (zE r.Power.length 10).toNat }
def Fo:Den (tyP qRu)→List Prop×Den (tyP qRu):=fun x=>([],(oO x.1,()))
theorem IJ (r:Rules) :(evPat (ao [k86] Tryz.f8) (fun _=>none) Tryz.f8 qRu sx (r,())).sat fun z_=>z_ =(Ax (r,())).2:=by
 refine cast (by kernel_rfl) (?_ :((ar r !=(0:Int))=true→(ref59_Server.mk (Rules.mk ByteArray.empty (0:Int) (0:Int) (0:Int) (0:Int) (0:Int) (0:Int) (0:Int) false (0:Int) (0:Int) (0:Int) (0:Int) []) [] (0:Int),ar r,()) =(Eh r,ar r,()))∧((ar r !=(0:Int))=false→(ref59_Server.mk r [] (1:Int),(0:Int),()) =(Eh r,ar r,())))
 refine ⟨fun h=>?_,fun h=>?_⟩
 ·unfold Eh;rw [h];rfl
 ·have h0:ar r=0:=by simpa using h
  unfold Eh;rw [h0];rfl
def tu:FuncId×Ctr:=(8,ae KE qRu sx Ax)
theorem Cr:CtrOK Tryz.prog KE 8 (ae KE qRu sx Ax):=by
 refine aq (C:=ao [k86] Tryz.f8) (al (.consU u9 rfl .nil) _) mixed (fn:=Tryz.f8) Tryz.func8 (by kernel_rfl) (by kernel_rfl) (by kernel_rfl) (by kernel_rfl) (by kernel_rfl) (by kernel_rfl) (Λ:=fun _ _=>none) ?_ ?_
 ·exact fun _ _ _ _ _ _ _ _ h=>by cases h
 ·rintro ⟨r,⟨⟩⟩ hw hn
  exact IJ r
theorem w6 (t:ref59_Server) (e:Mir.Event) (hs:kc t) :(evPat (ao [ll] Tryz.f10) (fun _=>none) Tryz.f10 qTE sx (t,e,())).sat fun z_=>z_ =(m3 (t,e,())).2:=by
 refine cast (by kernel_rfl) (?_:let r1:List Mir.Event:= []++t.2;let r2:Bool:=decide ((↑t.2.length:Int)≥(4000:Int));let r3:List Mir.Event:=r1++[e];let r4:Bool:=(aW t.1 r3).2.2.2 !=(0:Int);(r2=true→(t,(26:Int),()) =(lE t e,it t e,()))∧(r2=false→((0:Nat)+t.2.length) *(136:Nat)≤(70368744177664:Nat)∧(r1.length+[e].length) *(136:Nat)≤(70368744177664:Nat)∧(r4=true→(t,(aW t.1 r3).2.2.2,()) =(lE t e,it t e,()))∧(r4=false→(ref59_Server.mk t.1 r3 t.3,(0:Int),()) =(lE t e,it t e,()))))
 intro r1 r2 r3 r4
 clear_value (hr1:r1=_) (hr2:r2=_) (hr3:r3=_) (hr4:r4=_)
 have hsl:t.Events.length≤4000:=hs
 have e1:r1=t.Events:=by rw [hr1];rfl
 have e3:r3=t.Events++[e]:=by rw [hr3,e1]
 have hg:decide ((t.Events.length:Int)≥4000)=r2:=hr2.symm
 have hL:r2=false→it t e =(aW t.Rules r3).2.2.2:=fun h=>by unfold it;rw [hg,h,e3];rfl
 refine ⟨fun h=>?_,fun h=>⟨by omega,by rw [e1];simp only [List.length_singleton];omega,fun h4=>?_,fun h4=>?_⟩⟩
 ·have hL:it t e=26:=by unfold it;rw [hg,h];rfl
  have hS:lE t e=t:=by unfold lE;rw [if_pos (by rw [hL];decide)]
  rw [hS,hL]
 ·have hS:lE t e=t:=by unfold lE;rw [if_pos (by rw [hL h,←hr4];exact h4)]
  rw [hS,hL h]
 ·have h0 :(aW t.Rules r3).2.2.2=0:=by rw [h4] at hr4;simpa using hr4.symm
  have hS:lE t e={ t with Events:=t.Events++[e] }:=by unfold lE;rw [if_neg (by rw [hL h,h0];decide)]
  rw [hS,hL h,h0,e3]
def gW:FuncId×Ctr:=(10,ae KE qTE sx m3)
theorem lA:CtrOK Tryz.prog KE 10 (ae KE qTE sx m3):=by
 refine aq (C:=ao [ll] Tryz.f10) (al (.consU so rfl .nil) _) mixed (fn:=Tryz.f10) Tryz.func10 (by kernel_rfl) (by kernel_rfl) (by kernel_rfl) (by kernel_rfl) (by kernel_rfl) (by kernel_rfl) (Λ:=fun _ _=>none) ?_ ?_
 ·exact fun _ _ _ _ _ _ _ _ h=>by cases h
 ·rintro ⟨t,e,⟨⟩⟩ hw hn
  exact w6 t e (hn _ List.mem_cons_self)
theorem w4 (t:ref59_Server) (k:Int) (e:Mir.Event) (hs:kc t) :(evPat (ao [ll] Tryz.f12) (fun _=>none) Tryz.f12 M3 GU (t,k,e,())).sat fun z_=>z_ =(m1 (t,k,e,())).2:=by
 refine cast (by kernel_rfl) (?_:let r1:List Mir.Event:= []++t.2;let r2:List Mir.Event:=r1.set k.toNat e;let r3:Bool:=bif decide (k <(0:Int)) then true else decide (k≥(↑t.2.length:Int));let r4:Bool:=(aW t.1 r2).2.2.2 !=(0:Int);(r3=true→(t,(-1:Int),(1:Int),()) =(qO t k e,lU t k e,lV t k e,()))∧(r3=false→((0:Nat)+t.2.length) *(136:Nat)≤(70368744177664:Nat)∧((0:Int)≤k∧k <(↑r1.length:Int))∧(r4=true→(t,(aW t.1 r2).2.2.1,(aW t.1 r2).2.2.2,()) =(qO t k e,lU t k e,lV t k e,()))∧(r4=false→(ref59_Server.mk t.1 r2 (IntKind.i64.wrap (t.3 +(1:Int))),(-1:Int),(0:Int),()) =(qO t k e,lU t k e,lV t k e,()))))
 intro r1 r2 r3 r4
 clear_value (hr1:r1=_) (hr2:r2=_) (hr3:r3=_) (hr4:r4=_)
 have hsl:t.Events.length≤4000:=hs
 have e1:r1=t.Events:=by rw [hr1];rfl
 have e2:r2=t.Events.set k.toNat e:=by rw [hr2,e1]
 have hG:Bp t k=r3:=by rw [hr3];unfold Bp;cases decide (k<0) <;> rfl
 have hb:r3=false→0≤k∧k<t.Events.length:=fun h=>by
  have hb:=hG.trans h
  unfold Bp at hb
  simp only [Bool.or_eq_false_iff,decide_eq_false_iff_not] at hb
  omega
 have hl:r3=false→lV t k e =(aW t.Rules r2).2.2.2:=fun h=>by unfold lV;rw [hG,h,e2];rfl
 refine ⟨fun h=>?_,fun h=>⟨by omega,by rw [e1];exact hb h,fun h4=>?_,fun h4=>?_⟩⟩
 ·have hL:lV t k e=1:=by unfold lV;rw [hG,h];rfl
  have hI:lU t k e = -1:=by unfold lU;rw [hG,h];rfl
  have hS:qO t k e=t:=by unfold qO;rw [if_pos (by rw [hL];decide)]
  rw [hS,hI,hL]
 ·have hI:lU t k e =(aW t.Rules r2).2.2.1:=by
   unfold lU
   rw [hG,h,if_neg (by decide),if_pos]
   ·rw [e2];rfl
   ·show ((aW t.Rules (t.Events.set k.toNat e)).2.2.2 != 0)=true
    rw [←e2,←hr4];exact h4
  have hS:qO t k e=t:=by unfold qO;rw [if_pos (by rw [hl h,←hr4];exact h4)]
  rw [hS,hI,hl h]
 ·have h0 :(aW t.Rules r2).2.2.2=0:=by rw [h4] at hr4;simpa using hr4.symm
  have hI:lU t k e = -1:=by
   unfold lU
   rw [hG,h,if_neg (by decide),if_neg]
   show ¬((aW t.Rules (t.Events.set k.toNat e)).2.2.2 != 0)=true
   rw [←e2,h0];decide
  have hS:qO t k e={ t with Events:=t.Events.set k.toNat e,Epoch:=W (t.Epoch+1) }:=by unfold qO;rw [if_neg (by rw [hl h,h0];decide)]
  rw [hS,hI,hl h,h0,e2]
def gU:FuncId×Ctr:=(12,ae KE M3 GU m1)
theorem ly:CtrOK Tryz.prog KE 12 (ae KE M3 GU m1):=by
 refine aq (C:=ao [ll] Tryz.f12) (al (.consU so rfl .nil) _) mixed (fn:=Tryz.f12) Tryz.func12 (by kernel_rfl) (by kernel_rfl) (by kernel_rfl) (by kernel_rfl) (by kernel_rfl) (by kernel_rfl) (Λ:=fun _ _=>none) ?_ ?_
 ·exact fun _ _ _ _ _ _ _ _ h=>by cases h
 ·rintro ⟨t,k,e,⟨⟩⟩ hw hn
  exact w4 t k e (hn _ List.mem_cons_self)
theorem w5 (t:ref59_Server) (k:Int) (hs:kc t) :(evPat (ao [] Tryz.f14) (fun _=>none) Tryz.f14 qTK GX (t,k,())).sat fun z_=>z_ =(m2 (t,k,())).2:=by
 refine cast (by kernel_rfl) (?_:let r1:List Mir.Event:=List.drop k.toNat (List.take (↑t.2.length:Int).toNat t.2);let r2:Bool:=bif decide (k <(0:Int)) then true else decide (k >(↑t.2.length:Int));(r2=true→(Message.mk (0:Int) (0:Int) (0:Int) [],(2:Int),()) =(wO t k,qc t k,()))∧(r2=false→((0:Int)≤k∧k≤(↑t.2.length:Int)∧(↑t.2.length:Int)≤(↑t.2.length:Int))∧((0:Nat)+r1.length) *(136:Nat)≤(70368744177664:Nat)∧(Message.mk t.3 k (↑t.2.length:Int) ([]++r1),(0:Int),()) =(wO t k,qc t k,())))
 intro r1 r2
 clear_value (hr1:r1=_) (hr2:r2=_)
 have hsl:t.Events.length≤4000:=hs
 have hG:xW t k=r2:=by rw [hr2];unfold xW;cases decide (k<0) <;> rfl
 have hb:r2=false→0≤k∧k≤t.Events.length:=fun h=>by
  have hb:=hG.trans h
  unfold xW at hb
  simp only [Bool.or_eq_false_iff,decide_eq_false_iff_not] at hb
  omega
 have t1:List.take ((t.Events.length:Int)).toNat t.Events=t.Events:=List.take_of_length_le (by omega)
 have e1:r1=t.Events.drop k.toNat:=by rw [hr1,t1]
 refine ⟨fun h=>?_,fun h=>⟨⟨(hb h).1,(hb h).2,Int.le_refl _⟩,by rw [e1,List.length_drop];omega,?_⟩⟩
 ·have a:wO t k=Message.zero:=by unfold wO;rw [hG,h];rfl
  have b:qc t k=2:=by unfold qc;rw [hG,h];rfl
  rw [a,b];rfl
 ·have a:wO t k={ Epoch:=t.Epoch,From:=k,To:=t.Events.length,Events:=t.Events.drop k.toNat }:=by unfold wO;rw [hG,h];rfl
  have b:qc t k=0:=by unfold qc;rw [hG,h];rfl
  rw [a,b,e1];rfl
def gV:FuncId×Ctr:=(14,ae KE qTK GX m2)
theorem lz:CtrOK Tryz.prog KE 14 (ae KE qTK GX m2):=by
 refine aq (C:=ao [] Tryz.f14) (al (CtrsOK.nil) _) mixed (fn:=Tryz.f14) Tryz.func14 (by kernel_rfl) (by kernel_rfl) (by kernel_rfl) (by kernel_rfl) (by kernel_rfl) (by kernel_rfl) (Λ:=fun _ _=>none) ?_ ?_
 ·exact fun _ _ _ _ _ _ _ _ h=>by cases h
 ·rintro ⟨t,k,⟨⟩⟩ hw hn
  exact w5 t k (hn _ List.mem_cons_self)
noncomputable def lpXe:Lp:=(⟨0,ao [] Tryz.f17,(fun _=>none),(aA Tryz.f17 0),qXe,xXe⟩:Lp)
theorem Qm (a:List Mir.Event) (b:List Mir.Event) (n:Int) (i:Int) (hi:xz (a,b,n,i,())) :(Go.Mir.stepG lpXe kI (fun y:Den (tyP lpXe.q)=>xz y∧HG y<HG (a,b,n,i,())) (a,b,n,i,())∧Go.Mir.stepE lpXe kI (a,b,n,i,())=kI (a,b,n,i,())):=by
 refine cast (by kernel_rfl) (?_:let r1:Bool:=!((a.getD i.toNat (dflt (Ty.nm Nm.Event))).1 ==(b.getD i.toNat (dflt (Ty.nm Nm.Event))).1&&((a.getD i.toNat (dflt (Ty.nm Nm.Event))).2 ==(b.getD i.toNat (dflt (Ty.nm Nm.Event))).2&&((a.getD i.toNat (dflt (Ty.nm Nm.Event))).3 ==(b.getD i.toNat (dflt (Ty.nm Nm.Event))).3&&((a.getD i.toNat (dflt (Ty.nm Nm.Event))).4 ==(b.getD i.toNat (dflt (Ty.nm Nm.Event))).4&&((a.getD i.toNat (dflt (Ty.nm Nm.Event))).5 ==(b.getD i.toNat (dflt (Ty.nm Nm.Event))).5&&((a.getD i.toNat (dflt (Ty.nm Nm.Event))).6 ==(b.getD i.toNat (dflt (Ty.nm Nm.Event))).6&&((a.getD i.toNat (dflt (Ty.nm Nm.Event))).7 ==(b.getD i.toNat (dflt (Ty.nm Nm.Event))).7&&((a.getD i.toNat (dflt (Ty.nm Nm.Event))).8.1 ==(b.getD i.toNat (dflt (Ty.nm Nm.Event))).8.1&&((a.getD i.toNat (dflt (Ty.nm Nm.Event))).8.2 ==(b.getD i.toNat (dflt (Ty.nm Nm.Event))).8.2&&((a.getD i.toNat (dflt (Ty.nm Nm.Event))).8.3 ==(b.getD i.toNat (dflt (Ty.nm Nm.Event))).8.3&&((a.getD i.toNat (dflt (Ty.nm Nm.Event))).8.4 ==(b.getD i.toNat (dflt (Ty.nm Nm.Event))).8.4&&((a.getD i.toNat (dflt (Ty.nm Nm.Event))).8.5 ==(b.getD i.toNat (dflt (Ty.nm Nm.Event))).8.5&&((a.getD i.toNat (dflt (Ty.nm Nm.Event))).8.6 ==(b.getD i.toNat (dflt (Ty.nm Nm.Event))).8.6&&((a.getD i.toNat (dflt (Ty.nm Nm.Event))).8.7 ==(b.getD i.toNat (dflt (Ty.nm Nm.Event))).8.7&&((a.getD i.toNat (dflt (Ty.nm Nm.Event))).8.8 ==(b.getD i.toNat (dflt (Ty.nm Nm.Event))).8.8&&((a.getD i.toNat (dflt (Ty.nm Nm.Event))).8.9 ==(b.getD i.toNat (dflt (Ty.nm Nm.Event))).8.9&&((a.getD i.toNat (dflt (Ty.nm Nm.Event))).8.10 ==(b.getD i.toNat (dflt (Ty.nm Nm.Event))).8.10&&((a.getD i.toNat (dflt (Ty.nm Nm.Event))).8.11 ==(b.getD i.toNat (dflt (Ty.nm Nm.Event))).8.11&&((a.getD i.toNat (dflt (Ty.nm Nm.Event))).8.12 ==(b.getD i.toNat (dflt (Ty.nm Nm.Event))).8.12&&true)))))))))))))))))));((decide (i<n)=true→((0:Int)≤i∧i <(↑a.length:Int))∧((0:Int)≤i∧i <(↑b.length:Int))∧(r1=true→True)∧(r1=false→xz (a,b,n,IntKind.i64.wrap (i +(1:Int)),())∧HG (a,b,n,IntKind.i64.wrap (i +(1:Int)),())<HG (a,b,n,i,())))∧(decide (i<n)=false→True))∧(bif decide (i<n) then bif r1 then Sum.inl (false,()) else kI (a,b,n,IntKind.i64.wrap (i +(1:Int)),()) else Sum.inr ())=kI (a,b,n,i,()))
 intro r1
 clear_value (hr1:r1=_)
 obtain ⟨h1,h2,h3,h4,h5⟩:=hi
 simp only at h1 h2 h3 h4 h5
 have hx :(a.length:Int)≤140737488355328:=by have:a.length≤140737488355328:=h5;omega
 have eE :∀ x l z r,sI (x::l) (z::r)=if eqE x z then sI l r else false:=fun _ _ _ _=>by rw [sI]
 have eN :∀ r,sI [] r=true:=fun r=>by cases r <;> rfl
 by_cases h:i<n
 ·have ea:a.drop i.toNat=a.getD i.toNat (dflt (Ty.nm Nm.Event))::a.drop (i+1).toNat:=b7 h3 (by omega) _
  have eb:b.drop i.toNat=b.getD i.toNat (dflt (Ty.nm Nm.Event))::b.drop (i+1).toNat:=b7 h3 (by omega) _
  have e2:IntKind.i64.wrap (i+1)=i+1:=bi (by omega) (by omega)
  have hr:r1=!(eqE (a.getD i.toNat (dflt (Ty.nm Nm.Event))) (b.getD i.toNat (dflt (Ty.nm Nm.Event)))):=hr1
  rw [decide_eq_true h,cond_true,e2]
  refine ⟨⟨fun _=>⟨⟨h3,by omega⟩,⟨h3,by omega⟩,fun _=>trivial,fun _=>⟨⟨h1,h2,by simp only;omega,by simp only;omega,h5⟩,by simp only [HG];omega⟩⟩,fun z=>Bool.noConfusion z⟩,?_⟩
  simp only [kI]
  rw [ea,eb,eE,hr]
  generalize eqE _ _=q
  cases q <;> rfl
 ·rw [decide_eq_false h,cond_false]
  refine ⟨⟨fun z=>Bool.noConfusion z,fun _=>trivial⟩,?_⟩
  simp only [kI]
  rw [bK (l:=a) (by omega),eN]
  rfl
noncomputable def Ou:LoopSum:=aI lpXe kI xz
noncomputable def N4:Nat:=rid (aA Tryz.f17 0)
theorem Pl:LoopOKp Tryz.prog 0 Tryz.f17.ntmps (aA Tryz.f17 0) (aI lpXe kI xz):=
 bj lpXe (al (CtrsOK.nil) _) mixed (fun b hb S hS=>by cases hS) kI xz HG (fun |⟨a,b,n,i,⟨⟩⟩,hi=>Qm a b n i hi)
theorem Ao (a:List Mir.Event) (b:List Mir.Event) (hx:a.length≤aS) :(evPat (ao [] Tryz.f17) (find [(N4,Ou)]) Tryz.f17 G0 ax (a,b,())).sat fun z_=>z_ =(Ar (a,b,())).2:=by
 refine cast (by kernel_rfl) (?_:let r1:Bool:=(↑a.length:Int) !=(↑b.length:Int);let r2:Bool:=isL (kI (a,b,(↑a.length:Int),(0:Int),()));(r1=true→(false,()) =(i9 a b,()))∧(r1=false→((cR fun x=>none)∧(↑a.length:Int) =(↑a.length:Int)∧a.length=b.length∧(0:Int)≤(0:Int)∧(0:Int)≤(↑a.length:Int)∧a.length≤aS)∧(r2=true→ij (dflt (Ty.bool.prod Ty.unit)) (kI (a,b,(↑a.length:Int),(0:Int),())) =(i9 a b,()))∧(r2=false→(true,()) =(i9 a b,()))))
 intro r1 r2
 clear_value (hr1:r1=_) (hr2:r2=_)
 have e0:kI (a,b,(a.length:Int),0,())=qe (sI a b):=rfl
 rw [e0] at hr2 ⊢
 have hl:r1=false→a.length=b.length:=fun h=>by
  rw [h] at hr1
  have :(a.length:Int)=b.length:=by simpa using hr1.symm
  omega
 refine ⟨fun h=>?_,fun h=>?_⟩
 ·have:i9 a b=false:=by
   unfold i9
   cases hq :((a.length:Int)==b.length) with
   | true=>have k:r1=!true:=hr1.trans (congrArg Bool.not hq);rw [h] at k;cases k
   | false=>rfl
  rw [this]
 ·have hv:i9 a b=sI a b:=by
   have :((a.length:Int)==b.length)=true:=by rw [hl h];exact beq_self_eq_true _
   unfold i9
   rw [this];rfl
  refine ⟨⟨rfl,rfl,hl h,Int.le_refl _,by omega,hx⟩,?_⟩
  rw [hv]
  generalize sI a b=q at hr2 ⊢
  subst hr2
  cases q
  ·exact ⟨fun _=>rfl,fun z=>Bool.noConfusion z⟩
  ·exact ⟨fun z=>Bool.noConfusion z,fun _=>rfl⟩
def fA:FuncId×Ctr:=(17,ae KE G0 ax Ar)
theorem jO:CtrOK Tryz.prog KE 17 (ae KE G0 ax Ar):=by
 refine aq (C:=ao [] Tryz.f17) (al (CtrsOK.nil) _) mixed (fn:=Tryz.f17) Tryz.func17 (by kernel_rfl) (by kernel_rfl) (by kernel_rfl) (by kernel_rfl) (by kernel_rfl) (by kernel_rfl) (Λ:=fun x=>find [(N4,Ou)]) ?_ ?_
 ·rintro ⟨a,b,⟨⟩⟩ hw hn
  exact LoopsOKp.at (by kernel_rfl) (.cons (by kernel_rfl) (Pl) .nil)
 ·rintro ⟨a,b,⟨⟩⟩ hw hn
  exact Ao a b (cu (aY hw))
theorem Fm (a:Message) (b:Message) :(evPat (ao [fA] Tryz.f15) (fun _=>none) Tryz.f15 G2 ax (a,b,())).sat fun z_=>z_ =(Lm (a,b,())).2:=by
 refine cast (by kernel_rfl) (?_ :(bif a.1==b.1 then bif a.2==b.2 then bif a.3==b.3 then i9 a.4 b.4 else false else false else false,()) =(Hy a b,()))
 unfold Hy
 cases a.Epoch==b.Epoch <;> cases a.From==b.From <;> cases a.To==b.To <;> rfl
def mI:FuncId×Ctr:=(15,ae KE G2 ax Lm)
theorem rj:CtrOK Tryz.prog KE 15 (ae KE G2 ax Lm):=by
 refine aq (C:=ao [fA] Tryz.f15) (al (.consU jO rfl .nil) _) mixed (fn:=Tryz.f15) Tryz.func15 (by kernel_rfl) (by kernel_rfl) (by kernel_rfl) (by kernel_rfl) (by kernel_rfl) (by kernel_rfl) (Λ:=fun _ _=>none) ?_ ?_
 ·exact fun _ _ _ _ _ _ _ _ h=>by cases h
 ·rintro ⟨a,b,⟨⟩⟩ hw hn
  exact Fm a b
theorem w8 (r:Rules) :(evPat (ao [] Tryz.f6) (fun _=>none) Tryz.f6 qRu qRu (r,())).sat fun z_=>z_ =(Fo (r,())).2:=by
 refine cast (by kernel_rfl) (?_:let r1:Int:=if (20:Int) <(↑r.1.size:Int) then (20:Int) else (↑r.1.size:Int);let r2:Int:=if (10:Int) <(↑r.14.length:Int) then (10:Int) else (↑r.14.length:Int);((0:Int)≤(0:Int)∧(0:Int)≤r1∧r1≤(↑r.1.size:Int))∧((0:Int)≤(0:Int)∧(0:Int)≤r2∧r2≤(↑r.14.length:Int))∧(Rules.mk (r.1.extract (Int.toNat (0:Int)) r1.toNat) r.2 r.3 r.4 r.5 r.6 r.7 r.8 r.9 r.10 r.11 r.12 r.13 (List.drop (Int.toNat (0:Int)) (List.take r2.toNat r.14)),()) =(oO r,()))
 intro r1 r2
 clear_value (hr1:r1=_) (hr2:r2=_)
 have h1:0≤r1∧r1≤r.Name.size:=by rw [hr1];split <;> omega
 have h2:0≤r2∧r2≤r.Power.length:=by rw [hr2];split <;> omega
 refine ⟨⟨Int.le_refl _,h1.1,h1.2⟩,⟨Int.le_refl _,h2.1,h2.2⟩,?_⟩
 rw [hr1,hr2]
 rfl
def jK:FuncId×Ctr:=(6,ae KE qRu qRu Fo)
theorem qk:CtrOK Tryz.prog KE 6 (ae KE qRu qRu Fo):=by
 refine aq (C:=ao [] Tryz.f6) (al (CtrsOK.nil) _) mixed (fn:=Tryz.f6) Tryz.func6 (by kernel_rfl) (by kernel_rfl) (by kernel_rfl) (by kernel_rfl) (by kernel_rfl) (by kernel_rfl) (Λ:=fun _ _=>none) ?_ ?_
 ·exact fun _ _ _ _ _ _ _ _ h=>by cases h
 ·rintro ⟨r,⟨⟩⟩ hw hn
  exact w8 r
end Go.Proofs.YtkgplaoappjkcaaGreat
namespace Go.Proofs.YtkgplaoappjkcaaGreat
open Go Go.Mir
attribute [local irreducible] Go.Mir.DT.sat Go.Mir.evPat Go.Mir.RT.sat Go.Mir.evFn
abbrev OE (l:PC0):List PC0:= [.d (.nm .Match),.h I,.h I,.d (.nm .Match),.h I,.h I,l]
abbrev TF:Type:=Match×Int×Int×Match×Int×Int×List Message×Unit
def _root_.Go.Mir.mkF (v1:Match) (v2:Int) (v3:Int) (v4:Match) (v5:Int) (v6:Int) (kp:List Message):live_Follower:={ start:=v1,epoch:=v2,known:=v3,match_:=v4,newest:=v5,newestN:=v6,kept:=kp }
def _root_.Go.Mir.mkFX (x:TF):live_Follower:=mkF x.1 x.2.1 x.2.2.1 x.2.2.2.1 x.2.2.2.2.1 x.2.2.2.2.2.1 x.2.2.2.2.2.2.1
abbrev hpF (v:Nat):List (Nat×PB):= [(0,.cells (OE (.c (.osl 1 v)))),(1,.row v (.nm .Message))]
abbrev G1:Pat:=⟨[(0,.c (.ptr 0 0)),(1,.h I)],hpF 2,3⟩
def Ca (r:Rules):live_Follower:={ start:=kA r,epoch:=0,known:=0,match_:=kA r,newest:=0,newestN:=0,kept:= [] }
def rv:Den (tyP qRu)→List Prop×Den (tyP G1):=fun x=>([zL x.1],((0:Int),(Ca x.1).start,(Ca x.1).epoch,(Ca x.1).known,(Ca x.1).match_,(Ca x.1).newest,(Ca x.1).newestN,[],()))
def CG:Ty:= .prod (.nm .live_Follower) .unit
def GP:Ty:= .prod (.nm .live_Follower) (.prod (.nm .Message) .unit)
def tE:Den CG→PRes:=fun x=>⟨[],.tup [.int .i64 x.1.epoch,.int .i64 x.1.known],[]⟩
def D7 (f:live_Follower):Int:=if f.epoch != f.newest then f.newestN else rb (W (f.newestN - f.known)) 0
def qt:Den CG→PRes:=fun x=>⟨[],.int .i64 (D7 x.1),[]⟩
def bG (f:live_Follower) (m:Message):Bool:=(m.Epoch==f.epoch&&decide (m.From≤f.known)) ||(m.From==0&&decide (m.Epoch>f.epoch))
def lP:Den GP→PRes:=fun x=>⟨[],.bool (bG x.1 x.2.1),[]⟩
abbrev qMs:Pat:=cg [.nm .Message]
def FX (m:Message):Bool:=decide (m.Epoch<1)||decide (m.From<0)||decide (m.To<0)||decide (m.To>4000) ||(W (m.To - m.Events.length) != m.From)
def dx (m:Message):Bool:=!FX m&&m.Events.all fun e=>bk e==0
def As:Den (tyP qMs)→List Prop×Den (tyP ax):=fun x=>([x.1.Events.length≤aS],(dx x.1,()))
abbrev G7:Pat:=cg [.str]
def FJ (s:ByteArray):Rules:=if s.toList ==({ data:=#[84,69,83,84] }:ByteArray).toList then { Name:=s,Side:=11,Innings:=2,Overs:=0,Balls:=6,Quota:=0,Wide:=1,NoBall:=1,FreeHit:=false,NewBall:=80,FollowOn:=200,Reviews:=3,Outside:=9,Power:= [] }
 else if s.toList ==({ data:=#[79,78,69,68,65,89] }:ByteArray).toList then { Name:=s,Side:=11,Innings:=1,Overs:=50,Balls:=6,Quota:=10,Wide:=1,NoBall:=1,FreeHit:=true,NewBall:=0,FollowOn:=0,Reviews:=2,Outside:=5,Power:= [⟨1,10,2⟩,⟨11,40,4⟩] }
 else if s.toList ==({ data:=#[84,87,69,78,84,89] }:ByteArray).toList then { Name:=s,Side:=11,Innings:=1,Overs:=20,Balls:=6,Quota:=4,Wide:=1,NoBall:=1,FreeHit:=true,NewBall:=0,FollowOn:=0,Reviews:=2,Outside:=5,Power:= [⟨1,6,2⟩] }
 else Rules.zero
def FI (s:ByteArray):Int:=if s.toList ==({ data:=#[84,69,83,84] }:ByteArray).toList||s.toList ==({ data:=#[79,78,69,68,65,89] }:ByteArray).toList||s.toList ==({ data:=#[84,87,69,78,84,89] }:ByteArray).toList then 0 else 6
abbrev GY:Pat:=cg [.nm .Rules,I]
def PP:Den (tyP G7)→List Prop×Den (tyP GY):=fun x=>([],(FJ x.1,FI x.1,()))
abbrev qNo:Pat:=cg []
abbrev GW:Pat:=cg [Evs]
def rI:Mir.Event:=dflt (Ty.nm Nm.Event)
def tossW:List Mir.Event:= [{ rI with Kind:=1,Side:=1,Yes:=true },{ rI with Kind:=2,Player:=1,Other:=2 },{ rI with Kind:=8,Player:=2 }]
def Ls:Den (tyP qNo)→List Prop×Den (tyP GW):=fun _=>([],(tossW,()))
theorem C5 (r:Rules) (h0:zL r) :(evPat (ao [sa] Tryz.f19) (fun _=>none) Tryz.f19 qRu G1 (r,())).sat fun z_=>z_ =(rv (r,())).2:=by
 refine cast (by kernel_rfl) (?_ :((ar r !=(0:Int))=true→False)∧((ar r !=(0:Int))=false→((0:Int),gY r,(0:Int),(0:Int),gY r,(0:Int),(0:Int),([]:List Message),()) =((0:Int),kA r,(0:Int),(0:Int),kA r,(0:Int),(0:Int),([]:List Message),())))
 have h0':ar r=0:=h0
 refine ⟨fun h=>?_,fun _=>?_⟩
 ·rw [h0'] at h;exact absurd h (by decide)
 ·rw [uZ h0']
def xL:FuncId×Ctr:=(19,ae KE qRu G1 rv)
theorem Et:CtrOK Tryz.prog KE 19 (ae KE qRu G1 rv):=by
 refine aq (C:=ao [sa] Tryz.f19) (al (.consU zO rfl .nil) _) mixed (fn:=Tryz.f19) Tryz.func19 (by kernel_rfl) (by kernel_rfl) (by kernel_rfl) (by kernel_rfl) (by kernel_rfl) (by kernel_rfl) (Λ:=fun _ _=>none) ?_ ?_
 ·exact fun _ _ _ _ _ _ _ _ h=>by cases h
 ·rintro ⟨r,⟨⟩⟩ hw hn
  exact C5 r (hn _ List.mem_cons_self)
def JN:FuncId×Ctr:=(21,eQ KE ([.ptr]:List PF) CG tE)
theorem KZ (f:live_Follower) :(evFn (ao [] Tryz.f21) (fun _=>none) Tryz.f21 (gm ([.ptr]:List PF) CG (f,()))).sat fun v' rows=>leV v' (tE (f,())).v∧rows =(tE (f,())).rows:=by
 refine cast (by kernel_rfl) (?_ :(([f].getD (Int.toNat (0:Int)) (dflt (Ty.nm Nm.live_Follower))).2=f.2∧([f].getD (Int.toNat (0:Int)) (dflt (Ty.nm Nm.live_Follower))).3=f.3∧True)∧([]:List RowD)=[])
 exact ⟨⟨rfl,rfl,trivial⟩,rfl⟩
theorem MB:CtrOK Tryz.prog KE 21 (eQ KE ([.ptr]:List PF) CG tE):=by
 refine pA (C:=ao [] Tryz.f21) (al (CtrsOK.nil) _) mixed (fn:=Tryz.f21) Tryz.func21 (by kernel_rfl) (by kernel_rfl) (by kernel_rfl) (Λ:=fun _ _=>none) ?_ ?_ ?_
 ·exact fun _ _ _ _ _ _ _ _ h=>by cases h
 ·rintro ⟨f,⟨⟩⟩
  exact of_decide_eq_true (by kernel_rfl)
 ·rintro ⟨f,⟨⟩⟩ hw hn
  exact KZ f
def Gg:FuncId×Ctr:=(24,eQ KE ([.ptr]:List PF) CG qt)
theorem Ir (f:live_Follower) :(evFn (ao [] Tryz.f24) (fun _=>none) Tryz.f24 (gm ([.ptr]:List PF) CG (f,()))).sat fun v' rows=>leV v' (qt (f,())).v∧rows =(qt (f,())).rows:=by
 refine cast (by kernel_rfl) (?_ :((([f].getD (Int.toNat (0:Int)) (dflt (Ty.nm Nm.live_Follower))).2 !=([f].getD (Int.toNat (0:Int)) (dflt (Ty.nm Nm.live_Follower))).5)=true→([f].getD (Int.toNat (0:Int)) (dflt (Ty.nm Nm.live_Follower))).6=D7 f∧([]:List RowD)=[])∧((([f].getD (Int.toNat (0:Int)) (dflt (Ty.nm Nm.live_Follower))).2 !=([f].getD (Int.toNat (0:Int)) (dflt (Ty.nm Nm.live_Follower))).5)=false→(if (0:Int)>IntKind.i64.wrap (([f].getD (Int.toNat (0:Int)) (dflt (Ty.nm Nm.live_Follower))).6 - ([f].getD (Int.toNat (0:Int)) (dflt (Ty.nm Nm.live_Follower))).3) then (0:Int) else IntKind.i64.wrap (([f].getD (Int.toNat (0:Int)) (dflt (Ty.nm Nm.live_Follower))).6 - ([f].getD (Int.toNat (0:Int)) (dflt (Ty.nm Nm.live_Follower))).3))=D7 f∧([]:List RowD)=[]))
 refine ⟨fun h=>⟨?_,rfl⟩,fun h=>⟨?_,rfl⟩⟩
 ·have h :(f.epoch != f.newest)=true:=h
  unfold D7;rw [h];rfl
 ·have h :(f.epoch != f.newest)=false:=h
  unfold D7;rw [h];rfl
theorem Kd:CtrOK Tryz.prog KE 24 (eQ KE ([.ptr]:List PF) CG qt):=by
 refine pA (C:=ao [] Tryz.f24) (al (CtrsOK.nil) _) mixed (fn:=Tryz.f24) Tryz.func24 (by kernel_rfl) (by kernel_rfl) (by kernel_rfl) (Λ:=fun _ _=>none) ?_ ?_ ?_
 ·exact fun _ _ _ _ _ _ _ _ h=>by cases h
 ·rintro ⟨f,⟨⟩⟩
  exact of_decide_eq_true (by kernel_rfl)
 ·rintro ⟨f,⟨⟩⟩ hw hn
  exact Ir f
def ku:FuncId×Ctr:=(34,eQ KE ([.ptr,.dat]:List PF) GP lP)
theorem C8 (f:live_Follower) (m:Message) :(evFn (ao [] Tryz.f34) (fun _=>none) Tryz.f34 (gm ([.ptr,.dat]:List PF) GP (f,m,()))).sat fun v' rows=>leV v' (lP (f,m,())).v∧rows =(lP (f,m,())).rows:=by
 refine cast (by kernel_rfl) (?_ :(bif m.1 ==([f].getD (Int.toNat (0:Int)) (dflt (Ty.nm Nm.live_Follower))).2 then bif decide (m.2≤([f].getD (Int.toNat (0:Int)) (dflt (Ty.nm Nm.live_Follower))).3) then true else bif m.2 ==(0:Int) then decide (m.1 >([f].getD (Int.toNat (0:Int)) (dflt (Ty.nm Nm.live_Follower))).2) else false else bif m.2 ==(0:Int) then decide (m.1 >([f].getD (Int.toNat (0:Int)) (dflt (Ty.nm Nm.live_Follower))).2) else false)=bG f m∧([]:List RowD)=[])
 refine ⟨?_,rfl⟩
 show (bif m.Epoch==f.epoch then bif decide (m.From≤f.known) then true else bif m.From==0 then decide (m.Epoch>f.epoch) else false else bif m.From==0 then decide (m.Epoch>f.epoch) else false)=_
 unfold bG
 cases m.Epoch==f.epoch <;> cases decide (m.From≤f.known) <;> cases m.From==0 <;> cases decide (m.Epoch>f.epoch) <;> rfl
theorem pn:CtrOK Tryz.prog KE 34 (eQ KE ([.ptr,.dat]:List PF) GP lP):=by
 refine pA (C:=ao [] Tryz.f34) (al (CtrsOK.nil) _) mixed (fn:=Tryz.f34) Tryz.func34 (by kernel_rfl) (by kernel_rfl) (by kernel_rfl) (Λ:=fun _ _=>none) ?_ ?_ ?_
 ·exact fun _ _ _ _ _ _ _ _ h=>by cases h
 ·rintro ⟨f,m,⟨⟩⟩
  exact of_decide_eq_true (by kernel_rfl)
 ·rintro ⟨f,m,⟨⟩⟩ hw hn
  exact C8 f m
theorem w7 (s:ByteArray) :(evPat (ao [] Tryz.f25) (fun _=>none) Tryz.f25 G7 GY (s,())).sat fun z_=>z_ =(PP (s,())).2:=by
 refine cast (by kernel_rfl) (?_:let r1:Bool:=s.toList ==(ByteArray.mk #[(84:UInt8),(69:UInt8),(83:UInt8),(84:UInt8)]).toList;let r2:Bool:=s.toList ==(ByteArray.mk #[(79:UInt8),(78:UInt8),(69:UInt8),(68:UInt8),(65:UInt8),(89:UInt8)]).toList;let r3:Bool:=s.toList ==(ByteArray.mk #[(84:UInt8),(87:UInt8),(69:UInt8),(78:UInt8),(84:UInt8),(89:UInt8)]).toList;(r1=true→(Rules.mk s (11:Int) (2:Int) (0:Int) (6:Int) (0:Int) (1:Int) (1:Int) false (80:Int) (200:Int) (3:Int) (9:Int) [],(0:Int),()) =(FJ s,FI s,()))∧(r1=false→(r2=true→(Rules.mk s (11:Int) (1:Int) (50:Int) (6:Int) (10:Int) (1:Int) (1:Int) true (0:Int) (0:Int) (2:Int) (5:Int) [Phase.mk (1:Int) (10:Int) (2:Int),Phase.mk (11:Int) (40:Int) (4:Int)],(0:Int),()) =(FJ s,FI s,()))∧(r2=false→(r3=true→(Rules.mk s (11:Int) (1:Int) (20:Int) (6:Int) (4:Int) (1:Int) (1:Int) true (0:Int) (0:Int) (2:Int) (5:Int) [Phase.mk (1:Int) (6:Int) (2:Int)],(0:Int),()) =(FJ s,FI s,()))∧(r3=false→(Rules.mk ByteArray.empty (0:Int) (0:Int) (0:Int) (0:Int) (0:Int) (0:Int) (0:Int) false (0:Int) (0:Int) (0:Int) (0:Int) [],(6:Int),()) =(FJ s,FI s,())))))
 intro r1 r2 r3
 clear_value (hr1:r1=_) (hr2:r2=_) (hr3:r3=_)
 unfold FJ FI
 rw [←hr1,←hr2,←hr3]
 cases r1 <;> cases r2 <;> cases r3 <;> simp <;> rfl
def si:FuncId×Ctr:=(25,ae KE G7 GY PP)
theorem zS:CtrOK Tryz.prog KE 25 (ae KE G7 GY PP):=by
 refine aq (C:=ao [] Tryz.f25) (al (CtrsOK.nil) _) mixed (fn:=Tryz.f25) Tryz.func25 (by kernel_rfl) (by kernel_rfl) (by kernel_rfl) (by kernel_rfl) (by kernel_rfl) (by kernel_rfl) (Λ:=fun _ _=>none) ?_ ?_
 ·exact fun _ _ _ _ _ _ _ _ h=>by cases h
 ·rintro ⟨s,⟨⟩⟩ hw hn
  exact w7 s
theorem IQ :(evPat (ao [] Tryz.f26) (fun _=>none) Tryz.f26 qNo GW ()).sat fun z_=>z_ =(Ls ()).2:=by
 refine cast (by kernel_rfl) (?_:let r1:Delivery:=Delivery.mk (0:Int) (0:Int) (0:Int) (0:Int) (0:Int) false (0:Int) (0:Int) (0:Int) (0:Int) false (0:Int);([Mir.Event.mk (1:Int) (1:Int) (0:Int) (0:Int) true (0:Int) (0:Int) r1,Mir.Event.mk (2:Int) (0:Int) (1:Int) (2:Int) false (0:Int) (0:Int) r1,Mir.Event.mk (8:Int) (0:Int) (2:Int) (0:Int) false (0:Int) (0:Int) r1],()) =(tossW,()))
 intro r1
 clear_value (hr1:r1=_)
 subst hr1
 rfl
def Gt:FuncId×Ctr:=(26,ae KE qNo GW Ls)
theorem Kp:CtrOK Tryz.prog KE 26 (ae KE qNo GW Ls):=by
 refine aq (C:=ao [] Tryz.f26) (al (CtrsOK.nil) _) mixed (fn:=Tryz.f26) Tryz.func26 (by kernel_rfl) (by kernel_rfl) (by kernel_rfl) (by kernel_rfl) (by kernel_rfl) (by kernel_rfl) (Λ:=fun _ _=>none) ?_ ?_
 ·exact fun _ _ _ _ _ _ _ _ h=>by cases h
 ·rintro ⟨⟩ hw hn
  exact IQ
end Go.Proofs.YtkgplaoappjkcaaGreat
namespace Go.Mir
open Go Go.Proofs Go.Shelf Go.RowKit Go.Lib Go.Sort
variable {P:Program} {ρ:Go.Shelf.Ren}
structure DelLaid (P:Program) (ρ:Go.Shelf.Ren) (z:Nat):Prop where
 mixed:P.follows .mixedOrders=true
 f45:Bears P (ρ.f 45) (SlBodyN.n45 ρ)
 t3:P.underlying (ρ.t 3)=some (TypeDesc.int IntKind.i64)
 a3 :∀ w,(isAgg (ρ.t 3)).run P w = .ok false w
 z3 :∀ w,(Go.sizeOf (ρ.t 3)).run P w = .ok 1 w
 t4:P.underlying (ρ.t 4)=some (TypeDesc.bool)
 a4 :∀ w,(isAgg (ρ.t 4)).run P w = .ok false w
 z4 :∀ w,(Go.sizeOf (ρ.t 4)).run P w = .ok 1 w
 t22:P.underlying (ρ.t 22)=some (TypeDesc.slice (ρ.t 23))
 a22 :∀ w,(isAgg (ρ.t 22)).run P w = .ok false w
 z22 :∀ w,(Go.sizeOf (ρ.t 22)).run P w = .ok 1 w
 z23 :∀ w,(Go.sizeOf (ρ.t 23)).run P w = .ok z w
 i23 :∃ i0,P.info? (ρ.t 23)=some i0∧i0.size=z
 v23 :∃ zv,(∀ w,(zeroValue (ρ.t 23)).run P w = .ok zv w)∧zv.cells.size=z∧∀ u∈zv.cells.toList,u.oneCell'=true
set_option maxHeartbeats 4000000 in
set_option maxRecDepth 1000000 in
theorem Jj (L:DelLaid P ρ 4) (b cap n i:Nat) (w:World) (hn:n≤cap) (hcap:n≤aS) (hi:i≤n) :
  Calls P (ρ.f 45) #[.slice (some ⟨b,0,none⟩) n cap,.int .i64 i,.int .i64 i] w fun e w'=>e = .returned (.slice (some ⟨b,0,none⟩) n cap)∧w'=w:=by
 have mixed:=L.mixed;have t3:=L.t3;have a3:=L.a3;have z3:=L.z3;have t4:=L.t4;have a4:=L.a4;have z4:=L.z4;have t22:=L.t22;have a22:=L.a22;have z22:=L.z22;have z23:=L.z23
 have hcap:n≤140737488355328:=hcap
 obtain ⟨_,_,FG⟩:=L.f45
 go_enter FG,SlBodyN.n45_ntmps ρ
 go_wp2
 all_goals (go_ret;exact ⟨rfl,rfl⟩)
theorem s5 (w:World) (t e ty:TypeId) (z:Value) (ht:P.underlying t=some (.slice e)) (hv :∀ w,(zeroValue e).run P w = .ok z w) (b o n c:Nat) (hn:0<n) {cs:Array Value} {T:TypeId} {fr:Nat×Nat}
  (h1 :∀ u∈z.cells.toList,u.oneCell'=true) (hb:w.heap[b]?=some (.cells cs T fr)) (hfr:Mir.nofrz fr cs.size) (hsz:o+n*z.cells.size≤cs.size) :
  (Builtin.clear_ #[t] ty #[.slice (some ⟨b,o,none⟩) n c]).run P w = .ok (.tuple #[]) (w.setCells b o (Builtin.zeroCells z.cells n).toList):=by
 have hst:=run_storeCells_cells (P:=P) b o (Builtin.zeroCells z.cells n).toList 0 w (fun k hk=>by
   rw [Mir.cell_of hb]
   simp [Builtin.zeroCells] at hk
   simp;omega) (fun k hk=>Mir.frozen_of hb hfr (by simp [Builtin.zeroCells] at hk;omega)) (by
   intro v hv'
   simp [Builtin.zeroCells] at hv'
   obtain ⟨k,hk,rfl⟩:=hv'
   have hp:0<z.cells.size:=by
    rcases Nat.eq_zero_or_pos z.cells.size with h|h
    ·rw [h] at hk;simp at hk
    ·exact h
   have hm:=Nat.mod_lt k hp
   rw [getElem!_pos z.cells _ hm]
   exact h1 _ (Array.mem_toList_iff.2 (Array.getElem_mem hm)))
 simp only [Nat.add_zero] at hst
 obtain ⟨m,rfl⟩ :∃ m,n=m+1:=⟨n - 1,by omega⟩
 simp [Builtin.clear_,run_underlying ht,hv,hst]
set_option maxHeartbeats 4000000 in
set_option maxRecDepth 1000000 in
theorem LV (L:DelLaid P ρ 4) (b cap n i j:Nat) (w:World) (c:Array Value) (T:TypeId) (fr:Nat×Nat) (hb:w.heap[b]?=some (.cells c T fr)) (hfr:Mir.nofrz fr c.size) (hc:c.size=cap*4) (hn:n≤cap) (hcap:n≤aS) (hij:i<j) (hj:j≤n)
  (h1 :∀ u∈Mir.seg c (j*4) ((n - j)*4),u.oneCell'=true) :
  Calls P (ρ.f 45) #[.slice (some ⟨b,0,none⟩) n cap,.int .i64 i,.int .i64 j] w fun e w'=>e = .returned (.slice (some ⟨b,0,none⟩) (i +(n - j)) cap)∧∃ zs:List Value,zs.length =(j - i)*4∧w' =(w.drew.setCells b (i*4) (Mir.seg c (j*4) ((n - j)*4))).setCells b ((i +(n - j))*4) zs:=by
 have mixed:=L.mixed;have t3:=L.t3;have a3:=L.a3;have z3:=L.z3;have t4:=L.t4;have a4:=L.a4;have z4:=L.z4;have t22:=L.t22;have a22:=L.a22;have z22:=L.z22;have z23:=L.z23
 obtain ⟨i0,hi0,hz1⟩:=L.i23
 obtain ⟨zv,hzv,hzs,hz1c⟩:=L.v23
 have hic:i≤cap:=by omega
 have hjc:j≤cap:=by omega
 have hn4:n*4≤c.size:=by omega
 obtain ⟨news,hnews⟩ :∃ news,news=Mir.seg c (j*4) ((n - j)*4):=⟨_,rfl⟩
 have hlen:news.length =(n - j)*4:=by rw [hnews];exact Mir.seg_len _ _ _ (by omega)
 have hbd:w.drew.heap[b]?=some (.cells c T fr):=hb
 obtain ⟨A,hA,hsrc⟩ :∃ A:Addr,(if cap=j then some (⟨b,0,none⟩:Addr) else some ⟨b,j*4,none⟩)=some A∧Hid (∀ t u,news[t]?=some u→w.drew.cell? (A.add t)=some u):=by
  by_cases h:cap=j
  ·refine ⟨⟨b,0,none⟩,by simp [h],fun t u hu=>?_⟩
   have h0:news.length=0:=by rw [hlen];omega
   rw [List.length_eq_zero_iff.1 h0] at hu
   simp at hu
  ·refine ⟨⟨b,j*4,none⟩,by simp [h],fun t u hu=>?_⟩
   rw [hnews,Mir.seg_get] at hu
   split at hu
   ·rw [Mir.addr_add,Mir.cell_of hbd];exact hu
   ·cases hu
 have s1:Hid (news.length =(n - j)*4):=hlen
 have s2:Hid (∀ u∈news,u.oneCell'=true):=by rw [hnews];exact h1
 have s3:Hid (∀ t,t<news.length→(w.drew.cell? ⟨b,0+i*4+t,none⟩).isSome=true∧w.drew.frozen? ⟨b,0+i*4+t,none⟩=false):=by
  intro t ht
  rw [hlen] at ht
  exact ⟨by rw [Mir.cell_of hbd];simp;omega,Mir.frozen_of hbd hfr (by omega)⟩
 obtain ⟨W1,hW1⟩ :∃ W1,W1=w.drew.setCells b (0+i*4) news:=⟨_,rfl⟩
 obtain ⟨c1,g1,g2⟩:=Mir.setCells_heap b news (0+i*4) w.drew c hbd (by omega)
 rw [←hW1] at g1
 have hcs:c1.size=c.size:=by
  have:=congrArg List.length g2
  simp at this
  omega
 have hcl :∀ ty,(Builtin.clear_ #[ρ.t 22] ty #[.slice (some ⟨b,(i +(n - j))*4,none⟩) (n - (i +(n - j))) (cap - (i +(n - j)))]).run P W1 = .ok (.tuple #[]) (W1.setCells b ((i +(n - j))*4) (Builtin.zeroCells zv.cells (n - (i +(n - j)))).toList):=
  fun ty=>s5 W1 _ _ ty zv t22 hzv b _ _ _ (by omega) hz1c g1 (by rw [hcs];exact hfr) (by rw [hzs,hcs];omega)
 have hzl:Hid ((Builtin.zeroCells zv.cells (n - (i +(n - j)))).toList.length =(j - i)*4):=by
  show (Builtin.zeroCells zv.cells (n - (i +(n - j)))).toList.length =(j - i)*4
  rw [Array.length_toList,Mir.zeroCells_len,hzs];omega
 obtain ⟨zs,hzse⟩ :∃ zs,zs =(Builtin.zeroCells zv.cells (n - (i +(n - j)))).toList:=⟨_,rfl⟩
 rw [←hzse] at hcl hzl
 have hW:Hid (W1=w.drew.setCells b (0+i*4) news):=hW1
 have hN:Hid (news=Mir.seg c (j*4) ((n - j)*4)):=hnews
 clear hW1 g1 g2 hcs hbd hb hfr hnews hlen hzse h1
 have hcap:n≤140737488355328:=hcap
 obtain ⟨_,_,FG⟩:=L.f45
 go_enter FG,SlBodyN.n45_ntmps ρ
 go_wp2_with fail
 go_region_law_o (refine step_append_room rfl (.tmp 22) (.tmp 25) (ρ.t 22) rfl (ρ.t 23) i0 4 t22 hi0 hz1 b 0 i cap (by simp [Act.eval,Act.put]) A (n - j) (cap - j) news (by simp [Act.eval,Act.put,hA]) s1.out hsrc.out s2.out (by omega) s3.out ?_;rw [←hW.out])
 go_wp2
 go_ret
 refine ⟨rfl,zs,hzl.out,?_⟩
 rw [hW.out,Nat.zero_add,hN.out]
set_option maxHeartbeats 4000000 in
set_option maxRecDepth 1000000 in
theorem Ji (L:DelLaid P ρ 4) (a:Option Addr) (w:World) :
  Calls P (ρ.f 45) #[.slice a 0 0,.int .i64 0,.int .i64 0] w fun e w'=>e = .returned (.slice a 0 0)∧w'=w:=by
 have mixed:=L.mixed;have t3:=L.t3;have a3:=L.a3;have z3:=L.z3;have t4:=L.t4;have a4:=L.a4;have z4:=L.z4;have t22:=L.t22;have a22:=L.a22;have z22:=L.z22;have z23:=L.z23
 obtain ⟨_,_,FG⟩:=L.f45
 cases a with
 | none=>
  go_enter FG,SlBodyN.n45_ntmps ρ
  go_wp2
  all_goals (go_ret;exact ⟨rfl,rfl⟩)
 | some a=>
  go_enter FG,SlBodyN.n45_ntmps ρ
  go_wp2
  all_goals (go_ret;exact ⟨rfl,rfl⟩)
theorem CJ {B:Base} {E:Env} (hE:HRel B E) {h ver b cap m:Nat} {t:Ty} {xs:List (Den t)} (hH:E.H h=some (.row ver true t xs)) (hm :¬ E.U m) (hρ:E.ρ h=some b) (hS :¬ E.S b) {w1:World} {c1:Array Value} {T:TypeId} {fr:Nat×Nat}
  (hk:Keeps E.w (fun b1=>some b=some b1) w1) (g1:w1.heap[b]?=some (.cells c1 T fr)) (hfr:nofrz fr c1.size) (hc1:c1.size=cap*sz t) (ys:List (Den t)) (hyc:ys.length≤cap) (hyl:ys.length≤aS) (hrd :∀ (i:Nat) (hi:i<ys.length),Rd E.S E.w t ys[i] (seg c1 (i*sz t) (sz t))) :
  ∃ E',Good B E m [(h,.row m true t ys)] w1 E'∧ac E' (.osl h m) (.slice (some ⟨b,0,none⟩) ys.length cap):=by
 have hU:=hE.used _ _ hH
 obtain ⟨R,X⟩:=jt hE h (.row m true t ys) (some b) w1 (fun n=>E.U n∨n=m) (fun n h=> .inl h) (.inl hU) hk (fun b1 e=>by cases e;exact .inr ⟨hρ,_,hH,rfl⟩) (fun b1 e=>by cases e;exact hS)
  (fun _ e _=>by cases e) (fun _ _ _ _ e _ h=>by cases e;exact absurd h hm)
  (fun X=>⟨.inr rfl,.inr ⟨b,c1,T,fr,aK _ _ _,g1,hfr,fun _=>hS,(fun e=>by cases e),by rw [hc1];exact Nat.mul_le_mul_right _ hyc,hyl,fun i hi=>(hrd i hi).ext X.s X.keepS⟩⟩)
 refine ⟨_,⟨R,X,rfl,(co _ _ _).symm,fun n h=>?_⟩,?_⟩
 ·rcases h with h|h
  ·exact .inl h
  ·exact .inr ⟨by omega,by unfold KN;omega⟩
 ·simp only [ac]
  refine ⟨.inl hU,.inr trivial,⟨_,_,_,rfl⟩,fun rw t2 xs2 hH2=> .inr ⟨b,cap,c1,T,fr,aK _ _ _,?_⟩⟩
  simp only [aK,Option.some.injEq] at hH2
  cases hH2
  exact ⟨rfl,g1,hc1,hyc⟩
def yX (z:Nat):Ctr:=fun args H m=>
 match args with
 | [.osl h ver,.int .i64 i,.int .i64 j]=>match H h with
  | some (.row ver' true t xs)=>if ver'=ver∧sz t=z then some ([0≤i,i≤j,j≤(xs.length:Int)],.osl h m,[(h,.row m true t (xs.take i.toNat++xs.drop j.toNat))]) else none
  | _=>none
 | _=>none
theorem OJ (L:DelLaid P ρ 4) {K:Nat} (hK:1≤K):CtrOK P K (ρ.f 45) (yX 4):=by
 refine ⟨?_,?_⟩
 ·obtain ⟨nm,h1,h2⟩:=L.f45
  exact ⟨_,h2,rfl,h1⟩
 ·intro B E hE args av hav m hm ps v dh h hps
  have hmU :¬ E.U m:=hm m (Nat.le_refl _) (by omega)
  unfold yX at h
  split at h
  case h_2=>cases h
  rename_i h0 ver i j
  split at h
  case h_2=>cases h
  rename_i ver' t xs hH
  split at h
  case isFalse=>cases h
  rename_i hc
  obtain ⟨rfl,hz⟩:=hc
  simp only [Option.some.injEq,Prod.mk.injEq] at h
  obtain ⟨rfl,rfl,rfl⟩:=h
  have p1:0≤i:=hps _ (by simp)
  have p2:i≤j:=hps _ (by simp)
  have p3:j≤(xs.length:Int):=hps _ (by simp)
  obtain ⟨i,rfl⟩:=Int.eq_ofNat_of_zero_le p1
  obtain ⟨j,rfl⟩:=Int.eq_ofNat_of_zero_le (Int.le_trans p1 p2)
  have p2:i≤j:=by omega
  have p3:j≤xs.length:=by omega
  simp only [Int.toNat_natCast]
  match av,hav with
  | [sv,iv,jv],hav=>
   simp only [ai,ac] at hav
   obtain ⟨hs,⟨rfl,_⟩,⟨rfl,_⟩,_⟩:=hav
   rcases jQ hE hH (by simpa only [ac] using hs) with ⟨h2,rfl,a,rfl⟩ |⟨b,cap,c,T,fr,h3,rfl,h5,h6,hcap,h7,h8,h9,h10,h11,h12⟩
   ·have e1:j=0:=by simpa using p3
    subst e1
    have e2:i=0:=by omega
    subst e2
    obtain ⟨E',G,hv⟩:=GS hE m hmU h0 (.inl (hE.used _ _ hH)) t a
    refine (Ji L a E.w).mono ?_
    rintro e w' ⟨rfl,rfl⟩
    exact ⟨E',_,rfl,by simpa using G.toK hK,hv⟩
   ·rw [hz] at h6 h10
    by_cases hij:i=j
    ·subst hij
     have ey:xs.take i++xs.drop i=xs:=List.take_append_drop _ _
     obtain ⟨E',G,hv⟩:=CJ hE hH hmU h3 (h8 rfl) (Keeps.refl E.w _) h5 h7 (by rw [hz];exact h6) xs hcap h11 h12
     refine (Jj L b cap xs.length i E.w hcap h11 p3).mono ?_
     rintro e w' ⟨rfl,rfl⟩
     rw [ey]
     exact ⟨E',_,rfl,G.toK hK,hv⟩
    ·have hlt:i<j:=by omega
     have h13:=h12
     simp only [hz] at h13
     have one :∀ u∈seg c (j*4) ((xs.length - j)*4),u.oneCell'=true:=fun u hu=>by
      obtain ⟨p,hp⟩:=List.mem_iff_getElem?.1 hu
      rw [seg_get] at hp
      split at hp
      ·exact (h13 ((j*4+p) / 4) (by omega)).one u (List.mem_iff_getElem?.2 ⟨(j*4+p) % 4,by
        rw [seg_get,if_pos (by omega),show (j*4+p) / 4*4 +(j*4+p) % 4=j*4+p by omega];exact hp⟩)
      ·cases hp
     refine (LV L b cap xs.length i j E.w c T fr h5 h7 h6 hcap h11 hlt p3 one).mono ?_
     rintro e w' ⟨rfl,zs,hzl,rfl⟩
     obtain ⟨R0,X0⟩:=yH hE E.w.drew rfl rfl rfl rfl
     have hnl :(seg c (j*4) ((xs.length - j)*4)).length =(xs.length - j)*4:=seg_len _ _ _ (by omega)
     obtain ⟨c1,g1,g2⟩:=setCells_heap b (seg c (j*4) ((xs.length - j)*4)) (i*4) E.w.drew c h5 (by omega)
     have hcs:c1.size=c.size:=by
      have:=congrArg List.length g2
      simp at this
      omega
     obtain ⟨c2,k1,k2⟩:=setCells_heap b zs ((i +(xs.length - j))*4) _ c1 g1 (by omega)
     have hcs2:c2.size=c1.size:=by
      have:=congrArg List.length k2
      simp at this
      omega
     have hyl :(xs.take i++xs.drop j).length=i +(xs.length - j):=by simp;omega
     obtain ⟨E',G,hv⟩:=CJ (w1:=(E.w.drew.setCells b (i*4) (seg c (j*4) ((xs.length - j)*4))).setCells b ((i +(xs.length - j))*4) zs) R0 hH hmU h3 (h8 rfl)
      ((cD b (fun b1=>some b=some b1) rfl _ _ _).trans (cD b (fun b1=>some b=some b1) rfl _ _ _) (fun _ h=> .inl h)) k1 (cap:=cap) (gx h7 (by omega)) (by rw [hz];omega) (xs.take i++xs.drop j) (by omega) (by unfold aS at h11 ⊢;omega) (fun k hk=>by
       have hl0 :(c.toList.take (i*4)).length=i*4:=by simp;omega
       have key:Rd E.S E.w t (xs.take i++xs.drop j)[k] (((c.toList.take (i*4)++seg c (j*4) ((xs.length - j)*4)).drop (k*sz t)).take (sz t)):=by
        refine qG (by rw [hl0,hz];simp;omega) (fun q hq=>?_) (fun q hq=>?_) k hk
        ·have hq':q<i:=by simp at hq;omega
         have h1:=h12 q (by omega)
         rw [List.getElem_take]
         have e :((c.toList.take (i*4)).drop (q*sz t)).take (sz t)=seg c (q*sz t) (sz t):=by
          rw [hz]
          simp only [seg,List.drop_take,List.take_take]
          congr 1
          omega
         rw [e];exact h1
        ·have hq':q<xs.length - j:=by simpa using hq
         have h1:=h12 (j+q) (by omega)
         rw [List.getElem_drop]
         have e :((seg c (j*4) ((xs.length - j)*4)).drop (q*sz t)).take (sz t)=seg c ((j+q)*sz t) (sz t):=by
          rw [hz]
          simp only [seg,List.drop_take,List.take_take,List.drop_drop]
          rw [show j*4+q*4 =(j+q)*4 by omega,show min 4 ((xs.length - j)*4 - q*4)=4 by omega]
         rw [e];exact h1
       have e1:c1.toList.take ((i +(xs.length - j))*4)=c.toList.take (i*4)++seg c (j*4) ((xs.length - j)*4):=by
        rw [g2]
        exact List.take_left' (by rw [List.length_append,hl0,hnl];omega)
       have e2:seg c2 (k*sz t) (sz t) =((c.toList.take (i*4)++seg c (j*4) ((xs.length - j)*4)).drop (k*sz t)).take (sz t):=by
        have hA :(c.toList.take (i*4)++seg c (j*4) ((xs.length - j)*4)).length =(i +(xs.length - j))*4:=by rw [List.length_append,hl0,hnl];omega
        unfold seg at hA ⊢
        rw [k2,e1,List.append_assoc,hz]
        unfold seg
        rw [List.drop_append_of_le_length (by rw [hA];omega),List.take_append_of_le_length (by rw [List.length_drop,hA];omega)]
       rw [e2]
       exact key.ext X0.s X0.keepS)
     rw [hyl] at hv
     exact ⟨E',_,rfl,(fx X0 G).toK hK,hv⟩
end Go.Mir
namespace Go.Proofs.YtkgplaoappjkcaaGreat
open Go Go.Mir
attribute [local irreducible] Go.Mir.DT.sat Go.Mir.evPat Go.Mir.RT.sat Go.Mir.evFn
def PI:Go.Shelf.Ren:=⟨fun|45=>37|n=>n,fun|0=>0|3=>3|4=>4|22=>71|23=>56|n=>n,fun n=>n⟩
theorem LU:DelLaid Tryz.prog PI 4 where
 mixed:=by kernel_rfl
 f45:=⟨"slices.Delete[[]scorebook/api.Message,scorebook/api.Message]",by decide,Tryz.func37.trans (congrArg some (by kernel_rfl))⟩
 t3:=Tryz.underlying3
 a3:=Tryz.isAgg3
 z3:=Tryz.sizeOf3
 t4:=Tryz.underlying4
 a4:=Tryz.isAgg4
 z4:=Tryz.sizeOf4
 t22:=Tryz.underlying71
 a22:=Tryz.isAgg71
 z22:=Tryz.sizeOf71
 z23:=Tryz.sizeOf56
 i23:=by
  obtain ⟨i,z,h1,h2,_⟩:=((al (l:= []) CtrsOK.nil Tryz.f37).tb 56 _ rfl).info
  exact ⟨i,h1,h2⟩
 v23:=⟨_,Tryz.zeroValue56,rfl,by decide⟩
def kDelMsg:FuncId×Ctr:=(37,yX 4)
theorem D1:CtrOK Tryz.prog KE kDelMsg.1 kDelMsg.2:=OJ LU (by decide)
def f4 (f:live_Follower):List Message→Int→Int
 | [],_=> -1
 | m::r,i=>if bG f m then i else f4 f r (i+1)
theorem nB (f:live_Follower) (m:Message) (r:List Message) (i:Int):f4 f (m::r) i=if bG f m then i else f4 f r (i+1):=rfl
def MR:Ty:= .prod (.slice (.nm .Message)) (.prod (.nm .live_Follower) .unit)
def A4:Den MR→PRes:=fun x=>⟨[x.1.length≤1000],.int .i64 (f4 x.2.1 x.1 0),[]⟩
theorem FZ (f:live_Follower) :∀ (xs:List Message) (k:Int) (i:Nat) (m:Message),xs[i]?=some m→bG f m=true→(∀ z∈xs.take i,bG f z=false)→f4 f xs k=k+i
 | x::r,k,0,m,h,hu,_=>by
  simp only [List.getElem?_cons_zero,Option.some.injEq] at h
  subst h
  rw [nB,if_pos hu];omega
 | x::r,k,i+1,m,h,hu,hn=>by
  have h0:bG f x=false:=hn x (by simp)
  rw [nB,h0,if_neg (by decide),FZ f r (k+1) i m (by simpa using h) hu (fun z hz=>hn z (by simp [hz]))]
  omega
theorem xr (f:live_Follower) :∀ (xs:List Message) (k:Int),xs.any (bG f)=false→f4 f xs k = -1
 | [],_,_=>rfl
 | x::r,k,h=>by
  simp only [List.any_cons,Bool.or_eq_false_iff] at h
  rw [nB,h.1,if_neg (by decide),xr f r _ h.2]
abbrev clV (f:live_Follower):V:= .fn 34 [.nilmap,.fp (.nm .live_Follower) [f] 0 0]
def F6 (xs:List Message) (f:live_Follower) (i:Nat):Prop:=i≤xs.length∧∀ z∈xs.take i,bG f z=false
def LKi (i:Nat):List (Lspec Nat):= [.out [true] [] [],.next (i+1) [] [],.out [false] [] []]
def JKi (xs:List Message) (f:live_Follower) (i:Nat):St:=⟨[(0,.fsl (.nm .Message) xs),(1,clV f),(7,.int .i64 xs.length),(8,.int .i64 i)],[],fun _=>none,0⟩
def TKi (xs:List Message) (f:live_Follower):Tr:= .br (xs.any (bG f)) (.leaf .ret ⟨[(4,.int .i64 (f4 f xs 0))],[]⟩ 0) (.leaf (.ext 0) ⟨[],[]⟩ 0)
def ΛKi (xs:List Message) (f:live_Follower):Nat→Option LoopSum:=find [(2,b8 ⟨[],[],0⟩ (JKi xs f 0) (TKi xs f))]
abbrev qZm:Pat:=⟨[(1,.c (.ptr 0 0)),(35,.h Evs),(36,.h I),(37,.h I)],[(0,.dat (.nm .Message))],1⟩
abbrev xZm:List (Lf×Pat):= [(.ret,⟨[(2,.h .bool)],[],0⟩),(.ext 0,⟨[],[],0⟩)]
abbrev TZm:Type:=List Mir.Event×Int×Int×Message×Unit
def xA (x:TZm):Prop:=x.2.1 =(x.1.length:Int)∧0≤x.2.2.1∧x.2.2.1≤x.2.1∧x.1.length≤aS
def HH (x:TZm):Nat:=(x.2.1 - x.2.2.1).toNat
def kJ (x:TZm):Sum (Bool×Unit) Unit:=qe ((x.1.drop x.2.2.1.toNat).all fun e=>bk e==0)
noncomputable def lpZm:Lp:=(⟨0,ao [li] Tryz.f33,(fun _=>none),(aA Tryz.f33 0),qZm,xZm⟩:Lp)
theorem Qn (es:List Mir.Event) (n:Int) (i:Int) (m:Message) (hi:xA (es,n,i,m,())) :(Go.Mir.stepG lpZm kJ (fun y:Den (tyP lpZm.q)=>xA y∧HH y<HH (es,n,i,m,())) (es,n,i,m,())∧Go.Mir.stepE lpZm kJ (es,n,i,m,())=kJ (es,n,i,m,())):=by
 refine cast (by kernel_rfl) (?_:let r1:Bool:=bk (es.getD i.toNat (dflt (Ty.nm Nm.Event))) !=(0:Int);((decide (i<n)=true→((0:Int)≤i∧i <(↑es.length:Int))∧(r1=true→True)∧(r1=false→xA (es,n,IntKind.i64.wrap (i +(1:Int)),m,())∧HH (es,n,IntKind.i64.wrap (i +(1:Int)),m,())<HH (es,n,i,m,())))∧(decide (i<n)=false→True))∧(bif decide (i<n) then bif r1 then Sum.inl (false,()) else kJ (es,n,IntKind.i64.wrap (i +(1:Int)),m,()) else Sum.inr ())=kJ (es,n,i,m,()))
 intro r1
 clear_value (hr1:r1=_)
 obtain ⟨h1,h2,h3,h4⟩:=hi
 simp only at h1 h2 h3 h4
 have hx :(es.length:Int)≤140737488355328:=by have:es.length≤140737488355328:=h4;omega
 by_cases h:i<n
 ·have ea:es.drop i.toNat=es.getD i.toNat (dflt (Ty.nm Nm.Event))::es.drop (i+1).toNat:=b7 h2 (by omega) _
  have e2:IntKind.i64.wrap (i+1)=i+1:=bi (by omega) (by omega)
  rw [decide_eq_true h,cond_true,e2]
  refine ⟨⟨fun _=>⟨⟨h2,by omega⟩,fun _=>trivial,fun _=>⟨⟨h1,by simp only;omega,by simp only;omega,h4⟩,by simp only [HH];omega⟩⟩,fun z=>Bool.noConfusion z⟩,?_⟩
  have hr :(bk (es.getD i.toNat (dflt (Ty.nm Nm.Event)))==0)=!r1:=by rw [hr1];simp [bne]
  have hA :((es.drop i.toNat).all fun e=>bk e==0) =(!r1&&((es.drop (i+1).toNat).all fun e=>bk e==0)):=by rw [ea,List.all_cons,←hr]
  simp only [kJ]
  rw [hA]
  generalize ((es.drop (i+1).toNat).all fun e=>bk e==0)=q
  cases r1 <;> cases q <;> rfl
 ·rw [decide_eq_false h,cond_false]
  refine ⟨⟨fun z=>Bool.noConfusion z,fun _=>trivial⟩,?_⟩
  simp only [kJ]
  rw [bK (l:=es) (by omega)]
  rfl
noncomputable def Ov:LoopSum:=aI lpZm kJ xA
noncomputable def N5:Nat:=rid (aA Tryz.f33 0)
theorem Pm:LoopOKp Tryz.prog 0 Tryz.f33.ntmps (aA Tryz.f33 0) (aI lpZm kJ xA):=
 bj lpZm (al (.consU qh rfl .nil) _) mixed (fun b hb S hS=>by cases hS) kJ xA HH (fun |⟨es,n,i,m,⟨⟩⟩,hi=>Qn es n i m hi)
theorem C6 (m:Message) (hx:m.Events.length≤aS) :(evPat (ao [li] Tryz.f33) (find [(N5,Ov)]) Tryz.f33 qMs ax (m,())).sat fun z_=>z_ =(As (m,())).2:=by
 refine cast (by kernel_rfl) (?_:let r1:Bool:=bif decide (m.1 <(1:Int)) then true else bif decide (m.2 <(0:Int)) then true else bif decide (m.3 <(0:Int)) then true else bif decide (m.3 >(4000:Int)) then true else IntKind.i64.wrap (m.3 - (↑m.4.length:Int)) != m.2;let r2:Bool:=isL (kJ (m.4,(↑m.4.length:Int),(0:Int),m,()));(r1=true→(false,()) =(dx m,()))∧(r1=false→((cR fun x=>none)∧(↑m.4.length:Int) =(↑m.4.length:Int)∧(0:Int)≤(0:Int)∧(0:Int)≤(↑m.4.length:Int)∧m.4.length≤aS)∧(r2=true→ij (dflt (Ty.bool.prod Ty.unit)) (kJ (m.4,(↑m.4.length:Int),(0:Int),m,())) =(dx m,()))∧(r2=false→(true,()) =(dx m,()))))
 intro r1 r2
 clear_value (hr1:r1=_) (hr2:r2=_)
 have e0:kJ (m.Events,(m.Events.length:Int),0,m,())=qe (m.Events.all fun e=>bk e==0):=rfl
 rw [e0] at hr2 ⊢
 have hG:FX m=r1:=by
  rw [hr1]
  unfold FX
  cases decide (m.Epoch<1) <;> cases decide (m.From<0) <;> cases decide (m.To<0) <;> cases decide (m.To>4000) <;> rfl
 refine ⟨fun h=>?_,fun h=>⟨⟨rfl,rfl,Int.le_refl _,by omega,hx⟩,?_⟩⟩
 ·unfold dx;rw [hG,h];rfl
 ·unfold dx
  rw [hG,h]
  generalize (m.Events.all fun e=>bk e==0)=q at hr2 ⊢
  subst hr2
  cases q
  ·exact ⟨fun _=>rfl,fun z=>Bool.noConfusion z⟩
  ·exact ⟨fun z=>Bool.noConfusion z,fun _=>rfl⟩
def xM:FuncId×Ctr:=(33,ae KE qMs ax As)
theorem Eu:CtrOK Tryz.prog KE 33 (ae KE qMs ax As):=by
 refine aq (C:=ao [li] Tryz.f33) (al (.consU qh rfl .nil) _) mixed (fn:=Tryz.f33) Tryz.func33 (by kernel_rfl) (by kernel_rfl) (by kernel_rfl) (by kernel_rfl) (by kernel_rfl) (by kernel_rfl) (Λ:=fun x=>find [(N5,Ov)]) ?_ ?_
 ·rintro ⟨m,⟨⟩⟩ hw hn
  exact LoopsOKp.at (by kernel_rfl) (.cons (by kernel_rfl) (Pm) .nil)
 ·rintro ⟨m,⟨⟩⟩ hw hn
  exact C6 m (hn _ List.mem_cons_self)
theorem IX (xs:List Message) (f:live_Follower) (hx:xs.length≤1000) (i:Nat) (hi:F6 xs f i) :(stepObl (JKi xs f) (F6 xs f) (fun i=>xs.length - i) i (TKi xs f) (bQ (ao [ku] Tryz.f36) (fun _=>none) (aA Tryz.f36 0) (JKi xs f i)) (LKi i)).1:=by
 refine cast (by kernel_rfl) (?_ :(decide ((↑i:Int) <(↑xs.length:Int))=true→((0:Int)≤(↑i:Int)∧(↑i:Int) <(↑xs.length:Int))∧(bG f (xs.getD (↑i:Int).toNat (dflt (Ty.nm Nm.Message)))=true→xs.any (bG f)=true∧((↑i:Int)=f4 f xs (0:Int)∧True)∧True)∧(bG f (xs.getD (↑i:Int).toNat (dflt (Ty.nm Nm.Message)))=false→F6 xs f (i +(1:Nat))∧xs.length - (i +(1:Nat))<xs.length - i∧(RowD.mk (Ty.nm Nm.Message) xs=RowD.mk (Ty.nm Nm.Message) xs∧(True∧(RowD.mk (Ty.nm Nm.live_Follower) [f]=RowD.mk (Ty.nm Nm.live_Follower) [f]∧(0:Int) =(0:Int))∧True)∧(↑xs.length:Int) =(↑xs.length:Int)∧IntKind.i64.wrap ((↑i:Int) +(1:Int)) =(↑(i +(1:Nat)):Int)∧True)∧True))∧(decide ((↑i:Int) <(↑xs.length:Int))=false→xs.any (bG f)=false∧True∧True))
 have e :(i:Int).toNat=i:=by simp
 rw [e]
 refine ⟨fun h1=>?_,fun h1=>?_⟩
 ·have h1:i<xs.length:=by simpa using h1
  have hg:xs[i]?=some (xs.getD i (dflt (Ty.nm Nm.Message))):=lh _ h1
  refine ⟨⟨by omega,by omega⟩,fun h2=>⟨?_,⟨?_,trivial⟩,trivial⟩,fun h2=>⟨⟨by omega,?_⟩,by omega,⟨rfl,⟨trivial,⟨rfl,rfl⟩,trivial⟩,rfl,?_,trivial⟩,trivial⟩⟩
  ·exact List.any_eq_true.2 ⟨_,List.mem_of_getElem? hg,h2⟩
  ·rw [FZ f xs 0 i _ hg h2 hi.2];omega
  ·rw [List.take_succ_eq_append_getElem h1]
   intro z hz
   rcases List.mem_append.1 hz with hz|hz
   ·exact hi.2 z hz
   ·rw [List.mem_singleton.1 hz]
    rw [List.getElem?_eq_getElem h1] at hg
    rw [Option.some.inj hg]
    exact h2
  ·exact (bi (by omega) (by omega)).trans (by simp)
 ·have h1 :¬ i<xs.length:=by simpa using h1
  have hl:i=xs.length:=by have:=hi.1;omega
  have hk:=hi.2
  rw [hl,List.take_length] at hk
  exact ⟨List.any_eq_false.2 fun z hz=>by simp [hk z hz],trivial,trivial⟩
theorem Hx (xs:List Message) (f:live_Follower) (hx:xs.length≤1000):LoopOK Tryz.prog Tryz.f36.ntmps (aA Tryz.f36 0) (b8 ⟨[],[],0⟩ (JKi xs f 0) (TKi xs f)):=
 fq (al (.consU pn rfl .nil) _) mixed (JKi xs f) (fun _=>rfl) (F6 xs f) (fun i=>xs.length - i) (fun _ _=>none) (fun _ _ _ _ _ h=>by cases h) (TKi xs f) [] [] 0 (⟨Nat.zero_le _,by simp⟩) LKi (fun i hi=>IX xs f hx i hi)
def D2:FuncId×Ctr:=(36,eQ KE ([.dat,.clo 34]:List PF) MR A4)
theorem KL (xs:List Message) (f:live_Follower) (hx:xs.length≤1000) :(evFn (ao [ku] Tryz.f36) (ΛKi xs f) Tryz.f36 (gm ([.dat,.clo 34]:List PF) MR (xs,f,()))).sat fun v' rows=>leV v' (A4 (xs,f,())).v∧rows =(A4 (xs,f,())).rows:=by
 refine cast (by kernel_rfl) (?_ :((cR fun x=>none)∧(RowD.mk (Ty.nm Nm.Message) xs=RowD.mk (Ty.nm Nm.Message) xs∧(True∧(RowD.mk (Ty.nm Nm.live_Follower) [f]=RowD.mk (Ty.nm Nm.live_Follower) [f]∧(0:Int) =(0:Int))∧True)∧(↑xs.length:Int) =(↑xs.length:Int)∧(0:Int) =(↑(0:Nat):Int)∧True)∧True)∧(xs.any (bG f)=true→f4 f xs (0:Int)=f4 f xs (0:Int)∧([]:List RowD)=[])∧(xs.any (bG f)=false→(-1:Int)=f4 f xs (0:Int)∧([]:List RowD)=[]))
 exact ⟨⟨rfl,⟨rfl,⟨trivial,⟨rfl,rfl⟩,trivial⟩,rfl,rfl,trivial⟩,trivial⟩,fun _=>⟨rfl,rfl⟩,fun h=>⟨(xr f xs 0 h).symm,rfl⟩⟩
theorem GB:CtrOK Tryz.prog KE 36 (eQ KE ([.dat,.clo 34]:List PF) MR A4):=by
 refine pA (C:=ao [ku] Tryz.f36) (al (.consU pn rfl .nil) _) mixed (fn:=Tryz.f36) Tryz.func36 (by kernel_rfl) (by kernel_rfl) (by kernel_rfl) (Λ:=fun x=>ΛKi x.1 x.2.1) ?_ ?_ ?_
 ·rintro ⟨xs,f,⟨⟩⟩ hw hn
  exact LoopsOK.at (by kernel_rfl) (.cons (by kernel_rfl) (Hx xs f (hn _ List.mem_cons_self)) .nil)
 ·rintro ⟨xs,f,⟨⟩⟩
  exact of_decide_eq_true (by kernel_rfl)
 ·rintro ⟨xs,f,⟨⟩⟩ hw hn
  exact KL xs f (hn _ List.mem_cons_self)
end Go.Proofs.YtkgplaoappjkcaaGreat
