/- Texts of the mirror and contracts, put together. -/
import Derived.Test.YtkgplaoappjkcaaGreatPT5
import Derived.Test.YtkgplaoappjkcaaGreatPT3
import Derived.Test.YtkgplaoappjkcaaGreatPT1
import Derived.Shelf.SlLaysN
import Derived.Shelf.RegionOpenPlain
import Derived.WalkKit
import Derived.Deep.LoopGhost
import Derived.Deep.RegionLaw
import Derived.Lib.Walk
import Derived.Sort.WalkB12
import Derived.Lib.SliceRun
namespace Go.Proofs.YtkgplaoappjkcaaGreat
open Go Go.Mir
attribute [local irreducible] Go.Mir.DT.sat Go.Mir.evPat Go.Mir.RT.sat Go.Mir.evFn
abbrev Oj:List (Nat×PB):= [(0,.cells (AK (.c (.osl 1 3)))),(1,.row 3 (.nm .Innings))]
abbrev qPE:Pat:=⟨[(0,.c (.ptr 0 0)),(1,.h (.nm .Event))],yI,3⟩
abbrev qPL:Pat:=⟨[(0,.h I)],yI,3⟩
abbrev zJ:Pat:=⟨[(0,.h I)],Oj,4⟩
def Cc:Den (tyP qPE)→List Prop×Den (tyP zJ):=fun x=>([aD (mkX x.2),aQ (mkX x.2)=true],(bh (mkX x.2) x.1,(ab (mkX x.2) x.1).Rules.Name,(ab (mkX x.2) x.1).Rules.Side,(ab (mkX x.2) x.1).Rules.Innings,(ab (mkX x.2) x.1).Rules.Overs,(ab (mkX x.2) x.1).Rules.Balls,(ab (mkX x.2) x.1).Rules.Quota,(ab (mkX x.2) x.1).Rules.Wide,(ab (mkX x.2) x.1).Rules.NoBall,(ab (mkX x.2) x.1).Rules.FreeHit,(ab (mkX x.2) x.1).Rules.NewBall,(ab (mkX x.2) x.1).Rules.FollowOn,(ab (mkX x.2) x.1).Rules.Reviews,(ab (mkX x.2) x.1).Rules.Outside,(ab (mkX x.2) x.1).Rules.Power,(ab (mkX x.2) x.1).Stage,(ab (mkX x.2) x.1).First,(ab (mkX x.2) x.1).Follow,(ab (mkX x.2) x.1).Penalty.1,(ab (mkX x.2) x.1).Penalty.2.1,(ab (mkX x.2) x.1).Result.Win,(ab (mkX x.2) x.1).Result.Side,(ab (mkX x.2) x.1).Result.Margin,(ab (mkX x.2) x.1).Innings,()))
def Cg:Den (tyP qPE)→List Prop×Den (tyP qPL):=fun x=>([aD (mkX x.2),aQ (mkX x.2)=true,be x.1=0],(dL (mkX x.2) x.1,(ak (mkX x.2) x.1).Rules.Name,(ak (mkX x.2) x.1).Rules.Side,(ak (mkX x.2) x.1).Rules.Innings,(ak (mkX x.2) x.1).Rules.Overs,(ak (mkX x.2) x.1).Rules.Balls,(ak (mkX x.2) x.1).Rules.Quota,(ak (mkX x.2) x.1).Rules.Wide,(ak (mkX x.2) x.1).Rules.NoBall,(ak (mkX x.2) x.1).Rules.FreeHit,(ak (mkX x.2) x.1).Rules.NewBall,(ak (mkX x.2) x.1).Rules.FollowOn,(ak (mkX x.2) x.1).Rules.Reviews,(ak (mkX x.2) x.1).Rules.Outside,(ak (mkX x.2) x.1).Rules.Power,(ak (mkX x.2) x.1).Stage,(ak (mkX x.2) x.1).First,(ak (mkX x.2) x.1).Follow,(ak (mkX x.2) x.1).Penalty.1,(ak (mkX x.2) x.1).Penalty.2.1,(ak (mkX x.2) x.1).Result.Win,(ak (mkX x.2) x.1).Result.Side,(ak (mkX x.2) x.1).Result.Margin,(ak (mkX x.2) x.1).Innings,()))
def Ce:Den (tyP qPE)→List Prop×Den (tyP zJ):=fun x=>([aD (mkX x.2),aQ (mkX x.2)=true,be x.1=0],(bo (mkX x.2) x.1,(ag (mkX x.2) x.1).Rules.Name,(ag (mkX x.2) x.1).Rules.Side,(ag (mkX x.2) x.1).Rules.Innings,(ag (mkX x.2) x.1).Rules.Overs,(ag (mkX x.2) x.1).Rules.Balls,(ag (mkX x.2) x.1).Rules.Quota,(ag (mkX x.2) x.1).Rules.Wide,(ag (mkX x.2) x.1).Rules.NoBall,(ag (mkX x.2) x.1).Rules.FreeHit,(ag (mkX x.2) x.1).Rules.NewBall,(ag (mkX x.2) x.1).Rules.FollowOn,(ag (mkX x.2) x.1).Rules.Reviews,(ag (mkX x.2) x.1).Rules.Outside,(ag (mkX x.2) x.1).Rules.Power,(ag (mkX x.2) x.1).Stage,(ag (mkX x.2) x.1).First,(ag (mkX x.2) x.1).Follow,(ag (mkX x.2) x.1).Penalty.1,(ag (mkX x.2) x.1).Penalty.2.1,(ag (mkX x.2) x.1).Result.Win,(ag (mkX x.2) x.1).Result.Side,(ag (mkX x.2) x.1).Result.Margin,(ag (mkX x.2) x.1).Innings,()))
theorem F8 {e:Mir.Event} (h:be e=0) (hu:vc e.Kind=true):i6 e.Side:=by
 cases hs:inW e.Side 1 2 with
 | true=>simp only [inW,Bool.and_eq_true,decide_eq_true_eq] at hs;unfold i6;omega
 | false=>
  unfold be at h
  simp only [hu,hs] at h
  exfalso
  revert h
  repeat' split
  all_goals first |(intro h;exact absurd h (by decide))|simp_all
theorem Hk {m:Match} {e:Mir.Event} (h :(bh m e != 0)=true):ab m e=m:=by simp only [ab,h,if_true]
theorem Hp {m:Match} {e:Mir.Event} (h :(dL m e != 0)=true):ak m e=m:=by simp only [ak,h,if_true]
theorem HY (m:Match) (e:Mir.Event) (hm:aD m) (hv:aQ m=true) :(evPat (al [wn,yT,C5,wl] Tryz.f67) (fun _=>none) Tryz.f67 qPE zJ (e,m.Rules.Name,m.Rules.Side,m.Rules.Innings,m.Rules.Overs,m.Rules.Balls,m.Rules.Quota,m.Rules.Wide,m.Rules.NoBall,m.Rules.FreeHit,m.Rules.NewBall,m.Rules.FollowOn,m.Rules.Reviews,m.Rules.Outside,m.Rules.Power,m.Stage,m.First,m.Follow,m.Penalty.1,m.Penalty.2.1,m.Result.Win,m.Result.Side,m.Result.Margin,m.Innings,())).sat fun z_=>z_ =(Cc (e,m.Rules.Name,m.Rules.Side,m.Rules.Innings,m.Rules.Overs,m.Rules.Balls,m.Rules.Quota,m.Rules.Wide,m.Rules.NoBall,m.Rules.FreeHit,m.Rules.NewBall,m.Rules.FollowOn,m.Rules.Reviews,m.Rules.Outside,m.Rules.Power,m.Stage,m.First,m.Follow,m.Penalty.1,m.Penalty.2.1,m.Result.Win,m.Result.Side,m.Result.Margin,m.Innings,())).2:=by
 refine cast (by kernel_rfl) (?_:let r1:Int:=IntKind.i64.wrap (cS m (↑m.5.length:Int) - (1:Int));let r2:Innings:=mI m.1 (cS m (↑m.5.length:Int)) (gc m (cS m (↑m.5.length:Int))) m.6.1;let r3:Innings:=mI m.1 (cS m (↑m.5.length:Int)) (gc m (cS m (↑m.5.length:Int))) m.6.2.1;let r4:Int:=cU m.1 r2 e;let r5:Bool:=r1 ==(0:Int);let r6:Bool:=r1 ==(1:Int);let r7:Int:=cU m.1 r3 e;let r8:Bool:=me m.1 (cS m (↑m.5.length:Int)) (gc m (cS m (↑m.5.length:Int))) m.6.1 !=(0:Int);let r9:Bool:=me m.1 (cS m (↑m.5.length:Int)) (gc m (cS m (↑m.5.length:Int))) m.6.2.1 !=(0:Int);let r10:List Innings:= [dP m.1 r2 e];let r11:List Innings:= [dP m.1 r3 e];let r12:Bool:=r4 !=(0:Int);let r13:Bool:=r7 !=(0:Int);((m.2 !=(2:Int))=true→((1:Int),m.1.1,m.1.2,m.1.3,m.1.4,m.1.5,m.1.6,m.1.7,m.1.8,m.1.9,m.1.10,m.1.11,m.1.12,m.1.13,m.1.14,m.2,m.3,m.4,m.6.1,m.6.2.1,m.7.1,m.7.2,m.7.3,m.5,()) =(bh m e,(ab m e).1.1,(ab m e).1.2,(ab m e).1.3,(ab m e).1.4,(ab m e).1.5,(ab m e).1.6,(ab m e).1.7,(ab m e).1.8,(ab m e).1.9,(ab m e).1.10,(ab m e).1.11,(ab m e).1.12,(ab m e).1.13,(ab m e).1.14,(ab m e).2,(ab m e).3,(ab m e).4,(ab m e).6.1,(ab m e).6.2.1,(ab m e).7.1,(ab m e).7.2,(ab m e).7.3,(ab m e).5,()))∧((m.2 !=(2:Int))=false→(r5=true→((0:Int)≤(0:Int)∧(0:Int) <(↑(2:Nat):Int))∧(r8=true→((1:Int),m.1.1,m.1.2,m.1.3,m.1.4,m.1.5,m.1.6,m.1.7,m.1.8,m.1.9,m.1.10,m.1.11,m.1.12,m.1.13,m.1.14,m.2,m.3,m.4,m.6.1,m.6.2.1,m.7.1,m.7.2,m.7.3,m.5,()) =(bh m e,(ab m e).1.1,(ab m e).1.2,(ab m e).1.3,(ab m e).1.4,(ab m e).1.5,(ab m e).1.6,(ab m e).1.7,(ab m e).1.8,(ab m e).1.9,(ab m e).1.10,(ab m e).1.11,(ab m e).1.12,(ab m e).1.13,(ab m e).1.14,(ab m e).2,(ab m e).3,(ab m e).4,(ab m e).6.1,(ab m e).6.2.1,(ab m e).7.1,(ab m e).7.2,(ab m e).7.3,(ab m e).5,()))∧(r8=false→ah r2∧(r12=true→(r4,m.1.1,m.1.2,m.1.3,m.1.4,m.1.5,m.1.6,m.1.7,m.1.8,m.1.9,m.1.10,m.1.11,m.1.12,m.1.13,m.1.14,m.2,m.3,m.4,m.6.1,m.6.2.1,m.7.1,m.7.2,m.7.3,m.5,()) =(bh m e,(ab m e).1.1,(ab m e).1.2,(ab m e).1.3,(ab m e).1.4,(ab m e).1.5,(ab m e).1.6,(ab m e).1.7,(ab m e).1.8,(ab m e).1.9,(ab m e).1.10,(ab m e).1.11,(ab m e).1.12,(ab m e).1.13,(ab m e).1.14,(ab m e).2,(ab m e).3,(ab m e).4,(ab m e).6.1,(ab m e).6.2.1,(ab m e).7.1,(ab m e).7.2,(ab m e).7.3,(ab m e).5,()))∧(r12=false→(r5=true→((0:Int)≤(0:Int)∧(0:Int) <(↑(2:Nat):Int))∧(m.5.length+r10.length) *(304:Nat)≤(70368744177664:Nat)∧((0:Int),m.1.1,m.1.2,m.1.3,m.1.4,m.1.5,m.1.6,m.1.7,m.1.8,m.1.9,m.1.10,m.1.11,m.1.12,m.1.13,m.1.14,(3:Int),m.3,m.4,(0:Int),m.6.2.1,m.7.1,m.7.2,m.7.3,m.5++r10,()) =(bh m e,(ab m e).1.1,(ab m e).1.2,(ab m e).1.3,(ab m e).1.4,(ab m e).1.5,(ab m e).1.6,(ab m e).1.7,(ab m e).1.8,(ab m e).1.9,(ab m e).1.10,(ab m e).1.11,(ab m e).1.12,(ab m e).1.13,(ab m e).1.14,(ab m e).2,(ab m e).3,(ab m e).4,(ab m e).6.1,(ab m e).6.2.1,(ab m e).7.1,(ab m e).7.2,(ab m e).7.3,(ab m e).5,()))∧(r5=false→(r6=true→((0:Int)≤(1:Int)∧(1:Int) <(↑(2:Nat):Int))∧(m.5.length+r10.length) *(304:Nat)≤(70368744177664:Nat)∧((0:Int),m.1.1,m.1.2,m.1.3,m.1.4,m.1.5,m.1.6,m.1.7,m.1.8,m.1.9,m.1.10,m.1.11,m.1.12,m.1.13,m.1.14,(3:Int),m.3,m.4,m.6.1,(0:Int),m.7.1,m.7.2,m.7.3,m.5++r10,()) =(bh m e,(ab m e).1.1,(ab m e).1.2,(ab m e).1.3,(ab m e).1.4,(ab m e).1.5,(ab m e).1.6,(ab m e).1.7,(ab m e).1.8,(ab m e).1.9,(ab m e).1.10,(ab m e).1.11,(ab m e).1.12,(ab m e).1.13,(ab m e).1.14,(ab m e).2,(ab m e).3,(ab m e).4,(ab m e).6.1,(ab m e).6.2.1,(ab m e).7.1,(ab m e).7.2,(ab m e).7.3,(ab m e).5,()))∧(r6=false→False∧True)))))∧(r5=false→(r6=true→((0:Int)≤(1:Int)∧(1:Int) <(↑(2:Nat):Int))∧(r9=true→((1:Int),m.1.1,m.1.2,m.1.3,m.1.4,m.1.5,m.1.6,m.1.7,m.1.8,m.1.9,m.1.10,m.1.11,m.1.12,m.1.13,m.1.14,m.2,m.3,m.4,m.6.1,m.6.2.1,m.7.1,m.7.2,m.7.3,m.5,()) =(bh m e,(ab m e).1.1,(ab m e).1.2,(ab m e).1.3,(ab m e).1.4,(ab m e).1.5,(ab m e).1.6,(ab m e).1.7,(ab m e).1.8,(ab m e).1.9,(ab m e).1.10,(ab m e).1.11,(ab m e).1.12,(ab m e).1.13,(ab m e).1.14,(ab m e).2,(ab m e).3,(ab m e).4,(ab m e).6.1,(ab m e).6.2.1,(ab m e).7.1,(ab m e).7.2,(ab m e).7.3,(ab m e).5,()))∧(r9=false→ah r3∧(r13=true→(r7,m.1.1,m.1.2,m.1.3,m.1.4,m.1.5,m.1.6,m.1.7,m.1.8,m.1.9,m.1.10,m.1.11,m.1.12,m.1.13,m.1.14,m.2,m.3,m.4,m.6.1,m.6.2.1,m.7.1,m.7.2,m.7.3,m.5,()) =(bh m e,(ab m e).1.1,(ab m e).1.2,(ab m e).1.3,(ab m e).1.4,(ab m e).1.5,(ab m e).1.6,(ab m e).1.7,(ab m e).1.8,(ab m e).1.9,(ab m e).1.10,(ab m e).1.11,(ab m e).1.12,(ab m e).1.13,(ab m e).1.14,(ab m e).2,(ab m e).3,(ab m e).4,(ab m e).6.1,(ab m e).6.2.1,(ab m e).7.1,(ab m e).7.2,(ab m e).7.3,(ab m e).5,()))∧(r13=false→(r5=true→((0:Int)≤(0:Int)∧(0:Int) <(↑(2:Nat):Int))∧(m.5.length+r11.length) *(304:Nat)≤(70368744177664:Nat)∧((0:Int),m.1.1,m.1.2,m.1.3,m.1.4,m.1.5,m.1.6,m.1.7,m.1.8,m.1.9,m.1.10,m.1.11,m.1.12,m.1.13,m.1.14,(3:Int),m.3,m.4,(0:Int),m.6.2.1,m.7.1,m.7.2,m.7.3,m.5++r11,()) =(bh m e,(ab m e).1.1,(ab m e).1.2,(ab m e).1.3,(ab m e).1.4,(ab m e).1.5,(ab m e).1.6,(ab m e).1.7,(ab m e).1.8,(ab m e).1.9,(ab m e).1.10,(ab m e).1.11,(ab m e).1.12,(ab m e).1.13,(ab m e).1.14,(ab m e).2,(ab m e).3,(ab m e).4,(ab m e).6.1,(ab m e).6.2.1,(ab m e).7.1,(ab m e).7.2,(ab m e).7.3,(ab m e).5,()))∧(r5=false→(r6=true→((0:Int)≤(1:Int)∧(1:Int) <(↑(2:Nat):Int))∧(m.5.length+r11.length) *(304:Nat)≤(70368744177664:Nat)∧((0:Int),m.1.1,m.1.2,m.1.3,m.1.4,m.1.5,m.1.6,m.1.7,m.1.8,m.1.9,m.1.10,m.1.11,m.1.12,m.1.13,m.1.14,(3:Int),m.3,m.4,m.6.1,(0:Int),m.7.1,m.7.2,m.7.3,m.5++r11,()) =(bh m e,(ab m e).1.1,(ab m e).1.2,(ab m e).1.3,(ab m e).1.4,(ab m e).1.5,(ab m e).1.6,(ab m e).1.7,(ab m e).1.8,(ab m e).1.9,(ab m e).1.10,(ab m e).1.11,(ab m e).1.12,(ab m e).1.13,(ab m e).1.14,(ab m e).2,(ab m e).3,(ab m e).4,(ab m e).6.1,(ab m e).6.2.1,(ab m e).7.1,(ab m e).7.2,(ab m e).7.3,(ab m e).5,()))∧(r6=false→False∧True)))))∧(r6=false→False∧True))))
 intro r1 r2 r3 r4 r5 r6 r7 r8 r9 r10 r11 r12 r13
 clear_value (hr1:r1=_) (hr2:r2=_) (hr3:r3=_) (hr4:r4=_) (hr5:r5=_) (hr6:r6=_) (hr7:r7=_) (hr8:r8=_) (hr9:r9=_) (hr10:r10=_) (hr11:r11=_) (hr12:r12=_) (hr13:r13=_)
 have hx:=hm.2.1
 refine ⟨fun h=>?_,fun h=>?_⟩
 ·have hL:bh m e=1:=by unfold bh;rw [h];rfl
  have hY:ab m e=m:=by unfold ab;rw [hL];rfl
  rw [hL,hY]
 ·have h2:m.Stage=2:=by simpa using h
  rcases FT hv h2 with hS|hS
  ·have hS:cS m (m.Innings.length:Int)=1:=hS
   have e5:r5=true:=by rw [hr5,hr1,hS];rfl
   have hX:r2=yl m:=by rw [hr2];unfold yl uR cM;rw [hS];rfl
   have e8:r8 =(qn m != 0):=by rw [hr8];unfold qn uR cM;rw [hS];rfl
   have hI:ah r2:=by rw [hr2];exact mJ _ _ _ _
   have hA :(m.Innings.length+r10.length)*304≤70368744177664:=by rw [hr10];simp only [List.length_singleton];omega
   have hq :(0≤(0:Int)∧(0:Int) <((2:Nat):Int)):=by decide
   have c1:r8=true→bh m e=1∧ab m e=m:=fun a=>by
    have hL:bh m e=1:=by unfold bh;rw [h,←e8,a];rfl
    exact ⟨hL,by unfold ab;rw [hL];rfl⟩
   have c2:r8=false→r12=true→bh m e=r4∧ab m e=m:=fun a b=>by
    have hL:bh m e=r4:=by unfold bh;rw [h,←e8,a,hr4,hX];rfl
    exact ⟨hL,by unfold ab;rw [hL,←hr12,b];rfl⟩
   have c3:r8=false→r12=false→bh m e=0∧ab m e=rU m e:=fun a b=>by
    have hL:bh m e=r4:=by unfold bh;rw [h,←e8,a,hr4,hX];rfl
    have hL0:bh m e=0:=by rw [hL];rw [hr12] at b;simpa using b
    exact ⟨hL0,by unfold ab;rw [hL0];rfl⟩
   subst e5
   refine ⟨fun _=>⟨hq,fun a=>?_,fun a=>⟨hI,fun b=>?_,fun b=>⟨fun _=>⟨hq,hA,?_⟩,fun z=>Bool.noConfusion z⟩⟩⟩,fun z=>Bool.noConfusion z⟩
   ·rw [(c1 a).1,(c1 a).2]
   ·rw [(c2 a b).1,(c2 a b).2]
   ·rw [(c3 a b).1,(c3 a b).2];unfold rU ye cM;rw [hS,hr10,hX];rfl
  ·have hS:cS m (m.Innings.length:Int)=2:=hS
   have e5:r5=false:=by rw [hr5,hr1,hS];rfl
   have e6:r6=true:=by rw [hr6,hr1,hS];rfl
   have hX:r3=yl m:=by rw [hr3];unfold yl uR cM;rw [hS];rfl
   have e8:r9 =(qn m != 0):=by rw [hr9];unfold qn uR cM;rw [hS];rfl
   have hI:ah r3:=by rw [hr3];exact mJ _ _ _ _
   have hA :(m.Innings.length+r11.length)*304≤70368744177664:=by rw [hr11];simp only [List.length_singleton];omega
   have hq :(0≤(1:Int)∧(1:Int) <((2:Nat):Int)):=by decide
   have c1:r9=true→bh m e=1∧ab m e=m:=fun a=>by
    have hL:bh m e=1:=by unfold bh;rw [h,←e8,a];rfl
    exact ⟨hL,by unfold ab;rw [hL];rfl⟩
   have c2:r9=false→r13=true→bh m e=r7∧ab m e=m:=fun a b=>by
    have hL:bh m e=r7:=by unfold bh;rw [h,←e8,a,hr7,hX];rfl
    exact ⟨hL,by unfold ab;rw [hL,←hr13,b];rfl⟩
   have c3:r9=false→r13=false→bh m e=0∧ab m e=rU m e:=fun a b=>by
    have hL:bh m e=r7:=by unfold bh;rw [h,←e8,a,hr7,hX];rfl
    have hL0:bh m e=0:=by rw [hL];rw [hr13] at b;simpa using b
    exact ⟨hL0,by unfold ab;rw [hL0];rfl⟩
   subst e5 e6
   refine ⟨fun z=>Bool.noConfusion z,fun _=>⟨fun _=>⟨hq,fun a=>?_,fun a=>⟨hI,fun b=>?_,fun b=>⟨fun z=>Bool.noConfusion z,fun _=>⟨fun _=>⟨hq,hA,?_⟩,fun z=>Bool.noConfusion z⟩⟩⟩⟩,fun z=>Bool.noConfusion z⟩⟩
   ·rw [(c1 a).1,(c1 a).2]
   ·rw [(c2 a b).1,(c2 a b).2]
   ·rw [(c3 a b).1,(c3 a b).2];unfold rU ye cM;rw [hS,hr11,hX];rfl
def GF:FuncId×Ctr:=(67,af KE qPE zJ Cc)
theorem JL:CtrOK Tryz.prog KE 67 (af KE qPE zJ Cc):=by
 refine ar (C:=al [wn,yT,C5,wl] Tryz.f67) (aj (.consU zj rfl (.consU EW rfl (.consU Hc rfl (.consU Dx rfl .nil)))) _) mixed (fn:=Tryz.f67) Tryz.func67 (by kernel_rfl) (by kernel_rfl) (by kernel_rfl) (by kernel_rfl) (by kernel_rfl) (by kernel_rfl) (Λ:=fun _ _=>none) ?_ ?_
 ·exact fun _ _ _ _ _ _ _ _ h=>by cases h
 ·rintro ⟨e,v1,v2,v3,v4,v5,v6,v7,v8,v9,v10,v11,v12,v13,v14,v15,v16,v17,v18,v19,v20,v21,v22,xs,⟨⟩⟩ hw hn
  exact HY (mkM v1 v2 v3 v4 v5 v6 v7 v8 v9 v10 v11 v12 v13 v14 v15 v16 v17 v18 v19 v20 v21 v22 xs) e (hn _ List.mem_cons_self) (hn _ (List.mem_cons_of_mem _ List.mem_cons_self))
theorem HZ (m:Match) (e:Mir.Event) (hm:aD m) (hv:aQ m=true) (he:be e=0) :(evPat (al [wl,Da] Tryz.f69) (fun _=>none) Tryz.f69 qPE qPL (e,m.Rules.Name,m.Rules.Side,m.Rules.Innings,m.Rules.Overs,m.Rules.Balls,m.Rules.Quota,m.Rules.Wide,m.Rules.NoBall,m.Rules.FreeHit,m.Rules.NewBall,m.Rules.FollowOn,m.Rules.Reviews,m.Rules.Outside,m.Rules.Power,m.Stage,m.First,m.Follow,m.Penalty.1,m.Penalty.2.1,m.Result.Win,m.Result.Side,m.Result.Margin,m.Innings,())).sat fun z_=>z_ =(Cg (e,m.Rules.Name,m.Rules.Side,m.Rules.Innings,m.Rules.Overs,m.Rules.Balls,m.Rules.Quota,m.Rules.Wide,m.Rules.NoBall,m.Rules.FreeHit,m.Rules.NewBall,m.Rules.FollowOn,m.Rules.Reviews,m.Rules.Outside,m.Rules.Power,m.Stage,m.First,m.Follow,m.Penalty.1,m.Penalty.2.1,m.Result.Win,m.Result.Side,m.Result.Margin,m.Innings,())).2:=by
 refine cast (by kernel_rfl) (?_:let r1:Int:=IntKind.i64.wrap ((↑m.5.length:Int) - (1:Int));let r2:Innings:=m.5.getD r1.toNat (dflt (Ty.nm Nm.Innings));let r3:Int:=cU m.1 r2 e;let r4:Innings:=dP m.1 r2 e;let r5:Bool:=r3 !=(0:Int);let r6:Bool:=bif e.1 ==(13:Int) then e.2 != r4.1 else false;let r7:List Innings:=m.5.set r1.toNat r4;let r8:Match:=Match.mk m.1 m.2 m.3 m.4 r7 m.6 m.7;let r9:Match:=ao r8 e.2;((m.2 !=(3:Int))=true→((1:Int),m.1.1,m.1.2,m.1.3,m.1.4,m.1.5,m.1.6,m.1.7,m.1.8,m.1.9,m.1.10,m.1.11,m.1.12,m.1.13,m.1.14,m.2,m.3,m.4,m.6.1,m.6.2.1,m.7.1,m.7.2,m.7.3,m.5,()) =(dL m e,(ak m e).1.1,(ak m e).1.2,(ak m e).1.3,(ak m e).1.4,(ak m e).1.5,(ak m e).1.6,(ak m e).1.7,(ak m e).1.8,(ak m e).1.9,(ak m e).1.10,(ak m e).1.11,(ak m e).1.12,(ak m e).1.13,(ak m e).1.14,(ak m e).2,(ak m e).3,(ak m e).4,(ak m e).6.1,(ak m e).6.2.1,(ak m e).7.1,(ak m e).7.2,(ak m e).7.3,(ak m e).5,()))∧((m.2 !=(3:Int))=false→((0:Int)≤r1∧r1 <(↑m.5.length:Int))∧ah r2∧(r5=true→(r3,m.1.1,m.1.2,m.1.3,m.1.4,m.1.5,m.1.6,m.1.7,m.1.8,m.1.9,m.1.10,m.1.11,m.1.12,m.1.13,m.1.14,m.2,m.3,m.4,m.6.1,m.6.2.1,m.7.1,m.7.2,m.7.3,m.5,()) =(dL m e,(ak m e).1.1,(ak m e).1.2,(ak m e).1.3,(ak m e).1.4,(ak m e).1.5,(ak m e).1.6,(ak m e).1.7,(ak m e).1.8,(ak m e).1.9,(ak m e).1.10,(ak m e).1.11,(ak m e).1.12,(ak m e).1.13,(ak m e).1.14,(ak m e).2,(ak m e).3,(ak m e).4,(ak m e).6.1,(ak m e).6.2.1,(ak m e).7.1,(ak m e).7.2,(ak m e).7.3,(ak m e).5,()))∧(r5=false→((0:Int)≤r1∧r1 <(↑m.5.length:Int))∧((r6=true→aD r8∧i6 e.2∧True)∧(r6=false→True))∧(true=true→((0:Int),bif r6 then r9.1.1 else m.1.1,bif r6 then r9.1.2 else m.1.2,bif r6 then r9.1.3 else m.1.3,bif r6 then r9.1.4 else m.1.4,bif r6 then r9.1.5 else m.1.5,bif r6 then r9.1.6 else m.1.6,bif r6 then r9.1.7 else m.1.7,bif r6 then r9.1.8 else m.1.8,bif r6 then r9.1.9 else m.1.9,bif r6 then r9.1.10 else m.1.10,bif r6 then r9.1.11 else m.1.11,bif r6 then r9.1.12 else m.1.12,bif r6 then r9.1.13 else m.1.13,bif r6 then r9.1.14 else m.1.14,bif r6 then r9.2 else m.2,bif r6 then r9.3 else m.3,bif r6 then r9.4 else m.4,bif r6 then r9.6.1 else m.6.1,bif r6 then r9.6.2.1 else m.6.2.1,bif r6 then r9.7.1 else m.7.1,bif r6 then r9.7.2 else m.7.2,bif r6 then r9.7.3 else m.7.3,bif r6 then r9.5 else r7,()) =(dL m e,(ak m e).1.1,(ak m e).1.2,(ak m e).1.3,(ak m e).1.4,(ak m e).1.5,(ak m e).1.6,(ak m e).1.7,(ak m e).1.8,(ak m e).1.9,(ak m e).1.10,(ak m e).1.11,(ak m e).1.12,(ak m e).1.13,(ak m e).1.14,(ak m e).2,(ak m e).3,(ak m e).4,(ak m e).6.1,(ak m e).6.2.1,(ak m e).7.1,(ak m e).7.2,(ak m e).7.3,(ak m e).5,())))))
 intro r1 r2 r3 r4 r5 r6 r7 r8 r9
 clear_value (hr1:r1=_) (hr2:r2=_) (hr3:r3=_) (hr4:r4=_) (hr5:r5=_) (hr6:r6=_) (hr7:r7=_) (hr8:r8=_) (hr9:r9=_)
 have hx:=hm.2.1
 refine ⟨fun h=>?_,fun h=>?_⟩
 ·have hL:dL m e=1:=by unfold dL;rw [h];rfl
  have hY:ak m e=m:=by unfold ak;rw [hL];rfl
  rw [hL,hY]
 ·have h3:m.Stage=3:=by simpa using h
  have h0:=fS hv h3
  have e0:r1 =(m.Innings.length:Int) - 1:=by rw [hr1];exact bb (by omega) (by omega)
  have e1:r1.toNat=m.Innings.length - 1:=by omega
  have e2:r2=bI m:=by rw [hr2,e1];rfl
  have hL:dL m e=r3:=by unfold dL;rw [h,hr3,e2];rfl
  have e8:r8=sg m e:=by rw [hr8,hr7,hr4,e1,e2];rfl
  have e6:r6=AG m e:=by rw [hr6,hr4,e2];unfold AG;cases e.Kind==13 <;> rfl
  have hb:0≤r1∧r1 <(m.Innings.length:Int):=⟨by omega,by omega⟩
  refine ⟨hb,by rw [e2];exact jw hm.1,fun a=>?_,fun a=>⟨hb,⟨fun b=>⟨?_,?_,trivial⟩,fun _=>trivial⟩,fun _=>?_⟩⟩
  ·have hY:ak m e=m:=by unfold ak;rw [hL,←hr5,a];rfl
   rw [hL,hY]
  ·rw [e8]
   refine ⟨vf hm.1 _ (lC _ (jw hm.1)),?_,hm.2.2⟩
   show (m.Innings.set _ _).length≤_
   rw [List.length_set];exact hx
  ·refine F8 he ?_
   rw [hr6] at b
   cases hk:e.Kind==13 with
   | false=>rw [hk] at b;cases b
   | true=>rw [eq_of_beq hk];rfl
  ·have hL0:dL m e=0:=by rw [hL];rw [hr5] at a;simpa using a
   have hY:ak m e=if r6 then ao r8 e.Side else r8:=by unfold ak;rw [hL0,e6,e8];rfl
   rw [hL0,hY,hr9]
   cases r6 with
   | true=>rfl
   | false=>rw [hr8];rfl
def GG:FuncId×Ctr:=(69,af KE qPE qPL Cg)
theorem JM:CtrOK Tryz.prog KE 69 (af KE qPE qPL Cg):=by
 refine ar (C:=al [wl,Da] Tryz.f69) (aj (.consU Dx rfl (.consU Hh rfl .nil)) _) mixed (fn:=Tryz.f69) Tryz.func69 (by kernel_rfl) (by kernel_rfl) (by kernel_rfl) (by kernel_rfl) (by kernel_rfl) (by kernel_rfl) (Λ:=fun _ _=>none) ?_ ?_
 ·exact fun _ _ _ _ _ _ _ _ h=>by cases h
 ·rintro ⟨e,v1,v2,v3,v4,v5,v6,v7,v8,v9,v10,v11,v12,v13,v14,v15,v16,v17,v18,v19,v20,v21,v22,xs,⟨⟩⟩ hw hn
  exact HZ (mkM v1 v2 v3 v4 v5 v6 v7 v8 v9 v10 v11 v12 v13 v14 v15 v16 v17 v18 v19 v20 v21 v22 xs) e (hn _ List.mem_cons_self) (hn _ (List.mem_cons_of_mem _ List.mem_cons_self)) (hn _ (List.mem_cons_of_mem _ (List.mem_cons_of_mem _ List.mem_cons_self)))
theorem Ak (m:Match) (e:Mir.Event) (hm:aD m) (hv:aQ m=true) (he:be e=0) :(evPat (al [f0,GF,GI,GG] Tryz.f46) (fun _=>none) Tryz.f46 qPE zJ (e,m.Rules.Name,m.Rules.Side,m.Rules.Innings,m.Rules.Overs,m.Rules.Balls,m.Rules.Quota,m.Rules.Wide,m.Rules.NoBall,m.Rules.FreeHit,m.Rules.NewBall,m.Rules.FollowOn,m.Rules.Reviews,m.Rules.Outside,m.Rules.Power,m.Stage,m.First,m.Follow,m.Penalty.1,m.Penalty.2.1,m.Result.Win,m.Result.Side,m.Result.Margin,m.Innings,())).sat fun z_=>z_ =(Ce (e,m.Rules.Name,m.Rules.Side,m.Rules.Innings,m.Rules.Overs,m.Rules.Balls,m.Rules.Quota,m.Rules.Wide,m.Rules.NoBall,m.Rules.FreeHit,m.Rules.NewBall,m.Rules.FollowOn,m.Rules.Reviews,m.Rules.Outside,m.Rules.Power,m.Stage,m.First,m.Follow,m.Penalty.1,m.Penalty.2.1,m.Result.Win,m.Result.Side,m.Result.Margin,m.Innings,())).2:=by
 refine cast (by kernel_rfl) (?_ :(((e.1 ==(1:Int))=true→((m.2 !=(1:Int))=true→((1:Int),m.1.1,m.1.2,m.1.3,m.1.4,m.1.5,m.1.6,m.1.7,m.1.8,m.1.9,m.1.10,m.1.11,m.1.12,m.1.13,m.1.14,m.2,m.3,m.4,m.6.1,m.6.2.1,m.7.1,m.7.2,m.7.3,m.5,()) =(bo m e,(ag m e).1.1,(ag m e).1.2,(ag m e).1.3,(ag m e).1.4,(ag m e).1.5,(ag m e).1.6,(ag m e).1.7,(ag m e).1.8,(ag m e).1.9,(ag m e).1.10,(ag m e).1.11,(ag m e).1.12,(ag m e).1.13,(ag m e).1.14,(ag m e).2,(ag m e).3,(ag m e).4,(ag m e).6.1,(ag m e).6.2.1,(ag m e).7.1,(ag m e).7.2,(ag m e).7.3,(ag m e).5,()))∧((m.2 !=(1:Int))=false→True))∧((e.1 ==(1:Int))=false→((e.1 ==(2:Int))=true→aD m∧aQ m=true∧(bh m e,(ab m e).1.1,(ab m e).1.2,(ab m e).1.3,(ab m e).1.4,(ab m e).1.5,(ab m e).1.6,(ab m e).1.7,(ab m e).1.8,(ab m e).1.9,(ab m e).1.10,(ab m e).1.11,(ab m e).1.12,(ab m e).1.13,(ab m e).1.14,(ab m e).2,(ab m e).3,(ab m e).4,(ab m e).6.1,(ab m e).6.2.1,(ab m e).7.1,(ab m e).7.2,(ab m e).7.3,(ab m e).5,()) =(bo m e,(ag m e).1.1,(ag m e).1.2,(ag m e).1.3,(ag m e).1.4,(ag m e).1.5,(ag m e).1.6,(ag m e).1.7,(ag m e).1.8,(ag m e).1.9,(ag m e).1.10,(ag m e).1.11,(ag m e).1.12,(ag m e).1.13,(ag m e).1.14,(ag m e).2,(ag m e).3,(ag m e).4,(ag m e).6.1,(ag m e).6.2.1,(ag m e).7.1,(ag m e).7.2,(ag m e).7.3,(ag m e).5,()))∧((e.1 ==(2:Int))=false→((e.1 ==(12:Int))=true→((m.2 !=(4:Int))=true→((1:Int),m.1.1,m.1.2,m.1.3,m.1.4,m.1.5,m.1.6,m.1.7,m.1.8,m.1.9,m.1.10,m.1.11,m.1.12,m.1.13,m.1.14,m.2,m.3,m.4,m.6.1,m.6.2.1,m.7.1,m.7.2,m.7.3,m.5,()) =(bo m e,(ag m e).1.1,(ag m e).1.2,(ag m e).1.3,(ag m e).1.4,(ag m e).1.5,(ag m e).1.6,(ag m e).1.7,(ag m e).1.8,(ag m e).1.9,(ag m e).1.10,(ag m e).1.11,(ag m e).1.12,(ag m e).1.13,(ag m e).1.14,(ag m e).2,(ag m e).3,(ag m e).4,(ag m e).6.1,(ag m e).6.2.1,(ag m e).7.1,(ag m e).7.2,(ag m e).7.3,(ag m e).5,()))∧((m.2 !=(4:Int))=false→((e.2 != m.3)=true→((2:Int),m.1.1,m.1.2,m.1.3,m.1.4,m.1.5,m.1.6,m.1.7,m.1.8,m.1.9,m.1.10,m.1.11,m.1.12,m.1.13,m.1.14,m.2,m.3,m.4,m.6.1,m.6.2.1,m.7.1,m.7.2,m.7.3,m.5,()) =(bo m e,(ag m e).1.1,(ag m e).1.2,(ag m e).1.3,(ag m e).1.4,(ag m e).1.5,(ag m e).1.6,(ag m e).1.7,(ag m e).1.8,(ag m e).1.9,(ag m e).1.10,(ag m e).1.11,(ag m e).1.12,(ag m e).1.13,(ag m e).1.14,(ag m e).2,(ag m e).3,(ag m e).4,(ag m e).6.1,(ag m e).6.2.1,(ag m e).7.1,(ag m e).7.2,(ag m e).7.3,(ag m e).5,()))∧((e.2 != m.3)=false→True)))∧((e.1 ==(12:Int))=false→((e.1 ==(16:Int))=true→aD m∧iD m∧True)∧((e.1 ==(16:Int))=false→aD m∧aQ m=true∧be e =(0:Int)∧(dL m e,(ak m e).1.1,(ak m e).1.2,(ak m e).1.3,(ak m e).1.4,(ak m e).1.5,(ak m e).1.6,(ak m e).1.7,(ak m e).1.8,(ak m e).1.9,(ak m e).1.10,(ak m e).1.11,(ak m e).1.12,(ak m e).1.13,(ak m e).1.14,(ak m e).2,(ak m e).3,(ak m e).4,(ak m e).6.1,(ak m e).6.2.1,(ak m e).7.1,(ak m e).7.2,(ak m e).7.3,(ak m e).5,()) =(bo m e,(ag m e).1.1,(ag m e).1.2,(ag m e).1.3,(ag m e).1.4,(ag m e).1.5,(ag m e).1.6,(ag m e).1.7,(ag m e).1.8,(ag m e).1.9,(ag m e).1.10,(ag m e).1.11,(ag m e).1.12,(ag m e).1.13,(ag m e).1.14,(ag m e).2,(ag m e).3,(ag m e).4,(ag m e).6.1,(ag m e).6.2.1,(ag m e).7.1,(ag m e).7.2,(ag m e).7.3,(ag m e).5,()))))))∧((bif e.1 ==(1:Int) then !m.2 !=(1:Int) else bif e.1 ==(2:Int) then false else bif e.1 ==(12:Int) then bif m.2 !=(4:Int) then false else !e.2 != m.3 else e.1 ==(16:Int))=true→((0:Int),bif e.1 ==(1:Int) then bif e.5 then m.1.1 else m.1.1 else bif e.1 ==(12:Int) then m.1.1 else (bp m).1.1,bif e.1 ==(1:Int) then bif e.5 then m.1.2 else m.1.2 else bif e.1 ==(12:Int) then m.1.2 else (bp m).1.2,bif e.1 ==(1:Int) then bif e.5 then m.1.3 else m.1.3 else bif e.1 ==(12:Int) then m.1.3 else (bp m).1.3,bif e.1 ==(1:Int) then bif e.5 then m.1.4 else m.1.4 else bif e.1 ==(12:Int) then m.1.4 else (bp m).1.4,bif e.1 ==(1:Int) then bif e.5 then m.1.5 else m.1.5 else bif e.1 ==(12:Int) then m.1.5 else (bp m).1.5,bif e.1 ==(1:Int) then bif e.5 then m.1.6 else m.1.6 else bif e.1 ==(12:Int) then m.1.6 else (bp m).1.6,bif e.1 ==(1:Int) then bif e.5 then m.1.7 else m.1.7 else bif e.1 ==(12:Int) then m.1.7 else (bp m).1.7,bif e.1 ==(1:Int) then bif e.5 then m.1.8 else m.1.8 else bif e.1 ==(12:Int) then m.1.8 else (bp m).1.8,bif e.1 ==(1:Int) then bif e.5 then m.1.9 else m.1.9 else bif e.1 ==(12:Int) then m.1.9 else (bp m).1.9,bif e.1 ==(1:Int) then bif e.5 then m.1.10 else m.1.10 else bif e.1 ==(12:Int) then m.1.10 else (bp m).1.10,bif e.1 ==(1:Int) then bif e.5 then m.1.11 else m.1.11 else bif e.1 ==(12:Int) then m.1.11 else (bp m).1.11,bif e.1 ==(1:Int) then bif e.5 then m.1.12 else m.1.12 else bif e.1 ==(12:Int) then m.1.12 else (bp m).1.12,bif e.1 ==(1:Int) then bif e.5 then m.1.13 else m.1.13 else bif e.1 ==(12:Int) then m.1.13 else (bp m).1.13,bif e.1 ==(1:Int) then bif e.5 then m.1.14 else m.1.14 else bif e.1 ==(12:Int) then m.1.14 else (bp m).1.14,bif e.1 ==(1:Int) then (2:Int) else bif e.1 ==(12:Int) then (2:Int) else (5:Int),bif e.1 ==(1:Int) then bif e.5 then e.2 else dz e.2 else bif e.1 ==(12:Int) then m.3 else (bp m).3,bif e.1 ==(1:Int) then bif e.5 then m.4 else m.4 else bif e.1 ==(12:Int) then e.5 else (bp m).4,bif e.1 ==(1:Int) then bif e.5 then m.6.1 else m.6.1 else bif e.1 ==(12:Int) then m.6.1 else (bp m).6.1,bif e.1 ==(1:Int) then bif e.5 then m.6.2.1 else m.6.2.1 else bif e.1 ==(12:Int) then m.6.2.1 else (bp m).6.2.1,bif e.1 ==(1:Int) then bif e.5 then m.7.1 else m.7.1 else bif e.1 ==(12:Int) then m.7.1 else dQ m.1,bif e.1 ==(1:Int) then bif e.5 then m.7.2 else m.7.2 else bif e.1 ==(12:Int) then m.7.2 else (0:Int),bif e.1 ==(1:Int) then bif e.5 then m.7.3 else m.7.3 else bif e.1 ==(12:Int) then m.7.3 else (0:Int),bif e.1 ==(1:Int) then m.5 else bif e.1 ==(12:Int) then m.5 else (bp m).5,()) =(bo m e,(ag m e).1.1,(ag m e).1.2,(ag m e).1.3,(ag m e).1.4,(ag m e).1.5,(ag m e).1.6,(ag m e).1.7,(ag m e).1.8,(ag m e).1.9,(ag m e).1.10,(ag m e).1.11,(ag m e).1.12,(ag m e).1.13,(ag m e).1.14,(ag m e).2,(ag m e).3,(ag m e).4,(ag m e).6.1,(ag m e).6.2.1,(ag m e).7.1,(ag m e).7.2,(ag m e).7.3,(ag m e).5,())))
 simp only [Bool.cond_self] at *
 have ho:iD m:=fun h=>fS hv h
 refine ⟨⟨fun k1=>⟨fun a=>?_,fun _=>trivial⟩,fun n1=>⟨fun k2=>⟨hm,hv,?_⟩,fun n2=>⟨fun k12=>⟨fun a=>?_,fun a=>⟨fun b=>?_,fun _=>trivial⟩⟩,fun n12=>⟨fun k16=>⟨hm,ho,trivial⟩,fun n16=>⟨hm,hv,he,?_⟩⟩⟩⟩⟩,fun g=>?_⟩
 ·have hL:bo m e=1:=by unfold bo;rw [k1,a];rfl
  have hY:ag m e=m:=by unfold ag;rw [hL];rfl
  rw [hL,hY]
 ·have hL:bo m e=bh m e:=by unfold bo;rw [n1,k2];rfl
  have hY:ag m e=ab m e:=by
   unfold ag jQ;rw [hL,n1,k2]
   cases h:bh m e != 0 with
   | true=>rw [Hk h];rfl
   | false=>rfl
  rw [hL,hY]
 ·have hL:bo m e=1:=by unfold bo;rw [n1,n2,k12,a];rfl
  have hY:ag m e=m:=by unfold ag;rw [hL];rfl
  rw [hL,hY]
 ·have hL:bo m e=2:=by unfold bo;rw [n1,n2,k12,a,b];rfl
  have hY:ag m e=m:=by unfold ag;rw [hL];rfl
  rw [hL,hY]
 ·have hL:bo m e=dL m e:=by unfold bo;rw [n1,n2,n12,n16];rfl
  have hY:ag m e=ak m e:=by
   unfold ag jQ;rw [hL,n1,n2,n12,n16]
   cases h:dL m e != 0 with
   | true=>rw [Hp h];rfl
   | false=>rfl
  rw [hL,hY]
 ·cases k1:e.Kind==1 with
  | true=>
   rw [k1] at g
   simp only [cond_true,Bool.not_eq_true'] at g
   have hL:bo m e=0:=by unfold bo;rw [k1,g];rfl
   have hY:ag m e=IL m e:=by unfold ag jQ;rw [hL,k1];rfl
   rw [hL,hY];unfold IL;cases e.Yes <;> rfl
  | false=>
   rw [k1] at g
   cases k2:e.Kind==2 with
   | true=>rw [k2] at g;cases g
   | false=>
    rw [k2] at g
    cases k12:e.Kind==12 with
    | true=>
     rw [k12] at g
     simp only [cond_true,cond_false] at g
     cases a:m.Stage != 4 with
     | true=>rw [a] at g;cases g
     | false=>
      rw [a] at g
      simp only [cond_false,Bool.not_eq_true'] at g
      have hL:bo m e=0:=by unfold bo;rw [k1,k2,k12,a,g];rfl
      have hY:ag m e=CJ m e:=by unfold ag jQ;rw [hL,k1,k2,k12];rfl
      rw [hL,hY];rfl
    | false=>
     rw [k12] at g
     have hL:bo m e=0:=by
      have g :(e.Kind==16)=true:=g
      unfold bo;rw [k1,k2,k12,g];rfl
     have hY:ag m e=dq m:=by
      have g :(e.Kind==16)=true:=g
      unfold ag jQ;rw [hL,k1,k2,k12,g];rfl
     rw [hL,hY];rfl
def uC:FuncId×Ctr:=(46,af KE qPE zJ Ce)
theorem Bu:CtrOK Tryz.prog KE 46 (af KE qPE zJ Ce):=by
 refine ar (C:=al [f0,GF,GI,GG] Tryz.f46) (aj (.consU li rfl (.consU JL rfl (.consU JO rfl (.consU JM rfl .nil)))) _) mixed (fn:=Tryz.f46) Tryz.func46 (by kernel_rfl) (by kernel_rfl) (by kernel_rfl) (by kernel_rfl) (by kernel_rfl) (by kernel_rfl) (Λ:=fun _ _=>none) ?_ ?_
 ·exact fun _ _ _ _ _ _ _ _ h=>by cases h
 ·rintro ⟨e,v1,v2,v3,v4,v5,v6,v7,v8,v9,v10,v11,v12,v13,v14,v15,v16,v17,v18,v19,v20,v21,v22,xs,⟨⟩⟩ hw hn
  exact Ak (mkM v1 v2 v3 v4 v5 v6 v7 v8 v9 v10 v11 v12 v13 v14 v15 v16 v17 v18 v19 v20 v21 v22 xs) e (hn _ List.mem_cons_self) (hn _ (List.mem_cons_of_mem _ List.mem_cons_self)) (hn _ (List.mem_cons_of_mem _ (List.mem_cons_of_mem _ List.mem_cons_self)))
end Go.Proofs.YtkgplaoappjkcaaGreat
namespace Go.Proofs.YtkgplaoappjkcaaGreat
open Go Go.Mir
attribute [local irreducible] Go.Mir.DT.sat Go.Mir.evPat Go.Mir.RT.sat Go.Mir.evFn
abbrev qME:Pat:=bG [.nm .Match,.nm .Event]
def Ck:Den (tyP qME)→List Prop×Den (tyP pO):=fun x=>([aD x.1],(bd x.1 x.2.1,ba x.1 x.2.1,()))
theorem A4 {l:List Innings} (h:fQ l) (k:Nat):ah (l.getD k Innings.zero):=by
 by_cases hl:k<l.length
 ·exact h _ (eg hl _)
 ·rw [List.getD_eq_getElem?_getD,List.getElem?_eq_none (by omega)];simp [ah,Innings.zero]
theorem nh {m:Match} (h:aD m) (k:Nat) {x:Innings} (hx:ah x):aD (Fy m k x):=
 ⟨vf h.1 k hx,by show (m.Innings.set k x).length≤_;rw [List.length_set];exact h.2.1,h.2.2⟩
theorem vx {m:Match} (h:aD m) (s:Int):aD (ao m s):=by
 unfold ao
 cases iG s m.Innings m.Innings.length with
 | some k=>exact nh h k (Cr (A4 h.1 k))
 | none=>exact h
theorem Ej (m:Match) (s:Int) :(ao m s).Innings.length=m.Innings.length:=by
 unfold ao
 cases iG s m.Innings m.Innings.length with
 | some k=>exact List.length_set
 | none=>rfl
theorem yj (m:Match) (s:Int) :(ao m s).Stage=m.Stage:=by
 unfold ao
 cases iG s m.Innings m.Innings.length <;> rfl
theorem zz {m:Match} (e:Mir.Event) (h:aD m):aD (ak m e):=by
 have h1:aD (sg m e):=nh h _ (lC e (jw h.1))
 unfold ak
 split
 ·exact h
 ·split
  ·exact vx h1 _
  ·exact h1
theorem zy (m:Match) (e:Mir.Event) :(ak m e).Innings.length=m.Innings.length:=by
 have h1 :(sg m e).Innings.length=m.Innings.length:=List.length_set
 unfold ak
 split
 ·rfl
 ·split
  ·rw [Ej,h1]
  ·exact h1
theorem BD (m:Match) (e:Mir.Event) :(ak m e).Stage=m.Stage:=by
 unfold ak
 split
 ·rfl
 ·split
  ·rw [yj];rfl
  ·rfl
theorem px {m:Match} (e:Mir.Event) (h:aD m) (hv:aQ m=true):aD (ag m e):=by
 unfold ag
 split
 ·exact h
 ·unfold jQ
  split
  ·exact h
  ·split
   ·unfold ab
    split
    ·exact h
    ·refine ⟨Fz h.1 (lC e (mJ _ _ _ _)),?_,h.2.2⟩
     show (m.Innings++[_]).length≤_
     have:=(vq hv).2
     rw [List.length_append,List.length_singleton];omega
   ·split
    ·exact h
    ·split
     ·have h2:aD (bp m):=by
       unfold bp
       split
       ·exact nh h _ (show ah { bI m with Ending:=5 } from jw h.1)
       ·exact h
      exact h2
     ·exact zz e h
theorem wK {m:Match} (e:Mir.Event) (hv:aQ m=true):iD (ag m e):=by
 unfold ag
 split
 ·exact fun h=>fS hv h
 ·unfold jQ
  split
  ·exact fun h=>absurd (show (2:Int)=3 from h) (by decide)
  ·split
   ·unfold ab
    split
    ·exact fun h=>fS hv h
    ·intro _
     show 0 <(m.Innings++[_]).length
     rw [List.length_append,List.length_singleton];omega
   ·split
    ·exact fun h=>absurd (show (2:Int)=3 from h) (by decide)
    ·split
     ·exact fun h=>absurd (show (5:Int)=3 from h) (by decide)
     ·intro h
      rw [BD] at h
      rw [zy]
      exact fS hv h
theorem qr (m:Match) :(am m).Innings=m.Innings:=by
 unfold am
 split
 ·rfl
 ·split
  ·rfl
  ·split <;> rfl
theorem ym (m:Match) :(am m).Rules=m.Rules:=by
 unfold am
 split
 ·rfl
 ·split
  ·rfl
  ·split <;> rfl
theorem vD {m:Match} (h:aD m):aD (am m):=by
 unfold aD i7
 rw [qr,ym]
 exact h
theorem nj {m:Match} {e:Mir.Event} (h:ba m e=0):aQ m=true∧be e=0∧bo m e=0:=by
 unfold ba at h
 split at h
 ·cases h
 ·rename_i h1
  simp only [Bool.or_eq_true,Bool.not_eq_true',bne_iff_ne,ne_eq,not_or,Bool.not_eq_false,Decidable.not_not] at h1
  split at h
  ·cases h
  ·exact ⟨h1.1,h1.2,h⟩
theorem gm {m:Match} (e:Mir.Event) (h:aD m):aD (bd m e):=by
 unfold bd
 split
 ·exact h
 ·rename_i h1
  exact vD (px e h (nj (by simpa using h1)).1)
theorem sX {m:Match} {e:Mir.Event} (h :(ba m e != 0)=true):bd m e=m:=by simp only [bd,h,if_true]
theorem vh {m:Match} {e:Mir.Event} (h:ba m e=0) (hk:e.Kind=4):0<m.Innings.length∧(bd m e).Innings.length=m.Innings.length:=by
 obtain ⟨hv,he,hp⟩:=nj h
 have h1:bo m e=dL m e:=by unfold bo;rw [hk];rfl
 have h3:m.Stage=3:=by
  rw [h1] at hp
  unfold dL at hp
  cases h3:m.Stage != 3 with
  | true=>rw [h3] at hp;cases hp
  | false=>simpa using h3
 refine ⟨fS hv h3,?_⟩
 have h2:bd m e=am (ag m e):=by unfold bd;rw [h];rfl
 have h4:ag m e=ak m e:=by unfold ag jQ;rw [hp,hk];rfl
 rw [h2,qr,h4,zy]
theorem H4 (m:Match) (e:Mir.Event) (hm:aD m) :(evPat (al [p6,p8,jG,uC,kX] Tryz.f29) (fun _=>none) Tryz.f29 qME pO (m,e,())).sat fun z_=>z_ =(Ck (m,e,())).2:=by
 refine cast (by kernel_rfl) (?_:let r1:Bool:=bif !aQ m then true else be e !=(0:Int);(i7 m∧((!aQ m)=true→True)∧((!aQ m)=false→True))∧(true=true→(r1=true→aD m∧(m,(1:Int),()) =(bd m e,ba m e,()))∧(r1=false→((m.2 ==(5:Int))=true→aD m∧(m,(26:Int),()) =(bd m e,ba m e,()))∧((m.2 ==(5:Int))=false→aD m∧aD m∧aQ m=true∧be e =(0:Int)∧((bo m e !=(0:Int))=true→aD m∧(m,bo m e,()) =(bd m e,ba m e,()))∧((bo m e !=(0:Int))=false→aD (ag m e)∧iD (ag m e)∧(am (ag m e),(0:Int),()) =(bd m e,ba m e,()))))))
 intro r1
 clear_value (hr1:r1=_)
 have e1:r1 =(!aQ m||be e != 0):=by rw [hr1];cases aQ m <;> rfl
 have hq:r1=false→aQ m=true∧be e=0:=fun h=>by rw [e1] at h;simpa using h
 refine ⟨⟨hm.1,fun _=>trivial,fun _=>trivial⟩,fun _=>⟨fun a=>⟨hm,?_⟩,fun a=>⟨fun b=>⟨hm,?_⟩,fun b=>⟨hm,hm,(hq a).1,(hq a).2,fun c=>⟨hm,?_⟩,fun c=>⟨px e hm (hq a).1,wK e (hq a).1,?_⟩⟩⟩⟩⟩
 ·have hL:ba m e=1:=by unfold ba;rw [←e1,a];rfl
  rw [sX (by rw [hL];rfl),hL]
 ·have hL:ba m e=26:=by unfold ba;rw [←e1,a,b];rfl
  rw [sX (by rw [hL];rfl),hL]
 ·have hL:ba m e=bo m e:=by unfold ba;rw [←e1,a,b];rfl
  rw [sX (by rw [hL];exact c),hL]
 ·have hL:ba m e=bo m e:=by unfold ba;rw [←e1,a,b];rfl
  have h0:bo m e=0:=by simpa using c
  have hY:bd m e=am (ag m e):=by unfold bd;rw [hL,c];rfl
  rw [hY,hL,h0]
def mW:FuncId×Ctr:=(29,af KE qME pO Ck)
theorem qc:CtrOK Tryz.prog KE 29 (af KE qME pO Ck):=by
 refine ar (C:=al [p6,p8,jG,uC,kX] Tryz.f29) (aj (.consU zh rfl (.consU zk rfl (.consU nR rfl (.consU Bu rfl (.consU pK rfl .nil))))) _) mixed (fn:=Tryz.f29) Tryz.func29 (by kernel_rfl) (by kernel_rfl) (by kernel_rfl) (by kernel_rfl) (by kernel_rfl) (by kernel_rfl) (Λ:=fun _ _=>none) ?_ ?_
 ·exact fun _ _ _ _ _ _ _ _ h=>by cases h
 ·rintro ⟨m,e,⟨⟩⟩ hw hn
  exact H4 m e (hn _ List.mem_cons_self)
end Go.Proofs.YtkgplaoappjkcaaGreat
namespace Go.Proofs.YtkgplaoappjkcaaGreat
open Go Go.Mir
attribute [local irreducible] Go.Mir.DT.sat Go.Mir.evPat Go.Mir.RT.sat Go.Mir.evFn
end Go.Proofs.YtkgplaoappjkcaaGreat
namespace Go.Proofs.YtkgplaoappjkcaaGreat
open Go Go.Mir
attribute [local irreducible] Go.Mir.DT.sat Go.Mir.evPat Go.Mir.RT.sat Go.Mir.evFn
end Go.Proofs.YtkgplaoappjkcaaGreat
namespace Go.Proofs.YtkgplaoappjkcaaGreat
open Go Go.Mir
attribute [local irreducible] Go.Mir.DT.sat Go.Mir.evPat Go.Mir.RT.sat Go.Mir.evFn
end Go.Proofs.YtkgplaoappjkcaaGreat
namespace Go.Proofs.YtkgplaoappjkcaaGreat
open Go Go.Mir
attribute [local irreducible] Go.Mir.DT.sat Go.Mir.evPat Go.Mir.RT.sat Go.Mir.evFn
abbrev Evs:Ty:= .slice (.nm .Event)
abbrev MV:Ty:= .slice (.nm .Delivered)
abbrev Kc:Pat:=bG [.nm .Match,I,.nm .Event]
abbrev J7:Pat:=bG [I,.nm .Match,.nm .Match,.nm .Delivery]
abbrev DS:Pat:=bG [.nm .Delivered]
abbrev qRL:Pat:=bG [.nm .Rules,Evs]
abbrev wN:Pat:=bG [MV,.nm .Match,I,I]
abbrev DQ:Pat:=bG [.nm .Match,I,I]
def kn (m:Match) (i:Int) (e:Mir.Event):Int:=if decide (i≥4000) then 26 else ba m e
def cB (m:Match) (i:Int) (e:Mir.Event):Match:=if decide (i≥4000) then m else bd m e
def sE:Den (tyP Kc)→List Prop×Den (tyP pO):=fun x=>([aD x.1],(cB x.1 x.2.1 x.2.2.1,kn x.1 x.2.1 x.2.2.1,()))
def qv (r:Rules) (i:Int) (a b:Match) (d:Delivery):Delivered:=
 { Event:=i,Innings:=W ((a.Innings.length:Int) - 1),Over:=(bI a).Complete,Ball:=(bI a).InOver,Bowler:=(bI a).Bowler,Striker:=(bI a).Striker,Partner:=(bI a).Other,Free:=(bI a).FreeHit,Delivery:=d,Credit:=bs r d,Runs:=(bI b).Runs,Wickets:=(bI b).Wickets }
def CE (a b:Match):Prop:=Oa a∧b.Innings.length=a.Innings.length
def B6:Den (tyP J7)→List Prop×Den (tyP DS):=fun x=>([CE x.2.1 x.2.2.1],(qv x.2.1.Rules x.1 x.2.1 x.2.2.1 x.2.2.2.1,()))
def AD (r:Rules) (i:Int) (m y:Match) (e:Mir.Event) (o:List Delivered):List Delivered:=if e.Kind==4 then o++[qv r i m y e.Ball] else o
def ij:Match→List Mir.Event→Int→List Delivered→List Delivered×Match×Int×Int
 | m,[],_,o=>(o,m,-1,0)
 | m,e::l,i,o=>if kn m i e != 0 then (o,m,i,kn m i e) else ij (cB m i e) l (i+1) (AD m.Rules i m (cB m i e) e o)
def iB (r:Rules):Match:={ Match.zero with Rules:=r,Stage:=1 }
def aG (r:Rules) (l:List Mir.Event):List Delivered×Match×Int×Int:=if ax r != 0 then ([],Match.zero,0,1) else ij (iB r) l 0 []
def Cf:Den (tyP qRL)→List Prop×Den (tyP wN):=fun x=>([],((aG x.1 x.2.1).1,(aG x.1 x.2.1).2.1,(aG x.1 x.2.1).2.2.1,(aG x.1 x.2.1).2.2.2,()))
def xh:Den (tyP qRL)→List Prop×Den (tyP DQ):=fun x=>([],((aG x.1 x.2.1).2.1,(aG x.1 x.2.1).2.2.1,(aG x.1 x.2.1).2.2.2,()))
abbrev Nb:List (Nat×PB):= [(0,.dat (.nm .Match)),(1,.dat (.nm .Match)),(2,.row 3 (.nm .Delivered))]
abbrev qPy:Pat:=⟨[(5,.c (.ptr 0 0)),(8,.c (.ptr 1 0)),(10,.c (.osl 2 3)),(23,.h Evs),(24,.h I),(25,.h I)],Nb,4⟩
abbrev xPy:List (Lf×Pat):= [(.ret,⟨[(4,.c (.osl 2 3)),(5,.c (.ptr 0 0)),(6,.h I),(7,.h I)],[(0,.dat (.nm .Match)),(2,.row 3 (.nm .Delivered))],4⟩),(.ext 0,⟨[(5,.c (.ptr 0 0)),(8,.c (.ptr 1 0)),(10,.c (.osl 2 3))],Nb,4⟩)]
abbrev TPy:Type:=List Mir.Event×Int×Int×Match×Match×List Delivered×Unit
abbrev OPy:Type:=Sum (Int×Int×Match×List Delivered×Unit) (Match×Match×List Delivered×Unit)
def nz (x:TPy):Prop:=(x.2.1 =(x.1.length:Int)∧0≤x.2.2.1∧x.2.2.1≤x.2.1∧x.1.length≤aI)∧aD x.2.2.2.2.1∧(x.2.2.2.2.2.1.length:Int)≤x.2.2.1∧x.2.2.2.2.2.1.length≤4000
def tK (x:TPy):Nat:=(x.2.1 - x.2.2.1).toNat
def rX (z:Match) (p:List Delivered×Match×Int×Int):OPy:=if p.2.2.2 != 0 then .inl (p.2.2.1,p.2.2.2,p.2.1,p.1,()) else .inr (z,p.2.1,p.1,())
def gA (x:TPy):OPy:=rX x.2.2.2.1 (ij x.2.2.2.2.1 (x.1.drop x.2.2.1.toNat) x.2.2.1 x.2.2.2.2.2.1)
theorem rD {m:Match} (h:aD m) (i:Int) (e:Mir.Event):aD (cB m i e):=by
 unfold cB
 split
 ·exact h
 ·exact gm e h
theorem GN {m:Match} {i:Int} {e:Mir.Event} (h :(kn m i e != 0)=false):i<4000∧ba m e=0:=by
 unfold kn at h
 by_cases hi:i≥4000
 ·rw [if_pos (decide_eq_true hi)] at h;cases h
 ·rw [if_neg (by simpa using hi)] at h
  exact ⟨by omega,by simpa using h⟩
theorem nT :∀ (l:List Mir.Event) (m:Match) (i:Int) (o:List Delivered),(ij m l i o).2.2.2=0→(ij m l i o).2.2.1 = -1
 | [],_,_,_,_=>rfl
 | e::l,m,i,o,h=>by
  unfold ij at h ⊢
  by_cases hc :(kn m i e != 0)=true
  ·rw [if_pos hc] at h
   have h:kn m i e=0:=h
   rw [h] at hc;cases hc
  ·rw [if_neg hc] at h ⊢
   exact nT l _ _ _ h
theorem eQ {r:Rules} (h:ax r=0):aD (iB r):=⟨fun z hz=>(by cases hz),Nat.zero_le _,by have:=o9 h;show r.Power.length≤_;omega⟩
theorem oJ {r:Rules} (h:ax r=0):gG r=iB r:=by unfold gG;rw [h];rfl
theorem HT (m:Match) (i:Int) (e:Mir.Event) (hm:aD m) :(evPat (al [mW] Tryz.f74) (fun _=>none) Tryz.f74 Kc pO (m,i,e,())).sat fun z_=>z_ =(sE (m,i,e,())).2:=by
 refine cast (by kernel_rfl) (?_:let r1:Bool:=decide (i≥(4000:Int));(r1=true→(m,(26:Int),()) =(cB m i e,kn m i e,()))∧(r1=false→aD m∧(bd m e,ba m e,()) =(cB m i e,kn m i e,())))
 intro r1
 clear_value (hr1:r1=_)
 refine ⟨fun h=>?_,fun h=>⟨hm,?_⟩⟩
 ·rw [hr1] at h;simp only [cB,kn,h];rfl
 ·rw [hr1] at h;simp only [cB,kn,h];rfl
def oA:FuncId×Ctr:=(74,af KE Kc pO sE)
theorem qb:CtrOK Tryz.prog KE 74 (af KE Kc pO sE):=by
 refine ar (C:=al [mW] Tryz.f74) (aj (.consU qc rfl .nil) _) mixed (fn:=Tryz.f74) Tryz.func74 (by kernel_rfl) (by kernel_rfl) (by kernel_rfl) (by kernel_rfl) (by kernel_rfl) (by kernel_rfl) (Λ:=fun _ _=>none) ?_ ?_
 ·exact fun _ _ _ _ _ _ _ _ h=>by cases h
 ·rintro ⟨m,i,e,⟨⟩⟩ hw hn
  exact HT m i e (hn _ List.mem_cons_self)
theorem tQ (i:Int) (a:Match) (b:Match) (d:Delivery) (hd:CE a b) :(evPat (al [nB] Tryz.f75) (fun _=>none) Tryz.f75 J7 DS (i,a,b,d,())).sat fun z_=>z_ =(B6 (i,a,b,d,())).2:=by
 refine cast (by kernel_rfl) (?_:let r1:Int:=IntKind.i64.wrap ((↑a.5.length:Int) - (1:Int));let r2:Innings:=a.5.getD r1.toNat (dflt (Ty.nm Nm.Innings));let r3:Innings:=b.5.getD r1.toNat (dflt (Ty.nm Nm.Innings));((0:Int)≤r1∧r1 <(↑a.5.length:Int))∧((0:Int)≤r1∧r1 <(↑b.5.length:Int))∧(Delivered.mk i r1 r2.7 r2.8 r2.12 r2.9 r2.10 r2.17 d (bs a.1 d) r3.4 r3.5,()) =(qv a.1 i a b d,()))
 intro r1 r2 r3
 clear_value (hr1:r1=_) (hr2:r2=_) (hr3:r3=_)
 obtain ⟨⟨h0,hx⟩,hl⟩:=hd
 have e0:r1 =(a.Innings.length:Int) - 1:=by rw [hr1];exact bb (by omega) (by omega)
 have e1:r1.toNat=a.Innings.length - 1:=by omega
 have e2:r2=bI a:=by rw [hr2,e1];rfl
 have e3:r3=bI b:=by rw [hr3,e1,←hl];rfl
 refine ⟨⟨by omega,by omega⟩,⟨by omega,by omega⟩,?_⟩
 rw [e2,e3,hr1];rfl
def fa:FuncId×Ctr:=(75,af KE J7 DS B6)
theorem gH:CtrOK Tryz.prog KE 75 (af KE J7 DS B6):=by
 refine ar (C:=al [nB] Tryz.f75) (aj (.consU uJ rfl .nil) _) mixed (fn:=Tryz.f75) Tryz.func75 (by kernel_rfl) (by kernel_rfl) (by kernel_rfl) (by kernel_rfl) (by kernel_rfl) (by kernel_rfl) (Λ:=fun _ _=>none) ?_ ?_
 ·exact fun _ _ _ _ _ _ _ _ h=>by cases h
 ·rintro ⟨i,a,b,d,⟨⟩⟩ hw hn
  exact tQ i a b d (hn _ List.mem_cons_self)
noncomputable def lpPy:Lp:=(⟨0,al [oA,fa] Tryz.f50,(fun _=>none),(aB Tryz.f50 0),qPy,xPy⟩:Lp)
theorem MJ (xs:List Mir.Event) (n:Int) (i:Int) (z:Match) (m:Match) (o:List Delivered) (hi:nz (xs,n,i,z,m,o,())) :(Go.Mir.stepG lpPy gA (fun y:Den (tyP lpPy.q)=>nz y∧tK y<tK (xs,n,i,z,m,o,())) (xs,n,i,z,m,o,())∧Go.Mir.stepE lpPy gA (xs,n,i,z,m,o,())=gA (xs,n,i,z,m,o,())):=by
 refine cast (by kernel_rfl) (?_:let r1:Innings:=bI (cB m i (xs.getD i.toNat (dflt (Ty.nm Nm.Event))));let r2:Int:=IntKind.i64.wrap (i +(1:Int));let r3:Bool:=(xs.getD i.toNat (dflt (Ty.nm Nm.Event))).1 ==(4:Int);let r4:Bool:=kn m i (xs.getD i.toNat (dflt (Ty.nm Nm.Event))) !=(0:Int);let r5:List Delivered:= [Delivered.mk i (W ((↑m.5.length:Int) - (1:Int))) (bI m).7 (bI m).8 (bI m).12 (bI m).9 (bI m).10 (bI m).17 (xs.getD i.toNat (dflt (Ty.nm Nm.Event))).8 (bs m.1 (xs.getD i.toNat (dflt (Ty.nm Nm.Event))).8) r1.4 r1.5];((decide (i<n)=true→((0:Int)≤i∧i <(↑xs.length:Int))∧aD m∧(r4=true→True)∧(r4=false→(r3=true→CE m (cB m i (xs.getD i.toNat (dflt (Ty.nm Nm.Event))))∧(o.length+r5.length) *(216:Nat)≤(70368744177664:Nat)∧nz (xs,n,r2,z,cB m i (xs.getD i.toNat (dflt (Ty.nm Nm.Event))),o++r5,())∧tK (xs,n,r2,z,cB m i (xs.getD i.toNat (dflt (Ty.nm Nm.Event))),o++r5,())<tK (xs,n,i,z,m,o,()))∧(r3=false→nz (xs,n,r2,z,cB m i (xs.getD i.toNat (dflt (Ty.nm Nm.Event))),o,())∧tK (xs,n,r2,z,cB m i (xs.getD i.toNat (dflt (Ty.nm Nm.Event))),o,())<tK (xs,n,i,z,m,o,()))))∧(decide (i<n)=false→True))∧(bif decide (i<n) then bif r4 then Sum.inl (i,kn m i (xs.getD i.toNat (dflt (Ty.nm Nm.Event))),m,o,()) else bif r3 then gA (xs,n,r2,z,cB m i (xs.getD i.toNat (dflt (Ty.nm Nm.Event))),o++r5,()) else gA (xs,n,r2,z,cB m i (xs.getD i.toNat (dflt (Ty.nm Nm.Event))),o,()) else Sum.inr (z,m,o,()))=gA (xs,n,i,z,m,o,()))
 intro r1 r2 r3 r4 r5
 clear_value (hr1:r1=_) (hr2:r2=_) (hr3:r3=_) (hr4:r4=_) (hr5:r5=_)
 obtain ⟨⟨h1,h2,h3,h4⟩,hm,h5,h6⟩:=hi
 simp only at h1 h2 h3 h4 hm h5 h6
 have hx :(xs.length:Int)≤140737488355328:=by have:xs.length≤140737488355328:=h4;omega
 by_cases h:i<n
 ·have e:xs.drop i.toNat=xs.getD i.toNat (dflt (Ty.nm Nm.Event))::xs.drop (i+1).toNat:=c8 h2 (by omega) _
  have e2:r2=i+1:=by rw [hr2];exact bb (by omega) (by omega)
  rw [decide_eq_true h,cond_true]
  generalize xs.getD i.toNat (dflt (Ty.nm Nm.Event))=v at *
  have hs:aD (cB m i v):=rD hm i v
  have hA:r5=[qv m.Rules i m (cB m i v) v.Ball]:=by rw [hr5,hr1];rfl
  have hq:r4=false→i<4000∧ba m v=0:=fun a=>GN (by rw [←hr4];exact a)
  have hK :∀ o':List Delivered,(o'.length:Int)≤i+1→o'.length≤4000→nz (xs,n,r2,z,cB m i v,o',())∧tK (xs,n,r2,z,cB m i v,o',())<tK (xs,n,i,z,m,o,()):=fun o' k1 k2=>
   ⟨⟨⟨h1,by simp only;omega,by simp only;omega,h4⟩,hs,by simp only;omega,k2⟩,by simp only [tK];omega⟩
  refine ⟨⟨fun _=>⟨⟨h2,by omega⟩,hm,fun _=>trivial,fun a=>⟨fun b=>⟨?_,?_,?_⟩,fun _=>hK o (by omega) h6⟩⟩,fun z=>Bool.noConfusion z⟩,?_⟩
  ·have hy:cB m i v=bd m v:=by unfold cB;rw [decide_eq_false (by have:=(hq a).1;omega)];rfl
   have hb:=vh (hq a).2 (by rw [hr3] at b;exact eq_of_beq b)
   exact ⟨⟨hb.1,hm.2.1⟩,by rw [hy];exact hb.2⟩
  ·rw [hA,List.length_singleton];omega
  ·refine hK _ ?_ ?_ <;> rw [hA,List.length_append,List.length_singleton]
   ·omega
   ·have:=(hq a).1;omega
  ·have eP:ij m (xs.drop i.toNat) i o=if r4 then (o,m,i,kn m i v) else ij (cB m i v) (xs.drop (i+1).toNat) (i+1) (AD m.Rules i m (cB m i v) v o):=by rw [e,hr4];rfl
   have eD:AD m.Rules i m (cB m i v) v o=bif r3 then o++r5 else o:=by unfold AD;rw [←hr3,hA];cases r3 <;> rfl
   simp only [gA]
   rw [eP,e2,eD]
   cases r4 with
   | true=>unfold rX;simp only [if_true];rw [←hr4];rfl
   | false=>cases r3 <;> rfl
 ·rw [decide_eq_false h,cond_false]
  refine ⟨⟨fun z=>Bool.noConfusion z,fun _=>trivial⟩,?_⟩
  simp only [gA]
  rw [co (l:=xs) (by omega)]
  rfl
noncomputable def Lk:LoopSum:=aC lpPy gA nz
noncomputable def K4:Nat:=rid (aB Tryz.f50 0)
theorem LV:LoopOKp Tryz.prog 0 Tryz.f50.ntmps (aB Tryz.f50 0) (aC lpPy gA nz):=
 bi lpPy (aj (.consU qb rfl (.consU gH rfl .nil)) _) mixed (fun b hb S hS=>by cases hS) gA nz tK (fun |⟨xs,n,i,z,m,o,⟨⟩⟩,hi=>MJ xs n i z m o hi)
theorem HS (r:Rules) (l:List Mir.Event) (hx:l.length≤aI) :(evPat (al [kc,oA,fa] Tryz.f50) (find [(K4,Lk)]) Tryz.f50 qRL wN (r,l,())).sat fun z_=>z_ =(Cf (r,l,())).2:=by
 refine cast (by kernel_rfl) (?_:let r1:Match:=Match.mk (Rules.mk ByteArray.empty (0:Int) (0:Int) (0:Int) (0:Int) (0:Int) (0:Int) (0:Int) false (0:Int) (0:Int) (0:Int) (0:Int) []) (0:Int) (0:Int) false [] ((0:Int),(0:Int),()) (Result.mk (0:Int) (0:Int) (0:Int));let r2:Bool:=isL (gA (l,(↑l.length:Int),(0:Int),r1,gG r,[],()));let r3:Int×Int×Match×List Delivered×PUnit:=mU (dflt (I.prod (I.prod ((Ty.nm Nm.Match).prod ((Ty.nm Nm.Delivered).slice.prod Ty.unit))))) (gA (l,(↑l.length:Int),(0:Int),r1,gG r,[],()));((ax r !=(0:Int))=true→([],r1,(0:Int),(1:Int),()) =((aG r l).1,(aG r l).2.1,(aG r l).2.2.1,(aG r l).2.2.2,()))∧((ax r !=(0:Int))=false→((cx fun x=>none)∧((↑l.length:Int) =(↑l.length:Int)∧(0:Int)≤(0:Int)∧(0:Int)≤(↑l.length:Int)∧l.length≤aI)∧aD (gG r)∧(↑(0:Nat):Int)≤(0:Int)∧(0:Nat)≤(4000:Nat))∧(r2=true→(r3.2.2.2.1,r3.2.2.1,r3.1,r3.2.1,()) =((aG r l).1,(aG r l).2.1,(aG r l).2.2.1,(aG r l).2.2.2,()))∧(r2=false→((pG (dflt ((Ty.nm Nm.Match).prod ((Ty.nm Nm.Match).prod ((Ty.nm Nm.Delivered).slice.prod Ty.unit)))) (gA (l,(↑l.length:Int),(0:Int),r1,gG r,[],()))).2.2.1,(pG (dflt ((Ty.nm Nm.Match).prod ((Ty.nm Nm.Match).prod ((Ty.nm Nm.Delivered).slice.prod Ty.unit)))) (gA (l,(↑l.length:Int),(0:Int),r1,gG r,[],()))).2.1,(-1:Int),(0:Int),()) =((aG r l).1,(aG r l).2.1,(aG r l).2.2.1,(aG r l).2.2.2,()))))
 intro r1 r2 r3
 clear_value (hr1:r1=_) (hr2:r2=_) (hr3:r3=_)
 refine ⟨fun h=>?_,fun h=>?_⟩
 ·have:aG r l =([],Match.zero,0,1):=by unfold aG;rw [h];rfl
  rw [this,hr1];rfl
 ·have h0:ax r=0:=by simpa using h
  have hP:aG r l=ij (iB r) l 0 []:=by unfold aG;rw [h];rfl
  have er:gA (l,(l.length:Int),0,r1,gG r,[],())=rX r1 (aG r l):=by rw [hP,oJ h0];rfl
  rw [er] at hr2 hr3 ⊢
  refine ⟨⟨rfl,⟨rfl,Int.le_refl _,by omega,hx⟩,by rw [oJ h0];exact eQ h0,Int.le_refl _,Nat.zero_le _⟩,?_⟩
  cases hl :(aG r l).2.2.2 != 0 with
  | true=>
   have eo:rX r1 (aG r l) = .inl ((aG r l).2.2.1,(aG r l).2.2.2,(aG r l).2.1,(aG r l).1,()):=by unfold rX;rw [hl];rfl
   rw [eo] at hr2 hr3
   have e2:r2=true:=hr2
   subst e2 hr3
   exact ⟨fun _=>rfl,fun z=>Bool.noConfusion z⟩
  | false=>
   have eo:rX r1 (aG r l) = .inr (r1,(aG r l).2.1,(aG r l).1,()):=by unfold rX;rw [hl];rfl
   rw [eo] at hr2 ⊢
   have e2:r2=false:=hr2
   have k1 :(aG r l).2.2.2=0:=by simpa using hl
   have k2 :(aG r l).2.2.1 = -1:=by rw [hP] at k1 ⊢;exact nT l _ _ _ k1
   subst e2
   refine ⟨fun z=>Bool.noConfusion z,fun _=>?_⟩
   rw [k1,k2];rfl
def GE:FuncId×Ctr:=(50,af KE qRL wN Cf)
theorem JK:CtrOK Tryz.prog KE 50 (af KE qRL wN Cf):=by
 refine ar (C:=al [kc,oA,fa] Tryz.f50) (aj (.consU oN rfl (.consU qb rfl (.consU gH rfl .nil))) _) mixed (fn:=Tryz.f50) Tryz.func50 (by kernel_rfl) (by kernel_rfl) (by kernel_rfl) (by kernel_rfl) (by kernel_rfl) (by kernel_rfl) (Λ:=fun x=>find [(K4,Lk)]) ?_ ?_
 ·rintro ⟨r,l,⟨⟩⟩ hw hn
  exact LoopsOKp.at (by kernel_rfl) (.cons (by kernel_rfl) (LV) .nil)
 ·rintro ⟨r,l,⟨⟩⟩ hw hn
  exact HS r l (ce (bg (aX hw)))
theorem BV (r:Rules) (l:List Mir.Event) :(evPat (al [GE] Tryz.f32) (fun _=>none) Tryz.f32 qRL DQ (r,l,())).sat fun z_=>z_ =(xh (r,l,())).2:=by
 refine cast (by kernel_rfl) (?_ :((aG r l).2.1,(aG r l).2.2.1,(aG r l).2.2.2,()) =((aG r l).2.1,(aG r l).2.2.1,(aG r l).2.2.2,()))
 rfl
def yS:FuncId×Ctr:=(32,af KE qRL DQ xh)
theorem EV:CtrOK Tryz.prog KE 32 (af KE qRL DQ xh):=by
 refine ar (C:=al [GE] Tryz.f32) (aj (.consU JK rfl .nil) _) mixed (fn:=Tryz.f32) Tryz.func32 (by kernel_rfl) (by kernel_rfl) (by kernel_rfl) (by kernel_rfl) (by kernel_rfl) (by kernel_rfl) (Λ:=fun _ _=>none) ?_ ?_
 ·exact fun _ _ _ _ _ _ _ _ h=>by cases h
 ·rintro ⟨r,l,⟨⟩⟩ hw hn
  exact BV r l
end Go.Proofs.YtkgplaoappjkcaaGreat
namespace Go.Proofs.YtkgplaoappjkcaaGreat
open Go Go.Mir
attribute [local irreducible] Go.Mir.DT.sat Go.Mir.evPat Go.Mir.RT.sat Go.Mir.evFn
def dE:Match→List Mir.Event→Int→Match×Int×Int
 | m,[],_=>(m,-1,0)
 | m,e::l,i=>if decide (i≥4000) then (m,i,26) else if ba m e != 0 then (m,i,ba m e) else dE (bd m e) l (i+1)
theorem ow :∀ (l:List Mir.Event) (m:Match) (i:Int) (o:List Delivered),dE m l i =(ij m l i o).2
 | [],_,_,_=>rfl
 | e::l,m,i,o=>by
  unfold dE ij kn cB
  by_cases h:decide (i≥4000)=true
  ·simp only [if_pos h];rfl
  ·simp only [if_neg h]
   by_cases hc :(ba m e != 0)=true
   ·rw [if_pos hc,if_pos hc]
   ·rw [if_neg hc,if_neg hc]
    exact ow l _ _ _
theorem Gc (l:List Mir.Event) (m:Match) (i:Int) (h :(dE m l i).2.2=0) :(dE m l i).2.1 = -1:=by
 rw [ow l m i []] at h ⊢
 exact nT l m i [] h
end Go.Proofs.YtkgplaoappjkcaaGreat
namespace Go.Proofs.YtkgplaoappjkcaaGreat
open Go Go.Mir
attribute [local irreducible] Go.Mir.DT.sat Go.Mir.evPat Go.Mir.RT.sat Go.Mir.evFn
def okG (m:Match) (l:List Mir.Event) (i:Int):Prop:=(dE m l i).2.2=0
theorem rL {m:Match} {e:Mir.Event} {l:List Mir.Event} {i:Int} (h:okG m (e::l) i):i<4000∧ba m e=0∧okG (bd m e) l (i+1):=by
 unfold okG dE at h
 by_cases hd:decide (i≥4000)=true
 ·rw [if_pos hd] at h;exact absurd (show (26:Int)=0 from h) (by decide)
 ·rw [if_neg hd] at h
  by_cases hc :(ba m e != 0)=true
  ·rw [if_pos hc] at h
   have h:ba m e=0:=h
   rw [h] at hc;cases hc
  ·rw [if_neg hc] at h
   exact ⟨by simpa using hd,by simpa using hc,h⟩
end Go.Proofs.YtkgplaoappjkcaaGreat
namespace Go.Proofs.YtkgplaoappjkcaaGreat
open Go Go.Mir
theorem yC :∀ (l:List Mir.Event) (m:Match) (i:Int) (e:Mir.Event),okG m l i→
  dE m (l++[e]) i=if decide (i +(l.length:Int)≥4000) then ((dE m l i).1,i +(l.length:Int),26)
   else if ba (dE m l i).1 e != 0 then ((dE m l i).1,i +(l.length:Int),ba (dE m l i).1 e) else (bd (dE m l i).1 e,-1,0)
 | [],m,i,e,_=>by
  simp only [List.nil_append,List.length_nil,Int.natCast_zero,Int.add_zero]
  rfl
 | x::l,m,i,e,h=>by
  obtain ⟨h1,h2,h3⟩:=rL h
  have hd :¬ decide (i≥4000)=true:=by rw [decide_eq_true_eq];omega
  have hc :¬(ba m x != 0)=true:=by rw [h2];decide
  have e1 :∀ r,dE m (x::r) i=dE (bd m x) r (i+1):=fun r=>by show (if _ then _ else _)=_;rw [if_neg hd,if_neg hc]
  rw [List.cons_append,e1,e1,yC l (bd m x) (i+1) e h3]
  have e2:i+1 +(l.length:Int)=i +((x::l).length:Int):=by simp only [List.length_cons];omega
  rw [e2]
theorem rb :∀ (l:List Mir.Event) (m:Match) (i:Int),aD m→aD (dE m l i).1
 | [],_,_,h=>h
 | x::l,m,i,h=>by
  unfold dE
  split
  ·exact h
  ·split
   ·exact h
   ·exact rb l _ _ (gm x h)
abbrev Srv:Type:=live_Server
def okS (s:Srv):Prop:=ax s.rules=0∧dE (iB s.rules) s.log 0 =(s.match_,-1,0)∧s.log.length≤4000
def lm (s:Srv) (e:Mir.Event):Int:=if decide ((s.log.length:Int)≥4000) then 26 else ba s.match_ e
def aZ (s:Srv) (e:Mir.Event):Srv:=if lm s e != 0 then s else { s with match_:=bd s.match_ e,log:=s.log++[e] }
def Ep (s:Srv) (k:Int):Bool:=decide (k<0)||decide (k≥(s.log.length:Int))
def yp (s:Srv) (k:Int) (e:Mir.Event):Match×Int×Int:=(aG s.rules (s.log.set k.toNat e)).2
def tj (s:Srv) (k:Int) (e:Mir.Event):Int:=if Ep s k then -1 else if (yp s k e).2.2 != 0 then (yp s k e).2.1 else -1
def ol (s:Srv) (k:Int) (e:Mir.Event):Int:=if Ep s k then 1 else (yp s k e).2.2
def bc (s:Srv) (k:Int) (e:Mir.Event):Srv:=if ol s k e != 0 then s else { s with match_:=(yp s k e).1,log:=s.log.set k.toNat e,epoch:=W (s.epoch+1) }
theorem si {r:Rules} (h:ax r=0) (l:List Mir.Event) :(aG r l).2=dE (iB r) l 0:=by
 unfold aG
 rw [h]
 exact (ow l (iB r) 0 []).symm
theorem EP {s:Srv} (h:okS s):aD s.match_:=by
 have:=rb s.log (iB s.rules) 0 (eQ h.1)
 rw [h.2.1] at this
 exact this
theorem BE {s:Srv} (h:okS s) (e:Mir.Event):okS (aZ s e):=by
 unfold aZ
 split
 ·exact h
 ·rename_i hc
  have h0:lm s e=0:=by simpa using hc
  unfold lm at h0
  by_cases hl :(s.log.length:Int)≥4000
  ·rw [if_pos (decide_eq_true hl)] at h0;cases h0
  ·rw [if_neg (by rw [decide_eq_true_eq];exact hl)] at h0
   have hk:=h
   obtain ⟨h1,h2,h3⟩:=h
   refine ⟨h1,?_,?_⟩
   ·have ho:okG (iB s.rules) s.log 0:=by unfold okG;rw [h2]
    show dE (iB s.rules) (s.log++[e]) 0=_
    rw [yC _ _ _ _ ho,h2]
    have hd :¬ decide (0 +(s.log.length:Int)≥4000)=true:=by rw [decide_eq_true_eq];omega
    rw [if_neg hd,if_neg (by rw [h0];decide)]
   ·show (s.log++[e]).length≤_
    rw [List.length_append,List.length_singleton];omega
theorem Ly {s:Srv} (h:okS s) (k:Int) (e:Mir.Event):okS (bc s k e):=by
 unfold bc
 split
 ·exact h
 ·rename_i hc
  have h0:ol s k e=0:=by simpa using hc
  unfold ol at h0
  by_cases hg:Ep s k=true
  ·rw [if_pos hg] at h0;cases h0
  ·rw [if_neg hg] at h0
   obtain ⟨h1,h2,h3⟩:=h
   have h4 :(yp s k e).2.2=0:=h0
   refine ⟨h1,?_,?_⟩
   ·show dE (iB s.rules) (s.log.set k.toNat e) 0 =((yp s k e).1,-1,0)
    unfold yp at h4 ⊢
    rw [si h1] at h4 ⊢
    exact Prod.ext rfl (Prod.ext (Gc _ _ _ h4) h4)
   ·show (s.log.set k.toNat e).length≤_
    rw [List.length_set];exact h3
end Go.Proofs.YtkgplaoappjkcaaGreat
namespace Go.Proofs.YtkgplaoappjkcaaGreat
open Go Go.Mir
attribute [local irreducible] Go.Mir.DT.sat Go.Mir.evPat Go.Mir.RT.sat Go.Mir.evFn
abbrev zL:Pat:=⟨[(0,.h (.nm .Rules)),(1,.c (.osl 0 1))],[(0,.row 1 (.nm .Event))],2⟩
abbrev qe:Pat:=⟨[(0,.h MV),(1,.h (.nm .Match)),(2,.h I),(3,.h I)],[(0,.row 1 (.nm .Event))],2⟩
abbrev wO:Pat:=⟨[(0,.h (.nm .Match)),(1,.h I),(2,.h I)],[(0,.row 1 (.nm .Event))],2⟩
def Ch:Den (tyP zL)→List Prop×Den (tyP qe):=fun x=>([],((aG x.1 x.2.1).1,(aG x.1 x.2.1).2.1,(aG x.1 x.2.1).2.2.1,(aG x.1 x.2.1).2.2.2,x.2.1,()))
def sL:Den (tyP zL)→List Prop×Den (tyP wO):=fun x=>([],((aG x.1 x.2.1).2.1,(aG x.1 x.2.1).2.2.1,(aG x.1 x.2.1).2.2.2,x.2.1,()))
abbrev Na:List (Nat×PB):= [(2,.dat (.nm .Match)),(3,.dat (.nm .Match)),(4,.row 5 (.nm .Delivered)),(0,.row 1 (.nm .Event))]
abbrev qPo:Pat:=⟨[(5,.c (.ptr 2 0)),(8,.c (.ptr 3 0)),(10,.c (.osl 4 5)),(23,.c (.osl 0 1)),(24,.h I),(25,.h I)],Na,6⟩
abbrev xPo:List (Lf×Pat):= [(.ret,⟨[(4,.c (.osl 4 5)),(5,.c (.ptr 2 0)),(6,.h I),(7,.h I)],[(2,.dat (.nm .Match)),(4,.row 5 (.nm .Delivered)),(0,.row 1 (.nm .Event))],6⟩),(.ext 0,⟨[(5,.c (.ptr 2 0)),(8,.c (.ptr 3 0)),(10,.c (.osl 4 5))],Na,6⟩)]
abbrev TPo:Type:=Int×Int×Match×Match×List Delivered×List Mir.Event×Unit
abbrev OPo:Type:=Sum (Int×Int×Match×List Delivered×List Mir.Event×Unit) (Match×Match×List Delivered×List Mir.Event×Unit)
def pn (x:TPo):Prop:=nz (x.2.2.2.2.2.1,x.1,x.2.1,x.2.2.1,x.2.2.2.1,x.2.2.2.2.1,())
def tJ (x:TPo):Nat:=(x.1 - x.2.1).toNat
def rW (z:Match) (l:List Mir.Event) (p:List Delivered×Match×Int×Int):OPo:=if p.2.2.2 != 0 then .inl (p.2.2.1,p.2.2.2,p.2.1,p.1,l,()) else .inr (z,p.2.1,p.1,l,())
def gk (x:TPo):OPo:=rW x.2.2.1 x.2.2.2.2.2.1 (ij x.2.2.2.1 (x.2.2.2.2.2.1.drop x.2.1.toNat) x.2.1 x.2.2.2.2.1)
noncomputable def lpPo:Lp:=(⟨2,al [oA,fa] Tryz.f50,(fun _=>none),(aB Tryz.f50 0),qPo,xPo⟩:Lp)
theorem MI (n:Int) (i:Int) (z:Match) (m:Match) (o:List Delivered) (xs:List Mir.Event) (hi:pn (n,i,z,m,o,xs,())) :(Go.Mir.stepG lpPo gk (fun y:Den (tyP lpPo.q)=>pn y∧tJ y<tJ (n,i,z,m,o,xs,())) (n,i,z,m,o,xs,())∧Go.Mir.stepE lpPo gk (n,i,z,m,o,xs,())=gk (n,i,z,m,o,xs,())):=by
 refine cast (by kernel_rfl) (?_:let r1:Innings:=bI (cB m i (xs.getD i.toNat (dflt (Ty.nm Nm.Event))));let r2:Int:=IntKind.i64.wrap (i +(1:Int));let r3:Bool:=(xs.getD i.toNat (dflt (Ty.nm Nm.Event))).1 ==(4:Int);let r4:Bool:=kn m i (xs.getD i.toNat (dflt (Ty.nm Nm.Event))) !=(0:Int);let r5:List Delivered:= [Delivered.mk i (W ((↑m.5.length:Int) - (1:Int))) (bI m).7 (bI m).8 (bI m).12 (bI m).9 (bI m).10 (bI m).17 (xs.getD i.toNat (dflt (Ty.nm Nm.Event))).8 (bs m.1 (xs.getD i.toNat (dflt (Ty.nm Nm.Event))).8) r1.4 r1.5];((decide (i<n)=true→((0:Int)≤i∧i <(↑xs.length:Int))∧aD m∧(r4=true→True)∧(r4=false→(r3=true→CE m (cB m i (xs.getD i.toNat (dflt (Ty.nm Nm.Event))))∧(o.length+r5.length) *(216:Nat)≤(70368744177664:Nat)∧pn (n,r2,z,cB m i (xs.getD i.toNat (dflt (Ty.nm Nm.Event))),o++r5,xs,())∧tJ (n,r2,z,cB m i (xs.getD i.toNat (dflt (Ty.nm Nm.Event))),o++r5,xs,())<tJ (n,i,z,m,o,xs,()))∧(r3=false→pn (n,r2,z,cB m i (xs.getD i.toNat (dflt (Ty.nm Nm.Event))),o,xs,())∧tJ (n,r2,z,cB m i (xs.getD i.toNat (dflt (Ty.nm Nm.Event))),o,xs,())<tJ (n,i,z,m,o,xs,()))))∧(decide (i<n)=false→True))∧(bif decide (i<n) then bif r4 then Sum.inl (i,kn m i (xs.getD i.toNat (dflt (Ty.nm Nm.Event))),m,o,xs,()) else bif r3 then gk (n,r2,z,cB m i (xs.getD i.toNat (dflt (Ty.nm Nm.Event))),o++r5,xs,()) else gk (n,r2,z,cB m i (xs.getD i.toNat (dflt (Ty.nm Nm.Event))),o,xs,()) else Sum.inr (z,m,o,xs,()))=gk (n,i,z,m,o,xs,()))
 intro r1 r2 r3 r4 r5
 clear_value (hr1:r1=_) (hr2:r2=_) (hr3:r3=_) (hr4:r4=_) (hr5:r5=_)
 obtain ⟨⟨h1,h2,h3,h4⟩,hm,h5,h6⟩:=hi
 simp only at h1 h2 h3 h4 hm h5 h6
 have hx :(xs.length:Int)≤140737488355328:=by have:xs.length≤140737488355328:=h4;omega
 by_cases h:i<n
 ·have e:xs.drop i.toNat=xs.getD i.toNat (dflt (Ty.nm Nm.Event))::xs.drop (i+1).toNat:=c8 h2 (by omega) _
  have e2:r2=i+1:=by rw [hr2];exact bb (by omega) (by omega)
  rw [decide_eq_true h,cond_true]
  generalize xs.getD i.toNat (dflt (Ty.nm Nm.Event))=v at *
  have hs:aD (cB m i v):=rD hm i v
  have hA:r5=[qv m.Rules i m (cB m i v) v.Ball]:=by rw [hr5,hr1];rfl
  have hq:r4=false→i<4000∧ba m v=0:=fun a=>GN (by rw [←hr4];exact a)
  have hK :∀ o':List Delivered,(o'.length:Int)≤i+1→o'.length≤4000→pn (n,r2,z,cB m i v,o',xs,())∧tJ (n,r2,z,cB m i v,o',xs,())<tJ (n,i,z,m,o,xs,()):=fun o' k1 k2=>
   ⟨⟨⟨h1,by simp only;omega,by simp only;omega,h4⟩,hs,by simp only;omega,k2⟩,by simp only [tJ];omega⟩
  refine ⟨⟨fun _=>⟨⟨h2,by omega⟩,hm,fun _=>trivial,fun a=>⟨fun b=>⟨?_,?_,?_⟩,fun _=>hK o (by omega) h6⟩⟩,fun z=>Bool.noConfusion z⟩,?_⟩
  ·have hy:cB m i v=bd m v:=by unfold cB;rw [decide_eq_false (by have:=(hq a).1;omega)];rfl
   have hb:=vh (hq a).2 (by rw [hr3] at b;exact eq_of_beq b)
   exact ⟨⟨hb.1,hm.2.1⟩,by rw [hy];exact hb.2⟩
  ·rw [hA,List.length_singleton];omega
  ·refine hK _ ?_ ?_ <;> rw [hA,List.length_append,List.length_singleton]
   ·omega
   ·have:=(hq a).1;omega
  ·have eP:ij m (xs.drop i.toNat) i o=if r4 then (o,m,i,kn m i v) else ij (cB m i v) (xs.drop (i+1).toNat) (i+1) (AD m.Rules i m (cB m i v) v o):=by rw [e,hr4];rfl
   have eD:AD m.Rules i m (cB m i v) v o=bif r3 then o++r5 else o:=by unfold AD;rw [←hr3,hA];cases r3 <;> rfl
   simp only [gk]
   rw [eP,e2,eD]
   cases r4 with
   | true=>unfold rW;simp only [if_true];rw [←hr4];rfl
   | false=>cases r3 <;> rfl
 ·rw [decide_eq_false h,cond_false]
  refine ⟨⟨fun z=>Bool.noConfusion z,fun _=>trivial⟩,?_⟩
  simp only [gk]
  rw [co (l:=xs) (by omega)]
  rfl
noncomputable def Lj:LoopSum:=aC lpPo gk pn
noncomputable def K3:Nat:=rid (aB Tryz.f50 0)
theorem LU:LoopOKp Tryz.prog 2 Tryz.f50.ntmps (aB Tryz.f50 0) (aC lpPo gk pn):=
 bi lpPo (aj (.consU qb rfl (.consU gH rfl .nil)) _) mixed (fun b hb S hS=>by cases hS) gk pn tJ (fun |⟨n,i,z,m,o,xs,⟨⟩⟩,hi=>MI n i z m o xs hi)
theorem Fl (r:Rules) (l:List Mir.Event) (hx:l.length≤aI) :(evPat (al [kc,oA,fa] Tryz.f50) (find [(K3,Lj)]) Tryz.f50 zL qe (r,l,())).sat fun z_=>z_ =(Ch (r,l,())).2:=by
 refine cast (by kernel_rfl) (?_:let r1:Match:=Match.mk (Rules.mk ByteArray.empty (0:Int) (0:Int) (0:Int) (0:Int) (0:Int) (0:Int) (0:Int) false (0:Int) (0:Int) (0:Int) (0:Int) []) (0:Int) (0:Int) false [] ((0:Int),(0:Int),()) (Result.mk (0:Int) (0:Int) (0:Int));let r2:Bool:=isL (gk ((↑l.length:Int),(0:Int),r1,gG r,[],l,()));let r3:Int×Int×Match×List Delivered×List Mir.Event×PUnit:=mU (dflt (I.prod (I.prod ((Ty.nm Nm.Match).prod ((Ty.nm Nm.Delivered).slice.prod ((Ty.nm Nm.Event).slice.prod Ty.unit)))))) (gk ((↑l.length:Int),(0:Int),r1,gG r,[],l,()));((ax r !=(0:Int))=true→([],r1,(0:Int),(1:Int),l,()) =((aG r l).1,(aG r l).2.1,(aG r l).2.2.1,(aG r l).2.2.2,l,()))∧((ax r !=(0:Int))=false→((cx fun x=>none)∧((↑l.length:Int) =(↑l.length:Int)∧(0:Int)≤(0:Int)∧(0:Int)≤(↑l.length:Int)∧l.length≤aI)∧aD (gG r)∧(↑(0:Nat):Int)≤(0:Int)∧(0:Nat)≤(4000:Nat))∧(r2=true→(r3.2.2.2.1,r3.2.2.1,r3.1,r3.2.1,r3.2.2.2.2) =((aG r l).1,(aG r l).2.1,(aG r l).2.2.1,(aG r l).2.2.2,l,()))∧(r2=false→((pG (dflt ((Ty.nm Nm.Match).prod ((Ty.nm Nm.Match).prod ((Ty.nm Nm.Delivered).slice.prod ((Ty.nm Nm.Event).slice.prod Ty.unit))))) (gk ((↑l.length:Int),(0:Int),r1,gG r,[],l,()))).2.2.1,(pG (dflt ((Ty.nm Nm.Match).prod ((Ty.nm Nm.Match).prod ((Ty.nm Nm.Delivered).slice.prod ((Ty.nm Nm.Event).slice.prod Ty.unit))))) (gk ((↑l.length:Int),(0:Int),r1,gG r,[],l,()))).2.1,(-1:Int),(0:Int),(pG (dflt ((Ty.nm Nm.Match).prod ((Ty.nm Nm.Match).prod ((Ty.nm Nm.Delivered).slice.prod ((Ty.nm Nm.Event).slice.prod Ty.unit))))) (gk ((↑l.length:Int),(0:Int),r1,gG r,[],l,()))).2.2.2) =((aG r l).1,(aG r l).2.1,(aG r l).2.2.1,(aG r l).2.2.2,l,()))))
 intro r1 r2 r3
 clear_value (hr1:r1=_) (hr2:r2=_) (hr3:r3=_)
 refine ⟨fun h=>?_,fun h=>?_⟩
 ·have:aG r l =([],Match.zero,0,1):=by unfold aG;rw [h];rfl
  rw [this,hr1];rfl
 ·have h0:ax r=0:=by simpa using h
  have hP:aG r l=ij (iB r) l 0 []:=by unfold aG;rw [h];rfl
  have er:gk ((l.length:Int),0,r1,gG r,[],l,())=rW r1 l (aG r l):=by rw [hP,oJ h0];rfl
  rw [er] at hr2 hr3 ⊢
  refine ⟨⟨rfl,⟨rfl,Int.le_refl _,by omega,hx⟩,by rw [oJ h0];exact eQ h0,Int.le_refl _,Nat.zero_le _⟩,?_⟩
  cases hl :(aG r l).2.2.2 != 0 with
  | true=>
   have eo:rW r1 l (aG r l) = .inl ((aG r l).2.2.1,(aG r l).2.2.2,(aG r l).2.1,(aG r l).1,l,()):=by unfold rW;rw [hl];rfl
   rw [eo] at hr2 hr3
   have e2:r2=true:=hr2
   subst e2 hr3
   exact ⟨fun _=>rfl,fun z=>Bool.noConfusion z⟩
  | false=>
   have eo:rW r1 l (aG r l) = .inr (r1,(aG r l).2.1,(aG r l).1,l,()):=by unfold rW;rw [hl];rfl
   rw [eo] at hr2 ⊢
   have e2:r2=false:=hr2
   have k1 :(aG r l).2.2.2=0:=by simpa using hl
   have k2 :(aG r l).2.2.1 = -1:=by rw [hP] at k1 ⊢;exact nT l _ _ _ k1
   subst e2
   refine ⟨fun z=>Bool.noConfusion z,fun _=>?_⟩
   rw [k1,k2];rfl
def C8:FuncId×Ctr:=(50,af KE zL qe Ch)
theorem Hf:CtrOK Tryz.prog KE 50 (af KE zL qe Ch):=by
 refine ar (C:=al [kc,oA,fa] Tryz.f50) (aj (.consU oN rfl (.consU qb rfl (.consU gH rfl .nil))) _) mixed (fn:=Tryz.f50) Tryz.func50 (by kernel_rfl) (by kernel_rfl) (by kernel_rfl) (by kernel_rfl) (by kernel_rfl) (by kernel_rfl) (Λ:=fun x=>find [(K3,Lj)]) ?_ ?_
 ·rintro ⟨r,l,⟨⟩⟩ hw hn
  exact LoopsOKp.at (by kernel_rfl) (.cons (by kernel_rfl) (LU) .nil)
 ·rintro ⟨r,l,⟨⟩⟩ hw hn
  exact Fl r l (ce (bg (aX hw)))
theorem Ae (r:Rules) (l:List Mir.Event) :(evPat (al [C8] Tryz.f32) (fun _=>none) Tryz.f32 zL wO (r,l,())).sat fun z_=>z_ =(sL (r,l,())).2:=by
 refine cast (by kernel_rfl) (?_ :((aG r l).2.1,(aG r l).2.2.1,(aG r l).2.2.2,l,()) =((aG r l).2.1,(aG r l).2.2.1,(aG r l).2.2.2,l,()))
 rfl
def uz:FuncId×Ctr:=(32,af KE zL wO sL)
theorem Br:CtrOK Tryz.prog KE 32 (af KE zL wO sL):=by
 refine ar (C:=al [C8] Tryz.f32) (aj (.consU Hf rfl .nil) _) mixed (fn:=Tryz.f32) Tryz.func32 (by kernel_rfl) (by kernel_rfl) (by kernel_rfl) (by kernel_rfl) (by kernel_rfl) (by kernel_rfl) (Λ:=fun _ _=>none) ?_ ?_
 ·exact fun _ _ _ _ _ _ _ _ h=>by cases h
 ·rintro ⟨r,l,⟨⟩⟩ hw hn
  exact Ae r l
end Go.Proofs.YtkgplaoappjkcaaGreat
namespace Go.Mir
open Go.RowKit
variable {P:Program}
inductive PF where
 | dat
 | ptr
 | clo (g:FuncId)
def DK (H:aM) (t:Ty):V→Option (Den t)
 | .ptr h off=>match Nat.beq off 0 with
  | true=>match H h with
   | some (.cells cs)=>pL H t cs
   | _=>none
  | false=>none
 | .fp t' xs i off=>match Nat.beq off 0 with
  | true=>if e:t'=t then xs[i.toNat]?.map fun x=>(e▸x:Den t) else none
  | false=>none
 | _=>none
def KD (H:aM) (g:FuncId) (t:Ty):V→Option (Den t)
 | .fn g' [.nilmap,p]=>match Nat.beq g' g with
  | true=>DK H t p
  | false=>none
 | _=>none
def DA (H:aM) (q:PF) (a:Ty) (v:V):Option (Den a):=
 match q with
 | .ptr=>DK H a v
 | .clo g=>KD H g a v
 | .dat=>(dp H (.prod a .unit) [v]).map (·.1)
def cT (H:aM):List PF→(ps:Ty)→List V→Option (Den ps)
 | q,.prod a b,v::vs=>match DA H (q.headD .dat) a v with
  | some x=>match cT H q.tail b vs with
   | some y=>some (x,y)
   | none=>none
  | none=>none
 | _,.unit,[]=>some ()
 | _,_,_=>none
def MX (q:PF) (a:Ty) (x:Den a):V:=
 match q with
 | .ptr=> .fp a [x] 0 0
 | .clo g=> .fn g [.nilmap,.fp a [x] 0 0]
 | .dat=>fk a x
def fI:List PF→(ps:Ty)→Den ps→List V
 | q,.prod a b,x=>MX (q.headD .dat) a x.1::fI q.tail b x.2
 | _,_,_=> []
def Nd (H:aM):V→List Nat
 | .ptr h _=>(match H h with|some (.cells cs)=>hss cs|_=> [])
 | _=> []
def LH (H:aM):List PF→List V→List Nat
 | q,v::vs=>(match q.headD .dat with
  | .ptr=>Nd H v
  | .clo _=>(match v with | .fn _ [_,p]=>Nd H p|_=> [])
  | .dat=>v.hs)++LH H q.tail vs
 | _,[]=> []
def d8 (K:Nat) (q:List PF) (ps:Ty) (spec:Den ps→PRes):Ctr:=fun args H m=>
 match cT (roL H (LH H q args)) q ps args with
 | some x=>
  let r:=spec x
  bif Nat.ble r.rows.length K&&r.flat then some (r.needs,r.v.shift m,im m 0 r.rows) else none
 | none=>none
def AE (E:Env):Env:=⟨fun _=>False,fun _=>none,fun b=>b<E.w.heap.size,E.w,fun _=>none⟩
theorem py {B:Base} {E:Env} (hE:HRel B E) {t:Ty} {v:V} {u:Value} {x:Den t} (hv:aa E v u) (h:DK E.H t v=some x) :
  aa (AE E) (.fp t [x] 0 0) u∧∃ cs,Rd (fun b=>b<E.w.heap.size) E.w t x cs:=by
 have up :∀ {t:Ty} {x:Den t} {cs:List Value},Rd E.S E.w t x cs→Rd (fun b=>b<E.w.heap.size) E.w t x cs:=fun h=>h.ext (fun b hb=>hE.stab b hb) (fun _ _=>rfl)
 unfold DK at h
 split at h
 ·rename_i hh off
  split at h
  case h_2=>cases h
  rename_i hoff
  have hoff:=Nat.eq_of_beq_eq_true hoff
  subst hoff
  split at h
  case h_2=>cases h
  rename_i cs hcs
  obtain ⟨b,c,T,fr,k1,k2,k3,k4,k5⟩:=hE.blk _ _ hcs
  have hrd:=cu hE h k5
  have hp:=hv
  simp only [aa] at hp
  obtain ⟨b',k6,k7⟩:=hp.2.2 cs hcs
  rw [k1] at k6
  cases k6
  have hlen:=hrd.len
  refine ⟨?_,_,up hrd⟩
  simp only [aa]
  refine ⟨b,0,c,T,fr,hE.lt _ _ _ hcs k1,k2,?_,fun j hj=>?_,Int.le_refl _,by simp,?_⟩
  ·simp only [List.length_singleton]
   have:c.toList.length=c.size:=by simp
   omega
  ·have:j=0:=by simpa using hj
   subst this
   have e:seg c (0+0*sz t) (sz t)=c.toList:=by
    unfold seg
    simp only [Nat.zero_mul,Nat.add_zero,List.drop_zero]
    exact List.take_of_length_le (by omega)
   rw [e]
   exact up hrd
  ·rw [k7];simp
 ·rename_i t' xs i off
  split at h
  case h_2=>cases h
  rename_i hoff
  have hoff:=Nat.eq_of_beq_eq_true hoff
  subst hoff
  split at h
  case isFalse=>cases h
  rename_i e
  subst e
  simp only [aa] at hv
  obtain ⟨b,o,c,T,fr,k1,k2,k3,k4,k5,k6,k7⟩:=hv
  rw [List.getElem?_eq_getElem k6] at h
  simp only [Option.map_some,Option.some.injEq] at h
  subst h
  have hm :(i.toNat+1)*sz t'≤xs.length*sz t':=Nat.mul_le_mul_right _ k6
  rw [Nat.add_mul] at hm
  refine ⟨?_,_,up (k4 _ k6)⟩
  simp only [aa]
  refine ⟨b,o+i.toNat*sz t',c,T,fr,hE.stab _ k1,k2,by simp only [List.length_singleton];omega,fun j hj=>?_,Int.le_refl _,by simp,?_⟩
  ·have:j=0:=by simpa using hj
   subst this
   simp only [Nat.zero_mul,Nat.add_zero]
   exact up (k4 _ k6)
  ·rw [k7];simp
 ·cases h
theorem zo {B:Base} {E:Env} (hE:HRel B E) {q:PF} {t:Ty} {v:V} {u:Value} {x:Den t} (hv:aa E v u) (h:DA E.H q t v=some x) :
  aa (AE E) (MX q t x) u∧∃ cs,Rd (fun b=>b<E.w.heap.size) E.w t x cs:=by
 have up :∀ {t:Ty} {x:Den t} {cs:List Value},Rd E.S E.w t x cs→Rd (fun b=>b<E.w.heap.size) E.w t x cs:=fun h=>h.ext (fun b hb=>hE.stab b hb) (fun _ _=>rfl)
 cases q with
 | ptr=>exact py hE hv h
 | clo g=>
  simp only [DA] at h
  unfold KD at h
  split at h
  ·rename_i g' p
   split at h
   case h_2=>cases h
   rename_i hg
   have hg:=Nat.eq_of_beq_eq_true hg
   subst hg
   simp only [aa] at hv
   obtain ⟨l,h1,h2⟩:=hv
   obtain ⟨l⟩:=l
   match l,h2 with
   | [m,pv],h2=>
    simp only [ae] at h2
    obtain ⟨k1,k2⟩:=py hE h2.2.1 h
    refine ⟨?_,k2⟩
    show aa (AE E) (.fn g' [.nilmap,.fp t [x] 0 0]) u
    unfold aa
    exact ⟨⟨[m,pv]⟩,h1,by simp only [ae];exact ⟨by simpa only [aa] using h2.1,k1,trivial⟩⟩
   | [],h2=>simp [ae] at h2
   | [_],h2=>simp [ae] at h2
   | _::_::_::_,h2=>simp [ae] at h2
  ·cases h
 | dat=>
  simp only [DA,Option.map_eq_some_iff] at h
  obtain ⟨x1,hx1,rfl⟩:=h
  let Ec:Env:=⟨fun _=>False,fun _=>none,E.S,E.w,fun _=>none⟩
  have hv1:ae E [v] [u]:=by simp only [ae];exact ⟨hv,trivial⟩
  obtain ⟨j1,cs1,j2⟩:=fz hE (Ec:=Ec) rfl rfl hv1 hx1
  have X:Ext Ec (AE E):=⟨fun _ h=>h,fun b hb=>hE.stab b hb,fun _ _=>rfl,fun h cs _ hx=>(by cases hx),fun h ver rw t xs _ _ hx=>(by cases hx),fun h ver esz cs _ _ hx=>(by cases hx),fun h es _ hx=>(by cases hx)⟩
  have j3:=aY X _ _ j1
  simp only [bk,ae] at j3
  refine ⟨j3.1,?_⟩
  cases j2 with
  | prod ha hb=>exact ⟨_,up ha⟩
theorem pM {B:Base} {E:Env} (hE:HRel B E) :∀ {q:List PF} {ps:Ty} {args:List V} {av:List Value} {x:Den ps},ae E args av→cT E.H q ps args=some x→
  ae (AE E) (fI q ps x) av∧∃ cs,Rd (fun b=>b<E.w.heap.size) E.w ps x cs:=by
 intro q ps
 induction ps generalizing q with
 | prod a b iha ihb=>
  intro args av x hv h
  cases args with
  | nil=>simp [cT] at h
  | cons v vs=>
   cases av with
   | nil=>simp [ae] at hv
   | cons u us=>
    simp only [ae] at hv
    simp only [cT] at h
    simp only [fI,ae]
    split at h
    case h_2=>cases h
    rename_i x1 hx1
    split at h
    case h_2=>cases h
    rename_i y1 hy1
    cases h
    obtain ⟨i1,cs2,i2⟩:=ihb hv.2 hy1
    obtain ⟨k1,cs1,k2⟩:=zo hE hv.1 hx1
    exact ⟨⟨k1,i1⟩,_,.prod k2 i2⟩
 | unit=>
  intro args av x hv h
  cases args with
  | nil=>
   cases av with
   | nil=>exact ⟨trivial,[],.unit⟩
   | cons=>simp [ae] at hv
  | cons=>simp [cT] at h
 | int=>intro args av x hv h;cases args <;> simp [cT] at h
 | bool=>intro args av x hv h;cases args <;> simp [cT] at h
 | str=>intro args av x hv h;cases args <;> simp [cT] at h
 | slice=>intro args av x hv h;cases args <;> simp [cT] at h
 | nm=>intro args av x hv h;cases args <;> simp [cT] at h
theorem ne {C:Cfg} (hC:CfgOK P C) (hP:P.follows .mixedOrders=true) {f:FuncId} {fn:Func} (hf:P.funcs[f]?=some fn) (hbody:fn.body.isSome=true) (hname :(fn.name == "runtime.NumGoroutine")=false) (hN:C.N=fn.ntmps)
  {q:List PF} {ps:Ty} {spec:Den ps→PRes} {Λ:Den ps→Nat→Option LoopSum}
  (hΛ :∀ x:Den ps,wfD ps x→(∀ p∈(spec x).needs,p)→∀ c,fn.body=some c→∀ b∈aK (Λ x) c,∀ L,Λ x (rid b)=some L→LoopOK P C.N b L) (hlen :∀ x:Den ps,(fI q ps x).length≤fn.ntmps)
  (h :∀ x:Den ps,wfD ps x→(∀ p∈(spec x).needs,p)→(evFn C (Λ x) fn (fI q ps x)).sat fun v rows=>leV v (spec x).v∧rows =(spec x).rows):CtrOK P C.K f (d8 C.K q ps spec):=by
 refine ⟨⟨fn,hf,hbody,hname⟩,fun B E hE args av hav m hm ps' v dh hct hps=>?_⟩
 unfold d8 at hct
 split at hct
 case h_2=>cases hct
 rename_i x hx
 simp only at hct
 cases hle:Nat.ble (spec x).rows.length C.K&&(spec x).flat with
 | false=>rw [hle] at hct;cases hct
 | true=>
  rw [hle] at hct
  simp only [cond_true,Option.some.injEq,Prod.mk.injEq] at hct
  obtain ⟨rfl,rfl,rfl⟩:=hct
  simp only [Bool.and_eq_true] at hle
  obtain ⟨hle,hfl⟩:=hle
  obtain ⟨hSE,XS⟩:=cF hE (LH E.H q args)
  have hE0:HRel (yk E.w (fun _=>False) (fun b=>b<E.w.heap.size)) (AE E):=by
   refine ⟨fun h b hx=>?_,fun b hb=>hb,fun h k b hx=>?_,fun h h' k k' b hx=>?_,fun h k hx=>?_,Keeps.refl _ _,fun h k b hx=>?_,fun _ h=>h,fun _ h=> .inl h⟩ <;> cases hx
  obtain ⟨hav0,cs,hrd⟩:=pM hSE (aY XS _ _ hav) hx
  have hav0:ae (AE E) (fI q ps x) av:=hav0
  have hwf:wfD ps x:=⟨_,_,_,hrd⟩
  have hl0:av.length≤fn.ntmps:=by rw [←aR hav0];exact hlen x
  refine Calls.mono (qL hC hP hf hN (hΛ x hwf hps) (h x hwf hps) hE0 (fun _=>trivial) rfl (fun _ h=>h) hav0 hl0) fun e w' hr=>?_
  obtain ⟨Ec,v',v0,v,acc,rfl,hEc,rfl,hv,hcan,hq1,hq2⟩:=hr
  have hcs:=mM hEc m v0 [] v acc v' hcan hv
  have hacc:=hcs.acc ⟨by simp,fun h r hr=>by simp at hr⟩
  have hlenK:acc.length≤C.K:=by
   have:=Nat.le_of_ble_eq_true hle
   rw [←hq2] at this
   simpa using this
  simp only [PRes.flat,Bool.and_eq_true,List.all_eq_true] at hfl
  obtain ⟨E',G,hren,_⟩:=FP hE hm (S1:=fun b=>b<E.w.heap.size) (fun b hb=>hE.stab b hb) hEc hacc hlenK (.inr fun q hq=>hfl.2 _ (by rw [←hq2];exact List.mem_map_of_mem hq))
  refine ⟨E',v',rfl,?_,?_⟩
  ·rw [←hq2];exact G
  ·exact lW _ _ _ hq1 (hcs.rel E' G.w (.inr (wo _ _ hq1 hfl.1)) hren)
end Go.Mir
namespace Go.Proofs.YtkgplaoappjkcaaGreat
open Go Go.Mir
attribute [local irreducible] Go.Mir.DT.sat Go.Mir.evPat Go.Mir.RT.sat Go.Mir.evFn
abbrev FY (l:PC0):List PC0:= [.d (.nm .Rules),.h I,l,.d (.nm .Match)]
abbrev TS:Type:=Rules×Int×Match×List Mir.Event×Unit
def _root_.Go.Mir.mkS (v1:Rules) (v2:Int) (v3:Match) (lg:List Mir.Event):live_Server:={ rules:=v1,epoch:=v2,log:=lg,match_:=v3 }
def _root_.Go.Mir.mkSX (x:TS):live_Server:=mkS x.1 x.2.1 x.2.2.1 x.2.2.2.1
def J0:Ty:= .prod Evs .unit
def x4:Den J0→PRes:=fun x=>⟨[x.1.length≤1000000],.osl 0 0,[⟨.nm .Event,x.1⟩]⟩
def ge:FuncId×Ctr:=(31,aq KE J0 x4)
abbrev hpS (v:Nat):List (Nat×PB):= [(0,.cells (FY (.c (.osl 1 v)))),(1,.row v (.nm .Event))]
abbrev DX:Pat:=⟨[(0,.c (.ptr 0 0)),(1,.h I)],hpS 2,3⟩
abbrev pz:Pat:=⟨[(0,.c .nilptr),(1,.h I)],[],0⟩
def wz (r:Rules):live_Server:={ rules:=r,epoch:=1,log:= [],match_:=iB r }
def tL (r:Rules):Prop:=ax r=0
def o0 (r:Rules):Prop:=ax r≠0
def Cb:Den (tyP qRu)→List Prop×Den (tyP DX):=fun x=>([tL x.1],((0:Int),(wz x.1).rules,(wz x.1).epoch,(wz x.1).match_,[],()))
def xf:Den (tyP qRu)→List Prop×Den (tyP pz):=fun x=>([o0 x.1],(ax x.1,()))
abbrev qSE:Pat:=⟨[(0,.c (.ptr 0 0)),(1,.h (.nm .Event))],hpS 2,3⟩
abbrev qSL:Pat:=⟨[(0,.h I)],hpS 3,4⟩
def gr (s:live_Server):Prop:=aD s.match_∧s.log.length≤4000
def sI:Den (tyP qSE)→List Prop×Den (tyP qSL):=fun x=>([gr (mkSX x.2)],(lm (mkSX x.2) x.1,(aZ (mkSX x.2) x.1).rules,(aZ (mkSX x.2) x.1).epoch,(aZ (mkSX x.2) x.1).match_,(aZ (mkSX x.2) x.1).log,()))
abbrev Ke:Pat:=⟨[(0,.c (.ptr 0 0)),(1,.h I),(2,.h (.nm .Event))],hpS 2,3⟩
abbrev qSC:Pat:=⟨[(0,.h I),(1,.h I)],hpS 3,4⟩
def sD:Den (tyP Ke)→List Prop×Den (tyP qSC):=fun x=>([gr (mkSX x.2.2)],(tj (mkSX x.2.2) x.1 x.2.1,ol (mkSX x.2.2) x.1 x.2.1,(bc (mkSX x.2.2) x.1 x.2.1).rules,(bc (mkSX x.2.2) x.1 x.2.1).epoch,(bc (mkSX x.2.2) x.1 x.2.1).match_,(bc (mkSX x.2.2) x.1 x.2.1).log,()))
def zF:Ty:= .prod (.nm .live_Server) .unit
def DJ:Ty:= .prod (.nm .live_Server) (.prod I .unit)
def jY:Den zF→PRes:=fun x=>⟨[],.tup [.int .i64 x.1.epoch,.int .i64 x.1.log.length],[]⟩
def qi:Den zF→PRes:=fun x=>⟨[x.1.log.length≤1000000],.osl 0 0,[⟨.nm .Event,x.1.log⟩]⟩
def la (s:live_Server) (k:Int):Bool:=decide (k<0)||decide (k >(s.log.length:Int))
def eJ (s:live_Server) (k:Int):Int:=if la s k then 2 else 0
def eO (s:live_Server) (k n:Int):Int:=if la s k then 0 else n
def dV (s:live_Server) (k:Int):List Mir.Event:=if la s k then [] else s.log.drop k.toNat
def qj:Den DJ→PRes:=fun x=>⟨[x.1.log.length≤1000000],.tup [.agg [.int .i64 (eO x.1 x.2.1 x.1.epoch),.int .i64 (eO x.1 x.2.1 x.2.1),.int .i64 (eO x.1 x.2.1 x.1.log.length),.osl 0 0],.int .i64 (eJ x.1 x.2.1)],[⟨.nm .Event,dV x.1 x.2.1⟩]⟩
theorem BJ (x:List Mir.Event) (hs:x.length≤1000000) :(evFn (al [] Tryz.f31) (fun _=>none) Tryz.f31 (bk J0 (x,()))).sat fun v' rows=>leV v' (x4 (x,())).v∧rows =(x4 (x,())).rows:=by
 refine cast (by kernel_rfl) (?_ :(x.isEmpty=true→(nat_lit 0=nat_lit 0∧nat_lit 0=nat_lit 0)∧ [RowD.mk (Ty.nm Nm.Event) []]=[RowD.mk (Ty.nm Nm.Event) x])∧((0:Nat)+x.length) *(136:Nat)≤(70368744177664:Nat)∧(nat_lit 0=nat_lit 0∧nat_lit 0=nat_lit 0)∧ [RowD.mk (Ty.nm Nm.Event) ([]++x)]=[RowD.mk (Ty.nm Nm.Event) x])
 refine ⟨fun h=>⟨⟨rfl,rfl⟩,?_⟩,?_,⟨rfl,rfl⟩,rfl⟩
 ·have:x=[]:=List.isEmpty_iff.1 h
  subst this;rfl
 ·omega
theorem l6:CtrOK Tryz.prog KE 31 (aq KE J0 x4):=by
 refine aS (C:=al [] Tryz.f31) (aj (CtrsOK.nil) _) mixed (fn:=Tryz.f31) Tryz.func31 (by kernel_rfl) (by kernel_rfl) (by kernel_rfl) (Λ:=fun _ _=>none) ?_ ?_ ?_
 ·exact fun _ _ _ _ _ _ _ _ h=>by cases h
 ·rintro ⟨x,⟨⟩⟩
  exact of_decide_eq_true (by kernel_rfl)
 ·rintro ⟨x,⟨⟩⟩ hw hn
  exact BJ x (hn _ (List.mem_singleton.2 rfl))
theorem HW (r:Rules) (h0:tL r) :(evPat (al [kc] Tryz.f7) (fun _=>none) Tryz.f7 qRu DX (r,())).sat fun z_=>z_ =(Cb (r,())).2:=by
 refine cast (by kernel_rfl) (?_ :((ax r !=(0:Int))=true→False)∧((ax r !=(0:Int))=false→((0:Int),(gG r).1,(1:Int),gG r,([]:List Mir.Event),()) =((0:Int),r,(1:Int),iB r,([]:List Mir.Event),())))
 have h0':ax r=0:=h0
 refine ⟨fun h=>?_,fun _=>?_⟩
 ·rw [h0'] at h;exact absurd h (by decide)
 ·rw [oJ h0'];rfl
def wm:FuncId×Ctr:=(7,af KE qRu DX Cb)
theorem Dy:CtrOK Tryz.prog KE 7 (af KE qRu DX Cb):=by
 refine ar (C:=al [kc] Tryz.f7) (aj (.consU oN rfl .nil) _) mixed (fn:=Tryz.f7) Tryz.func7 (by kernel_rfl) (by kernel_rfl) (by kernel_rfl) (by kernel_rfl) (by kernel_rfl) (by kernel_rfl) (Λ:=fun _ _=>none) ?_ ?_
 ·exact fun _ _ _ _ _ _ _ _ h=>by cases h
 ·rintro ⟨r,⟨⟩⟩ hw hn
  exact HW r (hn _ List.mem_cons_self)
theorem Fn (r:Rules) (h0:o0 r) :(evPat (al [kc] Tryz.f7) (fun _=>none) Tryz.f7 qRu pz (r,())).sat fun z_=>z_ =(xf (r,())).2:=by
 refine cast (by kernel_rfl) (?_ :((ax r !=(0:Int))=true→(ax r,()) =(ax r,()))∧((ax r !=(0:Int))=false→False))
 exact ⟨fun _=>rfl,fun h=>h0 (by simpa using h)⟩
def C9:FuncId×Ctr:=(7,af KE qRu pz xf)
theorem Hg:CtrOK Tryz.prog KE 7 (af KE qRu pz xf):=by
 refine ar (C:=al [kc] Tryz.f7) (aj (.consU oN rfl .nil) _) mixed (fn:=Tryz.f7) Tryz.func7 (by kernel_rfl) (by kernel_rfl) (by kernel_rfl) (by kernel_rfl) (by kernel_rfl) (by kernel_rfl) (Λ:=fun _ _=>none) ?_ ?_
 ·exact fun _ _ _ _ _ _ _ _ h=>by cases h
 ·rintro ⟨r,⟨⟩⟩ hw hn
  exact Fn r (hn _ List.mem_cons_self)
theorem wV (s:live_Server) (e:Mir.Event) (hs:gr s) :(evPat (al [mW] Tryz.f9) (fun _=>none) Tryz.f9 qSE qSL (e,s.rules,s.epoch,s.match_,s.log,())).sat fun z_=>z_ =(sI (e,s.rules,s.epoch,s.match_,s.log,())).2:=by
 refine cast (by kernel_rfl) (?_:let r1:Bool:=ba s.4 e ==(0:Int);let r2:Bool:=decide ((↑s.3.length:Int)≥(4000:Int));(r2=true→((26:Int),s.1,s.2,s.4,s.3,()) =(lm s e,(aZ s e).1,(aZ s e).2,(aZ s e).4,(aZ s e).3,()))∧(r2=false→aD s.4∧(r1=true→(s.3.length+[e].length) *(136:Nat)≤(70368744177664:Nat)∧(ba s.4 e,s.1,s.2,bd s.4 e,s.3++[e],()) =(lm s e,(aZ s e).1,(aZ s e).2,(aZ s e).4,(aZ s e).3,()))∧(r1=false→(ba s.4 e,s.1,s.2,s.4,s.3,()) =(lm s e,(aZ s e).1,(aZ s e).2,(aZ s e).4,(aZ s e).3,()))))
 intro r1 r2
 clear_value (hr1:r1=_) (hr2:r2=_)
 have hr2':decide ((s.log.length:Int)≥4000)=r2:=hr2.symm
 refine ⟨fun h=>?_,fun h=>⟨hs.1,fun h1=>⟨?_,?_⟩,fun h1=>?_⟩⟩
 ·have hp:lm s e=26:=by unfold lm;rw [hr2',h];rfl
  have hS:aZ s e=s:=by unfold aZ;rw [if_pos (by rw [hp];decide)]
  rw [hS,hp]
 ·have:=hs.2;simp only [List.length_singleton];omega
 ·have hz:ba s.match_ e=0:=by rw [hr1] at h1;exact eq_of_beq h1
  have hp:lm s e=0:=by unfold lm;rw [hr2',h,hz];rfl
  have hS:aZ s e={ s with match_:=bd s.match_ e,log:=s.log++[e] }:=by unfold aZ;rw [if_neg (by rw [hp];decide)]
  rw [hS,hp,hz]
 ·have hp:lm s e=ba s.match_ e:=by unfold lm;rw [hr2',h];rfl
  have hS:aZ s e=s:=by
   unfold aZ
   rw [if_pos]
   show (!(lm s e==0))=true
   rw [hp,←hr1,h1];rfl
  rw [hS,hp]
def cq:FuncId×Ctr:=(9,af KE qSE qSL sI)
theorem cX:CtrOK Tryz.prog KE 9 (af KE qSE qSL sI):=by
 refine ar (C:=al [mW] Tryz.f9) (aj (.consU qc rfl .nil) _) mixed (fn:=Tryz.f9) Tryz.func9 (by kernel_rfl) (by kernel_rfl) (by kernel_rfl) (by kernel_rfl) (by kernel_rfl) (by kernel_rfl) (Λ:=fun _ _=>none) ?_ ?_
 ·exact fun _ _ _ _ _ _ _ _ h=>by cases h
 ·rintro ⟨e,v1,v2,v3,lg,⟨⟩⟩ hw hn
  exact wV (mkS v1 v2 v3 lg) e (hn _ List.mem_cons_self)
def dw:FuncId×Ctr:=(16,d8 KE ([.ptr]:List PF) zF jY)
theorem Ah (s:live_Server) :(evFn (al [] Tryz.f16) (fun _=>none) Tryz.f16 (fI ([.ptr]:List PF) zF (s,()))).sat fun v' rows=>leV v' (jY (s,())).v∧rows =(jY (s,())).rows:=by
 refine cast (by kernel_rfl) (?_ :(([s].getD (Int.toNat (0:Int)) (dflt (Ty.nm Nm.live_Server))).2=s.2∧(↑([s].getD (Int.toNat (0:Int)) (dflt (Ty.nm Nm.live_Server))).3.length:Int) =(↑s.3.length:Int)∧True)∧([]:List RowD)=[])
 exact ⟨⟨rfl,rfl,trivial⟩,rfl⟩
theorem dJ:CtrOK Tryz.prog KE 16 (d8 KE ([.ptr]:List PF) zF jY):=by
 refine ne (C:=al [] Tryz.f16) (aj (CtrsOK.nil) _) mixed (fn:=Tryz.f16) Tryz.func16 (by kernel_rfl) (by kernel_rfl) (by kernel_rfl) (Λ:=fun _ _=>none) ?_ ?_ ?_
 ·exact fun _ _ _ _ _ _ _ _ h=>by cases h
 ·rintro ⟨s,⟨⟩⟩
  exact of_decide_eq_true (by kernel_rfl)
 ·rintro ⟨s,⟨⟩⟩ hw hn
  exact Ah s
def i4:FuncId×Ctr:=(18,d8 KE ([.ptr]:List PF) zF qi)
theorem HV (s:live_Server) (hl:s.log.length≤1000000) :(evFn (al [ge] Tryz.f18) (fun _=>none) Tryz.f18 (fI ([.ptr]:List PF) zF (s,()))).sat fun v' rows=>leV v' (qi (s,())).v∧rows =(qi (s,())).rows:=by
 refine cast (by kernel_rfl) (?_ :([s].getD (Int.toNat (0:Int)) (dflt (Ty.nm Nm.live_Server))).3.length≤(1000000:Nat)∧(nat_lit 0=nat_lit 0∧nat_lit 0=nat_lit 0)∧ [RowD.mk (Ty.nm Nm.Event) ([s].getD (Int.toNat (0:Int)) (dflt (Ty.nm Nm.live_Server))).3]=[RowD.mk (Ty.nm Nm.Event) s.3])
 exact ⟨hl,⟨rfl,rfl⟩,rfl⟩
theorem iQ:CtrOK Tryz.prog KE 18 (d8 KE ([.ptr]:List PF) zF qi):=by
 refine ne (C:=al [ge] Tryz.f18) (aj (.consU l6 rfl .nil) _) mixed (fn:=Tryz.f18) Tryz.func18 (by kernel_rfl) (by kernel_rfl) (by kernel_rfl) (Λ:=fun _ _=>none) ?_ ?_ ?_
 ·exact fun _ _ _ _ _ _ _ _ h=>by cases h
 ·rintro ⟨s,⟨⟩⟩
  exact of_decide_eq_true (by kernel_rfl)
 ·rintro ⟨s,⟨⟩⟩ hw hn
  exact HV s (hn _ List.mem_cons_self)
def bX:FuncId×Ctr:=(13,d8 KE ([.ptr,.dat]:List PF) DJ qj)
theorem wU (s:live_Server) (k:Int) (hl:s.log.length≤1000000) :(evFn (al [ge] Tryz.f13) (fun _=>none) Tryz.f13 (fI ([.ptr,.dat]:List PF) DJ (s,k,()))).sat fun v' rows=>leV v' (qj (s,k,())).v∧rows =(qj (s,k,())).rows:=by
 refine cast (by kernel_rfl) (?_ :((bif decide (k <(0:Int)) then true else decide (k >(↑([s].getD (Int.toNat (0:Int)) (dflt (Ty.nm Nm.live_Server))).3.length:Int)))=true→(((0:Int)=eO s k s.2∧(0:Int)=eO s k k∧(0:Int)=eO s k (↑s.3.length:Int)∧(nat_lit 0=nat_lit 0∧nat_lit 0=nat_lit 0)∧True)∧(2:Int)=eJ s k∧True)∧ [RowD.mk (Ty.nm Nm.Event) []]=[RowD.mk (Ty.nm Nm.Event) (dV s k)])∧((bif decide (k <(0:Int)) then true else decide (k >(↑([s].getD (Int.toNat (0:Int)) (dflt (Ty.nm Nm.live_Server))).3.length:Int)))=false→((0:Int)≤k∧k≤(↑([s].getD (Int.toNat (0:Int)) (dflt (Ty.nm Nm.live_Server))).3.length:Int)∧(↑([s].getD (Int.toNat (0:Int)) (dflt (Ty.nm Nm.live_Server))).3.length:Int)≤(↑([s].getD (Int.toNat (0:Int)) (dflt (Ty.nm Nm.live_Server))).3.length:Int))∧(List.drop k.toNat (List.take (↑([s].getD (Int.toNat (0:Int)) (dflt (Ty.nm Nm.live_Server))).3.length:Int).toNat ([s].getD (Int.toNat (0:Int)) (dflt (Ty.nm Nm.live_Server))).3)).length≤(1000000:Nat)∧((([s].getD (Int.toNat (0:Int)) (dflt (Ty.nm Nm.live_Server))).2=eO s k s.2∧k=eO s k k∧(↑([s].getD (Int.toNat (0:Int)) (dflt (Ty.nm Nm.live_Server))).3.length:Int)=eO s k (↑s.3.length:Int)∧(nat_lit 0=nat_lit 0∧nat_lit 0=nat_lit 0)∧True)∧(0:Int)=eJ s k∧True)∧ [RowD.mk (Ty.nm Nm.Event) (List.drop k.toNat (List.take (↑([s].getD (Int.toNat (0:Int)) (dflt (Ty.nm Nm.live_Server))).3.length:Int).toNat ([s].getD (Int.toNat (0:Int)) (dflt (Ty.nm Nm.live_Server))).3))]=[RowD.mk (Ty.nm Nm.Event) (dV s k)]))
 have eG :(bif decide (k<0) then true else decide (k >(s.log.length:Int)))=la s k:=by unfold la;cases decide (k<0) <;> rfl
 refine ⟨fun h=>?_,fun h=>?_⟩
 ·have h:la s k=true:=eG.symm.trans h
  have a :∀ n,eO s k n=0:=fun n=>by unfold eO;rw [if_pos h]
  have b:eJ s k=2:=by unfold eJ;rw [if_pos h]
  have c:dV s k=[]:=by unfold dV;rw [if_pos h]
  exact ⟨⟨⟨(a _).symm,(a _).symm,(a _).symm,⟨rfl,rfl⟩,trivial⟩,b.symm,trivial⟩,by rw [c];rfl⟩
 ·have h:la s k=false:=eG.symm.trans h
  have hn :¬ la s k=true:=by rw [h];decide
  have a :∀ n,eO s k n=n:=fun n=>by unfold eO;rw [if_neg hn]
  have b:eJ s k=0:=by unfold eJ;rw [if_neg hn]
  have c:dV s k=s.log.drop k.toNat:=by unfold dV;rw [if_neg hn]
  have hb:=h
  unfold la at hb
  simp only [Bool.or_eq_false_iff,decide_eq_false_iff_not] at hb
  have t:List.take ((s.log.length:Int)).toNat s.log=s.log:=List.take_of_length_le (by omega)
  have c':dV s k =(List.take ((s.log.length:Int)).toNat s.log).drop k.toNat:=by rw [t];exact c
  have b1:k≤(s.log.length:Int):=by omega
  have b2 :((List.take ((s.log.length:Int)).toNat s.log).drop k.toNat).length≤1000000:=by rw [t,List.length_drop];omega
  exact ⟨⟨by omega,b1,Int.le_refl _⟩,b2,⟨⟨(a _).symm,(a _).symm,(a _).symm,⟨rfl,rfl⟩,trivial⟩,b.symm,trivial⟩,by rw [c'];rfl⟩
theorem cD:CtrOK Tryz.prog KE 13 (d8 KE ([.ptr,.dat]:List PF) DJ qj):=by
 refine ne (C:=al [ge] Tryz.f13) (aj (.consU l6 rfl .nil) _) mixed (fn:=Tryz.f13) Tryz.func13 (by kernel_rfl) (by kernel_rfl) (by kernel_rfl) (Λ:=fun _ _=>none) ?_ ?_ ?_
 ·exact fun _ _ _ _ _ _ _ _ h=>by cases h
 ·rintro ⟨s,k,⟨⟩⟩
  exact of_decide_eq_true (by kernel_rfl)
 ·rintro ⟨s,k,⟨⟩⟩ hw hn
  exact wU s k (hn _ List.mem_cons_self)
theorem wS (s:live_Server) (k:Int) (e:Mir.Event) (hs:gr s) :(evPat (al [ge,uz] Tryz.f11) (fun _=>none) Tryz.f11 Ke qSC (k,e,s.rules,s.epoch,s.match_,s.log,())).sat fun z_=>z_ =(sD (k,e,s.rules,s.epoch,s.match_,s.log,())).2:=by
 refine cast (by kernel_rfl) (?_:let r1:Bool:=(aG s.1 (s.3.set k.toNat e)).2.2.2 !=(0:Int);let r2:Bool:=bif decide (k <(0:Int)) then true else decide (k≥(↑s.3.length:Int));(r2=true→((-1:Int),(1:Int),s.1,s.2,s.4,s.3,()) =(tj s k e,ol s k e,(bc s k e).1,(bc s k e).2,(bc s k e).4,(bc s k e).3,()))∧(r2=false→s.3.length≤(1000000:Nat)∧((0:Int)≤k∧k <(↑s.3.length:Int))∧(r1=true→((aG s.1 (s.3.set k.toNat e)).2.2.1,(aG s.1 (s.3.set k.toNat e)).2.2.2,s.1,s.2,s.4,s.3,()) =(tj s k e,ol s k e,(bc s k e).1,(bc s k e).2,(bc s k e).4,(bc s k e).3,()))∧(r1=false→((-1:Int),(0:Int),s.1,IntKind.i64.wrap (s.2 +(1:Int)),(aG s.1 (s.3.set k.toNat e)).2.1,s.3.set k.toNat e,()) =(tj s k e,ol s k e,(bc s k e).1,(bc s k e).2,(bc s k e).4,(bc s k e).3,()))))
 intro r1 r2
 clear_value (hr1:r1=_) (hr2:r2=_)
 have hG:Ep s k=r2:=by rw [hr2];unfold Ep;cases decide (k<0) <;> rfl
 have hb:r2=false→0≤k∧k<s.log.length:=fun h=>by
  have hb:=hG.trans h
  unfold Ep at hb
  simp only [Bool.or_eq_false_iff,decide_eq_false_iff_not] at hb
  omega
 have hl:r2=false→ol s k e =(aG s.rules (s.log.set k.toNat e)).2.2.2:=fun h=>by unfold ol;rw [hG,h];rfl
 refine ⟨fun h=>?_,fun h=>⟨by have:=hs.2;omega,hb h,fun h1=>?_,fun h1=>?_⟩⟩
 ·have hL:ol s k e=1:=by unfold ol;rw [hG,h];rfl
  have hI:tj s k e = -1:=by unfold tj;rw [hG,h];rfl
  have hS:bc s k e=s:=by unfold bc;rw [hL];rfl
  rw [hL,hI,hS]
 ·have hL :¬ ol s k e=0:=by rw [hr1,←hl h] at h1;simpa using h1
  have hS:bc s k e=s:=by unfold bc;rw [if_pos (by simpa using hL)]
  have hI:tj s k e =(aG s.rules (s.log.set k.toNat e)).2.2.1:=by
   unfold tj
   rw [hG,h,if_neg (by decide),if_pos]
   ·rfl
   ·show ((aG s.rules (s.log.set k.toNat e)).2.2.2 != 0)=true
    rw [←hr1];exact h1
  rw [hS,hl h,hI]
 ·have hc':ol s k e=0:=by rw [hr1,←hl h] at h1;simpa using h1
  have hS:bc s k e={ s with match_:=(yp s k e).1,log:=s.log.set k.toNat e,epoch:=W (s.epoch+1) }:=by unfold bc;rw [if_neg (by rw [hc'];decide)]
  have hI:tj s k e = -1:=by
   unfold tj
   rw [hG,h,if_neg (by decide),if_neg]
   show ¬((aG s.rules (s.log.set k.toNat e)).2.2.2 != 0)=true
   rw [←hl h,hc'];decide
  rw [hS,hI,hc']
  rfl
def dc:FuncId×Ctr:=(11,af KE Ke qSC sD)
theorem dI:CtrOK Tryz.prog KE 11 (af KE Ke qSC sD):=by
 refine ar (C:=al [ge,uz] Tryz.f11) (aj (.consU l6 rfl (.consU Br rfl .nil)) _) mixed (fn:=Tryz.f11) Tryz.func11 (by kernel_rfl) (by kernel_rfl) (by kernel_rfl) (by kernel_rfl) (by kernel_rfl) (by kernel_rfl) (Λ:=fun _ _=>none) ?_ ?_
 ·exact fun _ _ _ _ _ _ _ _ h=>by cases h
 ·rintro ⟨k,e,v1,v2,v3,lg,⟨⟩⟩ hw hn
  exact wS (mkS v1 v2 v3 lg) k e (hn _ List.mem_cons_self)
end Go.Proofs.YtkgplaoappjkcaaGreat
namespace Go.Proofs.YtkgplaoappjkcaaGreat
open Go Go.Mir
attribute [local irreducible] Go.Mir.DT.sat Go.Mir.evPat Go.Mir.RT.sat Go.Mir.evFn
def AI (s:ByteArray):ByteArray:=s.extract 0 (tI s.size 20).toNat
def mL (r:Rules):Rules:={ r with Name:=AI r.Name,Power:=r.Power.take (tI r.Power.length 10).toNat }
def B3:Den (tyP qRu)→List Prop×Den (tyP qRu):=fun x=>([],(mL x.1,()))
theorem tT (r:Rules) :(evPat (al [] Tryz.f6) (fun _=>none) Tryz.f6 qRu qRu (r,())).sat fun z_=>z_ =(B3 (r,())).2:=by
 refine cast (by kernel_rfl) (?_:let r1:Int:=if (20:Int) <(↑r.1.size:Int) then (20:Int) else (↑r.1.size:Int);let r2:Int:=if (10:Int) <(↑r.14.length:Int) then (10:Int) else (↑r.14.length:Int);((0:Int)≤(0:Int)∧(0:Int)≤r1∧r1≤(↑r.1.size:Int))∧((0:Int)≤(0:Int)∧(0:Int)≤r2∧r2≤(↑r.14.length:Int))∧(Rules.mk (r.1.extract (Int.toNat (0:Int)) r1.toNat) r.2 r.3 r.4 r.5 r.6 r.7 r.8 r.9 r.10 r.11 r.12 r.13 (List.drop (Int.toNat (0:Int)) (List.take r2.toNat r.14)),()) =(mL r,()))
 intro r1 r2
 clear_value (hr1:r1=_) (hr2:r2=_)
 have h1:0≤r1∧r1≤r.Name.size:=by rw [hr1];split <;> omega
 have h2:0≤r2∧r2≤r.Power.length:=by rw [hr2];split <;> omega
 refine ⟨⟨Int.le_refl _,h1.1,h1.2⟩,⟨Int.le_refl _,h2.1,h2.2⟩,?_⟩
 rw [hr1,hr2]
 rfl
def iL:FuncId×Ctr:=(6,af KE qRu qRu B3)
theorem nS:CtrOK Tryz.prog KE 6 (af KE qRu qRu B3):=by
 refine ar (C:=al [] Tryz.f6) (aj (CtrsOK.nil) _) mixed (fn:=Tryz.f6) Tryz.func6 (by kernel_rfl) (by kernel_rfl) (by kernel_rfl) (by kernel_rfl) (by kernel_rfl) (by kernel_rfl) (Λ:=fun _ _=>none) ?_ ?_
 ·exact fun _ _ _ _ _ _ _ _ h=>by cases h
 ·rintro ⟨r,⟨⟩⟩ hw hn
  exact tT r
end Go.Proofs.YtkgplaoappjkcaaGreat
namespace Go.Proofs.YtkgplaoappjkcaaGreat
open Go Go.Mir
attribute [local irreducible] Go.Mir.DT.sat Go.Mir.evPat Go.Mir.RT.sat Go.Mir.evFn
abbrev FX (l:PC0):List PC0:= [.d (.nm .Match),.h I,.h I,.d (.nm .Match),.h I,.h I,l]
abbrev TF:Type:=Match×Int×Int×Match×Int×Int×List Message×Unit
def _root_.Go.Mir.mkF (v1:Match) (v2:Int) (v3:Int) (v4:Match) (v5:Int) (v6:Int) (kp:List Message):live_Follower:={ start:=v1,epoch:=v2,known:=v3,match_:=v4,newest:=v5,newestN:=v6,kept:=kp }
def _root_.Go.Mir.mkFX (x:TF):live_Follower:=mkF x.1 x.2.1 x.2.2.1 x.2.2.2.1 x.2.2.2.2.1 x.2.2.2.2.2.1 x.2.2.2.2.2.2.1
abbrev hpF (v:Nat):List (Nat×PB):= [(0,.cells (FX (.c (.osl 1 v)))),(1,.row v (.nm .Message))]
abbrev DU:Pat:=⟨[(0,.c (.ptr 0 0)),(1,.h I)],hpF 2,3⟩
def oI (r:Rules):live_Follower:={ start:=iB r,epoch:=0,known:=0,match_:=iB r,newest:=0,newestN:=0,kept:= [] }
def oU:Den (tyP qRu)→List Prop×Den (tyP DU):=fun x=>([tL x.1],((0:Int),(oI x.1).start,(oI x.1).epoch,(oI x.1).known,(oI x.1).match_,(oI x.1).newest,(oI x.1).newestN,[],()))
def ng:Den (tyP qRu)→List Prop×Den (tyP pz):=fun x=>([o0 x.1],(ax x.1,()))
def zC:Ty:= .prod (.nm .live_Follower) .unit
def DG:Ty:= .prod (.nm .live_Follower) (.prod (.nm .Message) .unit)
def qh:Den zC→PRes:=fun x=>⟨[],.tup [.int .i64 x.1.epoch,.int .i64 x.1.known],[]⟩
def jH (f:live_Follower):Int:=if f.epoch != f.newest then f.newestN else ko (W (f.newestN - f.known)) 0
def nW:Den zC→PRes:=fun x=>⟨[],.int .i64 (jH x.1),[]⟩
def aP (f:live_Follower) (m:Message):Bool:=(m.Epoch==f.epoch&&decide (m.From≤f.known)) ||(m.From==0&&decide (m.Epoch>f.epoch))
def jZ:Den DG→PRes:=fun x=>⟨[],.bool (aP x.1 x.2.1),[]⟩
abbrev qMs:Pat:=bG [.nm .Message]
def ud (m:Message):Bool:=decide (m.Epoch<1)||decide (m.From<0)||decide (m.To<0)||decide (m.To>4000) ||(W (m.To - m.Events.length) != m.From)
def cI (m:Message):Bool:=!ud m&&m.Events.all fun e=>be e==0
def xd:Den (tyP qMs)→List Prop×Den (tyP aw):=fun x=>([x.1.Events.length≤aI],(cI x.1,()))
abbrev DY:Pat:=bG [.str]
def Cv (s:ByteArray):Rules:=if s.toList ==({ data:=#[84,69,83,84] }:ByteArray).toList then { Name:=s,Side:=11,Innings:=2,Overs:=0,Balls:=6,Quota:=0,Wide:=1,NoBall:=1,FreeHit:=false,NewBall:=80,FollowOn:=200,Reviews:=3,Outside:=9,Power:= [] }
 else if s.toList ==({ data:=#[79,78,69,68,65,89] }:ByteArray).toList then { Name:=s,Side:=11,Innings:=1,Overs:=50,Balls:=6,Quota:=10,Wide:=1,NoBall:=1,FreeHit:=true,NewBall:=0,FollowOn:=0,Reviews:=2,Outside:=5,Power:= [⟨1,10,2⟩,⟨11,40,4⟩] }
 else if s.toList ==({ data:=#[84,87,69,78,84,89] }:ByteArray).toList then { Name:=s,Side:=11,Innings:=1,Overs:=20,Balls:=6,Quota:=4,Wide:=1,NoBall:=1,FreeHit:=true,NewBall:=0,FollowOn:=0,Reviews:=2,Outside:=5,Power:= [⟨1,6,2⟩] }
 else Rules.zero
def Cu (s:ByteArray):Int:=if s.toList ==({ data:=#[84,69,83,84] }:ByteArray).toList||s.toList ==({ data:=#[79,78,69,68,65,89] }:ByteArray).toList||s.toList ==({ data:=#[84,87,69,78,84,89] }:ByteArray).toList then 0 else 6
abbrev DR:Pat:=bG [.nm .Rules,I]
def Mo:Den (tyP DY)→List Prop×Den (tyP DR):=fun x=>([],(Cv x.1,Cu x.1,()))
abbrev qNo:Pat:=bG []
abbrev DP:Pat:=bG [Evs]
def oZ:Mir.Event:=dflt (Ty.nm Nm.Event)
def tossW:List Mir.Event:= [{ oZ with Kind:=1,Side:=1,Yes:=true },{ oZ with Kind:=2,Player:=1,Other:=2 },{ oZ with Kind:=8,Player:=2 }]
def Ip:Den (tyP qNo)→List Prop×Den (tyP DP):=fun _=>([],(tossW,()))
theorem Af (r:Rules) (h0:tL r) :(evPat (al [kc] Tryz.f19) (fun _=>none) Tryz.f19 qRu DU (r,())).sat fun z_=>z_ =(oU (r,())).2:=by
 refine cast (by kernel_rfl) (?_ :((ax r !=(0:Int))=true→False)∧((ax r !=(0:Int))=false→((0:Int),gG r,(0:Int),(0:Int),gG r,(0:Int),(0:Int),([]:List Message),()) =((0:Int),iB r,(0:Int),(0:Int),iB r,(0:Int),(0:Int),([]:List Message),())))
 have h0':ax r=0:=h0
 refine ⟨fun h=>?_,fun _=>?_⟩
 ·rw [h0'] at h;exact absurd h (by decide)
 ·rw [oJ h0']
def lS:FuncId×Ctr:=(19,af KE qRu DU oU)
theorem rQ:CtrOK Tryz.prog KE 19 (af KE qRu DU oU):=by
 refine ar (C:=al [kc] Tryz.f19) (aj (.consU oN rfl .nil) _) mixed (fn:=Tryz.f19) Tryz.func19 (by kernel_rfl) (by kernel_rfl) (by kernel_rfl) (by kernel_rfl) (by kernel_rfl) (by kernel_rfl) (Λ:=fun _ _=>none) ?_ ?_
 ·exact fun _ _ _ _ _ _ _ _ h=>by cases h
 ·rintro ⟨r,⟨⟩⟩ hw hn
  exact Af r (hn _ List.mem_cons_self)
theorem wT (r:Rules) (h0:o0 r) :(evPat (al [kc] Tryz.f19) (fun _=>none) Tryz.f19 qRu pz (r,())).sat fun z_=>z_ =(ng (r,())).2:=by
 refine cast (by kernel_rfl) (?_ :((ax r !=(0:Int))=true→(ax r,()) =(ax r,()))∧((ax r !=(0:Int))=false→False))
 exact ⟨fun _=>rfl,fun h=>h0 (by simpa using h)⟩
def ru:FuncId×Ctr:=(19,af KE qRu pz ng)
theorem zg:CtrOK Tryz.prog KE 19 (af KE qRu pz ng):=by
 refine ar (C:=al [kc] Tryz.f19) (aj (.consU oN rfl .nil) _) mixed (fn:=Tryz.f19) Tryz.func19 (by kernel_rfl) (by kernel_rfl) (by kernel_rfl) (by kernel_rfl) (by kernel_rfl) (by kernel_rfl) (Λ:=fun _ _=>none) ?_ ?_
 ·exact fun _ _ _ _ _ _ _ _ h=>by cases h
 ·rintro ⟨r,⟨⟩⟩ hw hn
  exact wT r (hn _ List.mem_cons_self)
def hJ:FuncId×Ctr:=(21,d8 KE ([.ptr]:List PF) zC qh)
theorem HU (f:live_Follower) :(evFn (al [] Tryz.f21) (fun _=>none) Tryz.f21 (fI ([.ptr]:List PF) zC (f,()))).sat fun v' rows=>leV v' (qh (f,())).v∧rows =(qh (f,())).rows:=by
 refine cast (by kernel_rfl) (?_ :(([f].getD (Int.toNat (0:Int)) (dflt (Ty.nm Nm.live_Follower))).2=f.2∧([f].getD (Int.toNat (0:Int)) (dflt (Ty.nm Nm.live_Follower))).3=f.3∧True)∧([]:List RowD)=[])
 exact ⟨⟨rfl,rfl,trivial⟩,rfl⟩
theorem iP:CtrOK Tryz.prog KE 21 (d8 KE ([.ptr]:List PF) zC qh):=by
 refine ne (C:=al [] Tryz.f21) (aj (CtrsOK.nil) _) mixed (fn:=Tryz.f21) Tryz.func21 (by kernel_rfl) (by kernel_rfl) (by kernel_rfl) (Λ:=fun _ _=>none) ?_ ?_ ?_
 ·exact fun _ _ _ _ _ _ _ _ h=>by cases h
 ·rintro ⟨f,⟨⟩⟩
  exact of_decide_eq_true (by kernel_rfl)
 ·rintro ⟨f,⟨⟩⟩ hw hn
  exact HU f
def ez:FuncId×Ctr:=(24,d8 KE ([.ptr]:List PF) zC nW)
theorem Fm (f:live_Follower) :(evFn (al [] Tryz.f24) (fun _=>none) Tryz.f24 (fI ([.ptr]:List PF) zC (f,()))).sat fun v' rows=>leV v' (nW (f,())).v∧rows =(nW (f,())).rows:=by
 refine cast (by kernel_rfl) (?_ :((([f].getD (Int.toNat (0:Int)) (dflt (Ty.nm Nm.live_Follower))).2 !=([f].getD (Int.toNat (0:Int)) (dflt (Ty.nm Nm.live_Follower))).5)=true→([f].getD (Int.toNat (0:Int)) (dflt (Ty.nm Nm.live_Follower))).6=jH f∧([]:List RowD)=[])∧((([f].getD (Int.toNat (0:Int)) (dflt (Ty.nm Nm.live_Follower))).2 !=([f].getD (Int.toNat (0:Int)) (dflt (Ty.nm Nm.live_Follower))).5)=false→(if (0:Int)>IntKind.i64.wrap (([f].getD (Int.toNat (0:Int)) (dflt (Ty.nm Nm.live_Follower))).6 - ([f].getD (Int.toNat (0:Int)) (dflt (Ty.nm Nm.live_Follower))).3) then (0:Int) else IntKind.i64.wrap (([f].getD (Int.toNat (0:Int)) (dflt (Ty.nm Nm.live_Follower))).6 - ([f].getD (Int.toNat (0:Int)) (dflt (Ty.nm Nm.live_Follower))).3))=jH f∧([]:List RowD)=[]))
 refine ⟨fun h=>⟨?_,rfl⟩,fun h=>⟨?_,rfl⟩⟩
 ·have h :(f.epoch != f.newest)=true:=h
  unfold jH;rw [h];rfl
 ·have h :(f.epoch != f.newest)=false:=h
  unfold jH;rw [h];rfl
theorem fx:CtrOK Tryz.prog KE 24 (d8 KE ([.ptr]:List PF) zC nW):=by
 refine ne (C:=al [] Tryz.f24) (aj (CtrsOK.nil) _) mixed (fn:=Tryz.f24) Tryz.func24 (by kernel_rfl) (by kernel_rfl) (by kernel_rfl) (Λ:=fun _ _=>none) ?_ ?_ ?_
 ·exact fun _ _ _ _ _ _ _ _ h=>by cases h
 ·rintro ⟨f,⟨⟩⟩
  exact of_decide_eq_true (by kernel_rfl)
 ·rintro ⟨f,⟨⟩⟩ hw hn
  exact Fm f
def jc:FuncId×Ctr:=(34,d8 KE ([.ptr,.dat]:List PF) DG jZ)
theorem Ai (f:live_Follower) (m:Message) :(evFn (al [] Tryz.f34) (fun _=>none) Tryz.f34 (fI ([.ptr,.dat]:List PF) DG (f,m,()))).sat fun v' rows=>leV v' (jZ (f,m,())).v∧rows =(jZ (f,m,())).rows:=by
 refine cast (by kernel_rfl) (?_ :(bif m.1 ==([f].getD (Int.toNat (0:Int)) (dflt (Ty.nm Nm.live_Follower))).2 then bif decide (m.2≤([f].getD (Int.toNat (0:Int)) (dflt (Ty.nm Nm.live_Follower))).3) then true else bif m.2 ==(0:Int) then decide (m.1 >([f].getD (Int.toNat (0:Int)) (dflt (Ty.nm Nm.live_Follower))).2) else false else bif m.2 ==(0:Int) then decide (m.1 >([f].getD (Int.toNat (0:Int)) (dflt (Ty.nm Nm.live_Follower))).2) else false)=aP f m∧([]:List RowD)=[])
 refine ⟨?_,rfl⟩
 show (bif m.Epoch==f.epoch then bif decide (m.From≤f.known) then true else bif m.From==0 then decide (m.Epoch>f.epoch) else false else bif m.From==0 then decide (m.Epoch>f.epoch) else false)=_
 unfold aP
 cases m.Epoch==f.epoch <;> cases decide (m.From≤f.known) <;> cases m.From==0 <;> cases decide (m.Epoch>f.epoch) <;> rfl
theorem na:CtrOK Tryz.prog KE 34 (d8 KE ([.ptr,.dat]:List PF) DG jZ):=by
 refine ne (C:=al [] Tryz.f34) (aj (CtrsOK.nil) _) mixed (fn:=Tryz.f34) Tryz.func34 (by kernel_rfl) (by kernel_rfl) (by kernel_rfl) (Λ:=fun _ _=>none) ?_ ?_ ?_
 ·exact fun _ _ _ _ _ _ _ _ h=>by cases h
 ·rintro ⟨f,m,⟨⟩⟩
  exact of_decide_eq_true (by kernel_rfl)
 ·rintro ⟨f,m,⟨⟩⟩ hw hn
  exact Ai f m
theorem tR (s:ByteArray) :(evPat (al [] Tryz.f25) (fun _=>none) Tryz.f25 DY DR (s,())).sat fun z_=>z_ =(Mo (s,())).2:=by
 refine cast (by kernel_rfl) (?_:let r1:Bool:=s.toList ==(ByteArray.mk #[(84:UInt8),(69:UInt8),(83:UInt8),(84:UInt8)]).toList;let r2:Bool:=s.toList ==(ByteArray.mk #[(79:UInt8),(78:UInt8),(69:UInt8),(68:UInt8),(65:UInt8),(89:UInt8)]).toList;let r3:Bool:=s.toList ==(ByteArray.mk #[(84:UInt8),(87:UInt8),(69:UInt8),(78:UInt8),(84:UInt8),(89:UInt8)]).toList;(r1=true→(Rules.mk s (11:Int) (2:Int) (0:Int) (6:Int) (0:Int) (1:Int) (1:Int) false (80:Int) (200:Int) (3:Int) (9:Int) [],(0:Int),()) =(Cv s,Cu s,()))∧(r1=false→(r2=true→(Rules.mk s (11:Int) (1:Int) (50:Int) (6:Int) (10:Int) (1:Int) (1:Int) true (0:Int) (0:Int) (2:Int) (5:Int) [Phase.mk (1:Int) (10:Int) (2:Int),Phase.mk (11:Int) (40:Int) (4:Int)],(0:Int),()) =(Cv s,Cu s,()))∧(r2=false→(r3=true→(Rules.mk s (11:Int) (1:Int) (20:Int) (6:Int) (4:Int) (1:Int) (1:Int) true (0:Int) (0:Int) (2:Int) (5:Int) [Phase.mk (1:Int) (6:Int) (2:Int)],(0:Int),()) =(Cv s,Cu s,()))∧(r3=false→(Rules.mk ByteArray.empty (0:Int) (0:Int) (0:Int) (0:Int) (0:Int) (0:Int) (0:Int) false (0:Int) (0:Int) (0:Int) (0:Int) [],(6:Int),()) =(Cv s,Cu s,())))))
 intro r1 r2 r3
 clear_value (hr1:r1=_) (hr2:r2=_) (hr3:r3=_)
 unfold Cv Cu
 rw [←hr1,←hr2,←hr3]
 cases r1 <;> cases r2 <;> cases r3 <;> simp <;> rfl
def po:FuncId×Ctr:=(25,af KE DY DR Mo)
theorem wF:CtrOK Tryz.prog KE 25 (af KE DY DR Mo):=by
 refine ar (C:=al [] Tryz.f25) (aj (CtrsOK.nil) _) mixed (fn:=Tryz.f25) Tryz.func25 (by kernel_rfl) (by kernel_rfl) (by kernel_rfl) (by kernel_rfl) (by kernel_rfl) (by kernel_rfl) (Λ:=fun _ _=>none) ?_ ?_
 ·exact fun _ _ _ _ _ _ _ _ h=>by cases h
 ·rintro ⟨s,⟨⟩⟩ hw hn
  exact tR s
theorem Fx :(evPat (al [] Tryz.f26) (fun _=>none) Tryz.f26 qNo DP ()).sat fun z_=>z_ =(Ip ()).2:=by
 refine cast (by kernel_rfl) (?_:let r1:Delivery:=Delivery.mk (0:Int) (0:Int) (0:Int) (0:Int) (0:Int) false (0:Int) (0:Int) (0:Int) (0:Int) false (0:Int);([Mir.Event.mk (1:Int) (1:Int) (0:Int) (0:Int) true (0:Int) (0:Int) r1,Mir.Event.mk (2:Int) (0:Int) (1:Int) (2:Int) false (0:Int) (0:Int) r1,Mir.Event.mk (8:Int) (0:Int) (2:Int) (0:Int) false (0:Int) (0:Int) r1],()) =(tossW,()))
 intro r1
 clear_value (hr1:r1=_)
 subst hr1
 rfl
def Dc:FuncId×Ctr:=(26,af KE qNo DP Ip)
theorem Hj:CtrOK Tryz.prog KE 26 (af KE qNo DP Ip):=by
 refine ar (C:=al [] Tryz.f26) (aj (CtrsOK.nil) _) mixed (fn:=Tryz.f26) Tryz.func26 (by kernel_rfl) (by kernel_rfl) (by kernel_rfl) (by kernel_rfl) (by kernel_rfl) (by kernel_rfl) (Λ:=fun _ _=>none) ?_ ?_
 ·exact fun _ _ _ _ _ _ _ _ h=>by cases h
 ·rintro ⟨⟩ hw hn
  exact Fx
end Go.Proofs.YtkgplaoappjkcaaGreat
namespace Go.Mir
open Go Go.Proofs Go.Shelf Go.RowKit Go.Lib Go.Sort
variable {P:Program} {ρ:Go.Shelf.Ren}
structure DelLaid (P:Program) (ρ:Go.Shelf.Ren) (z:Nat):Prop where
 mixed:P.follows .mixedOrders=true
 f45:Bears P (ρ.f 45) (SlBodyN.n45 ρ)
 t3:P.underlying (ρ.t 3)=some (TypeDesc.int IntKind.i64)
 a3 :∀ w,(isAgg (ρ.t 3)).run P w = .ok false w
 z3 :∀ w,(Go.sizeOf (ρ.t 3)).run P w = .ok 1 w
 t4:P.underlying (ρ.t 4)=some (TypeDesc.bool)
 a4 :∀ w,(isAgg (ρ.t 4)).run P w = .ok false w
 z4 :∀ w,(Go.sizeOf (ρ.t 4)).run P w = .ok 1 w
 t22:P.underlying (ρ.t 22)=some (TypeDesc.slice (ρ.t 23))
 a22 :∀ w,(isAgg (ρ.t 22)).run P w = .ok false w
 z22 :∀ w,(Go.sizeOf (ρ.t 22)).run P w = .ok 1 w
 z23 :∀ w,(Go.sizeOf (ρ.t 23)).run P w = .ok z w
 i23 :∃ i0,P.info? (ρ.t 23)=some i0∧i0.size=z
 v23 :∃ zv,(∀ w,(zeroValue (ρ.t 23)).run P w = .ok zv w)∧zv.cells.size=z∧∀ u∈zv.cells.toList,u.oneCell'=true
set_option maxHeartbeats 4000000 in
set_option maxRecDepth 1000000 in
theorem F2 (L:DelLaid P ρ 4) (b cap n i:Nat) (w:World) (hn:n≤cap) (hcap:n≤aI) (hi:i≤n) :
  Calls P (ρ.f 45) #[.slice (some ⟨b,0,none⟩) n cap,.int .i64 i,.int .i64 i] w fun e w'=>e = .returned (.slice (some ⟨b,0,none⟩) n cap)∧w'=w:=by
 have mixed:=L.mixed;have t3:=L.t3;have a3:=L.a3;have z3:=L.z3;have t4:=L.t4;have a4:=L.a4;have z4:=L.z4;have t22:=L.t22;have a22:=L.a22;have z22:=L.z22;have z23:=L.z23
 have hcap:n≤140737488355328:=hcap
 obtain ⟨_,_,FG⟩:=L.f45
 go_enter FG,SlBodyN.n45_ntmps ρ
 go_wp2
 all_goals (go_ret;exact ⟨rfl,rfl⟩)
theorem pQ (w:World) (t e ty:TypeId) (z:Value) (ht:P.underlying t=some (.slice e)) (hv :∀ w,(zeroValue e).run P w = .ok z w) (b o n c:Nat) (hn:0<n) {cs:Array Value} {T:TypeId} {fr:Nat×Nat}
  (h1 :∀ u∈z.cells.toList,u.oneCell'=true) (hb:w.heap[b]?=some (.cells cs T fr)) (hfr:Mir.nofrz fr cs.size) (hsz:o+n*z.cells.size≤cs.size) :
  (Builtin.clear_ #[t] ty #[.slice (some ⟨b,o,none⟩) n c]).run P w = .ok (.tuple #[]) (w.setCells b o (Builtin.zeroCells z.cells n).toList):=by
 have hst:=run_storeCells_cells (P:=P) b o (Builtin.zeroCells z.cells n).toList 0 w (fun k hk=>by
   rw [Mir.cell_of hb]
   simp [Builtin.zeroCells] at hk
   simp;omega) (fun k hk=>Mir.frozen_of hb hfr (by simp [Builtin.zeroCells] at hk;omega)) (by
   intro v hv'
   simp [Builtin.zeroCells] at hv'
   obtain ⟨k,hk,rfl⟩:=hv'
   have hp:0<z.cells.size:=by
    rcases Nat.eq_zero_or_pos z.cells.size with h|h
    ·rw [h] at hk;simp at hk
    ·exact h
   have hm:=Nat.mod_lt k hp
   rw [getElem!_pos z.cells _ hm]
   exact h1 _ (Array.mem_toList_iff.2 (Array.getElem_mem hm)))
 simp only [Nat.add_zero] at hst
 obtain ⟨m,rfl⟩ :∃ m,n=m+1:=⟨n - 1,by omega⟩
 simp [Builtin.clear_,run_underlying ht,hv,hst]
set_option maxHeartbeats 4000000 in
set_option maxRecDepth 1000000 in
theorem I3 (L:DelLaid P ρ 4) (b cap n i j:Nat) (w:World) (c:Array Value) (T:TypeId) (fr:Nat×Nat) (hb:w.heap[b]?=some (.cells c T fr)) (hfr:Mir.nofrz fr c.size) (hc:c.size=cap*4) (hn:n≤cap) (hcap:n≤aI) (hij:i<j) (hj:j≤n)
  (h1 :∀ u∈Mir.seg c (j*4) ((n - j)*4),u.oneCell'=true) :
  Calls P (ρ.f 45) #[.slice (some ⟨b,0,none⟩) n cap,.int .i64 i,.int .i64 j] w fun e w'=>e = .returned (.slice (some ⟨b,0,none⟩) (i +(n - j)) cap)∧∃ zs:List Value,zs.length =(j - i)*4∧w' =(w.drew.setCells b (i*4) (Mir.seg c (j*4) ((n - j)*4))).setCells b ((i +(n - j))*4) zs:=by
 have mixed:=L.mixed;have t3:=L.t3;have a3:=L.a3;have z3:=L.z3;have t4:=L.t4;have a4:=L.a4;have z4:=L.z4;have t22:=L.t22;have a22:=L.a22;have z22:=L.z22;have z23:=L.z23
 obtain ⟨i0,hi0,hz1⟩:=L.i23
 obtain ⟨zv,hzv,hzs,hz1c⟩:=L.v23
 have hic:i≤cap:=by omega
 have hjc:j≤cap:=by omega
 have hn4:n*4≤c.size:=by omega
 obtain ⟨news,hnews⟩ :∃ news,news=Mir.seg c (j*4) ((n - j)*4):=⟨_,rfl⟩
 have hlen:news.length =(n - j)*4:=by rw [hnews];exact Mir.seg_len _ _ _ (by omega)
 have hbd:w.drew.heap[b]?=some (.cells c T fr):=hb
 obtain ⟨A,hA,hsrc⟩ :∃ A:Addr,(if cap=j then some (⟨b,0,none⟩:Addr) else some ⟨b,j*4,none⟩)=some A∧Hid (∀ t u,news[t]?=some u→w.drew.cell? (A.add t)=some u):=by
  by_cases h:cap=j
  ·refine ⟨⟨b,0,none⟩,by simp [h],fun t u hu=>?_⟩
   have h0:news.length=0:=by rw [hlen];omega
   rw [List.length_eq_zero_iff.1 h0] at hu
   simp at hu
  ·refine ⟨⟨b,j*4,none⟩,by simp [h],fun t u hu=>?_⟩
   rw [hnews,Mir.seg_get] at hu
   split at hu
   ·rw [Mir.addr_add,Mir.cell_of hbd];exact hu
   ·cases hu
 have s1:Hid (news.length =(n - j)*4):=hlen
 have s2:Hid (∀ u∈news,u.oneCell'=true):=by rw [hnews];exact h1
 have s3:Hid (∀ t,t<news.length→(w.drew.cell? ⟨b,0+i*4+t,none⟩).isSome=true∧w.drew.frozen? ⟨b,0+i*4+t,none⟩=false):=by
  intro t ht
  rw [hlen] at ht
  exact ⟨by rw [Mir.cell_of hbd];simp;omega,Mir.frozen_of hbd hfr (by omega)⟩
 obtain ⟨W1,hW1⟩ :∃ W1,W1=w.drew.setCells b (0+i*4) news:=⟨_,rfl⟩
 obtain ⟨c1,g1,g2⟩:=Mir.setCells_heap b news (0+i*4) w.drew c hbd (by omega)
 rw [←hW1] at g1
 have hcs:c1.size=c.size:=by
  have:=congrArg List.length g2
  simp at this
  omega
 have hcl :∀ ty,(Builtin.clear_ #[ρ.t 22] ty #[.slice (some ⟨b,(i +(n - j))*4,none⟩) (n - (i +(n - j))) (cap - (i +(n - j)))]).run P W1 = .ok (.tuple #[]) (W1.setCells b ((i +(n - j))*4) (Builtin.zeroCells zv.cells (n - (i +(n - j)))).toList):=
  fun ty=>pQ W1 _ _ ty zv t22 hzv b _ _ _ (by omega) hz1c g1 (by rw [hcs];exact hfr) (by rw [hzs,hcs];omega)
 have hzl:Hid ((Builtin.zeroCells zv.cells (n - (i +(n - j)))).toList.length =(j - i)*4):=by
  show (Builtin.zeroCells zv.cells (n - (i +(n - j)))).toList.length =(j - i)*4
  rw [Array.length_toList,Mir.zeroCells_len,hzs];omega
 obtain ⟨zs,hzse⟩ :∃ zs,zs =(Builtin.zeroCells zv.cells (n - (i +(n - j)))).toList:=⟨_,rfl⟩
 rw [←hzse] at hcl hzl
 have hW:Hid (W1=w.drew.setCells b (0+i*4) news):=hW1
 have hN:Hid (news=Mir.seg c (j*4) ((n - j)*4)):=hnews
 clear hW1 g1 g2 hcs hbd hb hfr hnews hlen hzse h1
 have hcap:n≤140737488355328:=hcap
 obtain ⟨_,_,FG⟩:=L.f45
 go_enter FG,SlBodyN.n45_ntmps ρ
 go_wp2_with fail
 go_region_law_o (refine step_append_room rfl (.tmp 22) (.tmp 25) (ρ.t 22) rfl (ρ.t 23) i0 4 t22 hi0 hz1 b 0 i cap (by simp [Act.eval,Act.put]) A (n - j) (cap - j) news (by simp [Act.eval,Act.put,hA]) s1.out hsrc.out s2.out (by omega) s3.out ?_;rw [←hW.out])
 go_wp2
 go_ret
 refine ⟨rfl,zs,hzl.out,?_⟩
 rw [hW.out,Nat.zero_add,hN.out]
set_option maxHeartbeats 4000000 in
set_option maxRecDepth 1000000 in
theorem F0 (L:DelLaid P ρ 4) (a:Option Addr) (w:World) :
  Calls P (ρ.f 45) #[.slice a 0 0,.int .i64 0,.int .i64 0] w fun e w'=>e = .returned (.slice a 0 0)∧w'=w:=by
 have mixed:=L.mixed;have t3:=L.t3;have a3:=L.a3;have z3:=L.z3;have t4:=L.t4;have a4:=L.a4;have z4:=L.z4;have t22:=L.t22;have a22:=L.a22;have z22:=L.z22;have z23:=L.z23
 obtain ⟨_,_,FG⟩:=L.f45
 cases a with
 | none=>
  go_enter FG,SlBodyN.n45_ntmps ρ
  go_wp2
  all_goals (go_ret;exact ⟨rfl,rfl⟩)
 | some a=>
  go_enter FG,SlBodyN.n45_ntmps ρ
  go_wp2
  all_goals (go_ret;exact ⟨rfl,rfl⟩)
theorem zH {B:Base} {E:Env} (hE:HRel B E) {h ver b cap m:Nat} {t:Ty} {xs:List (Den t)} (hH:E.H h=some (.row ver true t xs)) (hm :¬ E.U m) (hρ:E.ρ h=some b) (hS :¬ E.S b) {w1:World} {c1:Array Value} {T:TypeId} {fr:Nat×Nat}
  (hk:Keeps E.w (fun b1=>some b=some b1) w1) (g1:w1.heap[b]?=some (.cells c1 T fr)) (hfr:nofrz fr c1.size) (hc1:c1.size=cap*sz t) (ys:List (Den t)) (hyc:ys.length≤cap) (hyl:ys.length≤aI) (hrd :∀ (i:Nat) (hi:i<ys.length),Rd E.S E.w t ys[i] (seg c1 (i*sz t) (sz t))) :
  ∃ E',Good B E m [(h,.row m true t ys)] w1 E'∧aa E' (.osl h m) (.slice (some ⟨b,0,none⟩) ys.length cap):=by
 have hU:=hE.used _ _ hH
 obtain ⟨R,X⟩:=it hE h (.row m true t ys) (some b) w1 (fun n=>E.U n∨n=m) (fun n h=> .inl h) (.inl hU) hk (fun b1 e=>by cases e;exact .inr ⟨hρ,_,hH,rfl⟩) (fun b1 e=>by cases e;exact hS)
  (fun _ e _=>by cases e) (fun _ _ _ _ e _ h=>by cases e;exact absurd h hm)
  (fun X=>⟨.inr rfl,.inr ⟨b,c1,T,fr,aE _ _ _,g1,hfr,fun _=>hS,(fun e=>by cases e),by rw [hc1];exact Nat.mul_le_mul_right _ hyc,hyl,fun i hi=>(hrd i hi).ext X.s X.keepS⟩⟩)
 refine ⟨_,⟨R,X,rfl,(bK _ _ _).symm,fun n h=>?_⟩,?_⟩
 ·rcases h with h|h
  ·exact .inl h
  ·exact .inr ⟨by omega,by unfold KN;omega⟩
 ·simp only [aa]
  refine ⟨.inl hU,.inr trivial,⟨_,_,_,rfl⟩,fun rw t2 xs2 hH2=> .inr ⟨b,cap,c1,T,fr,aE _ _ _,?_⟩⟩
  simp only [aE,Option.some.injEq] at hH2
  cases hH2
  exact ⟨rfl,g1,hc1,hyc⟩
def vF (z:Nat):Ctr:=fun args H m=>
 match args with
 | [.osl h ver,.int .i64 i,.int .i64 j]=>match H h with
  | some (.row ver' true t xs)=>if ver'=ver∧sz t=z then some ([0≤i,i≤j,j≤(xs.length:Int)],.osl h m,[(h,.row m true t (xs.take i.toNat++xs.drop j.toNat))]) else none
  | _=>none
 | _=>none
theorem LA (L:DelLaid P ρ 4) {K:Nat} (hK:1≤K):CtrOK P K (ρ.f 45) (vF 4):=by
 refine ⟨?_,?_⟩
 ·obtain ⟨nm,h1,h2⟩:=L.f45
  exact ⟨_,h2,rfl,h1⟩
 ·intro B E hE args av hav m hm ps v dh h hps
  have hmU :¬ E.U m:=hm m (Nat.le_refl _) (by omega)
  unfold vF at h
  split at h
  case h_2=>cases h
  rename_i h0 ver i j
  split at h
  case h_2=>cases h
  rename_i ver' t xs hH
  split at h
  case isFalse=>cases h
  rename_i hc
  obtain ⟨rfl,hz⟩:=hc
  simp only [Option.some.injEq,Prod.mk.injEq] at h
  obtain ⟨rfl,rfl,rfl⟩:=h
  have p1:0≤i:=hps _ (by simp)
  have p2:i≤j:=hps _ (by simp)
  have p3:j≤(xs.length:Int):=hps _ (by simp)
  obtain ⟨i,rfl⟩:=Int.eq_ofNat_of_zero_le p1
  obtain ⟨j,rfl⟩:=Int.eq_ofNat_of_zero_le (Int.le_trans p1 p2)
  have p2:i≤j:=by omega
  have p3:j≤xs.length:=by omega
  simp only [Int.toNat_natCast]
  match av,hav with
  | [sv,iv,jv],hav=>
   simp only [ae,aa] at hav
   obtain ⟨hs,⟨rfl,_⟩,⟨rfl,_⟩,_⟩:=hav
   rcases iS hE hH (by simpa only [aa] using hs) with ⟨h2,rfl,a,rfl⟩ |⟨b,cap,c,T,fr,h3,rfl,h5,h6,hcap,h7,h8,h9,h10,h11,h12⟩
   ·have e1:j=0:=by simpa using p3
    subst e1
    have e2:i=0:=by omega
    subst e2
    obtain ⟨E',G,hv⟩:=DL hE m hmU h0 (.inl (hE.used _ _ hH)) t a
    refine (F0 L a E.w).mono ?_
    rintro e w' ⟨rfl,rfl⟩
    exact ⟨E',_,rfl,by simpa using G.toK hK,hv⟩
   ·rw [hz] at h6 h10
    by_cases hij:i=j
    ·subst hij
     have ey:xs.take i++xs.drop i=xs:=List.take_append_drop _ _
     obtain ⟨E',G,hv⟩:=zH hE hH hmU h3 (h8 rfl) (Keeps.refl E.w _) h5 h7 (by rw [hz];exact h6) xs hcap h11 h12
     refine (F2 L b cap xs.length i E.w hcap h11 p3).mono ?_
     rintro e w' ⟨rfl,rfl⟩
     rw [ey]
     exact ⟨E',_,rfl,G.toK hK,hv⟩
    ·have hlt:i<j:=by omega
     have h13:=h12
     simp only [hz] at h13
     have one :∀ u∈seg c (j*4) ((xs.length - j)*4),u.oneCell'=true:=fun u hu=>by
      obtain ⟨p,hp⟩:=List.mem_iff_getElem?.1 hu
      rw [seg_get] at hp
      split at hp
      ·exact (h13 ((j*4+p) / 4) (by omega)).one u (List.mem_iff_getElem?.2 ⟨(j*4+p) % 4,by
        rw [seg_get,if_pos (by omega),show (j*4+p) / 4*4 +(j*4+p) % 4=j*4+p by omega];exact hp⟩)
      ·cases hp
     refine (I3 L b cap xs.length i j E.w c T fr h5 h7 h6 hcap h11 hlt p3 one).mono ?_
     rintro e w' ⟨rfl,zs,hzl,rfl⟩
     obtain ⟨R0,X0⟩:=vg hE E.w.drew rfl rfl rfl rfl
     have hnl :(seg c (j*4) ((xs.length - j)*4)).length =(xs.length - j)*4:=seg_len _ _ _ (by omega)
     obtain ⟨c1,g1,g2⟩:=setCells_heap b (seg c (j*4) ((xs.length - j)*4)) (i*4) E.w.drew c h5 (by omega)
     have hcs:c1.size=c.size:=by
      have:=congrArg List.length g2
      simp at this
      omega
     obtain ⟨c2,k1,k2⟩:=setCells_heap b zs ((i +(xs.length - j))*4) _ c1 g1 (by omega)
     have hcs2:c2.size=c1.size:=by
      have:=congrArg List.length k2
      simp at this
      omega
     have hyl :(xs.take i++xs.drop j).length=i +(xs.length - j):=by simp;omega
     obtain ⟨E',G,hv⟩:=zH (w1:=(E.w.drew.setCells b (i*4) (seg c (j*4) ((xs.length - j)*4))).setCells b ((i +(xs.length - j))*4) zs) R0 hH hmU h3 (h8 rfl)
      ((bT b (fun b1=>some b=some b1) rfl _ _ _).trans (bT b (fun b1=>some b=some b1) rfl _ _ _) (fun _ h=> .inl h)) k1 (cap:=cap) (fO h7 (by omega)) (by rw [hz];omega) (xs.take i++xs.drop j) (by omega) (by unfold aI at h11 ⊢;omega) (fun k hk=>by
       have hl0 :(c.toList.take (i*4)).length=i*4:=by simp;omega
       have key:Rd E.S E.w t (xs.take i++xs.drop j)[k] (((c.toList.take (i*4)++seg c (j*4) ((xs.length - j)*4)).drop (k*sz t)).take (sz t)):=by
        refine oe (by rw [hl0,hz];simp;omega) (fun q hq=>?_) (fun q hq=>?_) k hk
        ·have hq':q<i:=by simp at hq;omega
         have h1:=h12 q (by omega)
         rw [List.getElem_take]
         have e :((c.toList.take (i*4)).drop (q*sz t)).take (sz t)=seg c (q*sz t) (sz t):=by
          rw [hz]
          simp only [seg,List.drop_take,List.take_take]
          congr 1
          omega
         rw [e];exact h1
        ·have hq':q<xs.length - j:=by simpa using hq
         have h1:=h12 (j+q) (by omega)
         rw [List.getElem_drop]
         have e :((seg c (j*4) ((xs.length - j)*4)).drop (q*sz t)).take (sz t)=seg c ((j+q)*sz t) (sz t):=by
          rw [hz]
          simp only [seg,List.drop_take,List.take_take,List.drop_drop]
          rw [show j*4+q*4 =(j+q)*4 by omega,show min 4 ((xs.length - j)*4 - q*4)=4 by omega]
         rw [e];exact h1
       have e1:c1.toList.take ((i +(xs.length - j))*4)=c.toList.take (i*4)++seg c (j*4) ((xs.length - j)*4):=by
        rw [g2]
        exact List.take_left' (by rw [List.length_append,hl0,hnl];omega)
       have e2:seg c2 (k*sz t) (sz t) =((c.toList.take (i*4)++seg c (j*4) ((xs.length - j)*4)).drop (k*sz t)).take (sz t):=by
        have hA :(c.toList.take (i*4)++seg c (j*4) ((xs.length - j)*4)).length =(i +(xs.length - j))*4:=by rw [List.length_append,hl0,hnl];omega
        unfold seg at hA ⊢
        rw [k2,e1,List.append_assoc,hz]
        unfold seg
        rw [List.drop_append_of_le_length (by rw [hA];omega),List.take_append_of_le_length (by rw [List.length_drop,hA];omega)]
       rw [e2]
       exact key.ext X0.s X0.keepS)
     rw [hyl] at hv
     exact ⟨E',_,rfl,(eC X0 G).toK hK,hv⟩
end Go.Mir
namespace Go.Proofs.YtkgplaoappjkcaaGreat
open Go Go.Mir
attribute [local irreducible] Go.Mir.DT.sat Go.Mir.evPat Go.Mir.RT.sat Go.Mir.evFn
def Me:Go.Shelf.Ren:=⟨fun|45=>37|n=>n,fun|0=>0|3=>3|4=>4|22=>71|23=>56|n=>n,fun n=>n⟩
theorem I2:DelLaid Tryz.prog Me 4 where
 mixed:=by kernel_rfl
 f45:=⟨"slices.Delete[[]scorebook/api.Message,scorebook/api.Message]",by decide,Tryz.func37.trans (congrArg some (by kernel_rfl))⟩
 t3:=Tryz.underlying3
 a3:=Tryz.isAgg3
 z3:=Tryz.sizeOf3
 t4:=Tryz.underlying4
 a4:=Tryz.isAgg4
 z4:=Tryz.sizeOf4
 t22:=Tryz.underlying71
 a22:=Tryz.isAgg71
 z22:=Tryz.sizeOf71
 z23:=Tryz.sizeOf56
 i23:=by
  obtain ⟨i,z,h1,h2,_⟩:=((aj (l:= []) CtrsOK.nil Tryz.f37).tb 56 _ rfl).info
  exact ⟨i,h1,h2⟩
 v23:=⟨_,Tryz.zeroValue56,rfl,by decide⟩
def kDelMsg:FuncId×Ctr:=(37,vF 4)
theorem A7:CtrOK Tryz.prog KE kDelMsg.1 kDelMsg.2:=LA I2 (by decide)
def eE (f:live_Follower):List Message→Int→Int
 | [],_=> -1
 | m::r,i=>if aP f m then i else eE f r (i+1)
theorem lQ (f:live_Follower) (m:Message) (r:List Message) (i:Int):eE f (m::r) i=if aP f m then i else eE f r (i+1):=rfl
def J2:Ty:= .prod (.slice (.nm .Message)) (.prod (.nm .live_Follower) .unit)
def x5:Den J2→PRes:=fun x=>⟨[x.1.length≤1000],.int .i64 (eE x.2.1 x.1 0),[]⟩
theorem CL (f:live_Follower) :∀ (xs:List Message) (k:Int) (i:Nat) (m:Message),xs[i]?=some m→aP f m=true→(∀ z∈xs.take i,aP f z=false)→eE f xs k=k+i
 | x::r,k,0,m,h,hu,_=>by
  simp only [List.getElem?_cons_zero,Option.some.injEq] at h
  subst h
  rw [lQ,if_pos hu];omega
 | x::r,k,i+1,m,h,hu,hn=>by
  have h0:aP f x=false:=hn x (by simp)
  rw [lQ,h0,if_neg (by decide),CL f r (k+1) i m (by simpa using h) hu (fun z hz=>hn z (by simp [hz]))]
  omega
theorem uh (f:live_Follower) :∀ (xs:List Message) (k:Int),xs.any (aP f)=false→eE f xs k = -1
 | [],_,_=>rfl
 | x::r,k,h=>by
  simp only [List.any_cons,Bool.or_eq_false_iff] at h
  rw [lQ,h.1,if_neg (by decide),uh f r _ h.2]
abbrev clV (f:live_Follower):V:= .fn 34 [.nilmap,.fp (.nm .live_Follower) [f] 0 0]
def CX (xs:List Message) (f:live_Follower) (i:Nat):Prop:=i≤xs.length∧∀ z∈xs.take i,aP f z=false
def LKi (i:Nat):List (Lspec Nat):= [.out [true] [] [],.next (i+1) [] [],.out [false] [] []]
def JKi (xs:List Message) (f:live_Follower) (i:Nat):St:=⟨[(0,.fsl (.nm .Message) xs),(1,clV f),(7,.int .i64 xs.length),(8,.int .i64 i)],[],fun _=>none,0⟩
def TKi (xs:List Message) (f:live_Follower):Tr:= .br (xs.any (aP f)) (.leaf .ret ⟨[(4,.int .i64 (eE f xs 0))],[]⟩ 0) (.leaf (.ext 0) ⟨[],[]⟩ 0)
def ΛKi (xs:List Message) (f:live_Follower):Nat→Option LoopSum:=find [(2,cw ⟨[],[],0⟩ (JKi xs f 0) (TKi xs f))]
abbrev qZm:Pat:=⟨[(1,.c (.ptr 0 0)),(35,.h Evs),(36,.h I),(37,.h I)],[(0,.dat (.nm .Message))],1⟩
abbrev xZm:List (Lf×Pat):= [(.ret,⟨[(2,.h .bool)],[],0⟩),(.ext 0,⟨[],[],0⟩)]
abbrev TZm:Type:=List Mir.Event×Int×Int×Message×Unit
def uo (x:TZm):Prop:=x.2.1 =(x.1.length:Int)∧0≤x.2.2.1∧x.2.2.1≤x.2.1∧x.1.length≤aI
def EI (x:TZm):Nat:=(x.2.1 - x.2.2.1).toNat
def jn (x:TZm):Sum (Bool×Unit) Unit:=Jp ((x.1.drop x.2.2.1.toNat).all fun e=>be e==0)
noncomputable def lpZm:Lp:=(⟨0,al [jG] Tryz.f33,(fun _=>none),(aB Tryz.f33 0),qZm,xZm⟩:Lp)
theorem MO (es:List Mir.Event) (n:Int) (i:Int) (m:Message) (hi:uo (es,n,i,m,())) :(Go.Mir.stepG lpZm jn (fun y:Den (tyP lpZm.q)=>uo y∧EI y<EI (es,n,i,m,())) (es,n,i,m,())∧Go.Mir.stepE lpZm jn (es,n,i,m,())=jn (es,n,i,m,())):=by
 refine cast (by kernel_rfl) (?_:let r1:Bool:=be (es.getD i.toNat (dflt (Ty.nm Nm.Event))) !=(0:Int);((decide (i<n)=true→((0:Int)≤i∧i <(↑es.length:Int))∧(r1=true→True)∧(r1=false→uo (es,n,IntKind.i64.wrap (i +(1:Int)),m,())∧EI (es,n,IntKind.i64.wrap (i +(1:Int)),m,())<EI (es,n,i,m,())))∧(decide (i<n)=false→True))∧(bif decide (i<n) then bif r1 then Sum.inl (false,()) else jn (es,n,IntKind.i64.wrap (i +(1:Int)),m,()) else Sum.inr ())=jn (es,n,i,m,()))
 intro r1
 clear_value (hr1:r1=_)
 obtain ⟨h1,h2,h3,h4⟩:=hi
 simp only at h1 h2 h3 h4
 have hx :(es.length:Int)≤140737488355328:=by have:es.length≤140737488355328:=h4;omega
 by_cases h:i<n
 ·have ea:es.drop i.toNat=es.getD i.toNat (dflt (Ty.nm Nm.Event))::es.drop (i+1).toNat:=c8 h2 (by omega) _
  have e2:IntKind.i64.wrap (i+1)=i+1:=bb (by omega) (by omega)
  rw [decide_eq_true h,cond_true,e2]
  refine ⟨⟨fun _=>⟨⟨h2,by omega⟩,fun _=>trivial,fun _=>⟨⟨h1,by simp only;omega,by simp only;omega,h4⟩,by simp only [EI];omega⟩⟩,fun z=>Bool.noConfusion z⟩,?_⟩
  have hr :(be (es.getD i.toNat (dflt (Ty.nm Nm.Event)))==0)=!r1:=by rw [hr1];simp [bne]
  have hA :((es.drop i.toNat).all fun e=>be e==0) =(!r1&&((es.drop (i+1).toNat).all fun e=>be e==0)):=by rw [ea,List.all_cons,←hr]
  simp only [jn]
  rw [hA]
  generalize ((es.drop (i+1).toNat).all fun e=>be e==0)=q
  cases r1 <;> cases q <;> rfl
 ·rw [decide_eq_false h,cond_false]
  refine ⟨⟨fun z=>Bool.noConfusion z,fun _=>trivial⟩,?_⟩
  simp only [jn]
  rw [co (l:=es) (by omega)]
  rfl
noncomputable def Lo:LoopSum:=aC lpZm jn uo
noncomputable def K9:Nat:=rid (aB Tryz.f33 0)
theorem LZ:LoopOKp Tryz.prog 0 Tryz.f33.ntmps (aB Tryz.f33 0) (aC lpZm jn uo):=
 bi lpZm (aj (.consU nR rfl .nil) _) mixed (fun b hb S hS=>by cases hS) jn uo EI (fun |⟨es,n,i,m,⟨⟩⟩,hi=>MO es n i m hi)
theorem Ag (m:Message) (hx:m.Events.length≤aI) :(evPat (al [jG] Tryz.f33) (find [(K9,Lo)]) Tryz.f33 qMs aw (m,())).sat fun z_=>z_ =(xd (m,())).2:=by
 refine cast (by kernel_rfl) (?_:let r1:Bool:=bif decide (m.1 <(1:Int)) then true else bif decide (m.2 <(0:Int)) then true else bif decide (m.3 <(0:Int)) then true else bif decide (m.3 >(4000:Int)) then true else IntKind.i64.wrap (m.3 - (↑m.4.length:Int)) != m.2;let r2:Bool:=isL (jn (m.4,(↑m.4.length:Int),(0:Int),m,()));(r1=true→(false,()) =(cI m,()))∧(r1=false→((cx fun x=>none)∧(↑m.4.length:Int) =(↑m.4.length:Int)∧(0:Int)≤(0:Int)∧(0:Int)≤(↑m.4.length:Int)∧m.4.length≤aI)∧(r2=true→mU (dflt (Ty.bool.prod Ty.unit)) (jn (m.4,(↑m.4.length:Int),(0:Int),m,())) =(cI m,()))∧(r2=false→(true,()) =(cI m,()))))
 intro r1 r2
 clear_value (hr1:r1=_) (hr2:r2=_)
 have e0:jn (m.Events,(m.Events.length:Int),0,m,())=Jp (m.Events.all fun e=>be e==0):=rfl
 rw [e0] at hr2 ⊢
 have hG:ud m=r1:=by
  rw [hr1]
  unfold ud
  cases decide (m.Epoch<1) <;> cases decide (m.From<0) <;> cases decide (m.To<0) <;> cases decide (m.To>4000) <;> rfl
 refine ⟨fun h=>?_,fun h=>⟨⟨rfl,rfl,Int.le_refl _,by omega,hx⟩,?_⟩⟩
 ·unfold cI;rw [hG,h];rfl
 ·unfold cI
  rw [hG,h]
  generalize (m.Events.all fun e=>be e==0)=q at hr2 ⊢
  subst hr2
  cases q
  ·exact ⟨fun _=>rfl,fun z=>Bool.noConfusion z⟩
  ·exact ⟨fun z=>Bool.noConfusion z,fun _=>rfl⟩
def uA:FuncId×Ctr:=(33,af KE qMs aw xd)
theorem Bs:CtrOK Tryz.prog KE 33 (af KE qMs aw xd):=by
 refine ar (C:=al [jG] Tryz.f33) (aj (.consU nR rfl .nil) _) mixed (fn:=Tryz.f33) Tryz.func33 (by kernel_rfl) (by kernel_rfl) (by kernel_rfl) (by kernel_rfl) (by kernel_rfl) (by kernel_rfl) (Λ:=fun x=>find [(K9,Lo)]) ?_ ?_
 ·rintro ⟨m,⟨⟩⟩ hw hn
  exact LoopsOKp.at (by kernel_rfl) (.cons (by kernel_rfl) (LZ) .nil)
 ·rintro ⟨m,⟨⟩⟩ hw hn
  exact Ag m (hn _ List.mem_cons_self)
theorem FC (xs:List Message) (f:live_Follower) (hx:xs.length≤1000) (i:Nat) (hi:CX xs f i) :(stepObl (JKi xs f) (CX xs f) (fun i=>xs.length - i) i (TKi xs f) (bm (al [jc] Tryz.f36) (fun _=>none) (aB Tryz.f36 0) (JKi xs f i)) (LKi i)).1:=by
 refine cast (by kernel_rfl) (?_ :(decide ((↑i:Int) <(↑xs.length:Int))=true→((0:Int)≤(↑i:Int)∧(↑i:Int) <(↑xs.length:Int))∧(aP f (xs.getD (↑i:Int).toNat (dflt (Ty.nm Nm.Message)))=true→xs.any (aP f)=true∧((↑i:Int)=eE f xs (0:Int)∧True)∧True)∧(aP f (xs.getD (↑i:Int).toNat (dflt (Ty.nm Nm.Message)))=false→CX xs f (i +(1:Nat))∧xs.length - (i +(1:Nat))<xs.length - i∧(RowD.mk (Ty.nm Nm.Message) xs=RowD.mk (Ty.nm Nm.Message) xs∧(True∧(RowD.mk (Ty.nm Nm.live_Follower) [f]=RowD.mk (Ty.nm Nm.live_Follower) [f]∧(0:Int) =(0:Int))∧True)∧(↑xs.length:Int) =(↑xs.length:Int)∧IntKind.i64.wrap ((↑i:Int) +(1:Int)) =(↑(i +(1:Nat)):Int)∧True)∧True))∧(decide ((↑i:Int) <(↑xs.length:Int))=false→xs.any (aP f)=false∧True∧True))
 have e :(i:Int).toNat=i:=by simp
 rw [e]
 refine ⟨fun h1=>?_,fun h1=>?_⟩
 ·have h1:i<xs.length:=by simpa using h1
  have hg:xs[i]?=some (xs.getD i (dflt (Ty.nm Nm.Message))):=nv _ h1
  refine ⟨⟨by omega,by omega⟩,fun h2=>⟨?_,⟨?_,trivial⟩,trivial⟩,fun h2=>⟨⟨by omega,?_⟩,by omega,⟨rfl,⟨trivial,⟨rfl,rfl⟩,trivial⟩,rfl,?_,trivial⟩,trivial⟩⟩
  ·exact List.any_eq_true.2 ⟨_,List.mem_of_getElem? hg,h2⟩
  ·rw [CL f xs 0 i _ hg h2 hi.2];omega
  ·rw [List.take_succ_eq_append_getElem h1]
   intro z hz
   rcases List.mem_append.1 hz with hz|hz
   ·exact hi.2 z hz
   ·rw [List.mem_singleton.1 hz]
    rw [List.getElem?_eq_getElem h1] at hg
    rw [Option.some.inj hg]
    exact h2
  ·exact (bb (by omega) (by omega)).trans (by simp)
 ·have h1 :¬ i<xs.length:=by simpa using h1
  have hl:i=xs.length:=by have:=hi.1;omega
  have hk:=hi.2
  rw [hl,List.take_length] at hk
  exact ⟨List.any_eq_false.2 fun z hz=>by simp [hk z hz],trivial,trivial⟩
theorem Ey (xs:List Message) (f:live_Follower) (hx:xs.length≤1000):LoopOK Tryz.prog Tryz.f36.ntmps (aB Tryz.f36 0) (cw ⟨[],[],0⟩ (JKi xs f 0) (TKi xs f)):=
 iM (aj (.consU na rfl .nil) _) mixed (JKi xs f) (fun _=>rfl) (CX xs f) (fun i=>xs.length - i) (fun _ _=>none) (fun _ _ _ _ _ h=>by cases h) (TKi xs f) [] [] 0 (⟨Nat.zero_le _,by simp⟩) LKi (fun i hi=>FC xs f hx i hi)
def A8:FuncId×Ctr:=(36,d8 KE ([.dat,.clo 34]:List PF) J2 x5)
theorem HF (xs:List Message) (f:live_Follower) (hx:xs.length≤1000) :(evFn (al [jc] Tryz.f36) (ΛKi xs f) Tryz.f36 (fI ([.dat,.clo 34]:List PF) J2 (xs,f,()))).sat fun v' rows=>leV v' (x5 (xs,f,())).v∧rows =(x5 (xs,f,())).rows:=by
 refine cast (by kernel_rfl) (?_ :((cx fun x=>none)∧(RowD.mk (Ty.nm Nm.Message) xs=RowD.mk (Ty.nm Nm.Message) xs∧(True∧(RowD.mk (Ty.nm Nm.live_Follower) [f]=RowD.mk (Ty.nm Nm.live_Follower) [f]∧(0:Int) =(0:Int))∧True)∧(↑xs.length:Int) =(↑xs.length:Int)∧(0:Int) =(↑(0:Nat):Int)∧True)∧True)∧(xs.any (aP f)=true→eE f xs (0:Int)=eE f xs (0:Int)∧([]:List RowD)=[])∧(xs.any (aP f)=false→(-1:Int)=eE f xs (0:Int)∧([]:List RowD)=[]))
 exact ⟨⟨rfl,⟨rfl,⟨trivial,⟨rfl,rfl⟩,trivial⟩,rfl,rfl,trivial⟩,trivial⟩,fun _=>⟨rfl,rfl⟩,fun h=>⟨(uh f xs 0 h).symm,rfl⟩⟩
theorem Dq:CtrOK Tryz.prog KE 36 (d8 KE ([.dat,.clo 34]:List PF) J2 x5):=by
 refine ne (C:=al [jc] Tryz.f36) (aj (.consU na rfl .nil) _) mixed (fn:=Tryz.f36) Tryz.func36 (by kernel_rfl) (by kernel_rfl) (by kernel_rfl) (Λ:=fun x=>ΛKi x.1 x.2.1) ?_ ?_ ?_
 ·rintro ⟨xs,f,⟨⟩⟩ hw hn
  exact LoopsOK.at (by kernel_rfl) (.cons (by kernel_rfl) (Ey xs f (hn _ List.mem_cons_self)) .nil)
 ·rintro ⟨xs,f,⟨⟩⟩
  exact of_decide_eq_true (by kernel_rfl)
 ·rintro ⟨xs,f,⟨⟩⟩ hw hn
  exact HF xs f (hn _ List.mem_cons_self)
end Go.Proofs.YtkgplaoappjkcaaGreat
namespace Go.Proofs.YtkgplaoappjkcaaGreat
open Go Go.Mir
attribute [local irreducible] Go.Mir.DT.sat Go.Mir.evPat Go.Mir.RT.sat Go.Mir.evFn
abbrev Fol:Type:=live_Follower
def d9 (f:Fol) (m:Message):Fol:=if m.Epoch != f.epoch then { f with epoch:=m.Epoch,known:=0,match_:=f.start } else f
def pS (f:Fol) (m:Message):Int:=tI (W (f.known - m.From)) m.Events.length
def oX:Fol→List Mir.Event→Fol×Bool
 | f,[]=>(f,true)
 | f,e::l=>if ba f.match_ e != 0 then (f,false) else oX { f with match_:=bd f.match_ e,known:=W (f.known+1) } l
def bO (f:Fol) (m:Message):Fol×Bool:=oX (d9 f m) (m.Events.drop (pS (d9 f m) m).toNat)
def jX (f:Fol):Prop:=aD f.start∧aD f.match_∧0≤f.known∧f.known≤4000
def AZ (m:Message):Prop:=cI m=true∧m.Events.length≤aI
def okU (f:Fol) (m:Message):Prop:=jX f∧AZ m∧aP f m=true
abbrev qFM:Pat:=⟨[(0,.c (.ptr 0 0)),(1,.h (.nm .Message))],hpF 2,3⟩
abbrev qFb:Pat:=⟨[(0,.h .bool)],hpF 2,3⟩
def Mp:Den (tyP qFM)→List Prop×Den (tyP qFb):=fun x=>([okU (mkFX x.2) x.1],((bO (mkFX x.2) x.1).2,(bO (mkFX x.2) x.1).1.start,(bO (mkFX x.2) x.1).1.epoch,(bO (mkFX x.2) x.1).1.known,(bO (mkFX x.2) x.1).1.match_,(bO (mkFX x.2) x.1).1.newest,(bO (mkFX x.2) x.1).1.newestN,(bO (mkFX x.2) x.1).1.kept,()))
abbrev qZu:Pat:=⟨[(0,.c (.ptr 0 0)),(44,.h Evs),(45,.h I),(46,.h I)],hpF 2,3⟩
abbrev xZu:List (Lf×Pat):= [(.ret,⟨[(4,.h .bool)],hpF 2,3⟩),(.ext 0,⟨[],hpF 2,3⟩)]
abbrev TZu:Type:=List Mir.Event×Int×Int×TF
def uq (x:TZu):Prop:=(x.2.1 =(x.1.length:Int)∧0≤x.2.2.1∧x.2.2.1≤x.2.1∧x.1.length≤aI)∧aD (mkFX x.2.2.2).match_
def EJ (x:TZu):Nat:=(x.2.1 - x.2.2.1).toNat
def DD (p:Fol×Bool):Sum (Bool×TF) TF:=if p.2 then .inr (p.1.start,p.1.epoch,p.1.known,p.1.match_,p.1.newest,p.1.newestN,p.1.kept,()) else .inl (false,p.1.start,p.1.epoch,p.1.known,p.1.match_,p.1.newest,p.1.newestN,p.1.kept,())
def iV (x:TZu):Sum (Bool×TF) TF:=DD (oX (mkFX x.2.2.2) (x.1.drop x.2.2.1.toNat))
theorem vn :∀ (l:List Mir.Event) (f:Fol),(oX f l).1.kept=f.kept
 | [],_=>rfl
 | e::l,f=>by
  unfold oX
  split
  ·rfl
  ·exact vn l _
theorem FK (f:Fol) (m:Message) :(d9 f m).kept=f.kept:=by unfold d9;split <;> rfl
theorem jq (f:Fol) (m:Message) :(bO f m).1.kept=f.kept:=(vn _ _).trans (FK f m)
theorem tg :∀ (l:List Mir.Event) (f:Fol),jX f→f.known +(l.length:Int)≤4000→jX (oX f l).1
 | [],_,h,_=>h
 | e::l,f,h,hk=>by
  obtain ⟨h1,h2,h3,h4⟩:=h
  simp only [List.length_cons] at hk
  unfold oX
  split
  ·exact ⟨h1,h2,h3,h4⟩
  ·have e1:W (f.known+1)=f.known+1:=bb (by omega) (by omega)
   exact tg l _ ⟨h1,gm e h2,by show 0≤W (f.known+1);omega,by show W (f.known+1)≤4000;omega⟩ (by show W (f.known+1)+_≤4000;omega)
theorem ou {m:Message} (h:AZ m):1≤m.Epoch∧0≤m.From∧m.From +(m.Events.length:Int)≤4000∧m.To=m.From +(m.Events.length:Int):=by
 obtain ⟨h,hl⟩:=h
 have hl' :(m.Events.length:Int)≤140737488355328:=by have:m.Events.length≤140737488355328:=hl;omega
 unfold cI at h
 simp only [Bool.and_eq_true,Bool.not_eq_true'] at h
 have hg:=h.1
 unfold ud at hg
 simp only [Bool.or_eq_false_iff,decide_eq_false_iff_not,bne_eq_false_iff_eq] at hg
 obtain ⟨⟨⟨⟨a,b⟩,c⟩,d⟩,e⟩:=hg
 have e1:W (m.To - m.Events.length)=m.To - m.Events.length:=bb (by omega) (by omega)
 rw [e1] at e
 omega
theorem vo {f:Fol} {m:Message} (h:okU f m):jX (d9 f m)∧0≤pS (d9 f m) m∧pS (d9 f m) m≤m.Events.length∧(d9 f m).known +((m.Events.length:Int) - pS (d9 f m) m)≤4000∧m.From≤(d9 f m).known:=by
 obtain ⟨⟨h1,h2,h3,h4⟩,hf,hu⟩:=h
 obtain ⟨a,b,c,d⟩:=ou hf
 have hF:jX (d9 f m)∧m.From≤(d9 f m).known:=by
  unfold d9
  split
  ·rename_i hc
   have hc :¬ m.Epoch=f.epoch:=by simpa using hc
   have:m.From=0:=by
    unfold aP at hu
    simp only [Bool.or_eq_true,Bool.and_eq_true,beq_iff_eq,decide_eq_true_eq] at hu
    rcases hu with ⟨x,_⟩ |⟨x,_⟩
    ·exact absurd x hc
    ·exact x
   exact ⟨⟨h1,h1,Int.le_refl _,by show (0:Int)≤4000;omega⟩,by rw [this];exact Int.le_refl _⟩
  ·rename_i hc
   have hc:m.Epoch=f.epoch:=by simpa using hc
   refine ⟨⟨h1,h2,h3,h4⟩,?_⟩
   unfold aP at hu
   simp only [Bool.or_eq_true,Bool.and_eq_true,beq_iff_eq,decide_eq_true_eq] at hu
   rcases hu with ⟨_,x⟩ |⟨_,x⟩
   ·exact x
   ·omega
 obtain ⟨hF,hk⟩:=hF
 obtain ⟨g1,g2,g3,g4⟩:=hF
 have e1:W ((d9 f m).known - m.From) =(d9 f m).known - m.From:=bb (by omega) (by omega)
 have e2:pS (d9 f m) m=if (m.Events.length:Int) <(d9 f m).known - m.From then (m.Events.length:Int) else (d9 f m).known - m.From:=by unfold pS tI;rw [e1]
 refine ⟨⟨g1,g2,g3,g4⟩,?_,?_,?_,hk⟩ <;> rw [e2] <;> split <;> omega
theorem vp {f:Fol} {m:Message} (h:okU f m):jX (bO f m).1:=by
 obtain ⟨a,b,c,d,_⟩:=vo h
 refine tg _ _ a ?_
 rw [List.length_drop]
 omega
noncomputable def lpZu:Lp:=(⟨3,al [mW] Tryz.f35,(fun _=>none),(aB Tryz.f35 0),qZu,xZu⟩:Lp)
theorem MP (xs:List Mir.Event) (n:Int) (i:Int) (v1:Match) (v2:Int) (v3:Int) (v4:Match) (v5:Int) (v6:Int) (kp:List Message) (hi:uq (xs,n,i,v1,v2,v3,v4,v5,v6,kp,())) :(Go.Mir.stepG lpZu iV (fun y:Den (tyP lpZu.q)=>uq y∧EJ y<EJ (xs,n,i,v1,v2,v3,v4,v5,v6,kp,())) (xs,n,i,v1,v2,v3,v4,v5,v6,kp,())∧Go.Mir.stepE lpZu iV (xs,n,i,v1,v2,v3,v4,v5,v6,kp,())=iV (xs,n,i,v1,v2,v3,v4,v5,v6,kp,())):=by
 refine cast (by kernel_rfl) (?_:let r1:Bool:=ba v4 (xs.getD i.toNat (dflt (Ty.nm Nm.Event))) !=(0:Int);((decide (i<n)=true→((0:Int)≤i∧i <(↑xs.length:Int))∧aD v4∧(r1=true→True)∧(r1=false→uq (xs,n,IntKind.i64.wrap (i +(1:Int)),v1,v2,IntKind.i64.wrap (v3 +(1:Int)),bd v4 (xs.getD i.toNat (dflt (Ty.nm Nm.Event))),v5,v6,kp,())∧EJ (xs,n,IntKind.i64.wrap (i +(1:Int)),v1,v2,IntKind.i64.wrap (v3 +(1:Int)),bd v4 (xs.getD i.toNat (dflt (Ty.nm Nm.Event))),v5,v6,kp,())<EJ (xs,n,i,v1,v2,v3,v4,v5,v6,kp,())))∧(decide (i<n)=false→True))∧(bif decide (i<n) then bif r1 then Sum.inl (false,v1,v2,v3,v4,v5,v6,kp,()) else iV (xs,n,IntKind.i64.wrap (i +(1:Int)),v1,v2,IntKind.i64.wrap (v3 +(1:Int)),bd v4 (xs.getD i.toNat (dflt (Ty.nm Nm.Event))),v5,v6,kp,()) else Sum.inr (v1,v2,v3,v4,v5,v6,kp,()))=iV (xs,n,i,v1,v2,v3,v4,v5,v6,kp,()))
 intro r1
 clear_value (hr1:r1=_)
 obtain ⟨⟨h1,h2,h3,h4⟩,hm⟩:=hi
 simp only at h1 h2 h3 h4
 have hm:aD v4:=hm
 have hx :(xs.length:Int)≤140737488355328:=by have:xs.length≤140737488355328:=h4;omega
 by_cases h:i<n
 ·have e:xs.drop i.toNat=xs.getD i.toNat (dflt (Ty.nm Nm.Event))::xs.drop (i+1).toNat:=c8 h2 (by omega) _
  rw [decide_eq_true h,cond_true,bb (n:=i+1) (by omega) (by omega)]
  generalize xs.getD i.toNat (dflt (Ty.nm Nm.Event))=v at *
  refine ⟨⟨fun _=>⟨⟨h2,by omega⟩,hm,fun _=>trivial,fun _=>⟨⟨⟨h1,by simp only;omega,by simp only;omega,h4⟩,gm v hm⟩,by simp only [EJ];omega⟩⟩,fun z=>Bool.noConfusion z⟩,?_⟩
  simp only [iV]
  rw [e]
  have eU :∀ (f:Fol) (l:List Mir.Event),oX f (v::l)=if ba f.match_ v != 0 then (f,false) else oX { f with match_:=bd f.match_ v,known:=W (f.known+1) } l:=fun _ _=>rfl
  rw [eU]
  have er :(ba (mkFX (v1,v2,v3,v4,v5,v6,kp,())).match_ v != 0)=r1:=hr1.symm
  rw [er]
  cases r1 <;> rfl
 ·rw [decide_eq_false h,cond_false]
  refine ⟨⟨fun z=>Bool.noConfusion z,fun _=>trivial⟩,?_⟩
  simp only [iV]
  rw [co (l:=xs) (by omega)]
  rfl
noncomputable def Lq:LoopSum:=aC lpZu iV uq
noncomputable def La:Nat:=rid (aB Tryz.f35 0)
theorem L0:LoopOKp Tryz.prog 3 Tryz.f35.ntmps (aB Tryz.f35 0) (aC lpZu iV uq):=
 bi lpZu (aj (.consU qc rfl .nil) _) mixed (fun b hb S hS=>by cases hS) iV uq EJ (fun |⟨xs,n,i,v1,v2,v3,v4,v5,v6,kp,⟨⟩⟩,hi=>MP xs n i v1 v2 v3 v4 v5 v6 kp hi)
theorem HX (f:live_Follower) (m:Message) (hu:okU f m) :(evPat (al [mW] Tryz.f35) (find [(La,Lq)]) Tryz.f35 qFM qFb (m,f.start,f.epoch,f.known,f.match_,f.newest,f.newestN,f.kept,())).sat fun z_=>z_ =(Mp (m,f.start,f.epoch,f.known,f.match_,f.newest,f.newestN,f.kept,())).2:=by
 refine cast (by kernel_rfl) (?_:let r1:Int:=bif m.1 != f.2 then (0:Int) else f.3;let r2:Int:=IntKind.i64.wrap (r1 - m.2);let r3:Int:=if (↑m.4.length:Int)<r2 then (↑m.4.length:Int) else r2;let r4:List Mir.Event:=List.drop r3.toNat (List.take (↑m.4.length:Int).toNat m.4);let r5:Int:=(↑r4.length:Int);let r6:Match:=Match.mk (Rules.mk (bif m.1 != f.2 then f.1.1.1 else f.4.1.1) (bif m.1 != f.2 then f.1.1.2 else f.4.1.2) (bif m.1 != f.2 then f.1.1.3 else f.4.1.3) (bif m.1 != f.2 then f.1.1.4 else f.4.1.4) (bif m.1 != f.2 then f.1.1.5 else f.4.1.5) (bif m.1 != f.2 then f.1.1.6 else f.4.1.6) (bif m.1 != f.2 then f.1.1.7 else f.4.1.7) (bif m.1 != f.2 then f.1.1.8 else f.4.1.8) (bif m.1 != f.2 then f.1.1.9 else f.4.1.9) (bif m.1 != f.2 then f.1.1.10 else f.4.1.10) (bif m.1 != f.2 then f.1.1.11 else f.4.1.11) (bif m.1 != f.2 then f.1.1.12 else f.4.1.12) (bif m.1 != f.2 then f.1.1.13 else f.4.1.13) (bif m.1 != f.2 then f.1.1.14 else f.4.1.14)) (bif m.1 != f.2 then f.1.2 else f.4.2) (bif m.1 != f.2 then f.1.3 else f.4.3) (bif m.1 != f.2 then f.1.4 else f.4.4) (bif m.1 != f.2 then f.1.5 else f.4.5) (bif m.1 != f.2 then f.1.6.1 else f.4.6.1,bif m.1 != f.2 then f.1.6.2.1 else f.4.6.2.1,()) (Result.mk (bif m.1 != f.2 then f.1.7.1 else f.4.7.1) (bif m.1 != f.2 then f.1.7.2 else f.4.7.2) (bif m.1 != f.2 then f.1.7.3 else f.4.7.3));let r7:Bool:=isL (iV (r4,r5,(0:Int),Match.mk (Rules.mk (bif m.1 != f.2 then f.1.1.1 else f.1.1.1) (bif m.1 != f.2 then f.1.1.2 else f.1.1.2) (bif m.1 != f.2 then f.1.1.3 else f.1.1.3) (bif m.1 != f.2 then f.1.1.4 else f.1.1.4) (bif m.1 != f.2 then f.1.1.5 else f.1.1.5) (bif m.1 != f.2 then f.1.1.6 else f.1.1.6) (bif m.1 != f.2 then f.1.1.7 else f.1.1.7) (bif m.1 != f.2 then f.1.1.8 else f.1.1.8) (bif m.1 != f.2 then f.1.1.9 else f.1.1.9) (bif m.1 != f.2 then f.1.1.10 else f.1.1.10) (bif m.1 != f.2 then f.1.1.11 else f.1.1.11) (bif m.1 != f.2 then f.1.1.12 else f.1.1.12) (bif m.1 != f.2 then f.1.1.13 else f.1.1.13) (bif m.1 != f.2 then f.1.1.14 else f.1.1.14)) (bif m.1 != f.2 then f.1.2 else f.1.2) (bif m.1 != f.2 then f.1.3 else f.1.3) (bif m.1 != f.2 then f.1.4 else f.1.4) (bif m.1 != f.2 then f.1.5 else f.1.5) (bif m.1 != f.2 then f.1.6.1 else f.1.6.1,bif m.1 != f.2 then f.1.6.2.1 else f.1.6.2.1,()) (Result.mk (bif m.1 != f.2 then f.1.7.1 else f.1.7.1) (bif m.1 != f.2 then f.1.7.2 else f.1.7.2) (bif m.1 != f.2 then f.1.7.3 else f.1.7.3)),bif m.1 != f.2 then m.1 else f.2,r1,r6,bif m.1 != f.2 then f.5 else f.5,bif m.1 != f.2 then f.6 else f.6,f.7,()));((0:Int)≤r3∧r3≤(↑m.4.length:Int)∧(↑m.4.length:Int)≤(↑m.4.length:Int))∧((cx fun x=>none)∧(r5 =(↑r4.length:Int)∧(0:Int)≤(0:Int)∧(0:Int)≤r5∧r4.length≤aI)∧aD r6)∧(r7=true→mU (dflt (Ty.bool.prod ((Ty.nm Nm.Match).prod (I.prod (I.prod ((Ty.nm Nm.Match).prod (I.prod (I.prod ((Ty.nm Nm.Message).slice.prod Ty.unit))))))))) (iV (r4,r5,(0:Int),Match.mk (Rules.mk (bif m.1 != f.2 then f.1.1.1 else f.1.1.1) (bif m.1 != f.2 then f.1.1.2 else f.1.1.2) (bif m.1 != f.2 then f.1.1.3 else f.1.1.3) (bif m.1 != f.2 then f.1.1.4 else f.1.1.4) (bif m.1 != f.2 then f.1.1.5 else f.1.1.5) (bif m.1 != f.2 then f.1.1.6 else f.1.1.6) (bif m.1 != f.2 then f.1.1.7 else f.1.1.7) (bif m.1 != f.2 then f.1.1.8 else f.1.1.8) (bif m.1 != f.2 then f.1.1.9 else f.1.1.9) (bif m.1 != f.2 then f.1.1.10 else f.1.1.10) (bif m.1 != f.2 then f.1.1.11 else f.1.1.11) (bif m.1 != f.2 then f.1.1.12 else f.1.1.12) (bif m.1 != f.2 then f.1.1.13 else f.1.1.13) (bif m.1 != f.2 then f.1.1.14 else f.1.1.14)) (bif m.1 != f.2 then f.1.2 else f.1.2) (bif m.1 != f.2 then f.1.3 else f.1.3) (bif m.1 != f.2 then f.1.4 else f.1.4) (bif m.1 != f.2 then f.1.5 else f.1.5) (bif m.1 != f.2 then f.1.6.1 else f.1.6.1,bif m.1 != f.2 then f.1.6.2.1 else f.1.6.2.1,()) (Result.mk (bif m.1 != f.2 then f.1.7.1 else f.1.7.1) (bif m.1 != f.2 then f.1.7.2 else f.1.7.2) (bif m.1 != f.2 then f.1.7.3 else f.1.7.3)),bif m.1 != f.2 then m.1 else f.2,r1,r6,bif m.1 != f.2 then f.5 else f.5,bif m.1 != f.2 then f.6 else f.6,f.7,())) =((bO f m).2,(bO f m).1.1,(bO f m).1.2,(bO f m).1.3,(bO f m).1.4,(bO f m).1.5,(bO f m).1.6,(bO f m).1.7,()))∧(r7=false→(true,pG (dflt ((Ty.nm Nm.Match).prod (I.prod (I.prod ((Ty.nm Nm.Match).prod (I.prod (I.prod ((Ty.nm Nm.Message).slice.prod Ty.unit)))))))) (iV (r4,r5,(0:Int),Match.mk (Rules.mk (bif m.1 != f.2 then f.1.1.1 else f.1.1.1) (bif m.1 != f.2 then f.1.1.2 else f.1.1.2) (bif m.1 != f.2 then f.1.1.3 else f.1.1.3) (bif m.1 != f.2 then f.1.1.4 else f.1.1.4) (bif m.1 != f.2 then f.1.1.5 else f.1.1.5) (bif m.1 != f.2 then f.1.1.6 else f.1.1.6) (bif m.1 != f.2 then f.1.1.7 else f.1.1.7) (bif m.1 != f.2 then f.1.1.8 else f.1.1.8) (bif m.1 != f.2 then f.1.1.9 else f.1.1.9) (bif m.1 != f.2 then f.1.1.10 else f.1.1.10) (bif m.1 != f.2 then f.1.1.11 else f.1.1.11) (bif m.1 != f.2 then f.1.1.12 else f.1.1.12) (bif m.1 != f.2 then f.1.1.13 else f.1.1.13) (bif m.1 != f.2 then f.1.1.14 else f.1.1.14)) (bif m.1 != f.2 then f.1.2 else f.1.2) (bif m.1 != f.2 then f.1.3 else f.1.3) (bif m.1 != f.2 then f.1.4 else f.1.4) (bif m.1 != f.2 then f.1.5 else f.1.5) (bif m.1 != f.2 then f.1.6.1 else f.1.6.1,bif m.1 != f.2 then f.1.6.2.1 else f.1.6.2.1,()) (Result.mk (bif m.1 != f.2 then f.1.7.1 else f.1.7.1) (bif m.1 != f.2 then f.1.7.2 else f.1.7.2) (bif m.1 != f.2 then f.1.7.3 else f.1.7.3)),bif m.1 != f.2 then m.1 else f.2,r1,r6,bif m.1 != f.2 then f.5 else f.5,bif m.1 != f.2 then f.6 else f.6,f.7,()))) =((bO f m).2,(bO f m).1.1,(bO f m).1.2,(bO f m).1.3,(bO f m).1.4,(bO f m).1.5,(bO f m).1.6,(bO f m).1.7,())))
 intro r1 r2 r3 r4 r5 r6 r7
 clear_value (hr1:r1=_) (hr2:r2=_) (hr3:r3=_) (hr4:r4=_) (hr5:r5=_) (hr6:r6=_) (hr7:r7=_)
 obtain ⟨a,b,c,d,e⟩:=vo hu
 have k1:r1 =(d9 f m).known:=by rw [hr1];unfold d9;cases m.Epoch != f.epoch <;> rfl
 have k3:r3=pS (d9 f m) m:=by rw [hr3,hr2,k1];rfl
 have k6:r6 =(d9 f m).match_:=by rw [hr6];unfold d9;cases m.Epoch != f.epoch <;> rfl
 have k4:r4=m.Events.drop (pS (d9 f m) m).toNat:=by rw [hr4,k3,List.take_of_length_le (by omega)]
 have hl:r4.length≤aI:=by rw [k4,List.length_drop];exact Nat.le_trans (Nat.sub_le _ _) hu.2.1.2
 generalize hq:iV _=q at hr7 ⊢
 have hq':q=DD (bO f m):=by
  have e0:bO f m=oX (d9 f m) r4:=by rw [k4];rfl
  rw [←hq,e0,k1,k6]
  unfold d9
  cases m.Epoch != f.epoch <;> rfl
 rw [hq'] at hr7 ⊢
 refine ⟨⟨by rw [k3];exact b,by rw [k3];exact c,Int.le_refl _⟩,⟨rfl,⟨hr5,Int.le_refl _,by omega,hl⟩,by rw [k6];exact a.2.1⟩,fun h=>?_,fun h=>?_⟩
 ·rw [hr7] at h
  unfold DD at h ⊢
  cases hb :(bO f m).2 with
  | true=>rw [hb] at h;cases h
  | false=>rfl
 ·rw [hr7] at h
  unfold DD at h ⊢
  cases hb :(bO f m).2 with
  | true=>rfl
  | false=>rw [hb] at h;cases h
def Bc:FuncId×Ctr:=(35,af KE qFM qFb Mp)
theorem Dz:CtrOK Tryz.prog KE 35 (af KE qFM qFb Mp):=by
 refine ar (C:=al [mW] Tryz.f35) (aj (.consU qc rfl .nil) _) mixed (fn:=Tryz.f35) Tryz.func35 (by kernel_rfl) (by kernel_rfl) (by kernel_rfl) (by kernel_rfl) (by kernel_rfl) (by kernel_rfl) (Λ:=fun x=>find [(La,Lq)]) ?_ ?_
 ·rintro ⟨m,v1,v2,v3,v4,v5,v6,kp,⟨⟩⟩ hw hn
  exact LoopsOKp.at (by kernel_rfl) (.cons (by kernel_rfl) (L0) .nil)
 ·rintro ⟨m,v1,v2,v3,v4,v5,v6,kp,⟨⟩⟩ hw hn
  exact HX (mkF v1 v2 v3 v4 v5 v6 kp) m (hn _ List.mem_cons_self)
end Go.Proofs.YtkgplaoappjkcaaGreat
namespace Go.Proofs.YtkgplaoappjkcaaGreat
open Go Go.Mir
attribute [local irreducible] Go.Mir.DT.sat Go.Mir.evPat Go.Mir.RT.sat Go.Mir.evFn
def iA (l:List Message):Prop:=∀ z∈l,AZ z
def cc (f:Fol):Prop:=jX f∧f.kept.length≤64∧iA f.kept
def vG (f:Fol) (i:Nat):Fol:={ f with kept:=f.kept.take i++f.kept.drop (i+1) }
def dM (f:Fol):Fol×Bool:=bO (vG f (eE f f.kept 0).toNat) (f.kept.getD (eE f f.kept 0).toNat (dflt (Ty.nm Nm.Message)))
def cP:Nat→Fol→Bool→Fol×Bool
 | 0,f,b=>(f,b)
 | n+1,f,b=>if decide (eE f f.kept 0<0) then (f,b) else cP n (dM f).1 ((dM f).2&&b)
def bn (f:Fol) (m:Message):Fol:=if decide (m.Epoch>f.newest) then { f with newest:=m.Epoch,newestN:=m.To,kept:= [] } else { f with newestN:=ko f.newestN m.To }
def Gy (f:Fol) (m:Message):Fol:={ f with kept:=f.kept++[m] }
def oa (f:Fol) (m:Message):Fol×Bool:=cP f.kept.length (bO f m).1 (bO f m).2
def ac (f:Fol) (m:Message):Fol×Int:=
 if !cI m then (f,4) else if decide (m.Epoch<f.newest) then (f,16)
 else if !aP (bn f m) m then (if decide (((bn f m).kept.length:Int)≥64) then (bn f m,9) else (Gy (bn f m) m,0))
 else ((oa (bn f m) m).1,if (oa (bn f m) m).2 then 0 else 10)
abbrev qFr:Pat:=⟨[(0,.h I)],hpF 3,4⟩
def sJ:Den (tyP qFM)→List Prop×Den (tyP qFr):=fun x=>([cc (mkFX x.2),x.1.Events.length≤aI],((ac (mkFX x.2) x.1).2,(ac (mkFX x.2) x.1).1.start,(ac (mkFX x.2) x.1).1.epoch,(ac (mkFX x.2) x.1).1.known,(ac (mkFX x.2) x.1).1.match_,(ac (mkFX x.2) x.1).1.newest,(ac (mkFX x.2) x.1).1.newestN,(ac (mkFX x.2) x.1).1.kept,()))
abbrev qRc:Pat:=⟨[(0,.c (.ptr 0 0)),(5,.h .bool)],hpF 3,4⟩
abbrev xRc:List (Lf×Pat):= [(.ext 1,⟨[(5,.h .bool)],hpF 3,4⟩)]
abbrev TRc:Type:=Bool×TF
def rm (x:TRc):Prop:=cc (mkFX x.2)
def Bh (x:TRc):Nat:=(mkFX x.2).kept.length
def KT (p:Fol×Bool):TRc:=(p.2,p.1.start,p.1.epoch,p.1.known,p.1.match_,p.1.newest,p.1.newestN,p.1.kept,())
def mz (x:TRc):TRc:=KT (cP (mkFX x.2).kept.length (mkFX x.2) x.1)
theorem mV (f:Fol) :∀ (l:List Message) (k:Int),eE f l k = -1∨∃ i:Nat,i<l.length∧eE f l k=k+i∧aP f (l.getD i (dflt (Ty.nm Nm.Message)))=true
 | [],_=> .inl rfl
 | m::l,k=>by
  rw [lQ]
  by_cases h:aP f m=true
  ·exact .inr ⟨0,by simp,by rw [if_pos h];simp,h⟩
  ·rw [if_neg h]
   rcases mV f l (k+1) with h1 |⟨i,h1,h2,h3⟩
   ·exact .inl h1
   ·exact .inr ⟨i+1,by simp;omega,by rw [h2];omega,h3⟩
theorem sZ {f:Fol} (h:cc f) (hi:0≤eE f f.kept 0) :(eE f f.kept 0).toNat<f.kept.length∧okU (vG f (eE f f.kept 0).toNat) (f.kept.getD (eE f f.kept 0).toNat (dflt (Ty.nm Nm.Message)))∧cc (dM f).1∧(dM f).1.kept.length+1=f.kept.length:=by
 obtain ⟨h1,h2,h3⟩:=h
 rcases mV f f.kept 0 with hn |⟨i,h4,h5,h6⟩
 ·omega
 ·have e :(eE f f.kept 0).toNat=i:=by omega
  have hm:f.kept.getD i (dflt (Ty.nm Nm.Message))∈f.kept:=eg h4 _
  have hU:okU (vG f i) (f.kept.getD i (dflt (Ty.nm Nm.Message))):=⟨h1,h3 _ hm,h6⟩
  have hk :(dM f).1.kept=f.kept.take i++f.kept.drop (i+1):=by unfold dM;rw [jq,e];rfl
  have hl :(dM f).1.kept.length+1=f.kept.length:=by rw [hk];simp;omega
  rw [e]
  refine ⟨h4,hU,⟨?_,by omega,fun z hz=>?_⟩,hl⟩
  ·unfold dM;rw [e];exact vp hU
  ·rw [hk] at hz
   rcases List.mem_append.1 hz with hz|hz
   ·exact h3 z (List.mem_of_mem_take hz)
   ·exact h3 z (List.mem_of_mem_drop hz)
theorem yr :∀ (n:Nat) (f:Fol) (b:Bool),cc f→cc (cP n f b).1
 | 0,_,_,h=>h
 | n+1,f,b,h=>by
  unfold cP
  split
  ·exact h
  ·rename_i hc
   have hc :¬(eE f f.kept 0<0):=by simpa using hc
   exact yr n _ _ (sZ h (by omega)).2.2.1
theorem Dn {f:Fol} (h:cc f) (m:Message):cc (bn f m):=by
 unfold bn
 split
 ·exact ⟨h.1,Nat.zero_le _,fun z hz=>(by cases hz)⟩
 ·exact h
theorem Ef {f:Fol} {m:Message} (h:cc f) (hm:AZ m) (hu:aP f m=true):cc (bO f m).1:=by
 refine ⟨vp ⟨h.1,hm,hu⟩,?_,?_⟩
 ·rw [jq];exact h.2.1
 ·rw [jq];exact h.2.2
theorem Kg {f:Fol} {m:Message} (h:cc f) (hl:m.Events.length≤aI):cc (ac f m).1:=by
 unfold ac
 split
 ·exact h
 ·rename_i hf
  have hf:AZ m:=⟨by simpa using hf,hl⟩
  split
  ·exact h
  ·have hn:=Dn h m
   split
   ·split
    ·exact hn
    ·rename_i hk
     have hk :¬((bn f m).kept.length:Int)≥64:=by simpa using hk
     refine ⟨hn.1,?_,fun z hz=>?_⟩
     ·show ((bn f m).kept++[m]).length≤64
      rw [List.length_append,List.length_singleton];omega
     ·rcases List.mem_append.1 (show z∈(bn f m).kept++[m] from hz) with hz|hz
      ·exact hn.2.2 z hz
      ·rw [List.mem_singleton.1 hz];exact hf
   ·rename_i hu
    have hu:aP (bn f m) m=true:=by simpa using hu
    exact yr _ _ _ (Ef hn hf hu)
theorem E3 {f:Fol} {m:Message} (h :(!cI m)=true):ac f m =(f,4):=by unfold ac;rw [if_pos h]
theorem E5 {f:Fol} {m:Message} (h :(!cI m)=false) (h2:decide (m.Epoch<f.newest)=true):ac f m =(f,16):=by unfold ac;rw [h,h2];rfl
theorem E4 {f:Fol} {m:Message} (h :(!cI m)=false) (h2:decide (m.Epoch<f.newest)=false) (h3 :(!aP (bn f m) m)=true) (h4:decide (((bn f m).kept.length:Int)≥64)=true):ac f m =(bn f m,9):=by
 unfold ac;rw [h,h2,h3,h4];rfl
theorem uU {f:Fol} {m:Message} (h :(!cI m)=false) (h2:decide (m.Epoch<f.newest)=false) (h3 :(!aP (bn f m) m)=true) (h4:decide (((bn f m).kept.length:Int)≥64)=false):ac f m =(Gy (bn f m) m,0):=by
 unfold ac;rw [h,h2,h3,h4];rfl
theorem uV {f:Fol} {m:Message} (h :(!cI m)=false) (h2:decide (m.Epoch<f.newest)=false) (h3 :(!aP (bn f m) m)=false):ac f m =((oa (bn f m) m).1,if (oa (bn f m) m).2 then 0 else 10):=by
 unfold ac;rw [h,h2,h3];rfl
theorem za:CtrOK Tryz.prog KE 37 (vF 4):=A7
theorem AQ {f:Fol} (h:eE f f.kept 0<0) :∀ (n:Nat) (b:Bool),cP n f b =(f,b)
 | 0,_=>rfl
 | n+1,b=>by unfold cP;rw [if_pos (decide_eq_true h)]
theorem AP {f:Fol} (h :¬ eE f f.kept 0<0) (n:Nat) (b:Bool):cP (n+1) f b=cP n (dM f).1 ((dM f).2&&b):=by
 show (if _ then _ else _)=_
 rw [if_neg (by simpa using h)]
noncomputable def lpRc:Lp:=(⟨3,al [Bc,A8,kDelMsg] Tryz.f20,(fun _=>none),(aB Tryz.f20 0),qRc,xRc⟩:Lp)
theorem MK (b:Bool) (v1:Match) (v2:Int) (v3:Int) (v4:Match) (v5:Int) (v6:Int) (kp:List Message) (hi:rm (b,v1,v2,v3,v4,v5,v6,kp,())) :(Go.Mir.stepG lpRc mz (fun y:Den (tyP lpRc.q)=>rm y∧Bh y<Bh (b,v1,v2,v3,v4,v5,v6,kp,())) (b,v1,v2,v3,v4,v5,v6,kp,())∧Go.Mir.stepE lpRc mz (b,v1,v2,v3,v4,v5,v6,kp,())=mz (b,v1,v2,v3,v4,v5,v6,kp,())):=by
 refine cast (by kernel_rfl) (?_:let r1:Int:=eE (live_Follower.mk v1 v2 v3 v4 v5 v6 kp) kp (0:Int);let r2:Message:=kp.getD r1.toNat (dflt (Ty.nm Nm.Message));let r3:Int:=IntKind.i64.wrap (r1 +(1:Int));let r4:Bool:=decide (r1 <(0:Int));let r5:live_Follower:=live_Follower.mk v1 v2 v3 v4 v5 v6 (List.take r1.toNat kp++List.drop r3.toNat kp);let r6:Fol×Bool:=bO r5 r2;(kp.length≤(1000:Nat)∧(r4=true→True)∧(r4=false→((0:Int)≤r1∧r1 <(↑kp.length:Int))∧(0:Int)≤r1∧r1≤r3∧r3≤(↑kp.length:Int)∧okU r5 r2∧(r6.2=true→rm (b,r6.1.1,r6.1.2,r6.1.3,r6.1.4,r6.1.5,r6.1.6,r6.1.7,())∧Bh (b,r6.1.1,r6.1.2,r6.1.3,r6.1.4,r6.1.5,r6.1.6,r6.1.7,())<Bh (b,v1,v2,v3,v4,v5,v6,kp,()))∧(r6.2=false→rm (false,r6.1.1,r6.1.2,r6.1.3,r6.1.4,r6.1.5,r6.1.6,r6.1.7,())∧Bh (false,r6.1.1,r6.1.2,r6.1.3,r6.1.4,r6.1.5,r6.1.6,r6.1.7,())<Bh (b,v1,v2,v3,v4,v5,v6,kp,()))))∧(bif r4 then (b,v1,v2,v3,v4,v5,v6,kp,()) else bif r6.2 then mz (b,r6.1.1,r6.1.2,r6.1.3,r6.1.4,r6.1.5,r6.1.6,r6.1.7,()) else mz (false,r6.1.1,r6.1.2,r6.1.3,r6.1.4,r6.1.5,r6.1.6,r6.1.7,()))=mz (b,v1,v2,v3,v4,v5,v6,kp,()))
 intro r1 r2 r3 r4 r5 r6
 clear_value (hr1:r1=_) (hr2:r2=_) (hr3:r3=_) (hr4:r4=_) (hr5:r5=_) (hr6:r6=_)
 have hi:cc (mkF v1 v2 v3 v4 v5 v6 kp):=hi
 have hk:kp.length≤64:=hi.2.1
 have hr1:r1=eE (mkF v1 v2 v3 v4 v5 v6 kp) kp 0:=hr1
 generalize hF:mkF v1 v2 v3 v4 v5 v6 kp=F at hi hr1
 have hK:F.kept=kp:=by rw [←hF];rfl
 have hr1:r1=eE F F.kept 0:=by rw [hK];exact hr1
 have key :¬ r1<0→r1.toNat<kp.length∧r3=r1+1∧okU r5 r2∧r6=dM F∧cc (dM F).1∧(dM F).1.kept.length+1=kp.length:=fun h=>by
  obtain ⟨s1,s2,s3,s4⟩:=sZ hi (by omega)
  rw [←hr1,hK] at s1 s2
  rw [hK] at s4
  have e3:r3=r1+1:=by rw [hr3];exact bb (by omega) (by omega)
  have e5:r5=vG F r1.toNat:=by
   rw [hr5,e3,show (r1+1).toNat=r1.toNat+1 from by omega,←hF]
   rfl
  have e6:r6=dM F:=by
   rw [hr6,e5,hr2]
   unfold dM
   rw [←hr1,hK]
  exact ⟨s1,e3,by rw [e5,hr2];exact s2,e6,s3,s4⟩
 refine ⟨⟨by omega,fun _=>trivial,fun h=>?_⟩,?_⟩
 ·have h :¬ r1<0:=by rw [hr4] at h;simpa using h
  obtain ⟨k1,k2,k3,k4,k5,k6⟩:=key h
  have k6':r6.1.kept.length<kp.length:=by rw [k4];omega
  have k5':cc r6.1:=by rw [k4];exact k5
  exact ⟨⟨by omega,by omega⟩,by omega,by omega,by omega,k3,fun _=>⟨k5',k6'⟩,fun _=>⟨k5',k6'⟩⟩
 ·have eR:mz (b,v1,v2,v3,v4,v5,v6,kp,())=KT (cP F.kept.length F b):=by rw [←hF];rfl
  rw [eR,hr4]
  by_cases h:r1<0
  ·rw [decide_eq_true h,AQ (by rw [←hr1];exact h),←hF]
   rfl
  ·obtain ⟨k1,k2,k3,k4,k5,k6⟩:=key h
   obtain ⟨n,hn⟩ :∃ n,F.kept.length=n+1:=⟨F.kept.length - 1,by rw [hK];omega⟩
   have hl :(dM F).1.kept.length=n:=by rw [hK] at hn;omega
   rw [decide_eq_false h,hn,AP (by rw [←hr1];exact h),k4,←hl]
   cases hb :(dM F).2 <;> rfl
noncomputable def Ll:LoopSum:=aC lpRc mz rm
noncomputable def K5:Nat:=rid (aB Tryz.f20 0)
theorem LW:LoopOKp Tryz.prog 3 Tryz.f20.ntmps (aB Tryz.f20 0) (aC lpRc mz rm):=
 bi lpRc (aj (.consU Dz rfl (.consU Dq rfl (.consU za rfl .nil))) _) mixed (fun b hb S hS=>by cases hS) mz rm Bh (fun |⟨b,v1,v2,v3,v4,v5,v6,kp,⟨⟩⟩,hi=>MK b v1 v2 v3 v4 v5 v6 kp hi)
theorem wW (f:live_Follower) (m:Message) (hf:cc f) (hl:m.Events.length≤aI) :(evPat (al [uA,jc,ge,Bc,A8,kDelMsg] Tryz.f20) (find [(K5,Ll)]) Tryz.f20 qFM qFr (m,f.start,f.epoch,f.known,f.match_,f.newest,f.newestN,f.kept,())).sat fun z_=>z_ =(sJ (m,f.start,f.epoch,f.known,f.match_,f.newest,f.newestN,f.kept,())).2:=by
 refine cast (by kernel_rfl) (?_:let r1:live_Follower:=live_Follower.mk f.1 f.2 f.3 f.4 m.1 m.3 [];let r2:Int:=if m.3>f.6 then m.3 else f.6;let r3:Fol×Bool:=bO r1 m;let r4:Bool:=!aP r1 m;let r5:Bool:=decide ((0:Int)≥(64:Int));let r6:live_Follower:=live_Follower.mk f.1 f.2 f.3 f.4 f.5 r2 f.7;let r7:Bool:=decide ((↑f.7.length:Int)≥(64:Int));let r8:Fol×Bool:=bO r6 m;let r9:Bool:=!aP r6 m;let r10:Fol×Bool:=cP r3.1.7.length r3.1 r3.2;let r11:Bool:=!r10.2;let r12:Fol×Bool:=cP r8.1.7.length r8.1 r8.2;let r13:Bool:=!r12.2;m.4.length≤aI∧((!cI m)=true→((4:Int),f.1,f.2,f.3,f.4,f.5,f.6,f.7,()) =((ac f m).2,(ac f m).1.1,(ac f m).1.2,(ac f m).1.3,(ac f m).1.4,(ac f m).1.5,(ac f m).1.6,(ac f m).1.7,()))∧((!cI m)=false→(decide (m.1<f.5)=true→((16:Int),f.1,f.2,f.3,f.4,f.5,f.6,f.7,()) =((ac f m).2,(ac f m).1.1,(ac f m).1.2,(ac f m).1.3,(ac f m).1.4,(ac f m).1.5,(ac f m).1.6,(ac f m).1.7,()))∧(decide (m.1<f.5)=false→(decide (m.1>f.5)=true→(r4=true→(r5=true→((9:Int),f.1,f.2,f.3,f.4,m.1,m.3,[],()) =((ac f m).2,(ac f m).1.1,(ac f m).1.2,(ac f m).1.3,(ac f m).1.4,(ac f m).1.5,(ac f m).1.6,(ac f m).1.7,()))∧(r5=false→m.4.length≤(1000000:Nat)∧ [m].length *(48:Nat)≤(70368744177664:Nat)∧((0:Int),f.1,f.2,f.3,f.4,m.1,m.3,[m],()) =((ac f m).2,(ac f m).1.1,(ac f m).1.2,(ac f m).1.3,(ac f m).1.4,(ac f m).1.5,(ac f m).1.6,(ac f m).1.7,())))∧(r4=false→okU r1 m∧((cx fun x=>none)∧jX r3.1∧r3.1.7.length≤(64:Nat)∧iA r3.1.7)∧(r11=true→((10:Int),r10.1.1,r10.1.2,r10.1.3,r10.1.4,r10.1.5,r10.1.6,r10.1.7,()) =((ac f m).2,(ac f m).1.1,(ac f m).1.2,(ac f m).1.3,(ac f m).1.4,(ac f m).1.5,(ac f m).1.6,(ac f m).1.7,()))∧(r11=false→((0:Int),r10.1.1,r10.1.2,r10.1.3,r10.1.4,r10.1.5,r10.1.6,r10.1.7,()) =((ac f m).2,(ac f m).1.1,(ac f m).1.2,(ac f m).1.3,(ac f m).1.4,(ac f m).1.5,(ac f m).1.6,(ac f m).1.7,()))))∧(decide (m.1>f.5)=false→(r9=true→(r7=true→((9:Int),f.1,f.2,f.3,f.4,f.5,r2,f.7,()) =((ac f m).2,(ac f m).1.1,(ac f m).1.2,(ac f m).1.3,(ac f m).1.4,(ac f m).1.5,(ac f m).1.6,(ac f m).1.7,()))∧(r7=false→m.4.length≤(1000000:Nat)∧(f.7.length+[m].length) *(48:Nat)≤(70368744177664:Nat)∧((0:Int),f.1,f.2,f.3,f.4,f.5,r2,f.7++[m],()) =((ac f m).2,(ac f m).1.1,(ac f m).1.2,(ac f m).1.3,(ac f m).1.4,(ac f m).1.5,(ac f m).1.6,(ac f m).1.7,())))∧(r9=false→okU r6 m∧((cx fun x=>none)∧jX r8.1∧r8.1.7.length≤(64:Nat)∧iA r8.1.7)∧(r13=true→((10:Int),r12.1.1,r12.1.2,r12.1.3,r12.1.4,r12.1.5,r12.1.6,r12.1.7,()) =((ac f m).2,(ac f m).1.1,(ac f m).1.2,(ac f m).1.3,(ac f m).1.4,(ac f m).1.5,(ac f m).1.6,(ac f m).1.7,()))∧(r13=false→((0:Int),r12.1.1,r12.1.2,r12.1.3,r12.1.4,r12.1.5,r12.1.6,r12.1.7,()) =((ac f m).2,(ac f m).1.1,(ac f m).1.2,(ac f m).1.3,(ac f m).1.4,(ac f m).1.5,(ac f m).1.6,(ac f m).1.7,())))))))
 intro r1 r2 r3 r4 r5 r6 r7 r8 r9 r10 r11 r12 r13
 clear_value (hr1:r1=_) (hr2:r2=_) (hr3:r3=_) (hr4:r4=_) (hr5:r5=_) (hr6:r6=_) (hr7:r7=_) (hr8:r8=_) (hr9:r9=_) (hr10:r10=_) (hr11:r11=_) (hr12:r12=_) (hr13:r13=_)
 have hh :∀ g:Fol,cI m=true→cc g→aP g m=true→okU g m∧cc (bO g m).1:=fun g h1 h2 h3=>⟨⟨h2.1,⟨h1,hl⟩,h3⟩,Ef h2 ⟨h1,hl⟩ h3⟩
 have hlen:cI m=true→m.Events.length≤4000:=fun h=>by have:=(ou ⟨h,hl⟩).2.2.1;have:=(ou ⟨h,hl⟩).2.1;omega
 have hng :∀ g:Fol,bn f m=g→cc g:=fun g h=>by rw [←h];exact Dn hf m
 refine ⟨hl,fun h1=>by rw [E3 h1],fun h1=>⟨fun h2=>by rw [E5 h1 h2],fun h2=>⟨fun h3=>?_,fun h3=>?_⟩⟩⟩
 ·have eN:bn f m=r1:=by rw [hr1];unfold bn;rw [if_pos h3]
  have hF:cI m=true:=by simpa using h1
  have hN:=hng _ eN
  refine ⟨fun h4=>⟨fun h5=>?_,fun h5=>⟨by have:=hlen hF;omega,by simp,?_⟩⟩,fun h4=>?_⟩
  ·rw [hr5] at h5;simp at h5
  ·rw [uU h1 h2 (by rw [eN,←hr4];exact h4) (by rw [eN,hr1];rfl),eN,hr1]
   rfl
  ·have hU:aP r1 m=true:=by rw [hr4] at h4;simpa using h4
   obtain ⟨a,b⟩:=hh r1 hF hN hU
   rw [←hr3] at b
   have eT:ac f m =(r10.1,if r10.2 then 0 else 10):=by
    rw [uV h1 h2 (by rw [eN,←hr4];exact h4),eN]
    have e0:oa r1 m=r10:=by
     unfold oa
     rw [hr10,hr3,jq]
    rw [e0]
   rw [eT]
   refine ⟨a,⟨rfl,b⟩,fun h5=>?_,fun h5=>?_⟩
   ·rw [hr11] at h5
    have:r10.2=false:=by simpa using h5
    rw [this];rfl
   ·rw [hr11] at h5
    have:r10.2=true:=by simpa using h5
    rw [this];rfl
 ·have eN:bn f m=r6:=by rw [hr6,hr2];unfold bn;rw [if_neg (by rw [h3];decide)];rfl
  have hF:cI m=true:=by simpa using h1
  have hN:=hng _ eN
  have eK:r6.kept=f.kept:=by rw [hr6]
  have hk:=hf.2.1
  refine ⟨fun h4=>⟨fun h5=>?_,fun h5=>⟨by have:=hlen hF;omega,by simp only [List.length_singleton];omega,?_⟩⟩,fun h4=>?_⟩
  ·rw [E4 h1 h2 (by rw [eN,←hr9];exact h4) (by rw [eN,eK,←hr7];exact h5),eN,hr6]
  ·rw [uU h1 h2 (by rw [eN,←hr9];exact h4) (by rw [eN,eK,←hr7];exact h5),eN,hr6]
   rfl
  ·have hU:aP r6 m=true:=by rw [hr9] at h4;simpa using h4
   obtain ⟨a,b⟩:=hh r6 hF hN hU
   rw [←hr8] at b
   have eT:ac f m =(r12.1,if r12.2 then 0 else 10):=by
    rw [uV h1 h2 (by rw [eN,←hr9];exact h4),eN]
    have e0:oa r6 m=r12:=by
     unfold oa
     rw [hr12,hr8,jq]
    rw [e0]
   rw [eT]
   refine ⟨a,⟨rfl,b⟩,fun h5=>?_,fun h5=>?_⟩
   ·rw [hr13] at h5
    have:r12.2=false:=by simpa using h5
    rw [this];rfl
   ·rw [hr13] at h5
    have:r12.2=true:=by simpa using h5
    rw [this];rfl
def bZ:FuncId×Ctr:=(20,af KE qFM qFr sJ)
theorem cE:CtrOK Tryz.prog KE 20 (af KE qFM qFr sJ):=by
 refine ar (C:=al [uA,jc,ge,Bc,A8,kDelMsg] Tryz.f20) (aj (.consU Bs rfl (.consU na rfl (.consU l6 rfl (.consU Dz rfl (.consU Dq rfl (.consU za rfl .nil)))))) _) mixed (fn:=Tryz.f20) Tryz.func20 (by kernel_rfl) (by kernel_rfl) (by kernel_rfl) (by kernel_rfl) (by kernel_rfl) (by kernel_rfl) (Λ:=fun x=>find [(K5,Ll)]) ?_ ?_
 ·rintro ⟨m,v1,v2,v3,v4,v5,v6,kp,⟨⟩⟩ hw hn
  exact LoopsOKp.at (by kernel_rfl) (.cons (by kernel_rfl) (LW) .nil)
 ·rintro ⟨m,v1,v2,v3,v4,v5,v6,kp,⟨⟩⟩ hw hn
  exact wW (mkF v1 v2 v3 v4 v5 v6 kp) m (hn _ List.mem_cons_self) (hn _ (List.mem_cons_of_mem _ List.mem_cons_self))
end Go.Proofs.YtkgplaoappjkcaaGreat
