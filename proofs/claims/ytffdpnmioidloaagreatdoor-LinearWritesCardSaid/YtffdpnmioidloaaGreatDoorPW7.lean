/- Texts of the mirror and contracts, put together. -/
import Derived.Test.YtffdpnmioidloaaGreatDoorPW6
namespace Go.Proofs.YtffdpnmioidloaaGreatDoor
section
open Go Go.Mir
attribute [local irreducible] Go.Mir.DT.sat Go.Mir.evPat Go.Mir.RT.sat Go.Mir.evFn
def aK (m:Match):Prop:=dd m∧m.Innings.length≤1000000∧m.Rules.Power.length≤1000000
abbrev pZ (s:PC0):List PC0:= [.h .str,.h I,.h I,.h I,.h I,.h I,.h I,.h I,.h .bool,.h I,.h I,.h I,.h I,.h (.slice (.nm .Phase)),.h U8,.h I,.h .bool,s,.h I,.h I,.h U8,.h I,.h I]
abbrev qMo:Pat:=⟨[(0,.a (pZ (.c (.osl 0 1))))],[(0,.row 1 (.nm .Innings))],2⟩
abbrev mY:Pat:=bX [.nm .Match,I]
def _root_.Go.Mir.mkM (v1:ByteArray) (v2:Int) (v3:Int) (v4:Int) (v5:Int) (v6:Int) (v7:Int) (v8:Int) (v9:Bool) (v10:Int) (v11:Int) (v12:Int) (v13:Int) (v14:List Phase) (v15:Int) (v16:Int) (v17:Bool) (v18:Int) (v19:Int) (v20:Int) (v21:Int) (v22:Int) (xs:List Innings):Match:=
 { Rules:={ Name:=v1,Side:=v2,Innings:=v3,Overs:=v4,Balls:=v5,Quota:=v6,Wide:=v7,NoBall:=v8,FreeHit:=v9,NewBall:=v10,FollowOn:=v11,Reviews:=v12,Outside:=v13,Power:=v14 },Stage:=v15,First:=v16,Follow:=v17,Innings:=xs,Penalty:=(v18,v19,()),Result:={ Win:=v20,Side:=v21,Margin:=v22 } }
abbrev TM:Type:=ByteArray×Int×Int×Int×Int×Int×Int×Int×Bool×Int×Int×Int×Int×List Phase×Int×Int×Bool×Int×Int×Int×Int×Int×List Innings×Unit
def _root_.Go.Mir.mkX (x:TM):Match:=(mkM x.1 x.2.1 x.2.2.1 x.2.2.2.1 x.2.2.2.2.1 x.2.2.2.2.2.1 x.2.2.2.2.2.2.1 x.2.2.2.2.2.2.2.1 x.2.2.2.2.2.2.2.2.1 x.2.2.2.2.2.2.2.2.2.1 x.2.2.2.2.2.2.2.2.2.2.1 x.2.2.2.2.2.2.2.2.2.2.2.1 x.2.2.2.2.2.2.2.2.2.2.2.2.1 x.2.2.2.2.2.2.2.2.2.2.2.2.2.1 x.2.2.2.2.2.2.2.2.2.2.2.2.2.2.1 x.2.2.2.2.2.2.2.2.2.2.2.2.2.2.2.1 x.2.2.2.2.2.2.2.2.2.2.2.2.2.2.2.2.1 x.2.2.2.2.2.2.2.2.2.2.2.2.2.2.2.2.2.1 x.2.2.2.2.2.2.2.2.2.2.2.2.2.2.2.2.2.2.1 x.2.2.2.2.2.2.2.2.2.2.2.2.2.2.2.2.2.2.2.1 x.2.2.2.2.2.2.2.2.2.2.2.2.2.2.2.2.2.2.2.2.1 x.2.2.2.2.2.2.2.2.2.2.2.2.2.2.2.2.2.2.2.2.2.1 x.2.2.2.2.2.2.2.2.2.2.2.2.2.2.2.2.2.2.2.2.2.2.1)
def PX:Ty:= .prod (.slice (.nm .Phase)) .unit
def CS:Den PX→PRes:=fun x=>⟨[x.1.length≤1000000],.osl 0 0,[⟨.nm .Phase,x.1⟩]⟩
def DC:FuncId×Ctr:=(232,au KE PX CS)
def lN:Den (tyP qRu)→List Prop×Den (tyP qRu):=fun x=>([x.1.Power.length≤1000000],(x.1,()))
def pe:Den (tyP qM)→List Prop×Den (tyP qMo):=fun x=>([aK x.1],(x.1.Rules.Name,x.1.Rules.Side,x.1.Rules.Innings,x.1.Rules.Overs,x.1.Rules.Balls,x.1.Rules.Quota,x.1.Rules.Wide,x.1.Rules.NoBall,x.1.Rules.FreeHit,x.1.Rules.NewBall,x.1.Rules.FollowOn,x.1.Rules.Reviews,x.1.Rules.Outside,x.1.Rules.Power,x.1.Stage,x.1.First,x.1.Follow,x.1.Penalty.1,x.1.Penalty.2.1,x.1.Result.Win,x.1.Result.Side,x.1.Result.Margin,x.1.Innings,()))
def jr (r:Rules):Match:=if aq r != 0 then Match.zero else { Match.zero with Rules:=r,Stage:=1 }
def Lv:Den (tyP qRu)→List Prop×Den (tyP mY):=fun x=>([],(jr x.1,aq x.1,()))
abbrev Ud:List (Nat×PB):= [(0,.dat (.nm .Match)),(1,.dat (.nm .Match)),(2,.row 3 (.nm .Innings))]
abbrev qCl:Pat:=⟨[(1,.c (.ptr 0 0)),(2,.c (.ptr 1 0)),(3,.c (.osl 2 3)),(11,.h LG),(12,.h I),(13,.h I)],Ud,4⟩
abbrev xCl:List (Lf×Pat):= [(.ext 0,⟨[(1,.c (.ptr 0 0)),(2,.c (.ptr 1 0)),(3,.c (.osl 2 3))],Ud,4⟩)]
abbrev TCl:Type:=List Innings×Int×Int×Match×Match×List Innings×Unit
def mM (x:TCl):Prop:=(x.2.1 =(x.1.length:Int)∧0≤x.2.2.1∧x.2.2.1≤x.2.1∧x.1.length≤1000000)∧eu x.1∧(x.2.2.2.2.2.1.length:Int)≤x.2.2.1
def uj (x:TCl):Nat:=(x.2.1 - x.2.2.1).toNat
def gj (x:TCl):Match×Match×List Innings×Unit:=(x.2.2.2.1,x.2.2.2.2.1,x.2.2.2.2.2.1++x.1.drop x.2.2.1.toNat,())
theorem lW {r:Rules} (h:aq r=0):1≤r.Innings∧r.Innings≤2:=by
 have hr:cC r=true:=by
  cases hr:cC r with
  | true=>rfl
  | false=>
   unfold aq at h
   cases hn:iH r.Name <;> simp [hn,hr] at h
 simp only [cC,ay,Bool.and_eq_true,decide_eq_true_eq] at hr
 omega
theorem m8 {r:Rules} (h:aq r=0):r.Power.length≤8:=by
 unfold aq at h
 cases hn:iH r.Name with
 | false=>simp [hn] at h
 | true=>
  cases hr:cC r with
  | false=>simp [hn,hr] at h
  | true=>
   cases ha:rT r with
   | true=>simp [hn,hr,ha] at h
   | false=>
    cases hc:A6 r with
    | true=>simp [hn,hr,ha,hc] at h
    | false=>
     simp [hn,hr,ha,hc] at h
     unfold eI at h
     split at h
     ·cases h
     ·omega
theorem Hd (x:List Phase) (hs:x.length≤1000000) :(evFn (al [] Tryz.f232) (fun _=>none) Tryz.f232 (bF PX (x,()))).sat fun v' rows=>leV v' (CS (x,())).v∧rows =(CS (x,())).rows:=by
 refine cast (by kernel_rfl) (?_ :(x.isEmpty=true→(nat_lit 0=nat_lit 0∧nat_lit 0=nat_lit 0)∧ [RowD.mk (Ty.nm Nm.Phase) []]=[RowD.mk (Ty.nm Nm.Phase) x])∧((0:Nat)+x.length) *(24:Nat)≤(70368744177664:Nat)∧(nat_lit 0=nat_lit 0∧nat_lit 0=nat_lit 0)∧ [RowD.mk (Ty.nm Nm.Phase) ([]++x)]=[RowD.mk (Ty.nm Nm.Phase) x])
 refine ⟨fun h=>⟨⟨rfl,rfl⟩,?_⟩,?_,⟨rfl,rfl⟩,rfl⟩
 ·have:x=[]:=List.isEmpty_iff.1 h
  subst this;rfl
 ·omega
theorem Kh:CtrOK Tryz.prog KE 232 (au KE PX CS):=by
 refine aV (C:=al [] Tryz.f232) (aj (CtrsOK.nil) _) mixed (fn:=Tryz.f232) Tryz.func232 (by kernel_rfl) (by kernel_rfl) (by kernel_rfl) (Λ:=fun _ _=>none) ?_ ?_ ?_
 ·exact fun _ _ _ _ _ _ _ _ h=>by cases h
 ·rintro ⟨x,⟨⟩⟩
  exact of_decide_eq_true (by kernel_rfl)
 ·rintro ⟨x,⟨⟩⟩ hw hn
  exact Hd x (hn _ (List.mem_singleton.2 rfl))
theorem HO (r:Rules) (hs:r.Power.length≤1000000) :(evPat (al [DC] Tryz.f185) (fun _=>none) Tryz.f185 qRu qRu (r,())).sat fun z_=>z_ =(lN (r,())).2:=by
 refine cast (by kernel_rfl) (?_:r.14.length≤(1000000:Nat)∧(r,()) =(r,()))
 exact ⟨hs,rfl⟩
def rm:FuncId×Ctr:=(185,ae KE qRu qRu lN)
theorem Ai:CtrOK Tryz.prog KE 185 (ae KE qRu qRu lN):=by
 refine an (C:=al [DC] Tryz.f185) (aj (.consU Kh rfl .nil) _) mixed (fn:=Tryz.f185) Tryz.func185 (by kernel_rfl) (by kernel_rfl) (by kernel_rfl) (by kernel_rfl) (by kernel_rfl) (by kernel_rfl) (Λ:=fun _ _=>none) ?_ ?_
 ·exact fun _ _ _ _ _ _ _ _ h=>by cases h
 ·rintro ⟨r,⟨⟩⟩ hw hn
  exact HO r (hn _ List.mem_cons_self)
theorem Fq (r:Rules) (hs:r.Power.length≤1000000) :(evPat (al [] Tryz.f190) (fun _=>none) Tryz.f190 qRu qRu (r,())).sat fun z_=>z_ =(lN (r,())).2:=by
 refine cast (by kernel_rfl) (?_ :((0:Nat)+r.14.length) *(24:Nat)≤(70368744177664:Nat)∧(Rules.mk r.1 r.2 r.3 r.4 r.5 r.6 r.7 r.8 r.9 r.10 r.11 r.12 r.13 ([]++r.14),()) =(r,()))
 exact ⟨by omega,rfl⟩
def oP:FuncId×Ctr:=(190,ae KE qRu qRu lN)
theorem w5:CtrOK Tryz.prog KE 190 (ae KE qRu qRu lN):=by
 refine an (C:=al [] Tryz.f190) (aj (CtrsOK.nil) _) mixed (fn:=Tryz.f190) Tryz.func190 (by kernel_rfl) (by kernel_rfl) (by kernel_rfl) (by kernel_rfl) (by kernel_rfl) (by kernel_rfl) (Λ:=fun _ _=>none) ?_ ?_
 ·exact fun _ _ _ _ _ _ _ _ h=>by cases h
 ·rintro ⟨r,⟨⟩⟩ hw hn
  exact Fq r (hn _ List.mem_cons_self)
noncomputable def lpCl:Lp:=(⟨0,al [dU] Tryz.f235,(fun _=>none),(az Tryz.f235 0),qCl,xCl⟩:Lp)
theorem Tu (xs:List Innings) (n:Int) (i:Int) (m:Match) (z:Match) (l:List Innings) (hi:mM (xs,n,i,m,z,l,())) :(Go.Mir.stepG lpCl gj (fun y:Den (tyP lpCl.q)=>mM y∧uj y<uj (xs,n,i,m,z,l,())) (xs,n,i,m,z,l,())∧Go.Mir.stepE lpCl gj (xs,n,i,m,z,l,())=gj (xs,n,i,m,z,l,())):=by
 refine cast (by kernel_rfl) (?_:let r1:List Innings:= [xs.getD i.toNat (dflt (Ty.nm Nm.Innings))];((decide (i<n)=true→(0≤i∧i <(↑xs.length:Int))∧ai (xs.getD i.toNat (dflt (Ty.nm Nm.Innings)))∧(l.length+r1.length) *(304:Nat)≤(70368744177664:Nat)∧mM (xs,n,IntKind.i64.wrap (i+1),m,z,l++r1,())∧uj (xs,n,IntKind.i64.wrap (i+1),m,z,l++r1,())<uj (xs,n,i,m,z,l,()))∧(decide (i<n)=false→True))∧(cond (decide (i<n)) (gj (xs,n,IntKind.i64.wrap (i+1),m,z,l++r1,())) (m,z,l,()))=gj (xs,n,i,m,z,l,()))
 intro r1
 clear_value (hr1:r1=_)
 obtain ⟨⟨h1,h2,h3,h4⟩,hs,h5⟩:=hi
 simp only at h1 h2 h3 h4 h5 hs
 refine ⟨⟨fun h=>?_,fun _=>trivial⟩,?_⟩
 ·have h:i<n:=of_decide_eq_true h
  rw [bc (n:=i+1) (by omega) (by omega),hr1]
  have hl:i.toNat<xs.length:=by omega
  refine ⟨⟨h2,by omega⟩,hs _ (iC hl _),?_,⟨⟨h1,by simp only;omega,by simp only;omega,h4⟩,hs,?_⟩,by simp only [uj];omega⟩
  ·simp only [List.length_singleton];omega
  ·simp only [List.length_append,List.length_singleton];omega
 ·by_cases h:i<n
  ·have e:xs.drop i.toNat=xs.getD i.toNat (dflt (Ty.nm Nm.Innings))::xs.drop (i+1).toNat:=b8 h2 (by omega) _
   rw [decide_eq_true h,cond_true,bc (n:=i+1) (by omega) (by omega)]
   simp only [gj]
   rw [e,hr1,List.append_assoc,List.singleton_append]
  ·rw [decide_eq_false h,cond_false]
   simp only [gj]
   rw [bJ (l:=xs) (by omega),List.append_nil]
noncomputable def Rz:LoopSum:=aM lpCl gj mM
noncomputable def Q8:Nat:=rid (az Tryz.f235 0)
theorem Sn:LoopOKp Tryz.prog 0 Tryz.f235.ntmps (az Tryz.f235 0) (aM lpCl gj mM):=
 bk lpCl (aj (.consU iI rfl .nil) _) mixed (fun b hb S hS=>by cases hS) gj mM uj (fun |⟨xs,n,i,m,z,l,⟨⟩⟩,hi=>Tu xs n i m z l hi)
theorem K3 (m:Match) (hs:aK m) :(evPat (al [rm] Tryz.f235) (find [(Q8,Rz)]) Tryz.f235 qM qMo (m,())).sat fun z_=>z_ =(pe (m,())).2:=by
 refine cast (by kernel_rfl) (?_:m.1.14.length≤(1000000:Nat)∧((cZ fun x=>none)∧((↑m.5.length:Int) =(↑m.5.length:Int)∧(0:Int)≤0∧0≤(↑m.5.length:Int)∧m.5.length≤(1000000:Nat))∧eu m.5∧(↑(0:Nat):Int)≤0)∧(m.1.1,m.1.2,m.1.3,m.1.4,m.1.5,m.1.6,m.1.7,m.1.8,m.1.9,m.1.10,m.1.11,m.1.12,m.1.13,m.1.14,m.2,m.3,m.4,m.6.1,m.6.2.1,m.7.1,m.7.2,m.7.3,[]++List.drop (Int.toNat 0) m.5,()) =(m.1.1,m.1.2,m.1.3,m.1.4,m.1.5,m.1.6,m.1.7,m.1.8,m.1.9,m.1.10,m.1.11,m.1.12,m.1.13,m.1.14,m.2,m.3,m.4,m.6.1,m.6.2.1,m.7.1,m.7.2,m.7.3,m.5,()))
 exact ⟨hs.2.2,⟨rfl,⟨rfl,Int.le_refl _,by omega,hs.2.1⟩,hs.1,Int.le_refl _⟩,rfl⟩
def I6:FuncId×Ctr:=(235,ae KE qM qMo pe)
theorem M4:CtrOK Tryz.prog KE 235 (ae KE qM qMo pe):=by
 refine an (C:=al [rm] Tryz.f235) (aj (.consU Ai rfl .nil) _) mixed (fn:=Tryz.f235) Tryz.func235 (by kernel_rfl) (by kernel_rfl) (by kernel_rfl) (by kernel_rfl) (by kernel_rfl) (by kernel_rfl) (Λ:=fun x=>find [(Q8,Rz)]) ?_ ?_
 ·rintro ⟨m,⟨⟩⟩ hw hn
  exact LoopsOKp.at (by kernel_rfl) (.cons (by kernel_rfl) (Sn) .nil)
 ·rintro ⟨m,⟨⟩⟩ hw hn
  exact K3 m (hn _ List.mem_cons_self)
noncomputable def lpCr:Lp:=(⟨0,al [lD] Tryz.f191,(fun _=>none),(az Tryz.f191 0),qCl,xCl⟩:Lp)
theorem Tv (xs:List Innings) (n:Int) (i:Int) (m:Match) (z:Match) (l:List Innings) (hi:mM (xs,n,i,m,z,l,())) :(Go.Mir.stepG lpCr gj (fun y:Den (tyP lpCr.q)=>mM y∧uj y<uj (xs,n,i,m,z,l,())) (xs,n,i,m,z,l,())∧Go.Mir.stepE lpCr gj (xs,n,i,m,z,l,())=gj (xs,n,i,m,z,l,())):=by
 refine cast (by kernel_rfl) (?_:let r1:List Innings:= [xs.getD i.toNat (dflt (Ty.nm Nm.Innings))];((decide (i<n)=true→(0≤i∧i <(↑xs.length:Int))∧ai (xs.getD i.toNat (dflt (Ty.nm Nm.Innings)))∧(l.length+r1.length) *(304:Nat)≤(70368744177664:Nat)∧mM (xs,n,IntKind.i64.wrap (i+1),m,z,l++r1,())∧uj (xs,n,IntKind.i64.wrap (i+1),m,z,l++r1,())<uj (xs,n,i,m,z,l,()))∧(decide (i<n)=false→True))∧(cond (decide (i<n)) (gj (xs,n,IntKind.i64.wrap (i+1),m,z,l++r1,())) (m,z,l,()))=gj (xs,n,i,m,z,l,()))
 intro r1
 clear_value (hr1:r1=_)
 obtain ⟨⟨h1,h2,h3,h4⟩,hs,h5⟩:=hi
 simp only at h1 h2 h3 h4 h5 hs
 refine ⟨⟨fun h=>?_,fun _=>trivial⟩,?_⟩
 ·have h:i<n:=of_decide_eq_true h
  rw [bc (n:=i+1) (by omega) (by omega),hr1]
  have hl:i.toNat<xs.length:=by omega
  refine ⟨⟨h2,by omega⟩,hs _ (iC hl _),?_,⟨⟨h1,by simp only;omega,by simp only;omega,h4⟩,hs,?_⟩,by simp only [uj];omega⟩
  ·simp only [List.length_singleton];omega
  ·simp only [List.length_append,List.length_singleton];omega
 ·by_cases h:i<n
  ·have e:xs.drop i.toNat=xs.getD i.toNat (dflt (Ty.nm Nm.Innings))::xs.drop (i+1).toNat:=b8 h2 (by omega) _
   rw [decide_eq_true h,cond_true,bc (n:=i+1) (by omega) (by omega)]
   simp only [gj]
   rw [e,hr1,List.append_assoc,List.singleton_append]
  ·rw [decide_eq_false h,cond_false]
   simp only [gj]
   rw [bJ (l:=xs) (by omega),List.append_nil]
noncomputable def RA:LoopSum:=aM lpCr gj mM
noncomputable def Q9:Nat:=rid (az Tryz.f191 0)
theorem So:LoopOKp Tryz.prog 0 Tryz.f191.ntmps (az Tryz.f191 0) (aM lpCr gj mM):=
 bk lpCr (aj (.consU qo rfl .nil) _) mixed (fun b hb S hS=>by cases hS) gj mM uj (fun |⟨xs,n,i,m,z,l,⟨⟩⟩,hi=>Tv xs n i m z l hi)
theorem Fz (m:Match) (hs:aK m) :(evPat (al [oP] Tryz.f191) (find [(Q9,RA)]) Tryz.f191 qM qMo (m,())).sat fun z_=>z_ =(pe (m,())).2:=by
 refine cast (by kernel_rfl) (?_:m.1.14.length≤(1000000:Nat)∧((cZ fun x=>none)∧((↑m.5.length:Int) =(↑m.5.length:Int)∧(0:Int)≤0∧0≤(↑m.5.length:Int)∧m.5.length≤(1000000:Nat))∧eu m.5∧(↑(0:Nat):Int)≤0)∧(m.1.1,m.1.2,m.1.3,m.1.4,m.1.5,m.1.6,m.1.7,m.1.8,m.1.9,m.1.10,m.1.11,m.1.12,m.1.13,m.1.14,m.2,m.3,m.4,m.6.1,m.6.2.1,m.7.1,m.7.2,m.7.3,[]++List.drop (Int.toNat 0) m.5,()) =(m.1.1,m.1.2,m.1.3,m.1.4,m.1.5,m.1.6,m.1.7,m.1.8,m.1.9,m.1.10,m.1.11,m.1.12,m.1.13,m.1.14,m.2,m.3,m.4,m.6.1,m.6.2.1,m.7.1,m.7.2,m.7.3,m.5,()))
 exact ⟨hs.2.2,⟨rfl,⟨rfl,Int.le_refl _,by omega,hs.2.1⟩,hs.1,Int.le_refl _⟩,rfl⟩
def zK:FuncId×Ctr:=(191,ae KE qM qMo pe)
theorem GP:CtrOK Tryz.prog KE 191 (ae KE qM qMo pe):=by
 refine an (C:=al [oP] Tryz.f191) (aj (.consU w5 rfl .nil) _) mixed (fn:=Tryz.f191) Tryz.func191 (by kernel_rfl) (by kernel_rfl) (by kernel_rfl) (by kernel_rfl) (by kernel_rfl) (by kernel_rfl) (Λ:=fun x=>find [(Q9,RA)]) ?_ ?_
 ·rintro ⟨m,⟨⟩⟩ hw hn
  exact LoopsOKp.at (by kernel_rfl) (.cons (by kernel_rfl) (So) .nil)
 ·rintro ⟨m,⟨⟩⟩ hw hn
  exact Fz m (hn _ List.mem_cons_self)
theorem Qp (r:Rules) :(evPat (al [k85,rm] Tryz.f128) (fun _=>none) Tryz.f128 qRu mY (r,())).sat fun z_=>z_ =(Lv (r,())).2:=by
 refine cast (by kernel_rfl) (?_:let r1:Mir.Result:=Result.mk 0 0 0;((aq r != 0)=true→(Match.mk (Rules.mk ByteArray.empty 0 0 0 0 0 0 0 false 0 0 0 0 []) 0 0 false [] (0,0,()) r1,aq r,()) =(jr r,aq r,()))∧((aq r != 0)=false→r.14.length≤(1000000:Nat)∧(Match.mk r 1 0 false [] (0,0,()) r1,0,()) =(jr r,aq r,())))
 intro r1
 clear_value (hr1:r1=_)
 subst hr1
 refine ⟨fun h=>?_,fun h=>⟨?_,?_⟩⟩
 ·simp only [jr,h,if_true];rfl
 ·have:=m8 (r:=r) (by simpa using h);omega
 ·have h0:aq r=0:=by simpa using h
  simp only [jr,h0];rfl
def QR:FuncId×Ctr:=(128,ae KE qRu mY Lv)
theorem SU:CtrOK Tryz.prog KE 128 (ae KE qRu mY Lv):=by
 refine an (C:=al [k85,rm] Tryz.f128) (aj (.consU wR rfl (.consU Ai rfl .nil)) _) mixed (fn:=Tryz.f128) Tryz.func128 (by kernel_rfl) (by kernel_rfl) (by kernel_rfl) (by kernel_rfl) (by kernel_rfl) (by kernel_rfl) (Λ:=fun _ _=>none) ?_ ?_
 ·exact fun _ _ _ _ _ _ _ _ h=>by cases h
 ·rintro ⟨r,⟨⟩⟩ hw hn
  exact Qp r
theorem Lk (r:Rules) :(evPat (al [k86,oP] Tryz.f144) (fun _=>none) Tryz.f144 qRu mY (r,())).sat fun z_=>z_ =(Lv (r,())).2:=by
 refine cast (by kernel_rfl) (?_:let r1:Mir.Result:=Result.mk 0 0 0;((aq r != 0)=true→(Match.mk (Rules.mk ByteArray.empty 0 0 0 0 0 0 0 false 0 0 0 0 []) 0 0 false [] (0,0,()) r1,aq r,()) =(jr r,aq r,()))∧((aq r != 0)=false→r.14.length≤(1000000:Nat)∧(Match.mk r 1 0 false [] (0,0,()) r1,0,()) =(jr r,aq r,())))
 intro r1
 clear_value (hr1:r1=_)
 subst hr1
 refine ⟨fun h=>?_,fun h=>⟨?_,?_⟩⟩
 ·simp only [jr,h,if_true];rfl
 ·have:=m8 (r:=r) (by simpa using h);omega
 ·have h0:aq r=0:=by simpa using h
  simp only [jr,h0];rfl
def uW:FuncId×Ctr:=(144,ae KE qRu mY Lv)
theorem Ew:CtrOK Tryz.prog KE 144 (ae KE qRu mY Lv):=by
 refine an (C:=al [k86,oP] Tryz.f144) (aj (.consU wS rfl (.consU w5 rfl .nil)) _) mixed (fn:=Tryz.f144) Tryz.func144 (by kernel_rfl) (by kernel_rfl) (by kernel_rfl) (by kernel_rfl) (by kernel_rfl) (by kernel_rfl) (Λ:=fun _ _=>none) ?_ ?_
 ·exact fun _ _ _ _ _ _ _ _ h=>by cases h
 ·rintro ⟨r,⟨⟩⟩ hw hn
  exact Lk r
end
section
open Go Go.Mir
def bt (m:Match):Innings:=m.Innings.getD (m.Innings.length - 1) Innings.zero
def pD (w s k:Int):Mir.Result:={ Win:=w,Side:=s,Margin:=k }
def nj (m:Match):Bool:=(m.Innings.length:Int)==ny m
def gr (m:Match):Bool:=(m.Innings.length:Int)==3&&decide (fX m (bt m).Side<fX m (cg (bt m).Side))
def Ds (m:Match) (x:Innings):Mir.Result:=
 if decide (x.Runs≥x.Target) then pD 2 x.Side (W (W (m.Rules.Side - 1) - x.Wickets))
 else if x.Runs==W (x.Target - 1) then pD 4 0 0 else pD 1 (cg x.Side) (W (W (x.Target - 1) - x.Runs))
def bE (m:Match):Mir.Result:=
 if !aR m ||(m.Innings.length:Int)==0 then Mir.Result.zero
 else if (bt m).Ending==5 then pD (cR m.Rules) 0 0
 else if (bt m).Ending==0 then Mir.Result.zero
 else if nj m then Ds m (bt m)
 else if gr m then pD 3 (cg (bt m).Side) (W (fX m (cg (bt m).Side) - fX m (bt m).Side))
 else Mir.Result.zero
def MC (m:Match):Int:=W (fX m m.First - fX m (cg m.First))
def oA (m:Match):Bool:=(m.Innings.length:Int)==2&&(decide (m.Rules.FollowOn>0)&&decide (MC m≥m.Rules.FollowOn))
def mC (m:Match) (s:Int):Match:={ m with Stage:=s }
def IB (m:Match):Match:={ m with Stage:=5,Result:=bE (mC m 5) }
def ar (m:Match):Match:=
 if m.Stage != 3 ||(bt m).Ending==0 then m
 else if nj m||gr m then IB m
 else if oA m then mC m 4 else mC m 2
def ez (s:Int) (xs:List Innings):Nat→Option Nat
 | 0=>none
 | k+1=>if (xs.getD k Innings.zero).Side==s then some k else ez s xs k
def F0 (m:Match) (s:Int):Match:={ m with Penalty:=if s==1 then (W (m.Penalty.1+5),m.Penalty.2.1,()) else (m.Penalty.1,W (m.Penalty.2.1+5),()) }
def FM (m:Match) (k:Nat) (x:Innings):Match:={ m with Innings:=m.Innings.set k x }
def RX (m:Match) (s:Int):Option Nat→Match
 | some k=>FM m k (yw (m.Innings.getD k Innings.zero))
 | none=>F0 m s
def aw (m:Match) (s:Int):Match:=RX m s (ez s m.Innings m.Innings.length)
def Kf (m:Match):Nat:=m.Innings.length - 1
def ch (m:Match) (e:Mir.Event):Int:=if m.Stage != 3 then 1 else cc m.Rules (bt m) e
def sJ (m:Match) (e:Mir.Event):Match:=FM m (Kf m) (dw m.Rules (bt m) e)
def rV (m:Match) (e:Mir.Event):Bool:=e.Kind==13&&e.Side !=(dw m.Rules (bt m) e).Side
def ag (m:Match) (e:Mir.Event):Match:=if ch m e != 0 then m else if rV m e then aw (sJ m e) e.Side else sJ m e
def cx (m:Match):Int:=cM m m.Innings.length
def pL (m:Match) (s:Int):Int:=if s==1 then m.Penalty.1 else m.Penalty.2.1
def lU (m:Match):Int:=gS m.Rules (cx m) (fO m (cx m)) (pL m (cx m))
def x6 (m:Match):Innings:=iy m.Rules (cx m) (fO m (cx m)) (pL m (cx m))
def aQ (m:Match) (e:Mir.Event):Int:=if m.Stage != 2 then 1 else if lU m != 0 then 1 else cc m.Rules (x6 m) e
def rQ (m:Match) (s:Int):Match:={ m with Penalty:=if s==1 then (0,m.Penalty.2.1,()) else (m.Penalty.1,0,()) }
def mn (m:Match) (e:Mir.Event):Match:={ rQ m (cx m) with Innings:=m.Innings++[dw m.Rules (x6 m) e],Stage:=3 }
def aa (m:Match) (e:Mir.Event):Match:=if aQ m e != 0 then m else mn m e
def FQ (m:Match) (e:Mir.Event):Match:={ m with First:=if e.Yes then e.Side else cg e.Side,Stage:=2 }
def Bm (m:Match) (e:Mir.Event):Match:={ m with Follow:=e.Yes,Stage:=2 }
def bO (m:Match):Match:=if m.Stage==3 then FM m (Kf m) { bt m with Ending:=5 } else m
def dF (m:Match):Match:={ bO m with Stage:=5,Result:=pD (cR m.Rules) 0 0 }
def aO (m:Match) (e:Mir.Event):Int:=
 if e.Kind==1 then (if m.Stage != 1 then 1 else 0) else if e.Kind==2 then aQ m e
 else if e.Kind==12 then (if m.Stage != 4 then 1 else if e.Side != m.First then 2 else 0) else if e.Kind==16 then 0 else ch m e
def fW (m:Match) (e:Mir.Event):Match:=
 if e.Kind==1 then FQ m e else if e.Kind==2 then aa m e else if e.Kind==12 then Bm m e else if e.Kind==16 then dF m else ag m e
def ab (m:Match) (e:Mir.Event):Match:=if aO m e != 0 then m else fW m e
def bp (m:Match) (e:Mir.Event):Int:=if !aR m||bB e != 0 then 1 else if m.Stage==5 then 26 else aO m e
def aZ (m:Match) (e:Mir.Event):Match:=if bp m e != 0 then m else ar (ab m e)
theorem ox {m:Match} (h:aR m=true):aq m.Rules=0:=by
 simp only [aR,Bool.and_eq_true,beq_iff_eq] at h
 exact h.1
theorem MH {m:Match} (h:aq m.Rules=0):ny m=2*m.Rules.Innings:=by
 have:=lW h
 unfold ny
 exact bc (by omega) (by omega)
theorem oy {m:Match} (h:aR m=true):gK m=false:=by
 simp only [aR,Bool.and_eq_true,Bool.not_eq_true'] at h
 exact h.2.2.2.1
theorem lR {m:Match} (h:aR m=true) :(m.Innings.length:Int)≤2*m.Rules.Innings∧m.Innings.length≤4:=by
 have hc:=ox h
 have h1:=oy h
 have h2:=lW hc
 have h3:=MH hc
 unfold ny W at h3
 simp only [gK,Bool.or_eq_false_iff,decide_eq_false_iff_not,W,h3] at h1
 omega
theorem dX {m:Match} (h:aR m=true) (h3:m.Stage=3):0<m.Innings.length:=by
 simp only [aR,kZ,Bool.and_eq_true] at h
 have h4:=h.2.2.2.2.2
 simp only [h3,Bool.or_eq_true,bne_iff_ne,ne_eq,not_true_eq_false,false_or,decide_eq_true_eq] at h4
 omega
theorem FS {m:Match} (h:aR m=true) (h2:m.Stage=2):m.First=1∨m.First=2:=by
 have h1:=oy h
 simp only [gK,Bool.or_eq_false_iff,Bool.and_eq_false_iff,decide_eq_false_iff_not,h2] at h1
 obtain ⟨⟨⟨⟨⟨⟨q1,q2,_⟩,q3⟩,_⟩,_⟩,_⟩,_⟩:=h1
 simp at q3
 omega
theorem Db {m:Match} (h:aR m=true) (h2:m.Stage=2):cx m=1∨cx m=2:=by
 unfold cx cM cg W
 rcases FS h h2 with h|h <;> rw [h] <;> split <;> decide
theorem s4 {l:List Innings} (h:eu l) (k:Nat) {y:Innings} (hy:ai y):eu (l.set k y):=fun z hz=>by
 rcases List.mem_or_eq_of_mem_set hz with h1|h1
 ·exact h z h1
 ·rw [h1];exact hy
theorem Lx {l:List Innings} (h:eu l) {y:Innings} (hy:ai y):eu (l++[y]):=fun z hz=>by
 rcases List.mem_append.1 hz with h1|h1
 ·exact h z h1
 ·rw [List.mem_singleton.1 h1];exact hy
theorem Ik {x:Innings} (h:ai x):ai (yw x):=h
theorem kX {r:Rules} {x:Innings} (e:Mir.Event) (h:ai x):ai (dw r x e):=by
 cases hL:cc r x e != 0 with
 | true=>rw [jt hL];exact h
 | false=>
  have h0:cc r x e=0:=by simpa using hL
  have hv:aW r x=true:=by
   cases hv:aW r x with
   | true=>rfl
   | false=>simp [cc,hv] at h0
  have hp:ai (wb (aA r x e) e):=qv e (kY hv)
  have:dw r x e=vC r (wb (aA r x e) e):=by unfold dw;rw [hL];rfl
  rw [this]
  unfold vC
  split
  ·exact hp
  ·exact hp
theorem jI (r:Rules) (s t p:Int):ai (iy r s t p):=by
 unfold iy
 split
 ·simp [ai,Innings.zero]
 ·rename_i h
  have h0:gS r s t p=0:=by simpa using h
  have hc:aq r=0:=by
   unfold gS at h0
   split at h0
   ·exact h0
   ·rename_i h1;simpa using h1
  have:=(iB hc).1
  simp only [ai,OP,gO,Innings.zero,List.length_replicate,List.length_nil]
  omega
theorem gT {m:Match} (h:dd m):ai (bt m):=by
 unfold bt
 by_cases hl:m.Innings.length - 1<m.Innings.length
 ·exact h _ (iC hl _)
 ·rw [List.getD_eq_getElem?_getD,List.getElem?_eq_none (by omega)];simp [ai,Innings.zero]
theorem BN {xs:List Innings} (h:0<xs.length) (h2:xs.length≤1000000) :(W ((xs.length:Int) - 1)).toNat=xs.length - 1:=by
 unfold W
 rw [bc (n:=(xs.length:Int) - 1) (by omega) (by omega)]
 omega
end
section
open Go Go.Mir
attribute [local irreducible] Go.Mir.DT.sat Go.Mir.evPat Go.Mir.RT.sat Go.Mir.evFn
abbrev G9:Pat:=bX [.nm .Result]
def lM:Den (tyP qM)→List Prop×Den (tyP G9):=fun x=>([dd x.1],(bE x.1,()))
def lO (m:Match):Prop:=0<m.Innings.length∧m.Innings.length≤1000000
def N7:Den (tyP qM)→List Prop×Den (tyP qIn):=fun x=>([lO x.1],(bt x.1,()))
theorem Fj (m:Match) (hm:dd m) :(evPat (al [uT,im,jq,oN] Tryz.f284) (fun _=>none) Tryz.f284 qM G9 (m,())).sat fun z_=>z_ =(lM (m,())).2:=by
 refine cast (by kernel_rfl) (?_:let r1:Int:=IntKind.i64.wrap ((↑m.5.length:Int) - 1);let r2:Bool:=cond (!aR m) true ((↑m.5.length:Int)==0);let r3:Bool:=(↑m.5.length:Int)==IntKind.i64.wrap (2*m.1.3);let r4:Innings:=m.5.getD r1.toNat (dflt (Ty.nm Nm.Innings));let r5:Int:=cg r4.1;let r6:Int:=fX m r4.1;let r7:Int:=fX m r5;let r8:Bool:=r4.23==5;let r9:Bool:=r4.23==0;let r10:Int:=IntKind.i64.wrap (r4.2 - 1);let r11:Bool:=cond r3 (r4.4==r10) false;let r12:Bool:=cond ((↑m.5.length:Int)==3) (decide (r6<r7)) false;let r13:Bool:=cond r3 (decide (r4.4≥r4.2)) false;(dd m∧((!aR m)=true→True)∧((!aR m)=false→True))∧(true=true→(r2=true→(Result.mk 0 0 0,()) =(bE m,()))∧(r2=false→(0≤r1∧r1 <(↑m.5.length:Int))∧(r8=true→(Result.mk (cR m.1) 0 0,()) =(bE m,()))∧(r8=false→(r9=true→(Result.mk 0 0 0,()) =(bE m,()))∧(r9=false→(r13=true→(Result.mk 2 r4.1 (IntKind.i64.wrap (IntKind.i64.wrap (m.1.2 - 1) - r4.5)),()) =(bE m,()))∧(r13=false→(r11=true→(Result.mk 4 0 0,()) =(bE m,()))∧(r11=false→(r3=true→(Result.mk 1 r5 (IntKind.i64.wrap (r10 - r4.4)),()) =(bE m,()))∧(r3=false→(r12=true→(Result.mk 3 r5 (IntKind.i64.wrap (r7 - r6)),()) =(bE m,()))∧(r12=false→(Result.mk 0 0 0,()) =(bE m,()))))))))))
 intro r1 r2 r3 r4 r5 r6 r7 r8 r9 r10 r11 r12 r13
 clear_value (hr1:r1=_) (hr2:r2=_) (hr3:r3=_) (hr4:r4=_) (hr5:r5=_) (hr6:r6=_) (hr7:r7=_) (hr8:r8=_) (hr9:r9=_) (hr10:r10=_) (hr11:r11=_) (hr12:r12=_) (hr13:r13=_)
 have ev:r2 =(!aR m ||(m.Innings.length:Int)==0):=by rw [hr2];cases aR m <;> rfl
 refine ⟨⟨hm,fun _=>trivial,fun _=>trivial⟩,fun _=>⟨fun h=>?_,fun h=>?_⟩⟩
 ·have:bE m=Mir.Result.zero:=by unfold bE;rw [←ev,h];rfl
  rw [this];rfl
 ·have hv:aR m=true∧m.Innings.length≠0:=by rw [ev] at h;simpa using h
  have h4:=(lR hv.1).2
  have e1:r1.toNat=m.Innings.length - 1:=by rw [hr1];exact BN (by omega) (by omega)
  have e0:r1 =(m.Innings.length:Int) - 1:=by rw [hr1];exact bc (by omega) (by omega)
  have e4:r4=bt m:=by rw [hr4,e1];rfl
  subst e4
  have e12:r12=gr m:=by rw [hr12,hr6,hr7,hr5];unfold gr;cases (m.Innings.length:Int)==3 <;> rfl
  have e3:r3=nj m:=hr3
  have hO:bE m=if r8 then pD (cR m.Rules) 0 0 else if r9 then Mir.Result.zero else if r3 then Ds m (bt m) else if r12 then pD 3 r5 (W (r7 - r6)) else Mir.Result.zero:=by
   rw [e12,e3,hr8,hr9,hr5,hr6,hr7,hr5];unfold bE;rw [←ev,h];rfl
  have hF:Ds m (bt m)=if decide ((bt m).Runs≥(bt m).Target) then pD 2 (bt m).Side (W (W (m.Rules.Side - 1) - (bt m).Wickets)) else if (bt m).Runs==r10 then pD 4 0 0 else pD 1 r5 (W (r10 - (bt m).Runs)):=by rw [hr10,hr5];rfl
  rw [hO,hF]
  clear hO hF e12 e3 hr1 hr2 hr3 hr4 hr5 hr6 hr7 hr8 hr9 hr10 hr12 ev
  refine ⟨⟨by omega,by omega⟩,fun a=>?_,fun a=>⟨fun b=>?_,fun b=>⟨fun c=>?_,fun c=>⟨fun d=>?_,fun d=>⟨fun f=>?_,fun f=>⟨fun g=>?_,fun g=>?_⟩⟩⟩⟩⟩⟩
  ·rw [a];rfl
  ·rw [a,b];rfl
  ·rw [c] at hr13
   cases r3 with
   | false=>cases hr13
   | true=>rw [a,b];simp only [cond_true] at hr13;rw [←hr13];rfl
  ·rw [c] at hr13
   rw [d] at hr11
   cases r3 with
   | false=>cases hr11
   | true=>rw [a,b];simp only [cond_true] at hr13 hr11;rw [←hr13,←hr11];rfl
  ·subst f
   rw [c] at hr13
   rw [d] at hr11
   rw [a,b];simp only [cond_true] at hr13 hr11;rw [←hr13,←hr11];rfl
  ·rw [a,b,f,g];rfl
  ·rw [a,b,f,g];rfl
def zp:FuncId×Ctr:=(284,ae KE qM G9 lM)
theorem GF:CtrOK Tryz.prog KE 284 (ae KE qM G9 lM):=by
 refine an (C:=al [uT,im,jq,oN] Tryz.f284) (aj (.consU El rfl (.consU nC rfl (.consU pK rfl (.consU wX rfl .nil)))) _) mixed (fn:=Tryz.f284) Tryz.func284 (by kernel_rfl) (by kernel_rfl) (by kernel_rfl) (by kernel_rfl) (by kernel_rfl) (by kernel_rfl) (Λ:=fun _ _=>none) ?_ ?_
 ·exact fun _ _ _ _ _ _ _ _ h=>by cases h
 ·rintro ⟨m,⟨⟩⟩ hw hn
  exact Fj m (hn _ List.mem_cons_self)
theorem HF (m:Match) (hm:lO m) :(evPat (al [] Tryz.f195) (fun _=>none) Tryz.f195 qM qIn (m,())).sat fun z_=>z_ =(N7 (m,())).2:=by
 refine cast (by kernel_rfl) (?_:let r1:Int:=IntKind.i64.wrap ((↑m.5.length:Int) - 1);(0≤r1∧r1 <(↑m.5.length:Int))∧(m.5.getD r1.toNat (dflt (Ty.nm Nm.Innings)),()) =(bt m,()))
 intro r1
 clear_value (hr1:r1=_)
 have e1:r1.toNat=m.Innings.length - 1:=by rw [hr1];exact BN hm.1 hm.2
 have e0:r1 =(m.Innings.length:Int) - 1:=by have:=hm.1;have:=hm.2;rw [hr1];exact bc (by omega) (by omega)
 have:=hm.1
 exact ⟨⟨by omega,by omega⟩,by rw [e1];rfl⟩
def rj:FuncId×Ctr:=(195,ae KE qM qIn N7)
theorem Ae:CtrOK Tryz.prog KE 195 (ae KE qM qIn N7):=by
 refine an (C:=al [] Tryz.f195) (aj (CtrsOK.nil) _) mixed (fn:=Tryz.f195) Tryz.func195 (by kernel_rfl) (by kernel_rfl) (by kernel_rfl) (by kernel_rfl) (by kernel_rfl) (by kernel_rfl) (Λ:=fun _ _=>none) ?_ ?_
 ·exact fun _ _ _ _ _ _ _ _ h=>by cases h
 ·rintro ⟨m,⟨⟩⟩ hw hn
  exact HF m (hn _ List.mem_cons_self)
theorem yG (m:Match) (hm:dd m) :(evPat (al [jE,rj,eg,jD] Tryz.f247) (fun _=>none) Tryz.f247 qM G9 (m,())).sat fun z_=>z_ =(lM (m,())).2:=by
 refine cast (by kernel_rfl) (?_:let r1:Int:=IntKind.i64.wrap ((bt m).2 - 1);let r2:Bool:=cond (!cW m) true ((↑m.5.length:Int)==0);let r3:Bool:=cond ((bt m).23==5) (m.1.4==0) false;let r4:Bool:=(↑m.5.length:Int)==IntKind.i64.wrap (2*m.1.3);let r5:Bool:=cond ((↑m.5.length:Int)==3) (decide (fX m (bt m).1<fX m (cg (bt m).1))) false;let r6:Bool:=cond r4 (decide ((bt m).4≥(bt m).2)) false;let r7:Bool:=cond r4 ((bt m).4==r1) false;(dd m∧((!cW m)=true→True)∧((!cW m)=false→True))∧(true=true→(r2=true→(Result.mk 0 0 0,()) =(bE m,()))∧(r2=false→lO m∧(r3=true→(Result.mk 5 0 0,()) =(bE m,()))∧(r3=false→(((bt m).23==5)=true→(Result.mk 6 0 0,()) =(bE m,()))∧(((bt m).23==5)=false→(((bt m).23==0)=true→(Result.mk 0 0 0,()) =(bE m,()))∧(((bt m).23==0)=false→(r6=true→(Result.mk 2 (bt m).1 (IntKind.i64.wrap (IntKind.i64.wrap (m.1.2 - 1) - (bt m).5)),()) =(bE m,()))∧(r6=false→(r7=true→(Result.mk 4 0 0,()) =(bE m,()))∧(r7=false→(r4=true→(Result.mk 1 (cg (bt m).1) (IntKind.i64.wrap (r1 - (bt m).4)),()) =(bE m,()))∧(r4=false→(r5=true→(Result.mk 3 (cg (bt m).1) (IntKind.i64.wrap (fX m (cg (bt m).1) - fX m (bt m).1)),()) =(bE m,()))∧(r5=false→(Result.mk 0 0 0,()) =(bE m,())))))))))))
 intro r1 r2 r3 r4 r5 r6 r7
 clear_value (hr1:r1=_) (hr2:r2=_) (hr3:r3=_) (hr4:r4=_) (hr5:r5=_) (hr6:r6=_) (hr7:r7=_)
 rw [←s6] at *
 have ev:r2 =(!aR m ||(m.Innings.length:Int)==0):=by rw [hr2];cases aR m <;> rfl
 refine ⟨⟨hm,fun _=>trivial,fun _=>trivial⟩,fun _=>⟨fun h=>?_,fun h=>?_⟩⟩
 ·have:bE m=Mir.Result.zero:=by unfold bE;rw [←ev,h];rfl
  rw [this];rfl
 ·have hv:aR m=true∧m.Innings.length≠0:=by rw [ev] at h;simpa using h
  have h4:=(lR hv.1).2
  have e5:r5=gr m:=by rw [hr5];unfold gr;cases (m.Innings.length:Int)==3 <;> rfl
  have e4:r4=nj m:=hr4
  have hO:bE m=if (bt m).Ending==5 then pD (cR m.Rules) 0 0 else if (bt m).Ending==0 then Mir.Result.zero else if r4 then Ds m (bt m) else if r5 then pD 3 (cg (bt m).Side) (W (fX m (cg (bt m).Side) - fX m (bt m).Side)) else Mir.Result.zero:=by
   rw [e5,e4];unfold bE;rw [←ev,h];rfl
  have hF:Ds m (bt m)=if decide ((bt m).Runs≥(bt m).Target) then pD 2 (bt m).Side (W (W (m.Rules.Side - 1) - (bt m).Wickets)) else if (bt m).Runs==r1 then pD 4 0 0 else pD 1 (cg (bt m).Side) (W (r1 - (bt m).Runs)):=by rw [hr1];rfl
  rw [hO,hF]
  clear hO hF e5 e4 hr1 hr2 hr4 hr5 ev
  refine ⟨⟨by omega,by omega⟩,fun z=>?_,fun z=>⟨fun a=>?_,fun a=>⟨fun b=>?_,fun b=>⟨fun c=>?_,fun c=>⟨fun d=>?_,fun d=>⟨fun f=>?_,fun f=>⟨fun g=>?_,fun g=>?_⟩⟩⟩⟩⟩⟩⟩
  ·rw [z] at hr3
   cases hE :(bt m).Ending==5 with
   | false=>rw [hE] at hr3;cases hr3
   | true=>rw [hE] at hr3;simp only [cond_true] at hr3;simp only [cR,←hr3];rfl
  ·rw [z,a] at hr3
   simp only [cond_true] at hr3
   rw [a];simp only [cR,←hr3];rfl
  ·rw [a,b];rfl
  ·rw [c] at hr6
   cases r4 with
   | false=>cases hr6
   | true=>rw [a,b];simp only [cond_true] at hr6;rw [←hr6];rfl
  ·rw [c] at hr6
   rw [d] at hr7
   cases r4 with
   | false=>cases hr7
   | true=>rw [a,b];simp only [cond_true] at hr6 hr7;rw [←hr6,←hr7];rfl
  ·subst f
   rw [c] at hr6
   rw [d] at hr7
   rw [a,b];simp only [cond_true] at hr6 hr7;rw [←hr6,←hr7];rfl
  ·rw [a,b,f,g];rfl
  ·rw [a,b,f,g];rfl
def tI:FuncId×Ctr:=(247,ae KE qM G9 lM)
theorem BR:CtrOK Tryz.prog KE 247 (ae KE qM G9 lM):=by
 refine an (C:=al [jE,rj,eg,jD] Tryz.f247) (aj (.consU qt rfl (.consU Ae rfl (.consU ka rfl (.consU qq rfl .nil)))) _) mixed (fn:=Tryz.f247) Tryz.func247 (by kernel_rfl) (by kernel_rfl) (by kernel_rfl) (by kernel_rfl) (by kernel_rfl) (by kernel_rfl) (Λ:=fun _ _=>none) ?_ ?_
 ·exact fun _ _ _ _ _ _ _ _ h=>by cases h
 ·rintro ⟨m,⟨⟩⟩ hw hn
  exact yG m (hn _ List.mem_cons_self)
abbrev Dy:List (Nat×PB):= [(0,.cells (pZ (.c (.osl 1 2)))),(1,.row 2 (.nm .Innings))]
abbrev qPM:Pat:=⟨[(0,.c (.ptr 0 0))],Dy,3⟩
abbrev qPI:Pat:=⟨[(0,.c (.ptr 0 0)),(1,.h I)],Dy,3⟩
abbrev uC:Pat:=⟨[],Dy,3⟩
def HP:Den (tyP qPI)→List Prop×Den (tyP uC):=fun x=>([aK (mkX x.2),gJ x.1],((aw (mkX x.2) x.1).Rules.Name,(aw (mkX x.2) x.1).Rules.Side,(aw (mkX x.2) x.1).Rules.Innings,(aw (mkX x.2) x.1).Rules.Overs,(aw (mkX x.2) x.1).Rules.Balls,(aw (mkX x.2) x.1).Rules.Quota,(aw (mkX x.2) x.1).Rules.Wide,(aw (mkX x.2) x.1).Rules.NoBall,(aw (mkX x.2) x.1).Rules.FreeHit,(aw (mkX x.2) x.1).Rules.NewBall,(aw (mkX x.2) x.1).Rules.FollowOn,(aw (mkX x.2) x.1).Rules.Reviews,(aw (mkX x.2) x.1).Rules.Outside,(aw (mkX x.2) x.1).Rules.Power,(aw (mkX x.2) x.1).Stage,(aw (mkX x.2) x.1).First,(aw (mkX x.2) x.1).Follow,(aw (mkX x.2) x.1).Penalty.1,(aw (mkX x.2) x.1).Penalty.2.1,(aw (mkX x.2) x.1).Result.Win,(aw (mkX x.2) x.1).Result.Side,(aw (mkX x.2) x.1).Result.Margin,(aw (mkX x.2) x.1).Innings,()))
def jk (m:Match):Prop:=m.Stage=3→0<m.Innings.length
def Og:Den (tyP qPM)→List Prop×Den (tyP uC):=fun x=>([aK (mkX x),jk (mkX x)],((dF (mkX x)).Rules.Name,(dF (mkX x)).Rules.Side,(dF (mkX x)).Rules.Innings,(dF (mkX x)).Rules.Overs,(dF (mkX x)).Rules.Balls,(dF (mkX x)).Rules.Quota,(dF (mkX x)).Rules.Wide,(dF (mkX x)).Rules.NoBall,(dF (mkX x)).Rules.FreeHit,(dF (mkX x)).Rules.NewBall,(dF (mkX x)).Rules.FollowOn,(dF (mkX x)).Rules.Reviews,(dF (mkX x)).Rules.Outside,(dF (mkX x)).Rules.Power,(dF (mkX x)).Stage,(dF (mkX x)).First,(dF (mkX x)).Follow,(dF (mkX x)).Penalty.1,(dF (mkX x)).Penalty.2.1,(dF (mkX x)).Result.Win,(dF (mkX x)).Result.Side,(dF (mkX x)).Result.Margin,(dF (mkX x)).Innings,()))
def HR:Den (tyP qPM)→List Prop×Den (tyP uC):=fun x=>([aK (mkX x),jk (mkX x)],((ar (mkX x)).Rules.Name,(ar (mkX x)).Rules.Side,(ar (mkX x)).Rules.Innings,(ar (mkX x)).Rules.Overs,(ar (mkX x)).Rules.Balls,(ar (mkX x)).Rules.Quota,(ar (mkX x)).Rules.Wide,(ar (mkX x)).Rules.NoBall,(ar (mkX x)).Rules.FreeHit,(ar (mkX x)).Rules.NewBall,(ar (mkX x)).Rules.FollowOn,(ar (mkX x)).Rules.Reviews,(ar (mkX x)).Rules.Outside,(ar (mkX x)).Rules.Power,(ar (mkX x)).Stage,(ar (mkX x)).First,(ar (mkX x)).Follow,(ar (mkX x)).Penalty.1,(ar (mkX x)).Penalty.2.1,(ar (mkX x)).Result.Win,(ar (mkX x)).Result.Side,(ar (mkX x)).Result.Margin,(ar (mkX x)).Innings,()))
abbrev qAw:Pat:=⟨[(0,.c (.ptr 0 0)),(1,.h I),(4,.h I)],Dy,3⟩
abbrev xAw:List (Lf×Pat):= [(.ret,⟨[],Dy,3⟩),(.ext 0,⟨[(0,.c (.ptr 0 0)),(1,.h I)],Dy,3⟩)]
abbrev TAw:Type:=Int×Int×TM
def yX (x:TAw):Prop:=(-1≤x.2.1∧x.2.1 <(x.2.2.2.2.2.2.2.2.2.2.2.2.2.2.2.2.2.2.2.2.2.2.2.2.1.length:Int)∧x.2.2.2.2.2.2.2.2.2.2.2.2.2.2.2.2.2.2.2.2.2.2.2.2.1.length≤1000000)∧eu x.2.2.2.2.2.2.2.2.2.2.2.2.2.2.2.2.2.2.2.2.2.2.2.2.1
def J8 (x:TAw):Nat:=(x.2.1+1).toNat
def V4 (y:TM) (xs:List Innings):TM:=(y.1,y.2.1,y.2.2.1,y.2.2.2.1,y.2.2.2.2.1,y.2.2.2.2.2.1,y.2.2.2.2.2.2.1,y.2.2.2.2.2.2.2.1,y.2.2.2.2.2.2.2.2.1,y.2.2.2.2.2.2.2.2.2.1,y.2.2.2.2.2.2.2.2.2.2.1,y.2.2.2.2.2.2.2.2.2.2.2.1,y.2.2.2.2.2.2.2.2.2.2.2.2.1,y.2.2.2.2.2.2.2.2.2.2.2.2.2.1,y.2.2.2.2.2.2.2.2.2.2.2.2.2.2.1,y.2.2.2.2.2.2.2.2.2.2.2.2.2.2.2.1,y.2.2.2.2.2.2.2.2.2.2.2.2.2.2.2.2.1,y.2.2.2.2.2.2.2.2.2.2.2.2.2.2.2.2.2.1,y.2.2.2.2.2.2.2.2.2.2.2.2.2.2.2.2.2.2.1,y.2.2.2.2.2.2.2.2.2.2.2.2.2.2.2.2.2.2.2.1,y.2.2.2.2.2.2.2.2.2.2.2.2.2.2.2.2.2.2.2.2.1,y.2.2.2.2.2.2.2.2.2.2.2.2.2.2.2.2.2.2.2.2.2.1,xs,())
def Al (s:Int) (y:TM):Option Nat→Sum TM (Int×TM)
 | some k=> .inl (V4 y (y.2.2.2.2.2.2.2.2.2.2.2.2.2.2.2.2.2.2.2.2.2.2.1.set k (yw (y.2.2.2.2.2.2.2.2.2.2.2.2.2.2.2.2.2.2.2.2.2.2.1.getD k Innings.zero))))
 | none=> .inr (s,y)
def mS (x:TAw):Sum TM (Int×TM):=Al x.1 x.2.2 (ez x.1 x.2.2.2.2.2.2.2.2.2.2.2.2.2.2.2.2.2.2.2.2.2.2.2.2.1 (x.2.1+1).toNat)
theorem NW (m:Match) (hm:aK m) (ho:jk m) :(evPat (al [jq] Tryz.f281) (fun _=>none) Tryz.f281 qPM uC (m.Rules.Name,m.Rules.Side,m.Rules.Innings,m.Rules.Overs,m.Rules.Balls,m.Rules.Quota,m.Rules.Wide,m.Rules.NoBall,m.Rules.FreeHit,m.Rules.NewBall,m.Rules.FollowOn,m.Rules.Reviews,m.Rules.Outside,m.Rules.Power,m.Stage,m.First,m.Follow,m.Penalty.1,m.Penalty.2.1,m.Result.Win,m.Result.Side,m.Result.Margin,m.Innings,())).sat fun z_=>z_ =(Og (m.Rules.Name,m.Rules.Side,m.Rules.Innings,m.Rules.Overs,m.Rules.Balls,m.Rules.Quota,m.Rules.Wide,m.Rules.NoBall,m.Rules.FreeHit,m.Rules.NewBall,m.Rules.FollowOn,m.Rules.Reviews,m.Rules.Outside,m.Rules.Power,m.Stage,m.First,m.Follow,m.Penalty.1,m.Penalty.2.1,m.Result.Win,m.Result.Side,m.Result.Margin,m.Innings,())).2:=by
 refine cast (by kernel_rfl) (?_:let r1:Int:=IntKind.i64.wrap ((↑m.5.length:Int) - (1:Int));let r2:Innings:=m.5.getD r1.toNat (dflt (Ty.nm Nm.Innings));(((m.2 ==(3:Int))=true→((0:Int)≤r1∧r1 <(↑m.5.length:Int))∧True)∧((m.2 ==(3:Int))=false→True))∧(true=true→(m.1.1,m.1.2,m.1.3,m.1.4,m.1.5,m.1.6,m.1.7,m.1.8,m.1.9,m.1.10,m.1.11,m.1.12,m.1.13,m.1.14,(5:Int),m.3,m.4,m.6.1,m.6.2.1,cR m.1,(0:Int),(0:Int),cond (m.2 ==(3:Int)) (m.5.set r1.toNat (Innings.mk r2.1 r2.2 r2.3 r2.4 r2.5 r2.6 r2.7 r2.8 r2.9 r2.10 r2.11 r2.12 r2.13 r2.14 r2.15 r2.16 r2.17 r2.18 r2.19 r2.20 r2.21 r2.22 (5:Int))) m.5,()) =((bO m).1.1,(bO m).1.2,(bO m).1.3,(bO m).1.4,(bO m).1.5,(bO m).1.6,(bO m).1.7,(bO m).1.8,(bO m).1.9,(bO m).1.10,(bO m).1.11,(bO m).1.12,(bO m).1.13,(bO m).1.14,(5:Int),(bO m).3,(bO m).4,(bO m).6.1,(bO m).6.2.1,cR m.1,(0:Int),(0:Int),(bO m).5,())))
 intro r1 r2
 clear_value (hr1:r1=_) (hr2:r2=_)
 have hx:=hm.2.1
 refine ⟨⟨fun h=>⟨?_,trivial⟩,fun _=>trivial⟩,fun _=>?_⟩
 ·have h0:=ho (by simpa using h)
  rw [hr1,bc (n:=(m.Innings.length:Int) - 1) (by omega) (by omega)]
  omega
 ·cases h:m.Stage==3 with
  | true=>
   have h0:=ho (by simpa using h)
   have e1:r1.toNat=Kf m:=by rw [hr1];exact BN h0 hx
   have e2:r2=bt m:=by rw [hr2,e1];rfl
   have eS:bO m=FM m (Kf m) { bt m with Ending:=5 }:=by unfold bO;rw [h];rfl
   rw [eS,e1,e2];rfl
  | false=>
   have eS:bO m=m:=by unfold bO;rw [h];rfl
   rw [eS];rfl
def My:FuncId×Ctr:=(281,ae KE qPM uC Og)
theorem PG:CtrOK Tryz.prog KE 281 (ae KE qPM uC Og):=by
 refine an (C:=al [jq] Tryz.f281) (aj (.consU pK rfl .nil) _) mixed (fn:=Tryz.f281) Tryz.func281 (by kernel_rfl) (by kernel_rfl) (by kernel_rfl) (by kernel_rfl) (by kernel_rfl) (by kernel_rfl) (Λ:=fun _ _=>none) ?_ ?_
 ·exact fun _ _ _ _ _ _ _ _ h=>by cases h
 ·rintro ⟨v1,v2,v3,v4,v5,v6,v7,v8,v9,v10,v11,v12,v13,v14,v15,v16,v17,v18,v19,v20,v21,v22,xs,⟨⟩⟩ hw hn
  exact NW (mkM v1 v2 v3 v4 v5 v6 v7 v8 v9 v10 v11 v12 v13 v14 v15 v16 v17 v18 v19 v20 v21 v22 xs) (hn _ List.mem_cons_self) (hn _ (List.mem_cons_of_mem _ List.mem_cons_self))
noncomputable def lpAw:Lp:=(⟨3,al [lB] Tryz.f310,(fun _=>none),(az Tryz.f310 0),qAw,xAw⟩:Lp)
theorem Tl (s:Int) (i:Int) (v1:ByteArray) (v2:Int) (v3:Int) (v4:Int) (v5:Int) (v6:Int) (v7:Int) (v8:Int) (v9:Bool) (v10:Int) (v11:Int) (v12:Int) (v13:Int) (v14:List Phase) (v15:Int) (v16:Int) (v17:Bool) (v18:Int) (v19:Int) (v20:Int) (v21:Int) (v22:Int) (xs:List Innings) (hi:yX (s,i,v1,v2,v3,v4,v5,v6,v7,v8,v9,v10,v11,v12,v13,v14,v15,v16,v17,v18,v19,v20,v21,v22,xs,())) :(Go.Mir.stepG lpAw mS (fun y:Den (tyP lpAw.q)=>yX y∧J8 y<J8 (s,i,v1,v2,v3,v4,v5,v6,v7,v8,v9,v10,v11,v12,v13,v14,v15,v16,v17,v18,v19,v20,v21,v22,xs,())) (s,i,v1,v2,v3,v4,v5,v6,v7,v8,v9,v10,v11,v12,v13,v14,v15,v16,v17,v18,v19,v20,v21,v22,xs,())∧Go.Mir.stepE lpAw mS (s,i,v1,v2,v3,v4,v5,v6,v7,v8,v9,v10,v11,v12,v13,v14,v15,v16,v17,v18,v19,v20,v21,v22,xs,())=mS (s,i,v1,v2,v3,v4,v5,v6,v7,v8,v9,v10,v11,v12,v13,v14,v15,v16,v17,v18,v19,v20,v21,v22,xs,())):=by
 refine cast (by kernel_rfl) (?_:let r1:Bool:=decide (i≥(0:Int));let r2:Bool:=(xs.getD i.toNat (dflt (Ty.nm Nm.Innings))).1==s;((r1=true→((0:Int)≤i∧i <(↑xs.length:Int))∧(r2=true→((0:Int)≤i∧i <(↑xs.length:Int))∧ai (xs.getD i.toNat (dflt (Ty.nm Nm.Innings)))∧((0:Int)≤i∧i <(↑xs.length:Int))∧True)∧(r2=false→yX (s,IntKind.i64.wrap (i - (1:Int)),v1,v2,v3,v4,v5,v6,v7,v8,v9,v10,v11,v12,v13,v14,v15,v16,v17,v18,v19,v20,v21,v22,xs,())∧J8 (s,IntKind.i64.wrap (i - (1:Int)),v1,v2,v3,v4,v5,v6,v7,v8,v9,v10,v11,v12,v13,v14,v15,v16,v17,v18,v19,v20,v21,v22,xs,())<J8 (s,i,v1,v2,v3,v4,v5,v6,v7,v8,v9,v10,v11,v12,v13,v14,v15,v16,v17,v18,v19,v20,v21,v22,xs,())))∧(r1=false→True))∧(cond r1 (cond r2 (Sum.inl (v1,v2,v3,v4,v5,v6,v7,v8,v9,v10,v11,v12,v13,v14,v15,v16,v17,v18,v19,v20,v21,v22,xs.set i.toNat (Innings.mk (xs.getD i.toNat (dflt (Ty.nm Nm.Innings))).1 (xs.getD i.toNat (dflt (Ty.nm Nm.Innings))).2 (xs.getD i.toNat (dflt (Ty.nm Nm.Innings))).3 (W ((xs.getD i.toNat (dflt (Ty.nm Nm.Innings))).4 +(5:Int))) (xs.getD i.toNat (dflt (Ty.nm Nm.Innings))).5 (Extras.mk (xs.getD i.toNat (dflt (Ty.nm Nm.Innings))).6.1 (xs.getD i.toNat (dflt (Ty.nm Nm.Innings))).6.2 (xs.getD i.toNat (dflt (Ty.nm Nm.Innings))).6.3 (xs.getD i.toNat (dflt (Ty.nm Nm.Innings))).6.4 (W ((xs.getD i.toNat (dflt (Ty.nm Nm.Innings))).6.5 +(5:Int)))) (xs.getD i.toNat (dflt (Ty.nm Nm.Innings))).7 (xs.getD i.toNat (dflt (Ty.nm Nm.Innings))).8 (xs.getD i.toNat (dflt (Ty.nm Nm.Innings))).9 (xs.getD i.toNat (dflt (Ty.nm Nm.Innings))).10 (xs.getD i.toNat (dflt (Ty.nm Nm.Innings))).11 (xs.getD i.toNat (dflt (Ty.nm Nm.Innings))).12 (xs.getD i.toNat (dflt (Ty.nm Nm.Innings))).13 (xs.getD i.toNat (dflt (Ty.nm Nm.Innings))).14 (xs.getD i.toNat (dflt (Ty.nm Nm.Innings))).15 (xs.getD i.toNat (dflt (Ty.nm Nm.Innings))).16 (xs.getD i.toNat (dflt (Ty.nm Nm.Innings))).17 (xs.getD i.toNat (dflt (Ty.nm Nm.Innings))).18 (xs.getD i.toNat (dflt (Ty.nm Nm.Innings))).19 (xs.getD i.toNat (dflt (Ty.nm Nm.Innings))).20 (xs.getD i.toNat (dflt (Ty.nm Nm.Innings))).21 (xs.getD i.toNat (dflt (Ty.nm Nm.Innings))).22 (xs.getD i.toNat (dflt (Ty.nm Nm.Innings))).23),())) (mS (s,IntKind.i64.wrap (i - (1:Int)),v1,v2,v3,v4,v5,v6,v7,v8,v9,v10,v11,v12,v13,v14,v15,v16,v17,v18,v19,v20,v21,v22,xs,()))) (Sum.inr (s,v1,v2,v3,v4,v5,v6,v7,v8,v9,v10,v11,v12,v13,v14,v15,v16,v17,v18,v19,v20,v21,v22,xs,())))=mS (s,i,v1,v2,v3,v4,v5,v6,v7,v8,v9,v10,v11,v12,v13,v14,v15,v16,v17,v18,v19,v20,v21,v22,xs,()))
 intro r1 r2
 clear_value (hr1:r1=_) (hr2:r2=_)
 obtain ⟨⟨h1,h2,h3⟩,hs⟩:=hi
 simp only at h1 h2 h3 hs
 refine ⟨⟨fun h=>?_,fun _=>trivial⟩,?_⟩
 ·have h:i≥0:=of_decide_eq_true (by rw [←hr1];exact h)
  have hl:i.toNat<xs.length:=by omega
  refine ⟨⟨h,by omega⟩,fun _=>⟨⟨h,by omega⟩,hs _ (iC hl _),⟨h,by omega⟩,trivial⟩,fun _=>?_⟩
  rw [bc (n:=i - 1) (by omega) (by omega)]
  exact ⟨⟨⟨by simp only;omega,by simp only;omega,h3⟩,hs⟩,by simp only [J8];omega⟩
 ·by_cases h:i≥0
  ·have e :(i+1).toNat=i.toNat+1:=by omega
   have eF:ez s xs (i+1).toNat=if r2 then some i.toNat else ez s xs i.toNat:=by rw [e,hr2];rfl
   rw [hr1,decide_eq_true h,cond_true]
   show _=Al s _ (ez s xs (i+1).toNat)
   rw [eF]
   cases r2 with
   | true=>rfl
   | false=>
    rw [bc (n:=i - 1) (by omega) (by omega)]
    show Al s _ (ez s xs (i - 1+1).toNat)=_
    rw [show (i - 1+1).toNat=i.toNat by omega]
    rfl
  ·have e :(i+1).toNat=0:=by omega
   rw [hr1,decide_eq_false h,cond_false]
   show _=Al s _ (ez s xs (i+1).toNat)
   rw [e]
   rfl
noncomputable def Ru:LoopSum:=aM lpAw mS yX
noncomputable def Q3:Nat:=rid (az Tryz.f310 0)
theorem Si:LoopOKp Tryz.prog 3 Tryz.f310.ntmps (az Tryz.f310 0) (aM lpAw mS yX):=
 bk lpAw (aj (.consU qn rfl .nil) _) mixed (fun b hb S hS=>by cases hS) mS yX J8 (fun |⟨s,i,v1,v2,v3,v4,v5,v6,v7,v8,v9,v10,v11,v12,v13,v14,v15,v16,v17,v18,v19,v20,v21,v22,xs,⟨⟩⟩,hi=>Tl s i v1 v2 v3 v4 v5 v6 v7 v8 v9 v10 v11 v12 v13 v14 v15 v16 v17 v18 v19 v20 v21 v22 xs hi)
theorem K2 (m:Match) (s:Int) (hm:aK m) (hk:gJ s) :(evPat (al [lB] Tryz.f310) (find [(Q3,Ru)]) Tryz.f310 qPI uC (s,m.Rules.Name,m.Rules.Side,m.Rules.Innings,m.Rules.Overs,m.Rules.Balls,m.Rules.Quota,m.Rules.Wide,m.Rules.NoBall,m.Rules.FreeHit,m.Rules.NewBall,m.Rules.FollowOn,m.Rules.Reviews,m.Rules.Outside,m.Rules.Power,m.Stage,m.First,m.Follow,m.Penalty.1,m.Penalty.2.1,m.Result.Win,m.Result.Side,m.Result.Margin,m.Innings,())).sat fun z_=>z_ =(HP (s,m.Rules.Name,m.Rules.Side,m.Rules.Innings,m.Rules.Overs,m.Rules.Balls,m.Rules.Quota,m.Rules.Wide,m.Rules.NoBall,m.Rules.FreeHit,m.Rules.NewBall,m.Rules.FollowOn,m.Rules.Reviews,m.Rules.Outside,m.Rules.Power,m.Stage,m.First,m.Follow,m.Penalty.1,m.Penalty.2.1,m.Result.Win,m.Result.Side,m.Result.Margin,m.Innings,())).2:=by
 refine cast (by kernel_rfl) (?_:let r1:Int:=IntKind.i64.wrap ((↑m.5.length:Int) - (1:Int));let r2:Bool:=isL (mS (s,r1,m.1.1,m.1.2,m.1.3,m.1.4,m.1.5,m.1.6,m.1.7,m.1.8,m.1.9,m.1.10,m.1.11,m.1.12,m.1.13,m.1.14,m.2,m.3,m.4,m.6.1,m.6.2.1,m.7.1,m.7.2,m.7.3,m.5,()));let r3:Int×ByteArray×Int×Int×Int×Int×Int×Int×Int×Bool×Int×Int×Int×Int×List Phase×Int×Int×Bool×Int×Int×Int×Int×Int×List Innings×PUnit:=si (dflt (I.prod (Ty.str.prod (I.prod (I.prod (I.prod (I.prod (I.prod (I.prod (I.prod (Ty.bool.prod (I.prod (I.prod (I.prod (I.prod ((Ty.nm Nm.Phase).slice.prod (U8.prod (I.prod (Ty.bool.prod (I.prod (I.prod (U8.prod (I.prod (I.prod ((Ty.nm Nm.Innings).slice.prod Ty.unit))))))))))))))))))))))))) (mS (s,r1,m.1.1,m.1.2,m.1.3,m.1.4,m.1.5,m.1.6,m.1.7,m.1.8,m.1.9,m.1.10,m.1.11,m.1.12,m.1.13,m.1.14,m.2,m.3,m.4,m.6.1,m.6.2.1,m.7.1,m.7.2,m.7.3,m.5,()));let r4:Int:=IntKind.i64.wrap (r3.1 - (1:Int));let r5:Bool:=r4 ==(0:Int);let r6:Bool:=r4 ==(1:Int);((cZ fun x=>none)∧((-1:Int)≤r1∧r1 <(↑m.5.length:Int)∧m.5.length≤(1000000:Nat))∧eu m.5)∧(r2=true→jm (dflt (Ty.str.prod (I.prod (I.prod (I.prod (I.prod (I.prod (I.prod (I.prod (Ty.bool.prod (I.prod (I.prod (I.prod (I.prod ((Ty.nm Nm.Phase).slice.prod (U8.prod (I.prod (Ty.bool.prod (I.prod (I.prod (U8.prod (I.prod (I.prod ((Ty.nm Nm.Innings).slice.prod Ty.unit)))))))))))))))))))))))) (mS (s,r1,m.1.1,m.1.2,m.1.3,m.1.4,m.1.5,m.1.6,m.1.7,m.1.8,m.1.9,m.1.10,m.1.11,m.1.12,m.1.13,m.1.14,m.2,m.3,m.4,m.6.1,m.6.2.1,m.7.1,m.7.2,m.7.3,m.5,())) =((aw m s).1.1,(aw m s).1.2,(aw m s).1.3,(aw m s).1.4,(aw m s).1.5,(aw m s).1.6,(aw m s).1.7,(aw m s).1.8,(aw m s).1.9,(aw m s).1.10,(aw m s).1.11,(aw m s).1.12,(aw m s).1.13,(aw m s).1.14,(aw m s).2,(aw m s).3,(aw m s).4,(aw m s).6.1,(aw m s).6.2.1,(aw m s).7.1,(aw m s).7.2,(aw m s).7.3,(aw m s).5,()))∧(r2=false→(r5=true→((0:Int)≤(0:Int)∧(0:Int) <(↑(2:Nat):Int))∧((0:Int)≤(0:Int)∧(0:Int) <(↑(2:Nat):Int))∧(r3.2.1,r3.2.2.1,r3.2.2.2.1,r3.2.2.2.2.1,r3.2.2.2.2.2.1,r3.2.2.2.2.2.2.1,r3.2.2.2.2.2.2.2.1,r3.2.2.2.2.2.2.2.2.1,r3.2.2.2.2.2.2.2.2.2.1,r3.2.2.2.2.2.2.2.2.2.2.1,r3.2.2.2.2.2.2.2.2.2.2.2.1,r3.2.2.2.2.2.2.2.2.2.2.2.2.1,r3.2.2.2.2.2.2.2.2.2.2.2.2.2.1,r3.2.2.2.2.2.2.2.2.2.2.2.2.2.2.1,r3.2.2.2.2.2.2.2.2.2.2.2.2.2.2.2.1,r3.2.2.2.2.2.2.2.2.2.2.2.2.2.2.2.2.1,r3.2.2.2.2.2.2.2.2.2.2.2.2.2.2.2.2.2.1,IntKind.i64.wrap (r3.2.2.2.2.2.2.2.2.2.2.2.2.2.2.2.2.2.2.1 +(5:Int)),r3.2.2.2.2.2.2.2.2.2.2.2.2.2.2.2.2.2.2.2) =((aw m s).1.1,(aw m s).1.2,(aw m s).1.3,(aw m s).1.4,(aw m s).1.5,(aw m s).1.6,(aw m s).1.7,(aw m s).1.8,(aw m s).1.9,(aw m s).1.10,(aw m s).1.11,(aw m s).1.12,(aw m s).1.13,(aw m s).1.14,(aw m s).2,(aw m s).3,(aw m s).4,(aw m s).6.1,(aw m s).6.2.1,(aw m s).7.1,(aw m s).7.2,(aw m s).7.3,(aw m s).5,()))∧(r5=false→(r6=true→((0:Int)≤(1:Int)∧(1:Int) <(↑(2:Nat):Int))∧((0:Int)≤(1:Int)∧(1:Int) <(↑(2:Nat):Int))∧(r3.2.1,r3.2.2.1,r3.2.2.2.1,r3.2.2.2.2.1,r3.2.2.2.2.2.1,r3.2.2.2.2.2.2.1,r3.2.2.2.2.2.2.2.1,r3.2.2.2.2.2.2.2.2.1,r3.2.2.2.2.2.2.2.2.2.1,r3.2.2.2.2.2.2.2.2.2.2.1,r3.2.2.2.2.2.2.2.2.2.2.2.1,r3.2.2.2.2.2.2.2.2.2.2.2.2.1,r3.2.2.2.2.2.2.2.2.2.2.2.2.2.1,r3.2.2.2.2.2.2.2.2.2.2.2.2.2.2.1,r3.2.2.2.2.2.2.2.2.2.2.2.2.2.2.2.1,r3.2.2.2.2.2.2.2.2.2.2.2.2.2.2.2.2.1,r3.2.2.2.2.2.2.2.2.2.2.2.2.2.2.2.2.2.1,r3.2.2.2.2.2.2.2.2.2.2.2.2.2.2.2.2.2.2.1,IntKind.i64.wrap (r3.2.2.2.2.2.2.2.2.2.2.2.2.2.2.2.2.2.2.2.1 +(5:Int)),r3.2.2.2.2.2.2.2.2.2.2.2.2.2.2.2.2.2.2.2.2) =((aw m s).1.1,(aw m s).1.2,(aw m s).1.3,(aw m s).1.4,(aw m s).1.5,(aw m s).1.6,(aw m s).1.7,(aw m s).1.8,(aw m s).1.9,(aw m s).1.10,(aw m s).1.11,(aw m s).1.12,(aw m s).1.13,(aw m s).1.14,(aw m s).2,(aw m s).3,(aw m s).4,(aw m s).6.1,(aw m s).6.2.1,(aw m s).7.1,(aw m s).7.2,(aw m s).7.3,(aw m s).5,()))∧(r6=false→False∧True))))
 intro r1 r2 r3 r4 r5 r6
 clear_value (hr1:r1=_) (hr2:r2=_) (hr3:r3=_) (hr4:r4=_) (hr5:r5=_) (hr6:r6=_)
 have hx:=hm.2.1
 have e0:r1 =(m.Innings.length:Int) - 1:=by rw [hr1];exact bc (by omega) (by omega)
 have er:mS (s,r1,m.Rules.Name,m.Rules.Side,m.Rules.Innings,m.Rules.Overs,m.Rules.Balls,m.Rules.Quota,m.Rules.Wide,m.Rules.NoBall,m.Rules.FreeHit,m.Rules.NewBall,m.Rules.FollowOn,m.Rules.Reviews,m.Rules.Outside,m.Rules.Power,m.Stage,m.First,m.Follow,m.Penalty.1,m.Penalty.2.1,m.Result.Win,m.Result.Side,m.Result.Margin,m.Innings,())=Al s (m.Rules.Name,m.Rules.Side,m.Rules.Innings,m.Rules.Overs,m.Rules.Balls,m.Rules.Quota,m.Rules.Wide,m.Rules.NoBall,m.Rules.FreeHit,m.Rules.NewBall,m.Rules.FollowOn,m.Rules.Reviews,m.Rules.Outside,m.Rules.Power,m.Stage,m.First,m.Follow,m.Penalty.1,m.Penalty.2.1,m.Result.Win,m.Result.Side,m.Result.Margin,m.Innings,()) (ez s m.Innings m.Innings.length):=by
  show Al s _ (ez s m.Innings (r1+1).toNat)=_
  rw [show (r1+1).toNat=m.Innings.length by omega]
 rw [er] at hr2 hr3 ⊢
 refine ⟨⟨rfl,⟨by omega,by omega,hx⟩,hm.1⟩,?_⟩
 clear er e0 hr1
 cases hF:ez s m.Innings m.Innings.length with
 | none=>
  rw [hF] at hr2 hr3
  have e2:r2=false:=hr2
  have e3:r3 =(s,m.Rules.Name,m.Rules.Side,m.Rules.Innings,m.Rules.Overs,m.Rules.Balls,m.Rules.Quota,m.Rules.Wide,m.Rules.NoBall,m.Rules.FreeHit,m.Rules.NewBall,m.Rules.FollowOn,m.Rules.Reviews,m.Rules.Outside,m.Rules.Power,m.Stage,m.First,m.Follow,m.Penalty.1,m.Penalty.2.1,m.Result.Win,m.Result.Side,m.Result.Margin,m.Innings,()):=hr3
  have ea:aw m s=F0 m s:=by unfold aw;rw [hF];rfl
  subst e2 e3
  rw [ea]
  refine ⟨fun h=>Bool.noConfusion h,fun _=>?_⟩
  rcases hk with rfl|rfl
  ·have e5:r5=true:=by rw [hr5,hr4];rfl
   subst e5
   exact ⟨fun _=>⟨by decide,by decide,rfl⟩,fun h=>Bool.noConfusion h⟩
  ·have e5:r5=false:=by rw [hr5,hr4];rfl
   have e6:r6=true:=by rw [hr6,hr4];rfl
   subst e5 e6
   exact ⟨fun h=>Bool.noConfusion h,fun _=>⟨fun _=>⟨by decide,by decide,rfl⟩,fun h=>Bool.noConfusion h⟩⟩
 | some k=>
  rw [hF] at hr2
  have e2:r2=true:=hr2
  have ea:aw m s=FM m k (yw (m.Innings.getD k Innings.zero)):=by unfold aw;rw [hF];rfl
  subst e2
  rw [ea]
  exact ⟨fun _=>rfl,fun h=>Bool.noConfusion h⟩
def I5:FuncId×Ctr:=(310,ae KE qPI uC HP)
theorem M3:CtrOK Tryz.prog KE 310 (ae KE qPI uC HP):=by
 refine an (C:=al [lB] Tryz.f310) (aj (.consU qn rfl .nil) _) mixed (fn:=Tryz.f310) Tryz.func310 (by kernel_rfl) (by kernel_rfl) (by kernel_rfl) (by kernel_rfl) (by kernel_rfl) (by kernel_rfl) (Λ:=fun x=>find [(Q3,Ru)]) ?_ ?_
 ·rintro ⟨s,v1,v2,v3,v4,v5,v6,v7,v8,v9,v10,v11,v12,v13,v14,v15,v16,v17,v18,v19,v20,v21,v22,xs,⟨⟩⟩ hw hn
  exact LoopsOKp.at (by kernel_rfl) (.cons (by kernel_rfl) (Si) .nil)
 ·rintro ⟨s,v1,v2,v3,v4,v5,v6,v7,v8,v9,v10,v11,v12,v13,v14,v15,v16,v17,v18,v19,v20,v21,v22,xs,⟨⟩⟩ hw hn
  exact K2 (mkM v1 v2 v3 v4 v5 v6 v7 v8 v9 v10 v11 v12 v13 v14 v15 v16 v17 v18 v19 v20 v21 v22 xs) s (hn _ List.mem_cons_self) (hn _ (List.mem_cons_of_mem _ List.mem_cons_self))
theorem sM (m:Match) (hm:aK m) (ho:jk m) :(evPat (al [oN,im,zp] Tryz.f237) (fun _=>none) Tryz.f237 qPM uC (m.Rules.Name,m.Rules.Side,m.Rules.Innings,m.Rules.Overs,m.Rules.Balls,m.Rules.Quota,m.Rules.Wide,m.Rules.NoBall,m.Rules.FreeHit,m.Rules.NewBall,m.Rules.FollowOn,m.Rules.Reviews,m.Rules.Outside,m.Rules.Power,m.Stage,m.First,m.Follow,m.Penalty.1,m.Penalty.2.1,m.Result.Win,m.Result.Side,m.Result.Margin,m.Innings,())).sat fun z_=>z_ =(HR (m.Rules.Name,m.Rules.Side,m.Rules.Innings,m.Rules.Overs,m.Rules.Balls,m.Rules.Quota,m.Rules.Wide,m.Rules.NoBall,m.Rules.FreeHit,m.Rules.NewBall,m.Rules.FollowOn,m.Rules.Reviews,m.Rules.Outside,m.Rules.Power,m.Stage,m.First,m.Follow,m.Penalty.1,m.Penalty.2.1,m.Result.Win,m.Result.Side,m.Result.Margin,m.Innings,())).2:=by
 refine cast (by kernel_rfl) (?_:let r1:Match:=Match.mk m.1 (2:Int) m.3 m.4 m.5 m.6 m.7;let r2:Match:=Match.mk m.1 (5:Int) m.3 m.4 m.5 m.6 m.7;let r3:Int:=IntKind.i64.wrap (fX m m.3 - fX m (cg m.3));let r4:Mir.Result:=bE r2;let r5:Int:=IntKind.i64.wrap ((↑m.5.length:Int) - (1:Int));let r6:Bool:=(↑m.5.length:Int)==IntKind.i64.wrap ((2:Int)*m.1.3);let r7:Innings:=m.5.getD r5.toNat (dflt (Ty.nm Nm.Innings));let r8:Int:=fX r1 r7.1;let r9:Int:=fX r1 (cg r7.1);let r10:Bool:=cond (m.2 !=(3:Int)) true (r7.23 ==(0:Int));let r11:Bool:=cond ((↑m.5.length:Int) ==(2:Int)) (cond (decide (m.1.11 >(0:Int))) (decide (r3≥m.1.11)) false) false;let r12:Bool:=cond r6 r6 (cond ((↑m.5.length:Int) ==(3:Int)) (decide (r8<r9)) false);(((m.2 !=(3:Int))=true→True)∧((m.2 !=(3:Int))=false→((0:Int)≤r5∧r5 <(↑m.5.length:Int))∧True))∧(true=true→(r10=true→(m.1.1,m.1.2,m.1.3,m.1.4,m.1.5,m.1.6,m.1.7,m.1.8,m.1.9,m.1.10,m.1.11,m.1.12,m.1.13,m.1.14,m.2,m.3,m.4,m.6.1,m.6.2.1,m.7.1,m.7.2,m.7.3,m.5,()) =((ar m).1.1,(ar m).1.2,(ar m).1.3,(ar m).1.4,(ar m).1.5,(ar m).1.6,(ar m).1.7,(ar m).1.8,(ar m).1.9,(ar m).1.10,(ar m).1.11,(ar m).1.12,(ar m).1.13,(ar m).1.14,(ar m).2,(ar m).3,(ar m).4,(ar m).6.1,(ar m).6.2.1,(ar m).7.1,(ar m).7.2,(ar m).7.3,(ar m).5,()))∧(r10=false→((0:Int)≤r5∧r5 <(↑m.5.length:Int))∧(r12=true→dd r2∧(m.1.1,m.1.2,m.1.3,m.1.4,m.1.5,m.1.6,m.1.7,m.1.8,m.1.9,m.1.10,m.1.11,m.1.12,m.1.13,m.1.14,(5:Int),m.3,m.4,m.6.1,m.6.2.1,r4.1,r4.2,r4.3,m.5,()) =((ar m).1.1,(ar m).1.2,(ar m).1.3,(ar m).1.4,(ar m).1.5,(ar m).1.6,(ar m).1.7,(ar m).1.8,(ar m).1.9,(ar m).1.10,(ar m).1.11,(ar m).1.12,(ar m).1.13,(ar m).1.14,(ar m).2,(ar m).3,(ar m).4,(ar m).6.1,(ar m).6.2.1,(ar m).7.1,(ar m).7.2,(ar m).7.3,(ar m).5,()))∧(r12=false→(r11=true→(m.1.1,m.1.2,m.1.3,m.1.4,m.1.5,m.1.6,m.1.7,m.1.8,m.1.9,m.1.10,m.1.11,m.1.12,m.1.13,m.1.14,(4:Int),m.3,m.4,m.6.1,m.6.2.1,m.7.1,m.7.2,m.7.3,m.5,()) =((ar m).1.1,(ar m).1.2,(ar m).1.3,(ar m).1.4,(ar m).1.5,(ar m).1.6,(ar m).1.7,(ar m).1.8,(ar m).1.9,(ar m).1.10,(ar m).1.11,(ar m).1.12,(ar m).1.13,(ar m).1.14,(ar m).2,(ar m).3,(ar m).4,(ar m).6.1,(ar m).6.2.1,(ar m).7.1,(ar m).7.2,(ar m).7.3,(ar m).5,()))∧(r11=false→(m.1.1,m.1.2,m.1.3,m.1.4,m.1.5,m.1.6,m.1.7,m.1.8,m.1.9,m.1.10,m.1.11,m.1.12,m.1.13,m.1.14,(2:Int),m.3,m.4,m.6.1,m.6.2.1,m.7.1,m.7.2,m.7.3,m.5,()) =((ar m).1.1,(ar m).1.2,(ar m).1.3,(ar m).1.4,(ar m).1.5,(ar m).1.6,(ar m).1.7,(ar m).1.8,(ar m).1.9,(ar m).1.10,(ar m).1.11,(ar m).1.12,(ar m).1.13,(ar m).1.14,(ar m).2,(ar m).3,(ar m).4,(ar m).6.1,(ar m).6.2.1,(ar m).7.1,(ar m).7.2,(ar m).7.3,(ar m).5,()))))))
 intro r1 r2 r3 r4 r5 r6 r7 r8 r9 r10 r11 r12
 clear_value (hr1:r1=_) (hr2:r2=_) (hr3:r3=_) (hr4:r4=_) (hr5:r5=_) (hr6:r6=_) (hr7:r7=_) (hr8:r8=_) (hr9:r9=_) (hr10:r10=_) (hr11:r11=_) (hr12:r12=_)
 have hx:=hm.2.1
 have k7:m.Stage=3→(0≤r5∧r5 <(m.Innings.length:Int))∧r7=bt m:=fun h=>by
  have h0:=ho h
  have e0:r5 =(m.Innings.length:Int) - 1:=by rw [hr5];exact bc (by omega) (by omega)
  refine ⟨⟨by omega,by omega⟩,?_⟩
  rw [hr7,show r5.toNat=m.Innings.length - 1 by omega];rfl
 have e10:r10 =(m.Stage != 3 ||(bt m).Ending==0):=by
  cases h:m.Stage != 3 with
  | true=>rw [hr10,h];rfl
  | false=>rw [hr10,h,(k7 (by simpa using h)).2];rfl
 refine ⟨⟨fun _=>trivial,fun h=>⟨(k7 (by simpa using h)).1,trivial⟩⟩,fun _=>⟨fun a=>?_,fun a=>?_⟩⟩
 ·have:ar m=m:=by unfold ar;rw [←e10,a];rfl
  rw [this]
 ·have h3:m.Stage=3:=by
   rw [e10] at a
   simp only [Bool.or_eq_false_iff] at a
   simpa using a.1
  obtain ⟨hb,e7⟩:=k7 h3
  have e6:r6=nj m:=hr6
  have e12:r12 =(nj m||gr m):=by
   rw [hr12,e6];unfold gr;rw [hr8,hr9,hr1,e7]
   cases nj m <;> cases (m.Innings.length:Int)==3 <;> rfl
  have e11:r11=oA m:=by
   rw [hr11,hr3];unfold oA MC
   cases (m.Innings.length:Int)==2 <;> cases decide (m.Rules.FollowOn>0) <;> rfl
  have hC:ar m=if r12 then IB m else if r11 then mC m 4 else mC m 2:=by unfold ar;rw [←e10,a,←e12,←e11];rfl
  rw [hC]
  refine ⟨hb,fun b=>⟨by rw [hr2];exact hm.1,?_⟩,fun b=>⟨fun c=>?_,fun c=>?_⟩⟩
  ·rw [b,hr4,hr2];rfl
  ·rw [b,c];rfl
  ·rw [b,c];rfl
def nt:FuncId×Ctr:=(237,ae KE qPM uC HR)
theorem uu:CtrOK Tryz.prog KE 237 (ae KE qPM uC HR):=by
 refine an (C:=al [oN,im,zp] Tryz.f237) (aj (.consU wX rfl (.consU nC rfl (.consU GF rfl .nil))) _) mixed (fn:=Tryz.f237) Tryz.func237 (by kernel_rfl) (by kernel_rfl) (by kernel_rfl) (by kernel_rfl) (by kernel_rfl) (by kernel_rfl) (Λ:=fun _ _=>none) ?_ ?_
 ·exact fun _ _ _ _ _ _ _ _ h=>by cases h
 ·rintro ⟨v1,v2,v3,v4,v5,v6,v7,v8,v9,v10,v11,v12,v13,v14,v15,v16,v17,v18,v19,v20,v21,v22,xs,⟨⟩⟩ hw hn
  exact sM (mkM v1 v2 v3 v4 v5 v6 v7 v8 v9 v10 v11 v12 v13 v14 v15 v16 v17 v18 v19 v20 v21 v22 xs) (hn _ List.mem_cons_self) (hn _ (List.mem_cons_of_mem _ List.mem_cons_self))
abbrev VB:List (Nat×PB):= [(0,.cells (pZ (.c (.osl 1 3)))),(1,.row 3 (.nm .Innings))]
abbrev qPE:Pat:=⟨[(0,.c (.ptr 0 0)),(1,.h (.nm .Event))],Dy,3⟩
abbrev qPL:Pat:=⟨[(0,.h I)],Dy,3⟩
abbrev EV:Pat:=⟨[(0,.h I)],VB,4⟩
def HX:Den (tyP qPE)→List Prop×Den (tyP EV):=fun x=>([aK (mkX x.2),aR (mkX x.2)=true],(aQ (mkX x.2) x.1,(aa (mkX x.2) x.1).Rules.Name,(aa (mkX x.2) x.1).Rules.Side,(aa (mkX x.2) x.1).Rules.Innings,(aa (mkX x.2) x.1).Rules.Overs,(aa (mkX x.2) x.1).Rules.Balls,(aa (mkX x.2) x.1).Rules.Quota,(aa (mkX x.2) x.1).Rules.Wide,(aa (mkX x.2) x.1).Rules.NoBall,(aa (mkX x.2) x.1).Rules.FreeHit,(aa (mkX x.2) x.1).Rules.NewBall,(aa (mkX x.2) x.1).Rules.FollowOn,(aa (mkX x.2) x.1).Rules.Reviews,(aa (mkX x.2) x.1).Rules.Outside,(aa (mkX x.2) x.1).Rules.Power,(aa (mkX x.2) x.1).Stage,(aa (mkX x.2) x.1).First,(aa (mkX x.2) x.1).Follow,(aa (mkX x.2) x.1).Penalty.1,(aa (mkX x.2) x.1).Penalty.2.1,(aa (mkX x.2) x.1).Result.Win,(aa (mkX x.2) x.1).Result.Side,(aa (mkX x.2) x.1).Result.Margin,(aa (mkX x.2) x.1).Innings,()))
def H4:Den (tyP qPE)→List Prop×Den (tyP qPL):=fun x=>([aK (mkX x.2),aR (mkX x.2)=true,bB x.1=0],(ch (mkX x.2) x.1,(ag (mkX x.2) x.1).Rules.Name,(ag (mkX x.2) x.1).Rules.Side,(ag (mkX x.2) x.1).Rules.Innings,(ag (mkX x.2) x.1).Rules.Overs,(ag (mkX x.2) x.1).Rules.Balls,(ag (mkX x.2) x.1).Rules.Quota,(ag (mkX x.2) x.1).Rules.Wide,(ag (mkX x.2) x.1).Rules.NoBall,(ag (mkX x.2) x.1).Rules.FreeHit,(ag (mkX x.2) x.1).Rules.NewBall,(ag (mkX x.2) x.1).Rules.FollowOn,(ag (mkX x.2) x.1).Rules.Reviews,(ag (mkX x.2) x.1).Rules.Outside,(ag (mkX x.2) x.1).Rules.Power,(ag (mkX x.2) x.1).Stage,(ag (mkX x.2) x.1).First,(ag (mkX x.2) x.1).Follow,(ag (mkX x.2) x.1).Penalty.1,(ag (mkX x.2) x.1).Penalty.2.1,(ag (mkX x.2) x.1).Result.Win,(ag (mkX x.2) x.1).Result.Side,(ag (mkX x.2) x.1).Result.Margin,(ag (mkX x.2) x.1).Innings,()))
def H3:Den (tyP qPE)→List Prop×Den (tyP EV):=fun x=>([aK (mkX x.2),aR (mkX x.2)=true,bB x.1=0],(aO (mkX x.2) x.1,(ab (mkX x.2) x.1).Rules.Name,(ab (mkX x.2) x.1).Rules.Side,(ab (mkX x.2) x.1).Rules.Innings,(ab (mkX x.2) x.1).Rules.Overs,(ab (mkX x.2) x.1).Rules.Balls,(ab (mkX x.2) x.1).Rules.Quota,(ab (mkX x.2) x.1).Rules.Wide,(ab (mkX x.2) x.1).Rules.NoBall,(ab (mkX x.2) x.1).Rules.FreeHit,(ab (mkX x.2) x.1).Rules.NewBall,(ab (mkX x.2) x.1).Rules.FollowOn,(ab (mkX x.2) x.1).Rules.Reviews,(ab (mkX x.2) x.1).Rules.Outside,(ab (mkX x.2) x.1).Rules.Power,(ab (mkX x.2) x.1).Stage,(ab (mkX x.2) x.1).First,(ab (mkX x.2) x.1).Follow,(ab (mkX x.2) x.1).Penalty.1,(ab (mkX x.2) x.1).Penalty.2.1,(ab (mkX x.2) x.1).Result.Win,(ab (mkX x.2) x.1).Result.Side,(ab (mkX x.2) x.1).Result.Margin,(ab (mkX x.2) x.1).Innings,()))
theorem Dn {e:Mir.Event} (h:bB e=0) (hu:pQ e.Kind=true):gJ e.Side:=by
 cases hs:inW e.Side 1 2 with
 | true=>simp only [inW,Bool.and_eq_true,decide_eq_true_eq] at hs;unfold gJ;omega
 | false=>
  unfold bB at h
  simp only [hu,hs] at h
  exfalso
  revert h
  repeat' split
  all_goals first |(intro h;exact absurd h (by decide))|simp_all
theorem EC {m:Match} {e:Mir.Event} (h :(aQ m e != 0)=true):aa m e=m:=by simp only [aa,h,if_true]
theorem EM {m:Match} {e:Mir.Event} (h :(ch m e != 0)=true):ag m e=m:=by simp only [ag,h,if_true]
theorem NT (m:Match) (e:Mir.Event) (hm:aK m) (hv:aR m=true) :(evPat (al [Bx,DP,I2,Bv] Tryz.f280) (fun _=>none) Tryz.f280 qPE EV (e,m.Rules.Name,m.Rules.Side,m.Rules.Innings,m.Rules.Overs,m.Rules.Balls,m.Rules.Quota,m.Rules.Wide,m.Rules.NoBall,m.Rules.FreeHit,m.Rules.NewBall,m.Rules.FollowOn,m.Rules.Reviews,m.Rules.Outside,m.Rules.Power,m.Stage,m.First,m.Follow,m.Penalty.1,m.Penalty.2.1,m.Result.Win,m.Result.Side,m.Result.Margin,m.Innings,())).sat fun z_=>z_ =(HX (e,m.Rules.Name,m.Rules.Side,m.Rules.Innings,m.Rules.Overs,m.Rules.Balls,m.Rules.Quota,m.Rules.Wide,m.Rules.NoBall,m.Rules.FreeHit,m.Rules.NewBall,m.Rules.FollowOn,m.Rules.Reviews,m.Rules.Outside,m.Rules.Power,m.Stage,m.First,m.Follow,m.Penalty.1,m.Penalty.2.1,m.Result.Win,m.Result.Side,m.Result.Margin,m.Innings,())).2:=by
 refine cast (by kernel_rfl) (?_:let r1:Int:=IntKind.i64.wrap (cM m (↑m.5.length:Int) - 1);let r2:Innings:=iy m.1 (cM m (↑m.5.length:Int)) (fO m (cM m (↑m.5.length:Int))) m.6.1;let r3:Innings:=iy m.1 (cM m (↑m.5.length:Int)) (fO m (cM m (↑m.5.length:Int))) m.6.2.1;let r4:Int:=cc m.1 r2 e;let r5:Bool:=r1==0;let r6:Bool:=r1==1;let r7:Int:=cc m.1 r3 e;let r8:Bool:=gS m.1 (cM m (↑m.5.length:Int)) (fO m (cM m (↑m.5.length:Int))) m.6.1 != 0;let r9:Bool:=gS m.1 (cM m (↑m.5.length:Int)) (fO m (cM m (↑m.5.length:Int))) m.6.2.1 != 0;let r10:List Innings:= [dw m.1 r2 e];let r11:List Innings:= [dw m.1 r3 e];let r12:Bool:=r4 != 0;let r13:Bool:=r7 != 0;((m.2 != 2)=true→(1,m.1.1,m.1.2,m.1.3,m.1.4,m.1.5,m.1.6,m.1.7,m.1.8,m.1.9,m.1.10,m.1.11,m.1.12,m.1.13,m.1.14,m.2,m.3,m.4,m.6.1,m.6.2.1,m.7.1,m.7.2,m.7.3,m.5,()) =(aQ m e,(aa m e).1.1,(aa m e).1.2,(aa m e).1.3,(aa m e).1.4,(aa m e).1.5,(aa m e).1.6,(aa m e).1.7,(aa m e).1.8,(aa m e).1.9,(aa m e).1.10,(aa m e).1.11,(aa m e).1.12,(aa m e).1.13,(aa m e).1.14,(aa m e).2,(aa m e).3,(aa m e).4,(aa m e).6.1,(aa m e).6.2.1,(aa m e).7.1,(aa m e).7.2,(aa m e).7.3,(aa m e).5,()))∧((m.2 != 2)=false→(r5=true→((0:Int)≤0∧0 <(↑(2:Nat):Int))∧(r8=true→(1,m.1.1,m.1.2,m.1.3,m.1.4,m.1.5,m.1.6,m.1.7,m.1.8,m.1.9,m.1.10,m.1.11,m.1.12,m.1.13,m.1.14,m.2,m.3,m.4,m.6.1,m.6.2.1,m.7.1,m.7.2,m.7.3,m.5,()) =(aQ m e,(aa m e).1.1,(aa m e).1.2,(aa m e).1.3,(aa m e).1.4,(aa m e).1.5,(aa m e).1.6,(aa m e).1.7,(aa m e).1.8,(aa m e).1.9,(aa m e).1.10,(aa m e).1.11,(aa m e).1.12,(aa m e).1.13,(aa m e).1.14,(aa m e).2,(aa m e).3,(aa m e).4,(aa m e).6.1,(aa m e).6.2.1,(aa m e).7.1,(aa m e).7.2,(aa m e).7.3,(aa m e).5,()))∧(r8=false→ai r2∧(r12=true→(r4,m.1.1,m.1.2,m.1.3,m.1.4,m.1.5,m.1.6,m.1.7,m.1.8,m.1.9,m.1.10,m.1.11,m.1.12,m.1.13,m.1.14,m.2,m.3,m.4,m.6.1,m.6.2.1,m.7.1,m.7.2,m.7.3,m.5,()) =(aQ m e,(aa m e).1.1,(aa m e).1.2,(aa m e).1.3,(aa m e).1.4,(aa m e).1.5,(aa m e).1.6,(aa m e).1.7,(aa m e).1.8,(aa m e).1.9,(aa m e).1.10,(aa m e).1.11,(aa m e).1.12,(aa m e).1.13,(aa m e).1.14,(aa m e).2,(aa m e).3,(aa m e).4,(aa m e).6.1,(aa m e).6.2.1,(aa m e).7.1,(aa m e).7.2,(aa m e).7.3,(aa m e).5,()))∧(r12=false→(r5=true→((0:Int)≤0∧0 <(↑(2:Nat):Int))∧(m.5.length+r10.length) *(304:Nat)≤(70368744177664:Nat)∧(0,m.1.1,m.1.2,m.1.3,m.1.4,m.1.5,m.1.6,m.1.7,m.1.8,m.1.9,m.1.10,m.1.11,m.1.12,m.1.13,m.1.14,3,m.3,m.4,0,m.6.2.1,m.7.1,m.7.2,m.7.3,m.5++r10,()) =(aQ m e,(aa m e).1.1,(aa m e).1.2,(aa m e).1.3,(aa m e).1.4,(aa m e).1.5,(aa m e).1.6,(aa m e).1.7,(aa m e).1.8,(aa m e).1.9,(aa m e).1.10,(aa m e).1.11,(aa m e).1.12,(aa m e).1.13,(aa m e).1.14,(aa m e).2,(aa m e).3,(aa m e).4,(aa m e).6.1,(aa m e).6.2.1,(aa m e).7.1,(aa m e).7.2,(aa m e).7.3,(aa m e).5,()))∧(r5=false→(r6=true→((0:Int)≤1∧1 <(↑(2:Nat):Int))∧(m.5.length+r10.length) *(304:Nat)≤(70368744177664:Nat)∧(0,m.1.1,m.1.2,m.1.3,m.1.4,m.1.5,m.1.6,m.1.7,m.1.8,m.1.9,m.1.10,m.1.11,m.1.12,m.1.13,m.1.14,3,m.3,m.4,m.6.1,0,m.7.1,m.7.2,m.7.3,m.5++r10,()) =(aQ m e,(aa m e).1.1,(aa m e).1.2,(aa m e).1.3,(aa m e).1.4,(aa m e).1.5,(aa m e).1.6,(aa m e).1.7,(aa m e).1.8,(aa m e).1.9,(aa m e).1.10,(aa m e).1.11,(aa m e).1.12,(aa m e).1.13,(aa m e).1.14,(aa m e).2,(aa m e).3,(aa m e).4,(aa m e).6.1,(aa m e).6.2.1,(aa m e).7.1,(aa m e).7.2,(aa m e).7.3,(aa m e).5,()))∧(r6=false→False∧True)))))∧(r5=false→(r6=true→((0:Int)≤1∧1 <(↑(2:Nat):Int))∧(r9=true→(1,m.1.1,m.1.2,m.1.3,m.1.4,m.1.5,m.1.6,m.1.7,m.1.8,m.1.9,m.1.10,m.1.11,m.1.12,m.1.13,m.1.14,m.2,m.3,m.4,m.6.1,m.6.2.1,m.7.1,m.7.2,m.7.3,m.5,()) =(aQ m e,(aa m e).1.1,(aa m e).1.2,(aa m e).1.3,(aa m e).1.4,(aa m e).1.5,(aa m e).1.6,(aa m e).1.7,(aa m e).1.8,(aa m e).1.9,(aa m e).1.10,(aa m e).1.11,(aa m e).1.12,(aa m e).1.13,(aa m e).1.14,(aa m e).2,(aa m e).3,(aa m e).4,(aa m e).6.1,(aa m e).6.2.1,(aa m e).7.1,(aa m e).7.2,(aa m e).7.3,(aa m e).5,()))∧(r9=false→ai r3∧(r13=true→(r7,m.1.1,m.1.2,m.1.3,m.1.4,m.1.5,m.1.6,m.1.7,m.1.8,m.1.9,m.1.10,m.1.11,m.1.12,m.1.13,m.1.14,m.2,m.3,m.4,m.6.1,m.6.2.1,m.7.1,m.7.2,m.7.3,m.5,()) =(aQ m e,(aa m e).1.1,(aa m e).1.2,(aa m e).1.3,(aa m e).1.4,(aa m e).1.5,(aa m e).1.6,(aa m e).1.7,(aa m e).1.8,(aa m e).1.9,(aa m e).1.10,(aa m e).1.11,(aa m e).1.12,(aa m e).1.13,(aa m e).1.14,(aa m e).2,(aa m e).3,(aa m e).4,(aa m e).6.1,(aa m e).6.2.1,(aa m e).7.1,(aa m e).7.2,(aa m e).7.3,(aa m e).5,()))∧(r13=false→(r5=true→((0:Int)≤0∧0 <(↑(2:Nat):Int))∧(m.5.length+r11.length) *(304:Nat)≤(70368744177664:Nat)∧(0,m.1.1,m.1.2,m.1.3,m.1.4,m.1.5,m.1.6,m.1.7,m.1.8,m.1.9,m.1.10,m.1.11,m.1.12,m.1.13,m.1.14,3,m.3,m.4,0,m.6.2.1,m.7.1,m.7.2,m.7.3,m.5++r11,()) =(aQ m e,(aa m e).1.1,(aa m e).1.2,(aa m e).1.3,(aa m e).1.4,(aa m e).1.5,(aa m e).1.6,(aa m e).1.7,(aa m e).1.8,(aa m e).1.9,(aa m e).1.10,(aa m e).1.11,(aa m e).1.12,(aa m e).1.13,(aa m e).1.14,(aa m e).2,(aa m e).3,(aa m e).4,(aa m e).6.1,(aa m e).6.2.1,(aa m e).7.1,(aa m e).7.2,(aa m e).7.3,(aa m e).5,()))∧(r5=false→(r6=true→((0:Int)≤1∧1 <(↑(2:Nat):Int))∧(m.5.length+r11.length) *(304:Nat)≤(70368744177664:Nat)∧(0,m.1.1,m.1.2,m.1.3,m.1.4,m.1.5,m.1.6,m.1.7,m.1.8,m.1.9,m.1.10,m.1.11,m.1.12,m.1.13,m.1.14,3,m.3,m.4,m.6.1,0,m.7.1,m.7.2,m.7.3,m.5++r11,()) =(aQ m e,(aa m e).1.1,(aa m e).1.2,(aa m e).1.3,(aa m e).1.4,(aa m e).1.5,(aa m e).1.6,(aa m e).1.7,(aa m e).1.8,(aa m e).1.9,(aa m e).1.10,(aa m e).1.11,(aa m e).1.12,(aa m e).1.13,(aa m e).1.14,(aa m e).2,(aa m e).3,(aa m e).4,(aa m e).6.1,(aa m e).6.2.1,(aa m e).7.1,(aa m e).7.2,(aa m e).7.3,(aa m e).5,()))∧(r6=false→False∧True)))))∧(r6=false→False∧True))))
 intro r1 r2 r3 r4 r5 r6 r7 r8 r9 r10 r11 r12 r13
 clear_value (hr1:r1=_) (hr2:r2=_) (hr3:r3=_) (hr4:r4=_) (hr5:r5=_) (hr6:r6=_) (hr7:r7=_) (hr8:r8=_) (hr9:r9=_) (hr10:r10=_) (hr11:r11=_) (hr12:r12=_) (hr13:r13=_)
 have hx:=hm.2.1
 refine ⟨fun h=>?_,fun h=>?_⟩
 ·have hL:aQ m e=1:=by unfold aQ;rw [h];rfl
  have hY:aa m e=m:=by unfold aa;rw [hL];rfl
  rw [hL,hY]
 ·have h2:m.Stage=2:=by simpa using h
  rcases Db hv h2 with hS|hS
  ·have hS:cM m (m.Innings.length:Int)=1:=hS
   have e5:r5=true:=by rw [hr5,hr1,hS];rfl
   have hX:r2=x6 m:=by rw [hr2];unfold x6 pL cx;rw [hS];rfl
   have e8:r8 =(lU m != 0):=by rw [hr8];unfold lU pL cx;rw [hS];rfl
   have hI:ai r2:=by rw [hr2];exact jI _ _ _ _
   have hA :(m.Innings.length+r10.length)*304≤70368744177664:=by rw [hr10];simp only [List.length_singleton];omega
   have hq :(0≤(0:Int)∧(0:Int) <((2:Nat):Int)):=by decide
   have c1:r8=true→aQ m e=1∧aa m e=m:=fun a=>by
    have hL:aQ m e=1:=by unfold aQ;rw [h,←e8,a];rfl
    exact ⟨hL,by unfold aa;rw [hL];rfl⟩
   have c2:r8=false→r12=true→aQ m e=r4∧aa m e=m:=fun a b=>by
    have hL:aQ m e=r4:=by unfold aQ;rw [h,←e8,a,hr4,hX];rfl
    exact ⟨hL,by unfold aa;rw [hL,←hr12,b];rfl⟩
   have c3:r8=false→r12=false→aQ m e=0∧aa m e=mn m e:=fun a b=>by
    have hL:aQ m e=r4:=by unfold aQ;rw [h,←e8,a,hr4,hX];rfl
    have hL0:aQ m e=0:=by rw [hL];rw [hr12] at b;simpa using b
    exact ⟨hL0,by unfold aa;rw [hL0];rfl⟩
   subst e5
   refine ⟨fun _=>⟨hq,fun a=>?_,fun a=>⟨hI,fun b=>?_,fun b=>⟨fun _=>⟨hq,hA,?_⟩,fun z=>Bool.noConfusion z⟩⟩⟩,fun z=>Bool.noConfusion z⟩
   ·rw [(c1 a).1,(c1 a).2]
   ·rw [(c2 a b).1,(c2 a b).2]
   ·rw [(c3 a b).1,(c3 a b).2];unfold mn rQ cx;rw [hS,hr10,hX];rfl
  ·have hS:cM m (m.Innings.length:Int)=2:=hS
   have e5:r5=false:=by rw [hr5,hr1,hS];rfl
   have e6:r6=true:=by rw [hr6,hr1,hS];rfl
   have hX:r3=x6 m:=by rw [hr3];unfold x6 pL cx;rw [hS];rfl
   have e8:r9 =(lU m != 0):=by rw [hr9];unfold lU pL cx;rw [hS];rfl
   have hI:ai r3:=by rw [hr3];exact jI _ _ _ _
   have hA :(m.Innings.length+r11.length)*304≤70368744177664:=by rw [hr11];simp only [List.length_singleton];omega
   have hq :(0≤(1:Int)∧(1:Int) <((2:Nat):Int)):=by decide
   have c1:r9=true→aQ m e=1∧aa m e=m:=fun a=>by
    have hL:aQ m e=1:=by unfold aQ;rw [h,←e8,a];rfl
    exact ⟨hL,by unfold aa;rw [hL];rfl⟩
   have c2:r9=false→r13=true→aQ m e=r7∧aa m e=m:=fun a b=>by
    have hL:aQ m e=r7:=by unfold aQ;rw [h,←e8,a,hr7,hX];rfl
    exact ⟨hL,by unfold aa;rw [hL,←hr13,b];rfl⟩
   have c3:r9=false→r13=false→aQ m e=0∧aa m e=mn m e:=fun a b=>by
    have hL:aQ m e=r7:=by unfold aQ;rw [h,←e8,a,hr7,hX];rfl
    have hL0:aQ m e=0:=by rw [hL];rw [hr13] at b;simpa using b
    exact ⟨hL0,by unfold aa;rw [hL0];rfl⟩
   subst e5 e6
   refine ⟨fun z=>Bool.noConfusion z,fun _=>⟨fun _=>⟨hq,fun a=>?_,fun a=>⟨hI,fun b=>?_,fun b=>⟨fun z=>Bool.noConfusion z,fun _=>⟨fun _=>⟨hq,hA,?_⟩,fun z=>Bool.noConfusion z⟩⟩⟩⟩,fun z=>Bool.noConfusion z⟩⟩
   ·rw [(c1 a).1,(c1 a).2]
   ·rw [(c2 a b).1,(c2 a b).2]
   ·rw [(c3 a b).1,(c3 a b).2];unfold mn rQ cx;rw [hS,hr11,hX];rfl
def Mv:FuncId×Ctr:=(280,ae KE qPE EV HX)
theorem PA:CtrOK Tryz.prog KE 280 (ae KE qPE EV HX):=by
 refine an (C:=al [Bx,DP,I2,Bv] Tryz.f280) (aj (.consU Ek rfl (.consU Kt rfl (.consU MW rfl (.consU Jr rfl .nil)))) _) mixed (fn:=Tryz.f280) Tryz.func280 (by kernel_rfl) (by kernel_rfl) (by kernel_rfl) (by kernel_rfl) (by kernel_rfl) (by kernel_rfl) (Λ:=fun _ _=>none) ?_ ?_
 ·exact fun _ _ _ _ _ _ _ _ h=>by cases h
 ·rintro ⟨e,v1,v2,v3,v4,v5,v6,v7,v8,v9,v10,v11,v12,v13,v14,v15,v16,v17,v18,v19,v20,v21,v22,xs,⟨⟩⟩ hw hn
  exact NT (mkM v1 v2 v3 v4 v5 v6 v7 v8 v9 v10 v11 v12 v13 v14 v15 v16 v17 v18 v19 v20 v21 v22 xs) e (hn _ List.mem_cons_self) (hn _ (List.mem_cons_of_mem _ List.mem_cons_self))
theorem NU (m:Match) (e:Mir.Event) (hm:aK m) (hv:aR m=true) (he:bB e=0) :(evPat (al [Bv,I5] Tryz.f282) (fun _=>none) Tryz.f282 qPE qPL (e,m.Rules.Name,m.Rules.Side,m.Rules.Innings,m.Rules.Overs,m.Rules.Balls,m.Rules.Quota,m.Rules.Wide,m.Rules.NoBall,m.Rules.FreeHit,m.Rules.NewBall,m.Rules.FollowOn,m.Rules.Reviews,m.Rules.Outside,m.Rules.Power,m.Stage,m.First,m.Follow,m.Penalty.1,m.Penalty.2.1,m.Result.Win,m.Result.Side,m.Result.Margin,m.Innings,())).sat fun z_=>z_ =(H4 (e,m.Rules.Name,m.Rules.Side,m.Rules.Innings,m.Rules.Overs,m.Rules.Balls,m.Rules.Quota,m.Rules.Wide,m.Rules.NoBall,m.Rules.FreeHit,m.Rules.NewBall,m.Rules.FollowOn,m.Rules.Reviews,m.Rules.Outside,m.Rules.Power,m.Stage,m.First,m.Follow,m.Penalty.1,m.Penalty.2.1,m.Result.Win,m.Result.Side,m.Result.Margin,m.Innings,())).2:=by
 refine cast (by kernel_rfl) (?_:let r1:Int:=IntKind.i64.wrap ((↑m.5.length:Int) - 1);let r2:Innings:=m.5.getD r1.toNat (dflt (Ty.nm Nm.Innings));let r3:Int:=cc m.1 r2 e;let r4:Innings:=dw m.1 r2 e;let r5:Bool:=r3 != 0;let r6:Bool:=cond (e.1==13) (e.2 != r4.1) false;let r7:List Innings:=m.5.set r1.toNat r4;let r8:Match:=Match.mk m.1 m.2 m.3 m.4 r7 m.6 m.7;let r9:Match:=aw r8 e.2;((m.2 != 3)=true→(1,m.1.1,m.1.2,m.1.3,m.1.4,m.1.5,m.1.6,m.1.7,m.1.8,m.1.9,m.1.10,m.1.11,m.1.12,m.1.13,m.1.14,m.2,m.3,m.4,m.6.1,m.6.2.1,m.7.1,m.7.2,m.7.3,m.5,()) =(ch m e,(ag m e).1.1,(ag m e).1.2,(ag m e).1.3,(ag m e).1.4,(ag m e).1.5,(ag m e).1.6,(ag m e).1.7,(ag m e).1.8,(ag m e).1.9,(ag m e).1.10,(ag m e).1.11,(ag m e).1.12,(ag m e).1.13,(ag m e).1.14,(ag m e).2,(ag m e).3,(ag m e).4,(ag m e).6.1,(ag m e).6.2.1,(ag m e).7.1,(ag m e).7.2,(ag m e).7.3,(ag m e).5,()))∧((m.2 != 3)=false→(0≤r1∧r1 <(↑m.5.length:Int))∧ai r2∧(r5=true→(r3,m.1.1,m.1.2,m.1.3,m.1.4,m.1.5,m.1.6,m.1.7,m.1.8,m.1.9,m.1.10,m.1.11,m.1.12,m.1.13,m.1.14,m.2,m.3,m.4,m.6.1,m.6.2.1,m.7.1,m.7.2,m.7.3,m.5,()) =(ch m e,(ag m e).1.1,(ag m e).1.2,(ag m e).1.3,(ag m e).1.4,(ag m e).1.5,(ag m e).1.6,(ag m e).1.7,(ag m e).1.8,(ag m e).1.9,(ag m e).1.10,(ag m e).1.11,(ag m e).1.12,(ag m e).1.13,(ag m e).1.14,(ag m e).2,(ag m e).3,(ag m e).4,(ag m e).6.1,(ag m e).6.2.1,(ag m e).7.1,(ag m e).7.2,(ag m e).7.3,(ag m e).5,()))∧(r5=false→(0≤r1∧r1 <(↑m.5.length:Int))∧((r6=true→aK r8∧gJ e.2∧True)∧(r6=false→True))∧(true=true→(0,cond r6 r9.1.1 m.1.1,cond r6 r9.1.2 m.1.2,cond r6 r9.1.3 m.1.3,cond r6 r9.1.4 m.1.4,cond r6 r9.1.5 m.1.5,cond r6 r9.1.6 m.1.6,cond r6 r9.1.7 m.1.7,cond r6 r9.1.8 m.1.8,cond r6 r9.1.9 m.1.9,cond r6 r9.1.10 m.1.10,cond r6 r9.1.11 m.1.11,cond r6 r9.1.12 m.1.12,cond r6 r9.1.13 m.1.13,cond r6 r9.1.14 m.1.14,cond r6 r9.2 m.2,cond r6 r9.3 m.3,cond r6 r9.4 m.4,cond r6 r9.6.1 m.6.1,cond r6 r9.6.2.1 m.6.2.1,cond r6 r9.7.1 m.7.1,cond r6 r9.7.2 m.7.2,cond r6 r9.7.3 m.7.3,cond r6 r9.5 r7,()) =(ch m e,(ag m e).1.1,(ag m e).1.2,(ag m e).1.3,(ag m e).1.4,(ag m e).1.5,(ag m e).1.6,(ag m e).1.7,(ag m e).1.8,(ag m e).1.9,(ag m e).1.10,(ag m e).1.11,(ag m e).1.12,(ag m e).1.13,(ag m e).1.14,(ag m e).2,(ag m e).3,(ag m e).4,(ag m e).6.1,(ag m e).6.2.1,(ag m e).7.1,(ag m e).7.2,(ag m e).7.3,(ag m e).5,())))))
 intro r1 r2 r3 r4 r5 r6 r7 r8 r9
 clear_value (hr1:r1=_) (hr2:r2=_) (hr3:r3=_) (hr4:r4=_) (hr5:r5=_) (hr6:r6=_) (hr7:r7=_) (hr8:r8=_) (hr9:r9=_)
 have hx:=hm.2.1
 refine ⟨fun h=>?_,fun h=>?_⟩
 ·have hL:ch m e=1:=by unfold ch;rw [h];rfl
  have hY:ag m e=m:=by unfold ag;rw [hL];rfl
  rw [hL,hY]
 ·have h3:m.Stage=3:=by simpa using h
  have h0:=dX hv h3
  have e0:r1 =(m.Innings.length:Int) - 1:=by rw [hr1];exact bc (by omega) (by omega)
  have e1:r1.toNat=m.Innings.length - 1:=by omega
  have e2:r2=bt m:=by rw [hr2,e1];rfl
  have hL:ch m e=r3:=by unfold ch;rw [h,hr3,e2];rfl
  have e8:r8=sJ m e:=by rw [hr8,hr7,hr4,e1,e2];rfl
  have e6:r6=rV m e:=by rw [hr6,hr4,e2];unfold rV;cases e.Kind==13 <;> rfl
  have hb:0≤r1∧r1 <(m.Innings.length:Int):=⟨by omega,by omega⟩
  refine ⟨hb,by rw [e2];exact gT hm.1,fun a=>?_,fun a=>⟨hb,⟨fun b=>⟨?_,?_,trivial⟩,fun _=>trivial⟩,fun _=>?_⟩⟩
  ·have hY:ag m e=m:=by unfold ag;rw [hL,←hr5,a];rfl
   rw [hL,hY]
  ·rw [e8]
   refine ⟨s4 hm.1 _ (kX _ (gT hm.1)),?_,hm.2.2⟩
   show (m.Innings.set _ _).length≤_
   rw [List.length_set];exact hx
  ·refine Dn he ?_
   rw [hr6] at b
   cases hk:e.Kind==13 with
   | false=>rw [hk] at b;cases b
   | true=>rw [eq_of_beq hk];rfl
  ·have hL0:ch m e=0:=by rw [hL];rw [hr5] at a;simpa using a
   have hY:ag m e=if r6 then aw r8 e.Side else r8:=by unfold ag;rw [hL0,e6,e8];rfl
   rw [hL0,hY,hr9]
   cases r6 with
   | true=>rfl
   | false=>rw [hr8];rfl
def Mw:FuncId×Ctr:=(282,ae KE qPE qPL H4)
theorem PD:CtrOK Tryz.prog KE 282 (ae KE qPE qPL H4):=by
 refine an (C:=al [Bv,I5] Tryz.f282) (aj (.consU Jr rfl (.consU M3 rfl .nil)) _) mixed (fn:=Tryz.f282) Tryz.func282 (by kernel_rfl) (by kernel_rfl) (by kernel_rfl) (by kernel_rfl) (by kernel_rfl) (by kernel_rfl) (Λ:=fun _ _=>none) ?_ ?_
 ·exact fun _ _ _ _ _ _ _ _ h=>by cases h
 ·rintro ⟨e,v1,v2,v3,v4,v5,v6,v7,v8,v9,v10,v11,v12,v13,v14,v15,v16,v17,v18,v19,v20,v21,v22,xs,⟨⟩⟩ hw hn
  exact NU (mkM v1 v2 v3 v4 v5 v6 v7 v8 v9 v10 v11 v12 v13 v14 v15 v16 v17 v18 v19 v20 v21 v22 xs) e (hn _ List.mem_cons_self) (hn _ (List.mem_cons_of_mem _ List.mem_cons_self)) (hn _ (List.mem_cons_of_mem _ (List.mem_cons_of_mem _ List.mem_cons_self)))
theorem Fk (m:Match) (e:Mir.Event) (hm:aK m) (hv:aR m=true) (he:bB e=0) :(evPat (al [im,Mv,My,Mw] Tryz.f236) (fun _=>none) Tryz.f236 qPE EV (e,m.Rules.Name,m.Rules.Side,m.Rules.Innings,m.Rules.Overs,m.Rules.Balls,m.Rules.Quota,m.Rules.Wide,m.Rules.NoBall,m.Rules.FreeHit,m.Rules.NewBall,m.Rules.FollowOn,m.Rules.Reviews,m.Rules.Outside,m.Rules.Power,m.Stage,m.First,m.Follow,m.Penalty.1,m.Penalty.2.1,m.Result.Win,m.Result.Side,m.Result.Margin,m.Innings,())).sat fun z_=>z_ =(H3 (e,m.Rules.Name,m.Rules.Side,m.Rules.Innings,m.Rules.Overs,m.Rules.Balls,m.Rules.Quota,m.Rules.Wide,m.Rules.NoBall,m.Rules.FreeHit,m.Rules.NewBall,m.Rules.FollowOn,m.Rules.Reviews,m.Rules.Outside,m.Rules.Power,m.Stage,m.First,m.Follow,m.Penalty.1,m.Penalty.2.1,m.Result.Win,m.Result.Side,m.Result.Margin,m.Innings,())).2:=by
 refine cast (by kernel_rfl) (?_ :(((e.1==1)=true→((m.2 != 1)=true→(1,m.1.1,m.1.2,m.1.3,m.1.4,m.1.5,m.1.6,m.1.7,m.1.8,m.1.9,m.1.10,m.1.11,m.1.12,m.1.13,m.1.14,m.2,m.3,m.4,m.6.1,m.6.2.1,m.7.1,m.7.2,m.7.3,m.5,()) =(aO m e,(ab m e).1.1,(ab m e).1.2,(ab m e).1.3,(ab m e).1.4,(ab m e).1.5,(ab m e).1.6,(ab m e).1.7,(ab m e).1.8,(ab m e).1.9,(ab m e).1.10,(ab m e).1.11,(ab m e).1.12,(ab m e).1.13,(ab m e).1.14,(ab m e).2,(ab m e).3,(ab m e).4,(ab m e).6.1,(ab m e).6.2.1,(ab m e).7.1,(ab m e).7.2,(ab m e).7.3,(ab m e).5,()))∧((m.2 != 1)=false→True))∧((e.1==1)=false→((e.1==2)=true→aK m∧aR m=true∧(aQ m e,(aa m e).1.1,(aa m e).1.2,(aa m e).1.3,(aa m e).1.4,(aa m e).1.5,(aa m e).1.6,(aa m e).1.7,(aa m e).1.8,(aa m e).1.9,(aa m e).1.10,(aa m e).1.11,(aa m e).1.12,(aa m e).1.13,(aa m e).1.14,(aa m e).2,(aa m e).3,(aa m e).4,(aa m e).6.1,(aa m e).6.2.1,(aa m e).7.1,(aa m e).7.2,(aa m e).7.3,(aa m e).5,()) =(aO m e,(ab m e).1.1,(ab m e).1.2,(ab m e).1.3,(ab m e).1.4,(ab m e).1.5,(ab m e).1.6,(ab m e).1.7,(ab m e).1.8,(ab m e).1.9,(ab m e).1.10,(ab m e).1.11,(ab m e).1.12,(ab m e).1.13,(ab m e).1.14,(ab m e).2,(ab m e).3,(ab m e).4,(ab m e).6.1,(ab m e).6.2.1,(ab m e).7.1,(ab m e).7.2,(ab m e).7.3,(ab m e).5,()))∧((e.1==2)=false→((e.1==12)=true→((m.2 != 4)=true→(1,m.1.1,m.1.2,m.1.3,m.1.4,m.1.5,m.1.6,m.1.7,m.1.8,m.1.9,m.1.10,m.1.11,m.1.12,m.1.13,m.1.14,m.2,m.3,m.4,m.6.1,m.6.2.1,m.7.1,m.7.2,m.7.3,m.5,()) =(aO m e,(ab m e).1.1,(ab m e).1.2,(ab m e).1.3,(ab m e).1.4,(ab m e).1.5,(ab m e).1.6,(ab m e).1.7,(ab m e).1.8,(ab m e).1.9,(ab m e).1.10,(ab m e).1.11,(ab m e).1.12,(ab m e).1.13,(ab m e).1.14,(ab m e).2,(ab m e).3,(ab m e).4,(ab m e).6.1,(ab m e).6.2.1,(ab m e).7.1,(ab m e).7.2,(ab m e).7.3,(ab m e).5,()))∧((m.2 != 4)=false→((e.2 != m.3)=true→(2,m.1.1,m.1.2,m.1.3,m.1.4,m.1.5,m.1.6,m.1.7,m.1.8,m.1.9,m.1.10,m.1.11,m.1.12,m.1.13,m.1.14,m.2,m.3,m.4,m.6.1,m.6.2.1,m.7.1,m.7.2,m.7.3,m.5,()) =(aO m e,(ab m e).1.1,(ab m e).1.2,(ab m e).1.3,(ab m e).1.4,(ab m e).1.5,(ab m e).1.6,(ab m e).1.7,(ab m e).1.8,(ab m e).1.9,(ab m e).1.10,(ab m e).1.11,(ab m e).1.12,(ab m e).1.13,(ab m e).1.14,(ab m e).2,(ab m e).3,(ab m e).4,(ab m e).6.1,(ab m e).6.2.1,(ab m e).7.1,(ab m e).7.2,(ab m e).7.3,(ab m e).5,()))∧((e.2 != m.3)=false→True)))∧((e.1==12)=false→((e.1==16)=true→aK m∧jk m∧True)∧((e.1==16)=false→aK m∧aR m=true∧bB e=0∧(ch m e,(ag m e).1.1,(ag m e).1.2,(ag m e).1.3,(ag m e).1.4,(ag m e).1.5,(ag m e).1.6,(ag m e).1.7,(ag m e).1.8,(ag m e).1.9,(ag m e).1.10,(ag m e).1.11,(ag m e).1.12,(ag m e).1.13,(ag m e).1.14,(ag m e).2,(ag m e).3,(ag m e).4,(ag m e).6.1,(ag m e).6.2.1,(ag m e).7.1,(ag m e).7.2,(ag m e).7.3,(ag m e).5,()) =(aO m e,(ab m e).1.1,(ab m e).1.2,(ab m e).1.3,(ab m e).1.4,(ab m e).1.5,(ab m e).1.6,(ab m e).1.7,(ab m e).1.8,(ab m e).1.9,(ab m e).1.10,(ab m e).1.11,(ab m e).1.12,(ab m e).1.13,(ab m e).1.14,(ab m e).2,(ab m e).3,(ab m e).4,(ab m e).6.1,(ab m e).6.2.1,(ab m e).7.1,(ab m e).7.2,(ab m e).7.3,(ab m e).5,()))))))∧((cond (e.1==1) (!m.2 != 1) (cond (e.1==2) false (cond (e.1==12) (cond (m.2 != 4) false (!e.2 != m.3)) (e.1==16))))=true→(0,cond (e.1==1) (cond e.5 m.1.1 m.1.1) (cond (e.1==12) m.1.1 (bO m).1.1),cond (e.1==1) (cond e.5 m.1.2 m.1.2) (cond (e.1==12) m.1.2 (bO m).1.2),cond (e.1==1) (cond e.5 m.1.3 m.1.3) (cond (e.1==12) m.1.3 (bO m).1.3),cond (e.1==1) (cond e.5 m.1.4 m.1.4) (cond (e.1==12) m.1.4 (bO m).1.4),cond (e.1==1) (cond e.5 m.1.5 m.1.5) (cond (e.1==12) m.1.5 (bO m).1.5),cond (e.1==1) (cond e.5 m.1.6 m.1.6) (cond (e.1==12) m.1.6 (bO m).1.6),cond (e.1==1) (cond e.5 m.1.7 m.1.7) (cond (e.1==12) m.1.7 (bO m).1.7),cond (e.1==1) (cond e.5 m.1.8 m.1.8) (cond (e.1==12) m.1.8 (bO m).1.8),cond (e.1==1) (cond e.5 m.1.9 m.1.9) (cond (e.1==12) m.1.9 (bO m).1.9),cond (e.1==1) (cond e.5 m.1.10 m.1.10) (cond (e.1==12) m.1.10 (bO m).1.10),cond (e.1==1) (cond e.5 m.1.11 m.1.11) (cond (e.1==12) m.1.11 (bO m).1.11),cond (e.1==1) (cond e.5 m.1.12 m.1.12) (cond (e.1==12) m.1.12 (bO m).1.12),cond (e.1==1) (cond e.5 m.1.13 m.1.13) (cond (e.1==12) m.1.13 (bO m).1.13),cond (e.1==1) (cond e.5 m.1.14 m.1.14) (cond (e.1==12) m.1.14 (bO m).1.14),cond (e.1==1) 2 (cond (e.1==12) 2 5),cond (e.1==1) (cond e.5 e.2 (cg e.2)) (cond (e.1==12) m.3 (bO m).3),cond (e.1==1) (cond e.5 m.4 m.4) (cond (e.1==12) e.5 (bO m).4),cond (e.1==1) (cond e.5 m.6.1 m.6.1) (cond (e.1==12) m.6.1 (bO m).6.1),cond (e.1==1) (cond e.5 m.6.2.1 m.6.2.1) (cond (e.1==12) m.6.2.1 (bO m).6.2.1),cond (e.1==1) (cond e.5 m.7.1 m.7.1) (cond (e.1==12) m.7.1 (cR m.1)),cond (e.1==1) (cond e.5 m.7.2 m.7.2) (cond (e.1==12) m.7.2 0),cond (e.1==1) (cond e.5 m.7.3 m.7.3) (cond (e.1==12) m.7.3 0),cond (e.1==1) m.5 (cond (e.1==12) m.5 (bO m).5),()) =(aO m e,(ab m e).1.1,(ab m e).1.2,(ab m e).1.3,(ab m e).1.4,(ab m e).1.5,(ab m e).1.6,(ab m e).1.7,(ab m e).1.8,(ab m e).1.9,(ab m e).1.10,(ab m e).1.11,(ab m e).1.12,(ab m e).1.13,(ab m e).1.14,(ab m e).2,(ab m e).3,(ab m e).4,(ab m e).6.1,(ab m e).6.2.1,(ab m e).7.1,(ab m e).7.2,(ab m e).7.3,(ab m e).5,())))
 simp only [Bool.cond_self] at *
 have ho:jk m:=fun h=>dX hv h
 refine ⟨⟨fun k1=>⟨fun a=>?_,fun _=>trivial⟩,fun n1=>⟨fun k2=>⟨hm,hv,?_⟩,fun n2=>⟨fun k12=>⟨fun a=>?_,fun a=>⟨fun b=>?_,fun _=>trivial⟩⟩,fun n12=>⟨fun k16=>⟨hm,ho,trivial⟩,fun n16=>⟨hm,hv,he,?_⟩⟩⟩⟩⟩,fun g=>?_⟩
 ·have hL:aO m e=1:=by unfold aO;rw [k1,a];rfl
  have hY:ab m e=m:=by unfold ab;rw [hL];rfl
  rw [hL,hY]
 ·have hL:aO m e=aQ m e:=by unfold aO;rw [n1,k2];rfl
  have hY:ab m e=aa m e:=by
   unfold ab fW;rw [hL,n1,k2]
   cases h:aQ m e != 0 with
   | true=>rw [EC h];rfl
   | false=>rfl
  rw [hL,hY]
 ·have hL:aO m e=1:=by unfold aO;rw [n1,n2,k12,a];rfl
  have hY:ab m e=m:=by unfold ab;rw [hL];rfl
  rw [hL,hY]
 ·have hL:aO m e=2:=by unfold aO;rw [n1,n2,k12,a,b];rfl
  have hY:ab m e=m:=by unfold ab;rw [hL];rfl
  rw [hL,hY]
 ·have hL:aO m e=ch m e:=by unfold aO;rw [n1,n2,n12,n16];rfl
  have hY:ab m e=ag m e:=by
   unfold ab fW;rw [hL,n1,n2,n12,n16]
   cases h:ch m e != 0 with
   | true=>rw [EM h];rfl
   | false=>rfl
  rw [hL,hY]
 ·cases k1:e.Kind==1 with
  | true=>
   rw [k1] at g
   simp only [cond_true,Bool.not_eq_true'] at g
   have hL:aO m e=0:=by unfold aO;rw [k1,g];rfl
   have hY:ab m e=FQ m e:=by unfold ab fW;rw [hL,k1];rfl
   rw [hL,hY];unfold FQ;cases e.Yes <;> rfl
  | false=>
   rw [k1] at g
   cases k2:e.Kind==2 with
   | true=>rw [k2] at g;cases g
   | false=>
    rw [k2] at g
    cases k12:e.Kind==12 with
    | true=>
     rw [k12] at g
     simp only [cond_true,cond_false] at g
     cases a:m.Stage != 4 with
     | true=>rw [a] at g;cases g
     | false=>
      rw [a] at g
      simp only [cond_false,Bool.not_eq_true'] at g
      have hL:aO m e=0:=by unfold aO;rw [k1,k2,k12,a,g];rfl
      have hY:ab m e=Bm m e:=by unfold ab fW;rw [hL,k1,k2,k12];rfl
      rw [hL,hY];rfl
    | false=>
     rw [k12] at g
     have hL:aO m e=0:=by
      have g :(e.Kind==16)=true:=g
      unfold aO;rw [k1,k2,k12,g];rfl
     have hY:ab m e=dF m:=by
      have g :(e.Kind==16)=true:=g
      unfold ab fW;rw [hL,k1,k2,k12,g];rfl
     rw [hL,hY];rfl
def zq:FuncId×Ctr:=(236,ae KE qPE EV H3)
theorem GG:CtrOK Tryz.prog KE 236 (ae KE qPE EV H3):=by
 refine an (C:=al [im,Mv,My,Mw] Tryz.f236) (aj (.consU nC rfl (.consU PA rfl (.consU PG rfl (.consU PD rfl .nil)))) _) mixed (fn:=Tryz.f236) Tryz.func236 (by kernel_rfl) (by kernel_rfl) (by kernel_rfl) (by kernel_rfl) (by kernel_rfl) (by kernel_rfl) (Λ:=fun _ _=>none) ?_ ?_
 ·exact fun _ _ _ _ _ _ _ _ h=>by cases h
 ·rintro ⟨e,v1,v2,v3,v4,v5,v6,v7,v8,v9,v10,v11,v12,v13,v14,v15,v16,v17,v18,v19,v20,v21,v22,xs,⟨⟩⟩ hw hn
  exact Fk (mkM v1 v2 v3 v4 v5 v6 v7 v8 v9 v10 v11 v12 v13 v14 v15 v16 v17 v18 v19 v20 v21 v22 xs) e (hn _ List.mem_cons_self) (hn _ (List.mem_cons_of_mem _ List.mem_cons_self)) (hn _ (List.mem_cons_of_mem _ (List.mem_cons_of_mem _ List.mem_cons_self)))
abbrev qME:Pat:=bX [.nm .Match,.nm .Event]
def sW:Den (tyP qME)→List Prop×Den (tyP mY):=fun x=>([aK x.1],(aZ x.1 x.2.1,bp x.1 x.2.1,()))
theorem Gf {l:List Innings} (h:eu l) (k:Nat):ai (l.getD k Innings.zero):=by
 by_cases hl:k<l.length
 ·exact h _ (iC hl _)
 ·rw [List.getD_eq_getElem?_getD,List.getElem?_eq_none (by omega)];simp [ai,Innings.zero]
theorem qB {m:Match} (h:aK m) (k:Nat) {x:Innings} (hx:ai x):aK (FM m k x):=
 ⟨s4 h.1 k hx,by show (m.Innings.set k x).length≤_;rw [List.length_set];exact h.2.1,h.2.2⟩
theorem A3 {m:Match} (h:aK m) (s:Int):aK (aw m s):=by
 unfold aw
 cases ez s m.Innings m.Innings.length with
 | some k=>exact qB h k (Ik (Gf h.1 k))
 | none=>exact h
theorem JQ (m:Match) (s:Int) :(aw m s).Innings.length=m.Innings.length:=by
 unfold aw
 cases ez s m.Innings m.Innings.length with
 | some k=>exact List.length_set
 | none=>rfl
theorem C8 (m:Match) (s:Int) :(aw m s).Stage=m.Stage:=by
 unfold aw
 cases ez s m.Innings m.Innings.length <;> rfl
theorem EO {m:Match} (e:Mir.Event) (h:aK m):aK (ag m e):=by
 have h1:aK (sJ m e):=qB h _ (kX e (gT h.1))
 unfold ag
 split
 ·exact h
 ·split
  ·exact A3 h1 _
  ·exact h1
theorem EN (m:Match) (e:Mir.Event) :(ag m e).Innings.length=m.Innings.length:=by
 have h1 :(sJ m e).Innings.length=m.Innings.length:=List.length_set
 unfold ag
 split
 ·rfl
 ·split
  ·rw [JQ,h1]
  ·exact h1
theorem G1 (m:Match) (e:Mir.Event) :(ag m e).Stage=m.Stage:=by
 unfold ag
 split
 ·rfl
 ·split
  ·rw [C8];rfl
  ·rfl
theorem nJ {m:Match} (e:Mir.Event) (h:aK m) (hv:aR m=true):aK (ab m e):=by
 unfold ab
 split
 ·exact h
 ·unfold fW
  split
  ·exact h
  ·split
   ·unfold aa
    split
    ·exact h
    ·refine ⟨Lx h.1 (kX e (jI _ _ _ _)),?_,h.2.2⟩
     show (m.Innings++[_]).length≤_
     have:=(lR hv).2
     rw [List.length_append,List.length_singleton];omega
   ·split
    ·exact h
    ·split
     ·have h2:aK (bO m):=by
       unfold bO
       split
       ·exact qB h _ (show ai { bt m with Ending:=5 } from gT h.1)
       ·exact h
      exact h2
     ·exact EO e h
theorem rI {m:Match} (e:Mir.Event) (hv:aR m=true):jk (ab m e):=by
 unfold ab
 split
 ·exact fun h=>dX hv h
 ·unfold fW
  split
  ·exact fun h=>absurd (show (2:Int)=3 from h) (by decide)
  ·split
   ·unfold aa
    split
    ·exact fun h=>dX hv h
    ·intro _
     show 0 <(m.Innings++[_]).length
     rw [List.length_append,List.length_singleton];omega
   ·split
    ·exact fun h=>absurd (show (2:Int)=3 from h) (by decide)
    ·split
     ·exact fun h=>absurd (show (5:Int)=3 from h) (by decide)
     ·intro h
      rw [G1] at h
      rw [EN]
      exact dX hv h
theorem vw (m:Match) :(ar m).Innings=m.Innings:=by
 unfold ar
 split
 ·rfl
 ·split
  ·rfl
  ·split <;> rfl
theorem tc (m:Match) :(ar m).Rules=m.Rules:=by
 unfold ar
 split
 ·rfl
 ·split
  ·rfl
  ·split <;> rfl
theorem A5 {m:Match} (h:aK m):aK (ar m):=by
 unfold aK dd
 rw [vw,tc]
 exact h
theorem qG {m:Match} {e:Mir.Event} (h:bp m e=0):aR m=true∧bB e=0∧aO m e=0:=by
 unfold bp at h
 split at h
 ·cases h
 ·rename_i h1
  simp only [Bool.or_eq_true,Bool.not_eq_true',bne_iff_ne,ne_eq,not_or,Bool.not_eq_false,Decidable.not_not] at h1
  split at h
  ·cases h
  ·exact ⟨h1.1,h1.2,h⟩
theorem ot {m:Match} (e:Mir.Event) (h:aK m):aK (aZ m e):=by
 unfold aZ
 split
 ·exact h
 ·rename_i h1
  exact A5 (nJ e h (qG (by simpa using h1)).1)
theorem lP {m:Match} {e:Mir.Event} (h :(bp m e != 0)=true):aZ m e=m:=by simp only [aZ,h,if_true]
theorem AQ {m:Match} {e:Mir.Event} (h:bp m e=0) (hk:e.Kind=4):0<m.Innings.length∧(aZ m e).Innings.length=m.Innings.length:=by
 obtain ⟨hv,he,hp⟩:=qG h
 have h1:aO m e=ch m e:=by unfold aO;rw [hk];rfl
 have h3:m.Stage=3:=by
  rw [h1] at hp
  unfold ch at hp
  cases h3:m.Stage != 3 with
  | true=>rw [h3] at hp;cases hp
  | false=>simpa using h3
 refine ⟨dX hv h3,?_⟩
 have h2:aZ m e=ar (ab m e):=by unfold aZ;rw [h];rfl
 have h4:ab m e=ag m e:=by unfold ab fW;rw [hp,hk];rfl
 rw [h2,vw,h4,EN]
theorem NV (m:Match) (e:Mir.Event) (hm:aK m) :(evPat (al [I6,uT,uR,zq,nt] Tryz.f186) (fun _=>none) Tryz.f186 qME mY (m,e,())).sat fun z_=>z_ =(sW (m,e,())).2:=by
 refine cast (by kernel_rfl) (?_:let r1:Bool:=cond (!aR m) true (bB e != 0);(dd m∧((!aR m)=true→True)∧((!aR m)=false→True))∧(true=true→(r1=true→aK m∧(m,1,()) =(aZ m e,bp m e,()))∧(r1=false→((m.2==5)=true→aK m∧(m,26,()) =(aZ m e,bp m e,()))∧((m.2==5)=false→aK m∧aK m∧aR m=true∧bB e=0∧((aO m e != 0)=true→aK m∧(m,aO m e,()) =(aZ m e,bp m e,()))∧((aO m e != 0)=false→aK (ab m e)∧jk (ab m e)∧(ar (ab m e),0,()) =(aZ m e,bp m e,()))))))
 intro r1
 clear_value (hr1:r1=_)
 have e1:r1 =(!aR m||bB e != 0):=by rw [hr1];cases aR m <;> rfl
 have hq:r1=false→aR m=true∧bB e=0:=fun h=>by rw [e1] at h;simpa using h
 refine ⟨⟨hm.1,fun _=>trivial,fun _=>trivial⟩,fun _=>⟨fun a=>⟨hm,?_⟩,fun a=>⟨fun b=>⟨hm,?_⟩,fun b=>⟨hm,hm,(hq a).1,(hq a).2,fun c=>⟨hm,?_⟩,fun c=>⟨nJ e hm (hq a).1,rI e (hq a).1,?_⟩⟩⟩⟩⟩
 ·have hL:bp m e=1:=by unfold bp;rw [←e1,a];rfl
  rw [lP (by rw [hL];rfl),hL]
 ·have hL:bp m e=26:=by unfold bp;rw [←e1,a,b];rfl
  rw [lP (by rw [hL];rfl),hL]
 ·have hL:bp m e=aO m e:=by unfold bp;rw [←e1,a,b];rfl
  rw [lP (by rw [hL];exact c),hL]
 ·have hL:bp m e=aO m e:=by unfold bp;rw [←e1,a,b];rfl
  have h0:aO m e=0:=by simpa using c
  have hY:aZ m e=ar (ab m e):=by unfold aZ;rw [hL,c];rfl
  rw [hY,hL,h0]
def Mx:FuncId×Ctr:=(186,ae KE qME mY sW)
theorem PE:CtrOK Tryz.prog KE 186 (ae KE qME mY sW):=by
 refine an (C:=al [I6,uT,uR,zq,nt] Tryz.f186) (aj (.consU M4 rfl (.consU El rfl (.consU Eg rfl (.consU GG rfl (.consU uu rfl .nil))))) _) mixed (fn:=Tryz.f186) Tryz.func186 (by kernel_rfl) (by kernel_rfl) (by kernel_rfl) (by kernel_rfl) (by kernel_rfl) (by kernel_rfl) (Λ:=fun _ _=>none) ?_ ?_
 ·exact fun _ _ _ _ _ _ _ _ h=>by cases h
 ·rintro ⟨m,e,⟨⟩⟩ hw hn
  exact NV m e (hn _ List.mem_cons_self)
abbrev qIo:Pat:=⟨[(0,.a [.h I,.c .any,.c .any,.c .any,.c .any,.c .any,.c .any,.c .any,.c .any,.c .any,.c .any,.c .any,.c .any,.c .any,.c .any,.c .any,.c .any,.c .any,.c .any,.c .any,.c .any,.c .any,.c .any,.c .any,.c .any,.c .any,.c .any,.h U8])],[],0⟩
def HW:Den (tyP qM)→List Prop×Den (tyP qIo):=fun x=>([lO x.1],((bt x.1).Side,(bt x.1).Ending,()))
def aE (m:Match):Match:=if nj m||gr m then IB m else if oA m then mC m 4 else mC m 2
def Ch:Den (tyP qMo)→List Prop×Den (tyP qMo):=fun x=>([aK (mkX x),lO (mkX x)],((aE (mkX x)).Rules.Name,(aE (mkX x)).Rules.Side,(aE (mkX x)).Rules.Innings,(aE (mkX x)).Rules.Overs,(aE (mkX x)).Rules.Balls,(aE (mkX x)).Rules.Quota,(aE (mkX x)).Rules.Wide,(aE (mkX x)).Rules.NoBall,(aE (mkX x)).Rules.FreeHit,(aE (mkX x)).Rules.NewBall,(aE (mkX x)).Rules.FollowOn,(aE (mkX x)).Rules.Reviews,(aE (mkX x)).Rules.Outside,(aE (mkX x)).Rules.Power,(aE (mkX x)).Stage,(aE (mkX x)).First,(aE (mkX x)).Follow,(aE (mkX x)).Penalty.1,(aE (mkX x)).Penalty.2.1,(aE (mkX x)).Result.Win,(aE (mkX x)).Result.Side,(aE (mkX x)).Result.Margin,(aE (mkX x)).Innings,()))
def b7 (m:Match):Int:=if !aR m then 0 else if m.Stage==3 then (bt m).Side else if m.Stage==2 then gF m m.Innings.length else 0
def xA:Den (tyP qM)→List Prop×Den (tyP bb):=fun x=>([dd x.1],(b7 x.1,()))
theorem FC (m:Match) (hm:lO m) :(evPat (al [] Tryz.f195) (fun _=>none) Tryz.f195 qM qIo (m,())).sat fun z_=>z_ =(HW (m,())).2:=by
 refine cast (by kernel_rfl) (?_:let r1:Int:=IntKind.i64.wrap ((↑m.5.length:Int) - 1);let r2:Innings:=m.5.getD r1.toNat (dflt (Ty.nm Nm.Innings));(0≤r1∧r1 <(↑m.5.length:Int))∧(r2.1,r2.23,()) =((bt m).1,(bt m).23,()))
 intro r1 r2
 clear_value (hr1:r1=_) (hr2:r2=_)
 have e0:r1 =(m.Innings.length:Int) - 1:=by have:=hm.1;have:=hm.2;rw [hr1];exact bc (by omega) (by omega)
 have e1:r1.toNat=m.Innings.length - 1:=by omega
 have:=hm.1
 exact ⟨⟨by omega,by omega⟩,by rw [hr2,e1];rfl⟩
def oR:FuncId×Ctr:=(195,ae KE qM qIo HW)
theorem w7:CtrOK Tryz.prog KE 195 (ae KE qM qIo HW):=by
 refine an (C:=al [] Tryz.f195) (aj (CtrsOK.nil) _) mixed (fn:=Tryz.f195) Tryz.func195 (by kernel_rfl) (by kernel_rfl) (by kernel_rfl) (by kernel_rfl) (by kernel_rfl) (by kernel_rfl) (Λ:=fun _ _=>none) ?_ ?_
 ·exact fun _ _ _ _ _ _ _ _ h=>by cases h
 ·rintro ⟨m,⟨⟩⟩ hw hn
  exact FC m (hn _ List.mem_cons_self)
theorem Ca (m:Match) (hm:aK m) (hs:lO m) :(evPat (al [oR,eg,jD,tI] Tryz.f196) (fun _=>none) Tryz.f196 qMo qMo (m.Rules.Name,m.Rules.Side,m.Rules.Innings,m.Rules.Overs,m.Rules.Balls,m.Rules.Quota,m.Rules.Wide,m.Rules.NoBall,m.Rules.FreeHit,m.Rules.NewBall,m.Rules.FollowOn,m.Rules.Reviews,m.Rules.Outside,m.Rules.Power,m.Stage,m.First,m.Follow,m.Penalty.1,m.Penalty.2.1,m.Result.Win,m.Result.Side,m.Result.Margin,m.Innings,())).sat fun z_=>z_ =(Ch (m.Rules.Name,m.Rules.Side,m.Rules.Innings,m.Rules.Overs,m.Rules.Balls,m.Rules.Quota,m.Rules.Wide,m.Rules.NoBall,m.Rules.FreeHit,m.Rules.NewBall,m.Rules.FollowOn,m.Rules.Reviews,m.Rules.Outside,m.Rules.Power,m.Stage,m.First,m.Follow,m.Penalty.1,m.Penalty.2.1,m.Result.Win,m.Result.Side,m.Result.Margin,m.Innings,())).2:=by
 refine cast (by kernel_rfl) (?_:let r1:Match:=Match.mk m.1 5 m.3 m.4 m.5 m.6 m.7;let r2:Int:=IntKind.i64.wrap (fX m m.3 - fX m (cg m.3));let r3:Mir.Result:=bE r1;let r4:Bool:=(↑m.5.length:Int)==IntKind.i64.wrap (2*m.1.3);let r5:Bool:=cond ((↑m.5.length:Int)==2) (cond (decide (m.1.11>0)) (decide (r2≥m.1.11)) false) false;let r6:Bool:=cond r4 r4 (cond ((↑m.5.length:Int)==3) (decide (fX m (bt m).1<fX m (cg (bt m).1))) false);lO m∧((r6=true→dd r1∧True)∧(r6=false→(r5=true→True)∧(r5=false→True)))∧(true=true→(cond r6 m.1.1 (cond r5 m.1.1 m.1.1),cond r6 m.1.2 (cond r5 m.1.2 m.1.2),cond r6 m.1.3 (cond r5 m.1.3 m.1.3),cond r6 m.1.4 (cond r5 m.1.4 m.1.4),cond r6 m.1.5 (cond r5 m.1.5 m.1.5),cond r6 m.1.6 (cond r5 m.1.6 m.1.6),cond r6 m.1.7 (cond r5 m.1.7 m.1.7),cond r6 m.1.8 (cond r5 m.1.8 m.1.8),cond r6 m.1.9 (cond r5 m.1.9 m.1.9),cond r6 m.1.10 (cond r5 m.1.10 m.1.10),cond r6 m.1.11 (cond r5 m.1.11 m.1.11),cond r6 m.1.12 (cond r5 m.1.12 m.1.12),cond r6 m.1.13 (cond r5 m.1.13 m.1.13),cond r6 m.1.14 (cond r5 m.1.14 m.1.14),cond r6 5 (cond r5 4 2),cond r6 m.3 (cond r5 m.3 m.3),cond r6 m.4 (cond r5 m.4 m.4),cond r6 m.6.1 (cond r5 m.6.1 m.6.1),cond r6 m.6.2.1 (cond r5 m.6.2.1 m.6.2.1),cond r6 r3.1 (cond r5 m.7.1 m.7.1),cond r6 r3.2 (cond r5 m.7.2 m.7.2),cond r6 r3.3 (cond r5 m.7.3 m.7.3),m.5,()) =((aE m).1.1,(aE m).1.2,(aE m).1.3,(aE m).1.4,(aE m).1.5,(aE m).1.6,(aE m).1.7,(aE m).1.8,(aE m).1.9,(aE m).1.10,(aE m).1.11,(aE m).1.12,(aE m).1.13,(aE m).1.14,(aE m).2,(aE m).3,(aE m).4,(aE m).6.1,(aE m).6.2.1,(aE m).7.1,(aE m).7.2,(aE m).7.3,(aE m).5,())))
 intro r1 r2 r3 r4 r5 r6
 clear_value (hr1:r1=_) (hr2:r2=_) (hr3:r3=_) (hr4:r4=_) (hr5:r5=_) (hr6:r6=_)
 have e4:r4=nj m:=hr4
 have e6:r6 =(nj m||gr m):=by
  rw [hr6,e4];unfold gr
  cases nj m <;> cases (m.Innings.length:Int)==3 <;> rfl
 have e5:r5=oA m:=by
  rw [hr5,hr2];unfold oA MC
  cases (m.Innings.length:Int)==2 <;> cases decide (m.Rules.FollowOn>0) <;> rfl
 have hC:aE m=if r6 then IB m else if r5 then mC m 4 else mC m 2:=by unfold aE;rw [←e6,←e5]
 refine ⟨hs,⟨fun _=>⟨by rw [hr1];exact hm.1,trivial⟩,fun _=>⟨fun _=>trivial,fun _=>trivial⟩⟩,fun _=>?_⟩
 rw [hC,hr3,hr1]
 cases r6 <;> cases r5 <;> rfl
def wB:FuncId×Ctr:=(196,ae KE qMo qMo Ch)
theorem Ex:CtrOK Tryz.prog KE 196 (ae KE qMo qMo Ch):=by
 refine an (C:=al [oR,eg,jD,tI] Tryz.f196) (aj (.consU w7 rfl (.consU ka rfl (.consU qq rfl (.consU BR rfl .nil)))) _) mixed (fn:=Tryz.f196) Tryz.func196 (by kernel_rfl) (by kernel_rfl) (by kernel_rfl) (by kernel_rfl) (by kernel_rfl) (by kernel_rfl) (Λ:=fun _ _=>none) ?_ ?_
 ·exact fun _ _ _ _ _ _ _ _ h=>by cases h
 ·rintro ⟨v1,v2,v3,v4,v5,v6,v7,v8,v9,v10,v11,v12,v13,v14,v15,v16,v17,v18,v19,v20,v21,v22,xs,⟨⟩⟩ hw hn
  exact Ca (mkM v1 v2 v3 v4 v5 v6 v7 v8 v9 v10 v11 v12 v13 v14 v15 v16 v17 v18 v19 v20 v21 v22 xs) (hn _ List.mem_cons_self) (hn _ (List.mem_cons_of_mem _ List.mem_cons_self))
theorem yF (m:Match) (hm:dd m) :(evPat (al [jE,rj,qb] Tryz.f288) (fun _=>none) Tryz.f288 qM bb (m,())).sat fun z_=>z_ =(xA (m,())).2:=by
 refine cast (by kernel_rfl) (?_:dd m∧((!cW m)=true→(0,()) =(b7 m,()))∧((!cW m)=false→((m.2==3)=true→lO m∧((bt m).1,()) =(b7 m,()))∧((m.2==3)=false→((m.2==2)=true→(gF m (↑m.5.length:Int),()) =(b7 m,()))∧((m.2==2)=false→(0,()) =(b7 m,())))))
 rw [←s6] at *
 refine ⟨hm,fun h=>?_,fun h=>⟨fun a=>⟨?_,?_⟩,fun a=>⟨fun b=>?_,fun b=>?_⟩⟩⟩
 ·have:b7 m=0:=by unfold b7;rw [h];rfl
  rw [this]
 ·have hv:aR m=true:=by simpa using h
  exact ⟨dX hv (by simpa using a),by have:=(lR hv).2;omega⟩
 ·have:b7 m =(bt m).Side:=by unfold b7;rw [h,a];rfl
  rw [this]
 ·have:b7 m=gF m m.Innings.length:=by unfold b7;rw [h,a,b];rfl
  rw [this]
 ·have:b7 m=0:=by unfold b7;rw [h,a,b];rfl
  rw [this]
def tH:FuncId×Ctr:=(288,ae KE qM bb xA)
theorem BQ:CtrOK Tryz.prog KE 288 (ae KE qM bb xA):=by
 refine an (C:=al [jE,rj,qb] Tryz.f288) (aj (.consU qt rfl (.consU Ae rfl (.consU tQ rfl .nil))) _) mixed (fn:=Tryz.f288) Tryz.func288 (by kernel_rfl) (by kernel_rfl) (by kernel_rfl) (by kernel_rfl) (by kernel_rfl) (by kernel_rfl) (Λ:=fun _ _=>none) ?_ ?_
 ·exact fun _ _ _ _ _ _ _ _ h=>by cases h
 ·rintro ⟨m,⟨⟩⟩ hw hn
  exact yF m (hn _ List.mem_cons_self)
abbrev TME:Type:=ByteArray×Int×Int×Int×Int×Int×Int×Int×Bool×Int×Int×Int×Int×List Phase×Int×Int×Bool×Int×Int×Int×Int×Int×Mir.Event×List Innings×Unit
def _root_.Go.Mir.mkE (x:TME):Match:=(mkM x.1 x.2.1 x.2.2.1 x.2.2.2.1 x.2.2.2.2.1 x.2.2.2.2.2.1 x.2.2.2.2.2.2.1 x.2.2.2.2.2.2.2.1 x.2.2.2.2.2.2.2.2.1 x.2.2.2.2.2.2.2.2.2.1 x.2.2.2.2.2.2.2.2.2.2.1 x.2.2.2.2.2.2.2.2.2.2.2.1 x.2.2.2.2.2.2.2.2.2.2.2.2.1 x.2.2.2.2.2.2.2.2.2.2.2.2.2.1 x.2.2.2.2.2.2.2.2.2.2.2.2.2.2.1 x.2.2.2.2.2.2.2.2.2.2.2.2.2.2.2.1 x.2.2.2.2.2.2.2.2.2.2.2.2.2.2.2.2.1 x.2.2.2.2.2.2.2.2.2.2.2.2.2.2.2.2.2.1 x.2.2.2.2.2.2.2.2.2.2.2.2.2.2.2.2.2.2.1 x.2.2.2.2.2.2.2.2.2.2.2.2.2.2.2.2.2.2.2.1 x.2.2.2.2.2.2.2.2.2.2.2.2.2.2.2.2.2.2.2.2.1 x.2.2.2.2.2.2.2.2.2.2.2.2.2.2.2.2.2.2.2.2.2.1 x.2.2.2.2.2.2.2.2.2.2.2.2.2.2.2.2.2.2.2.2.2.2.2.1)
abbrev uz:Pat:=⟨[(0,.a (pZ (.c (.osl 0 1)))),(1,.h (.nm .Event))],[(0,.row 1 (.nm .Innings))],2⟩
abbrev uA:Pat:=⟨[(0,.a (pZ (.c (.osl 0 2)))),(1,.h I)],[(0,.row 2 (.nm .Innings))],3⟩
def HY:Den (tyP uz)→List Prop×Den (tyP uA):=fun x=>([aK (mkE x),aR (mkE x)=true,(mkE x).Stage=2],((aa (mkE x) x.2.2.2.2.2.2.2.2.2.2.2.2.2.2.2.2.2.2.2.2.2.2.1).Rules.Name,(aa (mkE x) x.2.2.2.2.2.2.2.2.2.2.2.2.2.2.2.2.2.2.2.2.2.2.1).Rules.Side,(aa (mkE x) x.2.2.2.2.2.2.2.2.2.2.2.2.2.2.2.2.2.2.2.2.2.2.1).Rules.Innings,(aa (mkE x) x.2.2.2.2.2.2.2.2.2.2.2.2.2.2.2.2.2.2.2.2.2.2.1).Rules.Overs,(aa (mkE x) x.2.2.2.2.2.2.2.2.2.2.2.2.2.2.2.2.2.2.2.2.2.2.1).Rules.Balls,(aa (mkE x) x.2.2.2.2.2.2.2.2.2.2.2.2.2.2.2.2.2.2.2.2.2.2.1).Rules.Quota,(aa (mkE x) x.2.2.2.2.2.2.2.2.2.2.2.2.2.2.2.2.2.2.2.2.2.2.1).Rules.Wide,(aa (mkE x) x.2.2.2.2.2.2.2.2.2.2.2.2.2.2.2.2.2.2.2.2.2.2.1).Rules.NoBall,(aa (mkE x) x.2.2.2.2.2.2.2.2.2.2.2.2.2.2.2.2.2.2.2.2.2.2.1).Rules.FreeHit,(aa (mkE x) x.2.2.2.2.2.2.2.2.2.2.2.2.2.2.2.2.2.2.2.2.2.2.1).Rules.NewBall,(aa (mkE x) x.2.2.2.2.2.2.2.2.2.2.2.2.2.2.2.2.2.2.2.2.2.2.1).Rules.FollowOn,(aa (mkE x) x.2.2.2.2.2.2.2.2.2.2.2.2.2.2.2.2.2.2.2.2.2.2.1).Rules.Reviews,(aa (mkE x) x.2.2.2.2.2.2.2.2.2.2.2.2.2.2.2.2.2.2.2.2.2.2.1).Rules.Outside,(aa (mkE x) x.2.2.2.2.2.2.2.2.2.2.2.2.2.2.2.2.2.2.2.2.2.2.1).Rules.Power,(aa (mkE x) x.2.2.2.2.2.2.2.2.2.2.2.2.2.2.2.2.2.2.2.2.2.2.1).Stage,(aa (mkE x) x.2.2.2.2.2.2.2.2.2.2.2.2.2.2.2.2.2.2.2.2.2.2.1).First,(aa (mkE x) x.2.2.2.2.2.2.2.2.2.2.2.2.2.2.2.2.2.2.2.2.2.2.1).Follow,(aa (mkE x) x.2.2.2.2.2.2.2.2.2.2.2.2.2.2.2.2.2.2.2.2.2.2.1).Penalty.1,(aa (mkE x) x.2.2.2.2.2.2.2.2.2.2.2.2.2.2.2.2.2.2.2.2.2.2.1).Penalty.2.1,(aa (mkE x) x.2.2.2.2.2.2.2.2.2.2.2.2.2.2.2.2.2.2.2.2.2.2.1).Result.Win,(aa (mkE x) x.2.2.2.2.2.2.2.2.2.2.2.2.2.2.2.2.2.2.2.2.2.2.1).Result.Side,(aa (mkE x) x.2.2.2.2.2.2.2.2.2.2.2.2.2.2.2.2.2.2.2.2.2.2.1).Result.Margin,aQ (mkE x) x.2.2.2.2.2.2.2.2.2.2.2.2.2.2.2.2.2.2.2.2.2.2.1,(aa (mkE x) x.2.2.2.2.2.2.2.2.2.2.2.2.2.2.2.2.2.2.2.2.2.2.1).Innings,()))
def H5:Den (tyP uz)→List Prop×Den (tyP uA):=fun x=>([aK (mkE x),aR (mkE x)=true,(mkE x).Stage=3,bB x.2.2.2.2.2.2.2.2.2.2.2.2.2.2.2.2.2.2.2.2.2.2.1=0],((ag (mkE x) x.2.2.2.2.2.2.2.2.2.2.2.2.2.2.2.2.2.2.2.2.2.2.1).Rules.Name,(ag (mkE x) x.2.2.2.2.2.2.2.2.2.2.2.2.2.2.2.2.2.2.2.2.2.2.1).Rules.Side,(ag (mkE x) x.2.2.2.2.2.2.2.2.2.2.2.2.2.2.2.2.2.2.2.2.2.2.1).Rules.Innings,(ag (mkE x) x.2.2.2.2.2.2.2.2.2.2.2.2.2.2.2.2.2.2.2.2.2.2.1).Rules.Overs,(ag (mkE x) x.2.2.2.2.2.2.2.2.2.2.2.2.2.2.2.2.2.2.2.2.2.2.1).Rules.Balls,(ag (mkE x) x.2.2.2.2.2.2.2.2.2.2.2.2.2.2.2.2.2.2.2.2.2.2.1).Rules.Quota,(ag (mkE x) x.2.2.2.2.2.2.2.2.2.2.2.2.2.2.2.2.2.2.2.2.2.2.1).Rules.Wide,(ag (mkE x) x.2.2.2.2.2.2.2.2.2.2.2.2.2.2.2.2.2.2.2.2.2.2.1).Rules.NoBall,(ag (mkE x) x.2.2.2.2.2.2.2.2.2.2.2.2.2.2.2.2.2.2.2.2.2.2.1).Rules.FreeHit,(ag (mkE x) x.2.2.2.2.2.2.2.2.2.2.2.2.2.2.2.2.2.2.2.2.2.2.1).Rules.NewBall,(ag (mkE x) x.2.2.2.2.2.2.2.2.2.2.2.2.2.2.2.2.2.2.2.2.2.2.1).Rules.FollowOn,(ag (mkE x) x.2.2.2.2.2.2.2.2.2.2.2.2.2.2.2.2.2.2.2.2.2.2.1).Rules.Reviews,(ag (mkE x) x.2.2.2.2.2.2.2.2.2.2.2.2.2.2.2.2.2.2.2.2.2.2.1).Rules.Outside,(ag (mkE x) x.2.2.2.2.2.2.2.2.2.2.2.2.2.2.2.2.2.2.2.2.2.2.1).Rules.Power,(ag (mkE x) x.2.2.2.2.2.2.2.2.2.2.2.2.2.2.2.2.2.2.2.2.2.2.1).Stage,(ag (mkE x) x.2.2.2.2.2.2.2.2.2.2.2.2.2.2.2.2.2.2.2.2.2.2.1).First,(ag (mkE x) x.2.2.2.2.2.2.2.2.2.2.2.2.2.2.2.2.2.2.2.2.2.2.1).Follow,(ag (mkE x) x.2.2.2.2.2.2.2.2.2.2.2.2.2.2.2.2.2.2.2.2.2.2.1).Penalty.1,(ag (mkE x) x.2.2.2.2.2.2.2.2.2.2.2.2.2.2.2.2.2.2.2.2.2.2.1).Penalty.2.1,(ag (mkE x) x.2.2.2.2.2.2.2.2.2.2.2.2.2.2.2.2.2.2.2.2.2.2.1).Result.Win,(ag (mkE x) x.2.2.2.2.2.2.2.2.2.2.2.2.2.2.2.2.2.2.2.2.2.2.1).Result.Side,(ag (mkE x) x.2.2.2.2.2.2.2.2.2.2.2.2.2.2.2.2.2.2.2.2.2.2.1).Result.Margin,ch (mkE x) x.2.2.2.2.2.2.2.2.2.2.2.2.2.2.2.2.2.2.2.2.2.2.1,(ag (mkE x) x.2.2.2.2.2.2.2.2.2.2.2.2.2.2.2.2.2.2.2.2.2.2.1).Innings,()))
def N1:Den (tyP uz)→List Prop×Den (tyP uA):=fun x=>([aK (mkE x),aR (mkE x)=true,bB x.2.2.2.2.2.2.2.2.2.2.2.2.2.2.2.2.2.2.2.2.2.2.1=0],((ab (mkE x) x.2.2.2.2.2.2.2.2.2.2.2.2.2.2.2.2.2.2.2.2.2.2.1).Rules.Name,(ab (mkE x) x.2.2.2.2.2.2.2.2.2.2.2.2.2.2.2.2.2.2.2.2.2.2.1).Rules.Side,(ab (mkE x) x.2.2.2.2.2.2.2.2.2.2.2.2.2.2.2.2.2.2.2.2.2.2.1).Rules.Innings,(ab (mkE x) x.2.2.2.2.2.2.2.2.2.2.2.2.2.2.2.2.2.2.2.2.2.2.1).Rules.Overs,(ab (mkE x) x.2.2.2.2.2.2.2.2.2.2.2.2.2.2.2.2.2.2.2.2.2.2.1).Rules.Balls,(ab (mkE x) x.2.2.2.2.2.2.2.2.2.2.2.2.2.2.2.2.2.2.2.2.2.2.1).Rules.Quota,(ab (mkE x) x.2.2.2.2.2.2.2.2.2.2.2.2.2.2.2.2.2.2.2.2.2.2.1).Rules.Wide,(ab (mkE x) x.2.2.2.2.2.2.2.2.2.2.2.2.2.2.2.2.2.2.2.2.2.2.1).Rules.NoBall,(ab (mkE x) x.2.2.2.2.2.2.2.2.2.2.2.2.2.2.2.2.2.2.2.2.2.2.1).Rules.FreeHit,(ab (mkE x) x.2.2.2.2.2.2.2.2.2.2.2.2.2.2.2.2.2.2.2.2.2.2.1).Rules.NewBall,(ab (mkE x) x.2.2.2.2.2.2.2.2.2.2.2.2.2.2.2.2.2.2.2.2.2.2.1).Rules.FollowOn,(ab (mkE x) x.2.2.2.2.2.2.2.2.2.2.2.2.2.2.2.2.2.2.2.2.2.2.1).Rules.Reviews,(ab (mkE x) x.2.2.2.2.2.2.2.2.2.2.2.2.2.2.2.2.2.2.2.2.2.2.1).Rules.Outside,(ab (mkE x) x.2.2.2.2.2.2.2.2.2.2.2.2.2.2.2.2.2.2.2.2.2.2.1).Rules.Power,(ab (mkE x) x.2.2.2.2.2.2.2.2.2.2.2.2.2.2.2.2.2.2.2.2.2.2.1).Stage,(ab (mkE x) x.2.2.2.2.2.2.2.2.2.2.2.2.2.2.2.2.2.2.2.2.2.2.1).First,(ab (mkE x) x.2.2.2.2.2.2.2.2.2.2.2.2.2.2.2.2.2.2.2.2.2.2.1).Follow,(ab (mkE x) x.2.2.2.2.2.2.2.2.2.2.2.2.2.2.2.2.2.2.2.2.2.2.1).Penalty.1,(ab (mkE x) x.2.2.2.2.2.2.2.2.2.2.2.2.2.2.2.2.2.2.2.2.2.2.1).Penalty.2.1,(ab (mkE x) x.2.2.2.2.2.2.2.2.2.2.2.2.2.2.2.2.2.2.2.2.2.2.1).Result.Win,(ab (mkE x) x.2.2.2.2.2.2.2.2.2.2.2.2.2.2.2.2.2.2.2.2.2.2.1).Result.Side,(ab (mkE x) x.2.2.2.2.2.2.2.2.2.2.2.2.2.2.2.2.2.2.2.2.2.2.1).Result.Margin,aO (mkE x) x.2.2.2.2.2.2.2.2.2.2.2.2.2.2.2.2.2.2.2.2.2.2.1,(ab (mkE x) x.2.2.2.2.2.2.2.2.2.2.2.2.2.2.2.2.2.2.2.2.2.2.1).Innings,()))
abbrev Uf:List (Nat×PB):= [(2,.cells (pZ (.c (.osl 0 1)))),(3,.dat (.nm .Event)),(4,.dat (.nm .Match)),(0,.row 1 (.nm .Innings))]
abbrev qPl:Pat:=⟨[(2,.c (.ptr 2 0)),(3,.c (.ptr 3 0)),(4,.c (.ptr 4 0)),(9,.h I)],Uf,5⟩
abbrev xPl:List (Lf×Pat):= [(.ret,⟨[(4,.c (.ptr 4 0)),(5,.h I)],[(4,.cells (pZ (.c (.osl 0 1)))),(0,.row 1 (.nm .Innings))],5⟩),(.ext 0,⟨[(2,.c (.ptr 2 0)),(3,.c (.ptr 3 0)),(4,.c (.ptr 4 0))],Uf,5⟩)]
abbrev TP1:Type:=ByteArray×Int×Int×Int×Int×Int×Int×Int×Bool×Int×Int×Int×Int×List Phase×Int×Int×Bool×Int×Int×Int×Int×Int×Mir.Event×Match×List Innings×Unit
abbrev TPl:Type:=Int×TP1
def y6 (x:TPl):Prop:=(-1≤x.1∧x.1<x.2.2.2.2.2.2.2.2.2.2.2.2.2.2.2.2.2.2.2.2.2.2.2.2.2.1.length∧x.2.2.2.2.2.2.2.2.2.2.2.2.2.2.2.2.2.2.2.2.2.2.2.2.2.1.length≤1000000)∧eu x.2.2.2.2.2.2.2.2.2.2.2.2.2.2.2.2.2.2.2.2.2.2.2.2.2.1
def Kd (x:TPl):Nat:=(x.1+1).toNat
def V5 (y:TP1) (xs:List Innings):Int×TM:=(0,y.1,y.2.1,y.2.2.1,y.2.2.2.1,y.2.2.2.2.1,y.2.2.2.2.2.1,y.2.2.2.2.2.2.1,y.2.2.2.2.2.2.2.1,y.2.2.2.2.2.2.2.2.1,y.2.2.2.2.2.2.2.2.2.1,y.2.2.2.2.2.2.2.2.2.2.1,y.2.2.2.2.2.2.2.2.2.2.2.1,y.2.2.2.2.2.2.2.2.2.2.2.2.1,y.2.2.2.2.2.2.2.2.2.2.2.2.2.1,y.2.2.2.2.2.2.2.2.2.2.2.2.2.2.1,y.2.2.2.2.2.2.2.2.2.2.2.2.2.2.2.1,y.2.2.2.2.2.2.2.2.2.2.2.2.2.2.2.2.1,y.2.2.2.2.2.2.2.2.2.2.2.2.2.2.2.2.2.1,y.2.2.2.2.2.2.2.2.2.2.2.2.2.2.2.2.2.2.1,y.2.2.2.2.2.2.2.2.2.2.2.2.2.2.2.2.2.2.2.1,y.2.2.2.2.2.2.2.2.2.2.2.2.2.2.2.2.2.2.2.2.1,y.2.2.2.2.2.2.2.2.2.2.2.2.2.2.2.2.2.2.2.2.2.1,xs,())
def Ao (y:TP1):Option Nat→Sum (Int×TM) TP1
 | some k=> .inl (V5 y (y.2.2.2.2.2.2.2.2.2.2.2.2.2.2.2.2.2.2.2.2.2.2.2.2.1.set k (yw (y.2.2.2.2.2.2.2.2.2.2.2.2.2.2.2.2.2.2.2.2.2.2.2.2.1.getD k Innings.zero))))
 | none=> .inr y
def mT (x:TPl):Sum (Int×TM) TP1:=Ao x.2 (ez x.2.2.2.2.2.2.2.2.2.2.2.2.2.2.2.2.2.2.2.2.2.2.2.1.Side x.2.2.2.2.2.2.2.2.2.2.2.2.2.2.2.2.2.2.2.2.2.2.2.2.2.1 (x.1+1).toNat)
theorem Jl {r:Rules} (h:aq r=0):IntKind.i64.wrap (2*r.Innings)=2*r.Innings:=by
 have:=lW h
 exact bc (by omega) (by omega)
theorem CY {m:Match} (h:aR m=true) (h2:m.Stage=2) :(m.Innings.length:Int)<2*m.Rules.Innings∧m.Innings.length<4:=by
 have hc:=ox h
 have h1:=oy h
 have h3:=Jl hc
 have h4:=(lR h).1
 have h5:=lW hc
 simp only [gK,Bool.or_eq_false_iff,W,h3,h2] at h1
 have h6:=h1.1.1.2
 simp at h6
 omega
theorem HG (m:Match) (e:Mir.Event) (hm:aK m) (hv:aR m=true) (h2:m.Stage=2) :(evPat (al [tH,eg,jD,zJ,ri] Tryz.f244) (fun _=>none) Tryz.f244 uz uA (m.Rules.Name,m.Rules.Side,m.Rules.Innings,m.Rules.Overs,m.Rules.Balls,m.Rules.Quota,m.Rules.Wide,m.Rules.NoBall,m.Rules.FreeHit,m.Rules.NewBall,m.Rules.FollowOn,m.Rules.Reviews,m.Rules.Outside,m.Rules.Power,m.Stage,m.First,m.Follow,m.Penalty.1,m.Penalty.2.1,m.Result.Win,m.Result.Side,m.Result.Margin,e,m.Innings,())).sat fun z_=>z_ =(HY (m.Rules.Name,m.Rules.Side,m.Rules.Innings,m.Rules.Overs,m.Rules.Balls,m.Rules.Quota,m.Rules.Wide,m.Rules.NoBall,m.Rules.FreeHit,m.Rules.NewBall,m.Rules.FollowOn,m.Rules.Reviews,m.Rules.Outside,m.Rules.Power,m.Stage,m.First,m.Follow,m.Penalty.1,m.Penalty.2.1,m.Result.Win,m.Result.Side,m.Result.Margin,e,m.Innings,())).2:=by
 refine cast (by kernel_rfl) (?_:let r1:Int:=IntKind.i64.wrap (b7 m - 1);let r2:Bool:=r1==0;let r3:Bool:=r1==1;let r4:Int:=cond (IntKind.i64.wrap ((↑m.5.length:Int)+1)==IntKind.i64.wrap (2*m.1.3)) (IntKind.i64.wrap (IntKind.i64.wrap (fX m (cg (b7 m)) - fX m (b7 m))+1)) 0;let r5:Innings:=iy m.1 (b7 m) r4 m.6.1;let r6:Innings:=iy m.1 (b7 m) r4 m.6.2.1;let r7:Int:=cc m.1 r5 e;let r8:Int:=cc m.1 r6 e;let r9:Bool:=gS m.1 (b7 m) r4 m.6.1 != 0;let r10:Bool:=gS m.1 (b7 m) r4 m.6.2.1 != 0;let r11:List Innings:= [dw m.1 r5 e];let r12:List Innings:= [dw m.1 r6 e];let r13:Bool:=r7 != 0;let r14:Bool:=r8 != 0;dd m∧(r2=true→((0:Int)≤0∧0 <(↑(2:Nat):Int))∧(r9=true→(m.1.1,m.1.2,m.1.3,m.1.4,m.1.5,m.1.6,m.1.7,m.1.8,m.1.9,m.1.10,m.1.11,m.1.12,m.1.13,m.1.14,m.2,m.3,m.4,m.6.1,m.6.2.1,m.7.1,m.7.2,m.7.3,1,m.5,()) =((aa m e).1.1,(aa m e).1.2,(aa m e).1.3,(aa m e).1.4,(aa m e).1.5,(aa m e).1.6,(aa m e).1.7,(aa m e).1.8,(aa m e).1.9,(aa m e).1.10,(aa m e).1.11,(aa m e).1.12,(aa m e).1.13,(aa m e).1.14,(aa m e).2,(aa m e).3,(aa m e).4,(aa m e).6.1,(aa m e).6.2.1,(aa m e).7.1,(aa m e).7.2,(aa m e).7.3,aQ m e,(aa m e).5,()))∧(r9=false→ai r5∧(r13=true→(m.1.1,m.1.2,m.1.3,m.1.4,m.1.5,m.1.6,m.1.7,m.1.8,m.1.9,m.1.10,m.1.11,m.1.12,m.1.13,m.1.14,m.2,m.3,m.4,m.6.1,m.6.2.1,m.7.1,m.7.2,m.7.3,r7,m.5,()) =((aa m e).1.1,(aa m e).1.2,(aa m e).1.3,(aa m e).1.4,(aa m e).1.5,(aa m e).1.6,(aa m e).1.7,(aa m e).1.8,(aa m e).1.9,(aa m e).1.10,(aa m e).1.11,(aa m e).1.12,(aa m e).1.13,(aa m e).1.14,(aa m e).2,(aa m e).3,(aa m e).4,(aa m e).6.1,(aa m e).6.2.1,(aa m e).7.1,(aa m e).7.2,(aa m e).7.3,aQ m e,(aa m e).5,()))∧(r13=false→(r2=true→((0:Int)≤0∧0 <(↑(2:Nat):Int))∧(m.5.length+r11.length) *(304:Nat)≤(70368744177664:Nat)∧(m.1.1,m.1.2,m.1.3,m.1.4,m.1.5,m.1.6,m.1.7,m.1.8,m.1.9,m.1.10,m.1.11,m.1.12,m.1.13,m.1.14,3,m.3,m.4,0,m.6.2.1,m.7.1,m.7.2,m.7.3,0,m.5++r11,()) =((aa m e).1.1,(aa m e).1.2,(aa m e).1.3,(aa m e).1.4,(aa m e).1.5,(aa m e).1.6,(aa m e).1.7,(aa m e).1.8,(aa m e).1.9,(aa m e).1.10,(aa m e).1.11,(aa m e).1.12,(aa m e).1.13,(aa m e).1.14,(aa m e).2,(aa m e).3,(aa m e).4,(aa m e).6.1,(aa m e).6.2.1,(aa m e).7.1,(aa m e).7.2,(aa m e).7.3,aQ m e,(aa m e).5,()))∧(r2=false→(r3=true→((0:Int)≤1∧1 <(↑(2:Nat):Int))∧(m.5.length+r11.length) *(304:Nat)≤(70368744177664:Nat)∧(m.1.1,m.1.2,m.1.3,m.1.4,m.1.5,m.1.6,m.1.7,m.1.8,m.1.9,m.1.10,m.1.11,m.1.12,m.1.13,m.1.14,3,m.3,m.4,m.6.1,0,m.7.1,m.7.2,m.7.3,0,m.5++r11,()) =((aa m e).1.1,(aa m e).1.2,(aa m e).1.3,(aa m e).1.4,(aa m e).1.5,(aa m e).1.6,(aa m e).1.7,(aa m e).1.8,(aa m e).1.9,(aa m e).1.10,(aa m e).1.11,(aa m e).1.12,(aa m e).1.13,(aa m e).1.14,(aa m e).2,(aa m e).3,(aa m e).4,(aa m e).6.1,(aa m e).6.2.1,(aa m e).7.1,(aa m e).7.2,(aa m e).7.3,aQ m e,(aa m e).5,()))∧(r3=false→False∧True)))))∧(r2=false→(r3=true→((0:Int)≤1∧1 <(↑(2:Nat):Int))∧(r10=true→(m.1.1,m.1.2,m.1.3,m.1.4,m.1.5,m.1.6,m.1.7,m.1.8,m.1.9,m.1.10,m.1.11,m.1.12,m.1.13,m.1.14,m.2,m.3,m.4,m.6.1,m.6.2.1,m.7.1,m.7.2,m.7.3,1,m.5,()) =((aa m e).1.1,(aa m e).1.2,(aa m e).1.3,(aa m e).1.4,(aa m e).1.5,(aa m e).1.6,(aa m e).1.7,(aa m e).1.8,(aa m e).1.9,(aa m e).1.10,(aa m e).1.11,(aa m e).1.12,(aa m e).1.13,(aa m e).1.14,(aa m e).2,(aa m e).3,(aa m e).4,(aa m e).6.1,(aa m e).6.2.1,(aa m e).7.1,(aa m e).7.2,(aa m e).7.3,aQ m e,(aa m e).5,()))∧(r10=false→ai r6∧(r14=true→(m.1.1,m.1.2,m.1.3,m.1.4,m.1.5,m.1.6,m.1.7,m.1.8,m.1.9,m.1.10,m.1.11,m.1.12,m.1.13,m.1.14,m.2,m.3,m.4,m.6.1,m.6.2.1,m.7.1,m.7.2,m.7.3,r8,m.5,()) =((aa m e).1.1,(aa m e).1.2,(aa m e).1.3,(aa m e).1.4,(aa m e).1.5,(aa m e).1.6,(aa m e).1.7,(aa m e).1.8,(aa m e).1.9,(aa m e).1.10,(aa m e).1.11,(aa m e).1.12,(aa m e).1.13,(aa m e).1.14,(aa m e).2,(aa m e).3,(aa m e).4,(aa m e).6.1,(aa m e).6.2.1,(aa m e).7.1,(aa m e).7.2,(aa m e).7.3,aQ m e,(aa m e).5,()))∧(r14=false→(r2=true→((0:Int)≤0∧0 <(↑(2:Nat):Int))∧(m.5.length+r12.length) *(304:Nat)≤(70368744177664:Nat)∧(m.1.1,m.1.2,m.1.3,m.1.4,m.1.5,m.1.6,m.1.7,m.1.8,m.1.9,m.1.10,m.1.11,m.1.12,m.1.13,m.1.14,3,m.3,m.4,0,m.6.2.1,m.7.1,m.7.2,m.7.3,0,m.5++r12,()) =((aa m e).1.1,(aa m e).1.2,(aa m e).1.3,(aa m e).1.4,(aa m e).1.5,(aa m e).1.6,(aa m e).1.7,(aa m e).1.8,(aa m e).1.9,(aa m e).1.10,(aa m e).1.11,(aa m e).1.12,(aa m e).1.13,(aa m e).1.14,(aa m e).2,(aa m e).3,(aa m e).4,(aa m e).6.1,(aa m e).6.2.1,(aa m e).7.1,(aa m e).7.2,(aa m e).7.3,aQ m e,(aa m e).5,()))∧(r2=false→(r3=true→((0:Int)≤1∧1 <(↑(2:Nat):Int))∧(m.5.length+r12.length) *(304:Nat)≤(70368744177664:Nat)∧(m.1.1,m.1.2,m.1.3,m.1.4,m.1.5,m.1.6,m.1.7,m.1.8,m.1.9,m.1.10,m.1.11,m.1.12,m.1.13,m.1.14,3,m.3,m.4,m.6.1,0,m.7.1,m.7.2,m.7.3,0,m.5++r12,()) =((aa m e).1.1,(aa m e).1.2,(aa m e).1.3,(aa m e).1.4,(aa m e).1.5,(aa m e).1.6,(aa m e).1.7,(aa m e).1.8,(aa m e).1.9,(aa m e).1.10,(aa m e).1.11,(aa m e).1.12,(aa m e).1.13,(aa m e).1.14,(aa m e).2,(aa m e).3,(aa m e).4,(aa m e).6.1,(aa m e).6.2.1,(aa m e).7.1,(aa m e).7.2,(aa m e).7.3,aQ m e,(aa m e).5,()))∧(r3=false→False∧True)))))∧(r3=false→False∧True)))
 intro r1 r2 r3 r4 r5 r6 r7 r8 r9 r10 r11 r12 r13 r14
 clear_value (hr1:r1=_) (hr2:r2=_) (hr3:r3=_) (hr4:r4=_) (hr5:r5=_) (hr6:r6=_) (hr7:r7=_) (hr8:r8=_) (hr9:r9=_) (hr10:r10=_) (hr11:r11=_) (hr12:r12=_) (hr13:r13=_) (hr14:r14=_)
 have hx:=hm.2.1
 have h :(m.Stage != 2)=false:=by rw [h2];rfl
 have hb:=CY hv h2
 have hB:b7 m=cM m (m.Innings.length:Int):=by
  unfold b7;rw [hv,h2]
  exact (EF m (by omega) (by omega)).symm
 have hT:r4=fO m (cM m (m.Innings.length:Int)):=by
  rw [hr4,hB]
  unfold fO W
  rw [Jl (ox hv),bc (n:=(m.Innings.length:Int)+1) (by omega) (by omega)]
  by_cases hc :(m.Innings.length:Int)+1=2*m.Rules.Innings
  ·rw [hc];simp
  ·have :(m.Innings.length:Int)+1<2*m.Rules.Innings:=by omega
   have h5 :((m.Innings.length:Int)+1==2*m.Rules.Innings)=false:=by simpa using hc
   rw [h5]
   simp [this]
 rw [hB] at hr1 hr5 hr6 hr9 hr10
 clear hr4 hB
 rcases Db hv h2 with hS|hS
 ·have hS:cM m (m.Innings.length:Int)=1:=hS
  have e2:r2=true:=by rw [hr2,hr1,hS];rfl
  have hX:r5=x6 m:=by rw [hr5,hT];unfold x6 pL cx;rw [hS];rfl
  have e8:r9 =(lU m != 0):=by rw [hr9,hT];unfold lU pL cx;rw [hS];rfl
  have hI:ai r5:=by rw [hr5];exact jI _ _ _ _
  have hA :(m.Innings.length+r11.length)*304≤70368744177664:=by rw [hr11];simp only [List.length_singleton];omega
  have hq :(0≤(0:Int)∧(0:Int) <((2:Nat):Int)):=by decide
  have c1:r9=true→aQ m e=1∧aa m e=m:=fun a=>by
   have hL:aQ m e=1:=by unfold aQ;rw [h,←e8,a];rfl
   exact ⟨hL,by unfold aa;rw [hL];rfl⟩
  have c2:r9=false→r13=true→aQ m e=r7∧aa m e=m:=fun a b=>by
   have hL:aQ m e=r7:=by unfold aQ;rw [h,←e8,a,hr7,hX];rfl
   exact ⟨hL,by unfold aa;rw [hL,←hr13,b];rfl⟩
  have c3:r9=false→r13=false→aQ m e=0∧aa m e=mn m e:=fun a b=>by
   have hL:aQ m e=r7:=by unfold aQ;rw [h,←e8,a,hr7,hX];rfl
   have hL0:aQ m e=0:=by rw [hL];rw [hr13] at b;simpa using b
   exact ⟨hL0,by unfold aa;rw [hL0];rfl⟩
  subst e2
  refine ⟨hm.1,fun _=>⟨hq,fun a=>?_,fun a=>⟨hI,fun b=>?_,fun b=>⟨fun _=>⟨hq,hA,?_⟩,fun z=>Bool.noConfusion z⟩⟩⟩,fun z=>Bool.noConfusion z⟩
  ·rw [(c1 a).1,(c1 a).2]
  ·rw [(c2 a b).1,(c2 a b).2]
  ·rw [(c3 a b).1,(c3 a b).2];unfold mn rQ cx;rw [hS,hr11,hX];rfl
 ·have hS:cM m (m.Innings.length:Int)=2:=hS
  have e2:r2=false:=by rw [hr2,hr1,hS];rfl
  have e3:r3=true:=by rw [hr3,hr1,hS];rfl
  have hX:r6=x6 m:=by rw [hr6,hT];unfold x6 pL cx;rw [hS];rfl
  have e8:r10 =(lU m != 0):=by rw [hr10,hT];unfold lU pL cx;rw [hS];rfl
  have hI:ai r6:=by rw [hr6];exact jI _ _ _ _
  have hA :(m.Innings.length+r12.length)*304≤70368744177664:=by rw [hr12];simp only [List.length_singleton];omega
  have hq :(0≤(1:Int)∧(1:Int) <((2:Nat):Int)):=by decide
  have c1:r10=true→aQ m e=1∧aa m e=m:=fun a=>by
   have hL:aQ m e=1:=by unfold aQ;rw [h,←e8,a];rfl
   exact ⟨hL,by unfold aa;rw [hL];rfl⟩
  have c2:r10=false→r14=true→aQ m e=r8∧aa m e=m:=fun a b=>by
   have hL:aQ m e=r8:=by unfold aQ;rw [h,←e8,a,hr8,hX];rfl
   exact ⟨hL,by unfold aa;rw [hL,←hr14,b];rfl⟩
  have c3:r10=false→r14=false→aQ m e=0∧aa m e=mn m e:=fun a b=>by
   have hL:aQ m e=r8:=by unfold aQ;rw [h,←e8,a,hr8,hX];rfl
   have hL0:aQ m e=0:=by rw [hL];rw [hr14] at b;simpa using b
   exact ⟨hL0,by unfold aa;rw [hL0];rfl⟩
  subst e2 e3
  refine ⟨hm.1,fun z=>Bool.noConfusion z,fun _=>⟨fun _=>⟨hq,fun a=>?_,fun a=>⟨hI,fun b=>?_,fun b=>⟨fun z=>Bool.noConfusion z,fun _=>⟨fun _=>⟨hq,hA,?_⟩,fun z=>Bool.noConfusion z⟩⟩⟩⟩,fun z=>Bool.noConfusion z⟩⟩
  ·rw [(c1 a).1,(c1 a).2]
  ·rw [(c2 a b).1,(c2 a b).2]
  ·rw [(c3 a b).1,(c3 a b).2];unfold mn rQ cx;rw [hS,hr12,hX];rfl
def DX:FuncId×Ctr:=(244,ae KE uz uA HY)
theorem KA:CtrOK Tryz.prog KE 244 (ae KE uz uA HY):=by
 refine an (C:=al [tH,eg,jD,zJ,ri] Tryz.f244) (aj (.consU BQ rfl (.consU ka rfl (.consU qq rfl (.consU GO rfl (.consU Ad rfl .nil))))) _) mixed (fn:=Tryz.f244) Tryz.func244 (by kernel_rfl) (by kernel_rfl) (by kernel_rfl) (by kernel_rfl) (by kernel_rfl) (by kernel_rfl) (Λ:=fun _ _=>none) ?_ ?_
 ·exact fun _ _ _ _ _ _ _ _ h=>by cases h
 ·rintro ⟨v1,v2,v3,v4,v5,v6,v7,v8,v9,v10,v11,v12,v13,v14,v15,v16,v17,v18,v19,v20,v21,v22,e,xs,⟨⟩⟩ hw hn
  exact HG (mkM v1 v2 v3 v4 v5 v6 v7 v8 v9 v10 v11 v12 v13 v14 v15 v16 v17 v18 v19 v20 v21 v22 xs) e (hn _ List.mem_cons_self) (hn _ (List.mem_cons_of_mem _ List.mem_cons_self)) (hn _ (List.mem_cons_of_mem _ (List.mem_cons_of_mem _ List.mem_cons_self)))
noncomputable def lpPl:Lp:=(⟨2,al [iG] Tryz.f245,(fun _=>none),(az Tryz.f245 0),qPl,xPl⟩:Lp)
theorem TH (i:Int) (v1:ByteArray) (v2:Int) (v3:Int) (v4:Int) (v5:Int) (v6:Int) (v7:Int) (v8:Int) (v9:Bool) (v10:Int) (v11:Int) (v12:Int) (v13:Int) (v14:List Phase) (v15:Int) (v16:Int) (v17:Bool) (v18:Int) (v19:Int) (v20:Int) (v21:Int) (v22:Int) (e:Mir.Event) (z:Match) (xs:List Innings) (hi:y6 (i,v1,v2,v3,v4,v5,v6,v7,v8,v9,v10,v11,v12,v13,v14,v15,v16,v17,v18,v19,v20,v21,v22,e,z,xs,())) :(Go.Mir.stepG lpPl mT (fun y:Den (tyP lpPl.q)=>y6 y∧Kd y<Kd (i,v1,v2,v3,v4,v5,v6,v7,v8,v9,v10,v11,v12,v13,v14,v15,v16,v17,v18,v19,v20,v21,v22,e,z,xs,())) (i,v1,v2,v3,v4,v5,v6,v7,v8,v9,v10,v11,v12,v13,v14,v15,v16,v17,v18,v19,v20,v21,v22,e,z,xs,())∧Go.Mir.stepE lpPl mT (i,v1,v2,v3,v4,v5,v6,v7,v8,v9,v10,v11,v12,v13,v14,v15,v16,v17,v18,v19,v20,v21,v22,e,z,xs,())=mT (i,v1,v2,v3,v4,v5,v6,v7,v8,v9,v10,v11,v12,v13,v14,v15,v16,v17,v18,v19,v20,v21,v22,e,z,xs,())):=by
 refine cast (by kernel_rfl) (?_:let r1:Bool:=decide (i≥0);let r2:Bool:=(xs.getD i.toNat (dflt (Ty.nm Nm.Innings))).1==e.2;((r1=true→(0≤i∧i <(↑xs.length:Int))∧(r2=true→(0≤i∧i <(↑xs.length:Int))∧ai (xs.getD i.toNat (dflt (Ty.nm Nm.Innings)))∧(0≤i∧i <(↑xs.length:Int))∧True)∧(r2=false→y6 (IntKind.i64.wrap (i - 1),v1,v2,v3,v4,v5,v6,v7,v8,v9,v10,v11,v12,v13,v14,v15,v16,v17,v18,v19,v20,v21,v22,e,z,xs,())∧Kd (IntKind.i64.wrap (i - 1),v1,v2,v3,v4,v5,v6,v7,v8,v9,v10,v11,v12,v13,v14,v15,v16,v17,v18,v19,v20,v21,v22,e,z,xs,())<Kd (i,v1,v2,v3,v4,v5,v6,v7,v8,v9,v10,v11,v12,v13,v14,v15,v16,v17,v18,v19,v20,v21,v22,e,z,xs,())))∧(r1=false→True))∧(cond r1 (cond r2 (Sum.inl (0,v1,v2,v3,v4,v5,v6,v7,v8,v9,v10,v11,v12,v13,v14,v15,v16,v17,v18,v19,v20,v21,v22,xs.set i.toNat (Innings.mk (xs.getD i.toNat (dflt (Ty.nm Nm.Innings))).1 (xs.getD i.toNat (dflt (Ty.nm Nm.Innings))).2 (xs.getD i.toNat (dflt (Ty.nm Nm.Innings))).3 (W ((xs.getD i.toNat (dflt (Ty.nm Nm.Innings))).4+5)) (xs.getD i.toNat (dflt (Ty.nm Nm.Innings))).5 (Extras.mk (xs.getD i.toNat (dflt (Ty.nm Nm.Innings))).6.1 (xs.getD i.toNat (dflt (Ty.nm Nm.Innings))).6.2 (xs.getD i.toNat (dflt (Ty.nm Nm.Innings))).6.3 (xs.getD i.toNat (dflt (Ty.nm Nm.Innings))).6.4 (W ((xs.getD i.toNat (dflt (Ty.nm Nm.Innings))).6.5+5))) (xs.getD i.toNat (dflt (Ty.nm Nm.Innings))).7 (xs.getD i.toNat (dflt (Ty.nm Nm.Innings))).8 (xs.getD i.toNat (dflt (Ty.nm Nm.Innings))).9 (xs.getD i.toNat (dflt (Ty.nm Nm.Innings))).10 (xs.getD i.toNat (dflt (Ty.nm Nm.Innings))).11 (xs.getD i.toNat (dflt (Ty.nm Nm.Innings))).12 (xs.getD i.toNat (dflt (Ty.nm Nm.Innings))).13 (xs.getD i.toNat (dflt (Ty.nm Nm.Innings))).14 (xs.getD i.toNat (dflt (Ty.nm Nm.Innings))).15 (xs.getD i.toNat (dflt (Ty.nm Nm.Innings))).16 (xs.getD i.toNat (dflt (Ty.nm Nm.Innings))).17 (xs.getD i.toNat (dflt (Ty.nm Nm.Innings))).18 (xs.getD i.toNat (dflt (Ty.nm Nm.Innings))).19 (xs.getD i.toNat (dflt (Ty.nm Nm.Innings))).20 (xs.getD i.toNat (dflt (Ty.nm Nm.Innings))).21 (xs.getD i.toNat (dflt (Ty.nm Nm.Innings))).22 (xs.getD i.toNat (dflt (Ty.nm Nm.Innings))).23),())) (mT (IntKind.i64.wrap (i - 1),v1,v2,v3,v4,v5,v6,v7,v8,v9,v10,v11,v12,v13,v14,v15,v16,v17,v18,v19,v20,v21,v22,e,z,xs,()))) (Sum.inr (v1,v2,v3,v4,v5,v6,v7,v8,v9,v10,v11,v12,v13,v14,v15,v16,v17,v18,v19,v20,v21,v22,e,z,xs,())))=mT (i,v1,v2,v3,v4,v5,v6,v7,v8,v9,v10,v11,v12,v13,v14,v15,v16,v17,v18,v19,v20,v21,v22,e,z,xs,()))
 intro r1 r2
 clear_value (hr1:r1=_) (hr2:r2=_)
 obtain ⟨⟨h1,h2,h3⟩,hs⟩:=hi
 simp only at h1 h2 h3 hs
 refine ⟨⟨fun h=>?_,fun _=>trivial⟩,?_⟩
 ·have h:i≥0:=of_decide_eq_true (by rw [←hr1];exact h)
  have hl:i.toNat<xs.length:=by omega
  refine ⟨⟨h,by omega⟩,fun _=>⟨⟨h,by omega⟩,hs _ (iC hl _),⟨h,by omega⟩,trivial⟩,fun _=>?_⟩
  rw [bc (n:=i - 1) (by omega) (by omega)]
  exact ⟨⟨⟨by simp only;omega,by simp only;omega,h3⟩,hs⟩,by simp only [Kd];omega⟩
 ·by_cases h:i≥0
  ·have q :(i+1).toNat=i.toNat+1:=by omega
   have eF:ez e.Side xs (i+1).toNat=if r2 then some i.toNat else ez e.Side xs i.toNat:=by rw [q,hr2];rfl
   rw [hr1,decide_eq_true h,cond_true]
   show _=Ao _ (ez e.Side xs (i+1).toNat)
   rw [eF]
   cases r2 with
   | true=>rfl
   | false=>
    rw [bc (n:=i - 1) (by omega) (by omega)]
    show Ao _ (ez e.Side xs (i - 1+1).toNat)=_
    rw [show (i - 1+1).toNat=i.toNat by omega]
    rfl
  ·have q :(i+1).toNat=0:=by omega
   rw [hr1,decide_eq_false h,cond_false]
   show _=Ao _ (ez e.Side xs (i+1).toNat)
   rw [q]
   rfl
noncomputable def RI:LoopSum:=aM lpPl mT y6
noncomputable def Ri:Nat:=rid (az Tryz.f245 0)
theorem Sy:LoopOKp Tryz.prog 2 Tryz.f245.ntmps (az Tryz.f245 0) (aM lpPl mT y6):=
 bk lpPl (aj (.consU ml rfl .nil) _) mixed (fun b hb S hS=>by cases hS) mT y6 Kd (fun |⟨i,v1,v2,v3,v4,v5,v6,v7,v8,v9,v10,v11,v12,v13,v14,v15,v16,v17,v18,v19,v20,v21,v22,e,z,xs,⟨⟩⟩,hi=>TH i v1 v2 v3 v4 v5 v6 v7 v8 v9 v10 v11 v12 v13 v14 v15 v16 v17 v18 v19 v20 v21 v22 e z xs hi)
theorem HH (m:Match) (e:Mir.Event) (hm:aK m) (hv:aR m=true) (h3:m.Stage=3) (he:bB e=0) :(evPat (al [ri,iG] Tryz.f245) (find [(Ri,RI)]) Tryz.f245 uz uA (m.Rules.Name,m.Rules.Side,m.Rules.Innings,m.Rules.Overs,m.Rules.Balls,m.Rules.Quota,m.Rules.Wide,m.Rules.NoBall,m.Rules.FreeHit,m.Rules.NewBall,m.Rules.FollowOn,m.Rules.Reviews,m.Rules.Outside,m.Rules.Power,m.Stage,m.First,m.Follow,m.Penalty.1,m.Penalty.2.1,m.Result.Win,m.Result.Side,m.Result.Margin,e,m.Innings,())).sat fun z_=>z_ =(H5 (m.Rules.Name,m.Rules.Side,m.Rules.Innings,m.Rules.Overs,m.Rules.Balls,m.Rules.Quota,m.Rules.Wide,m.Rules.NoBall,m.Rules.FreeHit,m.Rules.NewBall,m.Rules.FollowOn,m.Rules.Reviews,m.Rules.Outside,m.Rules.Power,m.Stage,m.First,m.Follow,m.Penalty.1,m.Penalty.2.1,m.Result.Win,m.Result.Side,m.Result.Margin,e,m.Innings,())).2:=by
 refine cast (by kernel_rfl) (?_:let r1:Int:=IntKind.i64.wrap ((↑m.5.length:Int) - 1);let r2:Innings:=m.5.getD r1.toNat (dflt (Ty.nm Nm.Innings));let r3:Int:=cc m.1 r2 e;let r4:Innings:=dw m.1 r2 e;let r5:Bool:=r3 != 0;let r6:Bool:=cond (e.1 != 13) true (e.2==r4.1);let r7:List Innings:=m.5.set r1.toNat r4;let r8:Bool:=isL (mT (r1,m.1.1,m.1.2,m.1.3,m.1.4,m.1.5,m.1.6,m.1.7,m.1.8,m.1.9,m.1.10,m.1.11,m.1.12,m.1.13,m.1.14,m.2,m.3,m.4,m.6.1,m.6.2.1,m.7.1,m.7.2,m.7.3,e,Match.mk (Rules.mk ByteArray.empty 0 0 0 0 0 0 0 false 0 0 0 0 []) 0 0 false [] (0,0,()) (Result.mk 0 0 0),r7,()));let r9:Int×ByteArray×Int×Int×Int×Int×Int×Int×Int×Bool×Int×Int×Int×Int×List Phase×Int×Int×Bool×Int×Int×Int×Int×Int×List Innings×PUnit:=jm (dflt (I.prod (Ty.str.prod (I.prod (I.prod (I.prod (I.prod (I.prod (I.prod (I.prod (Ty.bool.prod (I.prod (I.prod (I.prod (I.prod ((Ty.nm Nm.Phase).slice.prod (U8.prod (I.prod (Ty.bool.prod (I.prod (I.prod (U8.prod (I.prod (I.prod ((Ty.nm Nm.Innings).slice.prod Ty.unit))))))))))))))))))))))))) (mT (r1,m.1.1,m.1.2,m.1.3,m.1.4,m.1.5,m.1.6,m.1.7,m.1.8,m.1.9,m.1.10,m.1.11,m.1.12,m.1.13,m.1.14,m.2,m.3,m.4,m.6.1,m.6.2.1,m.7.1,m.7.2,m.7.3,e,Match.mk (Rules.mk ByteArray.empty 0 0 0 0 0 0 0 false 0 0 0 0 []) 0 0 false [] (0,0,()) (Result.mk 0 0 0),r7,()));let r10:ByteArray×Int×Int×Int×Int×Int×Int×Int×Bool×Int×Int×Int×Int×List Phase×Int×Int×Bool×Int×Int×Int×Int×Int×Mir.Event×Match×List Innings×PUnit:=si (dflt (Ty.str.prod (I.prod (I.prod (I.prod (I.prod (I.prod (I.prod (I.prod (Ty.bool.prod (I.prod (I.prod (I.prod (I.prod ((Ty.nm Nm.Phase).slice.prod (U8.prod (I.prod (Ty.bool.prod (I.prod (I.prod (U8.prod (I.prod (I.prod ((Ty.nm Nm.Event).prod ((Ty.nm Nm.Match).prod ((Ty.nm Nm.Innings).slice.prod Ty.unit)))))))))))))))))))))))))) (mT (r1,m.1.1,m.1.2,m.1.3,m.1.4,m.1.5,m.1.6,m.1.7,m.1.8,m.1.9,m.1.10,m.1.11,m.1.12,m.1.13,m.1.14,m.2,m.3,m.4,m.6.1,m.6.2.1,m.7.1,m.7.2,m.7.3,e,Match.mk (Rules.mk ByteArray.empty 0 0 0 0 0 0 0 false 0 0 0 0 []) 0 0 false [] (0,0,()) (Result.mk 0 0 0),r7,()));let r11:Int:=IntKind.i64.wrap (r10.2.2.2.2.2.2.2.2.2.2.2.2.2.2.2.2.2.2.2.2.2.2.1.2 - 1);let r12:Bool:=r11==0;let r13:Bool:=r11==1;(0≤r1∧r1 <(↑m.5.length:Int))∧ai r2∧(r5=true→(m.1.1,m.1.2,m.1.3,m.1.4,m.1.5,m.1.6,m.1.7,m.1.8,m.1.9,m.1.10,m.1.11,m.1.12,m.1.13,m.1.14,m.2,m.3,m.4,m.6.1,m.6.2.1,m.7.1,m.7.2,m.7.3,r3,m.5,()) =((ag m e).1.1,(ag m e).1.2,(ag m e).1.3,(ag m e).1.4,(ag m e).1.5,(ag m e).1.6,(ag m e).1.7,(ag m e).1.8,(ag m e).1.9,(ag m e).1.10,(ag m e).1.11,(ag m e).1.12,(ag m e).1.13,(ag m e).1.14,(ag m e).2,(ag m e).3,(ag m e).4,(ag m e).6.1,(ag m e).6.2.1,(ag m e).7.1,(ag m e).7.2,(ag m e).7.3,ch m e,(ag m e).5,()))∧(r5=false→(0≤r1∧r1 <(↑m.5.length:Int))∧(r6=true→(m.1.1,m.1.2,m.1.3,m.1.4,m.1.5,m.1.6,m.1.7,m.1.8,m.1.9,m.1.10,m.1.11,m.1.12,m.1.13,m.1.14,m.2,m.3,m.4,m.6.1,m.6.2.1,m.7.1,m.7.2,m.7.3,0,r7,()) =((ag m e).1.1,(ag m e).1.2,(ag m e).1.3,(ag m e).1.4,(ag m e).1.5,(ag m e).1.6,(ag m e).1.7,(ag m e).1.8,(ag m e).1.9,(ag m e).1.10,(ag m e).1.11,(ag m e).1.12,(ag m e).1.13,(ag m e).1.14,(ag m e).2,(ag m e).3,(ag m e).4,(ag m e).6.1,(ag m e).6.2.1,(ag m e).7.1,(ag m e).7.2,(ag m e).7.3,ch m e,(ag m e).5,()))∧(r6=false→((cZ fun x=>none)∧((-1:Int)≤r1∧r1 <(↑r7.length:Int)∧r7.length≤(1000000:Nat))∧eu r7)∧(r8=true→(r9.2.1,r9.2.2.1,r9.2.2.2.1,r9.2.2.2.2.1,r9.2.2.2.2.2.1,r9.2.2.2.2.2.2.1,r9.2.2.2.2.2.2.2.1,r9.2.2.2.2.2.2.2.2.1,r9.2.2.2.2.2.2.2.2.2.1,r9.2.2.2.2.2.2.2.2.2.2.1,r9.2.2.2.2.2.2.2.2.2.2.2.1,r9.2.2.2.2.2.2.2.2.2.2.2.2.1,r9.2.2.2.2.2.2.2.2.2.2.2.2.2.1,r9.2.2.2.2.2.2.2.2.2.2.2.2.2.2.1,r9.2.2.2.2.2.2.2.2.2.2.2.2.2.2.2.1,r9.2.2.2.2.2.2.2.2.2.2.2.2.2.2.2.2.1,r9.2.2.2.2.2.2.2.2.2.2.2.2.2.2.2.2.2.1,r9.2.2.2.2.2.2.2.2.2.2.2.2.2.2.2.2.2.2.1,r9.2.2.2.2.2.2.2.2.2.2.2.2.2.2.2.2.2.2.2.1,r9.2.2.2.2.2.2.2.2.2.2.2.2.2.2.2.2.2.2.2.2.1,r9.2.2.2.2.2.2.2.2.2.2.2.2.2.2.2.2.2.2.2.2.2.1,r9.2.2.2.2.2.2.2.2.2.2.2.2.2.2.2.2.2.2.2.2.2.2.1,r9.1,r9.2.2.2.2.2.2.2.2.2.2.2.2.2.2.2.2.2.2.2.2.2.2.2) =((ag m e).1.1,(ag m e).1.2,(ag m e).1.3,(ag m e).1.4,(ag m e).1.5,(ag m e).1.6,(ag m e).1.7,(ag m e).1.8,(ag m e).1.9,(ag m e).1.10,(ag m e).1.11,(ag m e).1.12,(ag m e).1.13,(ag m e).1.14,(ag m e).2,(ag m e).3,(ag m e).4,(ag m e).6.1,(ag m e).6.2.1,(ag m e).7.1,(ag m e).7.2,(ag m e).7.3,ch m e,(ag m e).5,()))∧(r8=false→(r12=true→((0:Int)≤0∧0 <(↑(2:Nat):Int))∧((0:Int)≤0∧0 <(↑(2:Nat):Int))∧(r10.1,r10.2.1,r10.2.2.1,r10.2.2.2.1,r10.2.2.2.2.1,r10.2.2.2.2.2.1,r10.2.2.2.2.2.2.1,r10.2.2.2.2.2.2.2.1,r10.2.2.2.2.2.2.2.2.1,r10.2.2.2.2.2.2.2.2.2.1,r10.2.2.2.2.2.2.2.2.2.2.1,r10.2.2.2.2.2.2.2.2.2.2.2.1,r10.2.2.2.2.2.2.2.2.2.2.2.2.1,r10.2.2.2.2.2.2.2.2.2.2.2.2.2.1,r10.2.2.2.2.2.2.2.2.2.2.2.2.2.2.1,r10.2.2.2.2.2.2.2.2.2.2.2.2.2.2.2.1,r10.2.2.2.2.2.2.2.2.2.2.2.2.2.2.2.2.1,IntKind.i64.wrap (r10.2.2.2.2.2.2.2.2.2.2.2.2.2.2.2.2.2.1+5),r10.2.2.2.2.2.2.2.2.2.2.2.2.2.2.2.2.2.2.1,r10.2.2.2.2.2.2.2.2.2.2.2.2.2.2.2.2.2.2.2.1,r10.2.2.2.2.2.2.2.2.2.2.2.2.2.2.2.2.2.2.2.2.1,r10.2.2.2.2.2.2.2.2.2.2.2.2.2.2.2.2.2.2.2.2.2.1,0,r10.2.2.2.2.2.2.2.2.2.2.2.2.2.2.2.2.2.2.2.2.2.2.2.2) =((ag m e).1.1,(ag m e).1.2,(ag m e).1.3,(ag m e).1.4,(ag m e).1.5,(ag m e).1.6,(ag m e).1.7,(ag m e).1.8,(ag m e).1.9,(ag m e).1.10,(ag m e).1.11,(ag m e).1.12,(ag m e).1.13,(ag m e).1.14,(ag m e).2,(ag m e).3,(ag m e).4,(ag m e).6.1,(ag m e).6.2.1,(ag m e).7.1,(ag m e).7.2,(ag m e).7.3,ch m e,(ag m e).5,()))∧(r12=false→(r13=true→((0:Int)≤1∧1 <(↑(2:Nat):Int))∧((0:Int)≤1∧1 <(↑(2:Nat):Int))∧(r10.1,r10.2.1,r10.2.2.1,r10.2.2.2.1,r10.2.2.2.2.1,r10.2.2.2.2.2.1,r10.2.2.2.2.2.2.1,r10.2.2.2.2.2.2.2.1,r10.2.2.2.2.2.2.2.2.1,r10.2.2.2.2.2.2.2.2.2.1,r10.2.2.2.2.2.2.2.2.2.2.1,r10.2.2.2.2.2.2.2.2.2.2.2.1,r10.2.2.2.2.2.2.2.2.2.2.2.2.1,r10.2.2.2.2.2.2.2.2.2.2.2.2.2.1,r10.2.2.2.2.2.2.2.2.2.2.2.2.2.2.1,r10.2.2.2.2.2.2.2.2.2.2.2.2.2.2.2.1,r10.2.2.2.2.2.2.2.2.2.2.2.2.2.2.2.2.1,r10.2.2.2.2.2.2.2.2.2.2.2.2.2.2.2.2.2.1,IntKind.i64.wrap (r10.2.2.2.2.2.2.2.2.2.2.2.2.2.2.2.2.2.2.1+5),r10.2.2.2.2.2.2.2.2.2.2.2.2.2.2.2.2.2.2.2.1,r10.2.2.2.2.2.2.2.2.2.2.2.2.2.2.2.2.2.2.2.2.1,r10.2.2.2.2.2.2.2.2.2.2.2.2.2.2.2.2.2.2.2.2.2.1,0,r10.2.2.2.2.2.2.2.2.2.2.2.2.2.2.2.2.2.2.2.2.2.2.2.2) =((ag m e).1.1,(ag m e).1.2,(ag m e).1.3,(ag m e).1.4,(ag m e).1.5,(ag m e).1.6,(ag m e).1.7,(ag m e).1.8,(ag m e).1.9,(ag m e).1.10,(ag m e).1.11,(ag m e).1.12,(ag m e).1.13,(ag m e).1.14,(ag m e).2,(ag m e).3,(ag m e).4,(ag m e).6.1,(ag m e).6.2.1,(ag m e).7.1,(ag m e).7.2,(ag m e).7.3,ch m e,(ag m e).5,()))∧(r13=false→False∧True))))))
 intro r1 r2 r3 r4 r5 r6 r7 r8 r9 r10 r11 r12 r13
 clear_value (hr1:r1=_) (hr2:r2=_) (hr3:r3=_) (hr4:r4=_) (hr5:r5=_) (hr6:r6=_) (hr7:r7=_) (hr8:r8=_) (hr9:r9=_) (hr10:r10=_) (hr11:r11=_) (hr12:r12=_) (hr13:r13=_)
 have hx:=hm.2.1
 have h :(m.Stage != 3)=false:=by rw [h3];rfl
 have h0:=dX hv h3
 have e0:r1 =(m.Innings.length:Int) - 1:=by rw [hr1];exact bc (by omega) (by omega)
 have e1:r1.toNat=m.Innings.length - 1:=by omega
 have e2:r2=bt m:=by rw [hr2,e1];rfl
 have hL:ch m e=r3:=by unfold ch;rw [h,hr3,e2];rfl
 have e8:sJ m e={ m with Innings:=r7 }:=by rw [hr7,hr4,e1,e2];rfl
 have e6:rV m e=!r6:=by
  rw [hr6,hr4,e2];unfold rV
  cases hk:e.Kind==13 <;> simp [bne,hk]
 have hb:0≤r1∧r1 <(m.Innings.length:Int):=⟨by omega,by omega⟩
 have hl7:r7.length=m.Innings.length:=by rw [hr7,List.length_set]
 have hs7:eu r7:=by rw [hr7,hr4,e2];exact s4 hm.1 _ (kX _ (gT hm.1))
 have er :∀ z:Match,mT (r1,m.Rules.Name,m.Rules.Side,m.Rules.Innings,m.Rules.Overs,m.Rules.Balls,m.Rules.Quota,m.Rules.Wide,m.Rules.NoBall,m.Rules.FreeHit,m.Rules.NewBall,m.Rules.FollowOn,m.Rules.Reviews,m.Rules.Outside,m.Rules.Power,m.Stage,m.First,m.Follow,m.Penalty.1,m.Penalty.2.1,m.Result.Win,m.Result.Side,m.Result.Margin,e,z,r7,())=Ao (m.Rules.Name,m.Rules.Side,m.Rules.Innings,m.Rules.Overs,m.Rules.Balls,m.Rules.Quota,m.Rules.Wide,m.Rules.NoBall,m.Rules.FreeHit,m.Rules.NewBall,m.Rules.FollowOn,m.Rules.Reviews,m.Rules.Outside,m.Rules.Power,m.Stage,m.First,m.Follow,m.Penalty.1,m.Penalty.2.1,m.Result.Win,m.Result.Side,m.Result.Margin,e,z,r7,()) (ez e.Side r7 r7.length):=fun z=>by
  show Ao _ (ez e.Side r7 (r1+1).toNat)=_
  rw [show (r1+1).toNat=r7.length by omega]
 rw [er] at hr8 hr9 hr10
 have hY:r5=false→ch m e=0∧ag m e=if r6 then { m with Innings:=r7 } else aw { m with Innings:=r7 } e.Side:=fun a=>by
  have hL0:ch m e=0:=by rw [hL];rw [hr5] at a;simpa using a
  refine ⟨hL0,?_⟩
  unfold ag;rw [hL0,e6,e8];cases r6 <;> rfl
 refine ⟨hb,by rw [e2];exact gT hm.1,fun a=>?_,fun a=>⟨hb,fun b=>?_,fun b=>⟨⟨rfl,⟨by omega,by omega,by omega⟩,hs7⟩,?_⟩⟩⟩
 ·have hY:ag m e=m:=by unfold ag;rw [hL,←hr5,a];rfl
  rw [hL,hY]
 ·rw [(hY a).1,(hY a).2,b];rfl
 ·have hk:gJ e.Side:=by
   refine Dn he ?_
   rw [b] at e6
   unfold rV at e6
   cases hk:e.Kind==13 with
   | false=>rw [hk] at e6;cases e6
   | true=>rw [eq_of_beq hk];rfl
  rw [(hY a).1,(hY a).2,b]
  clear er hY hL e0 e1 e2 e6 e8 hr1 hr2 hr3 hr4 hr5 hr6 hr7
  cases hF:ez e.Side r7 r7.length with
  | none=>
   rw [hF] at hr8 hr10
   have f8:r8=false:=hr8
   have ea:aw { m with Innings:=r7 } e.Side=F0 { m with Innings:=r7 } e.Side:=by unfold aw;simp only [hF];rfl
   rw [ea]
   have e11:r11=IntKind.i64.wrap (e.Side - 1):=by rw [hr11,hr10];rfl
   rw [e11] at hr12 hr13
   clear e11 hr11
   subst f8 hr10
   refine ⟨fun z=>Bool.noConfusion z,fun _=>?_⟩
   rcases hk with hk|hk
   ·have f12:r12=true:=by rw [hr12,hk];rfl
    subst f12
    rw [hk]
    exact ⟨fun _=>⟨by decide,by decide,rfl⟩,fun z=>Bool.noConfusion z⟩
   ·have f12:r12=false:=by rw [hr12,hk];rfl
    have f13:r13=true:=by rw [hr13,hk];rfl
    subst f12 f13
    rw [hk]
    exact ⟨fun z=>Bool.noConfusion z,fun _=>⟨fun _=>⟨by decide,by decide,rfl⟩,fun z=>Bool.noConfusion z⟩⟩
  | some k=>
   rw [hF] at hr8 hr9
   have f8:r8=true:=hr8
   have ea:aw { m with Innings:=r7 } e.Side=FM { m with Innings:=r7 } k (yw (r7.getD k Innings.zero)):=by unfold aw;simp only [hF];rfl
   rw [ea]
   subst f8 hr9
   exact ⟨fun _=>rfl,fun z=>Bool.noConfusion z⟩
def DY:FuncId×Ctr:=(245,ae KE uz uA H5)
theorem KC:CtrOK Tryz.prog KE 245 (ae KE uz uA H5):=by
 refine an (C:=al [ri,iG] Tryz.f245) (aj (.consU Ad rfl (.consU ml rfl .nil)) _) mixed (fn:=Tryz.f245) Tryz.func245 (by kernel_rfl) (by kernel_rfl) (by kernel_rfl) (by kernel_rfl) (by kernel_rfl) (by kernel_rfl) (Λ:=fun x=>find [(Ri,RI)]) ?_ ?_
 ·rintro ⟨v1,v2,v3,v4,v5,v6,v7,v8,v9,v10,v11,v12,v13,v14,v15,v16,v17,v18,v19,v20,v21,v22,e,xs,⟨⟩⟩ hw hn
  exact LoopsOKp.at (by kernel_rfl) (.cons (by kernel_rfl) (Sy) .nil)
 ·rintro ⟨v1,v2,v3,v4,v5,v6,v7,v8,v9,v10,v11,v12,v13,v14,v15,v16,v17,v18,v19,v20,v21,v22,e,xs,⟨⟩⟩ hw hn
  exact HH (mkM v1 v2 v3 v4 v5 v6 v7 v8 v9 v10 v11 v12 v13 v14 v15 v16 v17 v18 v19 v20 v21 v22 xs) e (hn _ List.mem_cons_self) (hn _ (List.mem_cons_of_mem _ List.mem_cons_self)) (hn _ (List.mem_cons_of_mem _ (List.mem_cons_of_mem _ List.mem_cons_self))) (hn _ (List.mem_cons_of_mem _ (List.mem_cons_of_mem _ (List.mem_cons_of_mem _ List.mem_cons_self))))
theorem Ll (m:Match) (e:Mir.Event) (hm:aK m) (hv:aR m=true) (he:bB e=0) :(evPat (al [eg,DX,DY] Tryz.f194) (fun _=>none) Tryz.f194 uz uA (m.Rules.Name,m.Rules.Side,m.Rules.Innings,m.Rules.Overs,m.Rules.Balls,m.Rules.Quota,m.Rules.Wide,m.Rules.NoBall,m.Rules.FreeHit,m.Rules.NewBall,m.Rules.FollowOn,m.Rules.Reviews,m.Rules.Outside,m.Rules.Power,m.Stage,m.First,m.Follow,m.Penalty.1,m.Penalty.2.1,m.Result.Win,m.Result.Side,m.Result.Margin,e,m.Innings,())).sat fun z_=>z_ =(N1 (m.Rules.Name,m.Rules.Side,m.Rules.Innings,m.Rules.Overs,m.Rules.Balls,m.Rules.Quota,m.Rules.Wide,m.Rules.NoBall,m.Rules.FreeHit,m.Rules.NewBall,m.Rules.FollowOn,m.Rules.Reviews,m.Rules.Outside,m.Rules.Power,m.Stage,m.First,m.Follow,m.Penalty.1,m.Penalty.2.1,m.Result.Win,m.Result.Side,m.Result.Margin,e,m.Innings,())).2:=by
 refine cast (by kernel_rfl) (?_:let r1:Int:=IntKind.i64.wrap ((↑m.5.length:Int) - 1);let r2:Int:=cond (m.1.4==0) 0 0;let r3:Innings:=m.5.getD r1.toNat (dflt (Ty.nm Nm.Innings));((e.1==1)=true→((m.2 != 1)=true→(m.1.1,m.1.2,m.1.3,m.1.4,m.1.5,m.1.6,m.1.7,m.1.8,m.1.9,m.1.10,m.1.11,m.1.12,m.1.13,m.1.14,m.2,m.3,m.4,m.6.1,m.6.2.1,m.7.1,m.7.2,m.7.3,1,m.5,()) =((ab m e).1.1,(ab m e).1.2,(ab m e).1.3,(ab m e).1.4,(ab m e).1.5,(ab m e).1.6,(ab m e).1.7,(ab m e).1.8,(ab m e).1.9,(ab m e).1.10,(ab m e).1.11,(ab m e).1.12,(ab m e).1.13,(ab m e).1.14,(ab m e).2,(ab m e).3,(ab m e).4,(ab m e).6.1,(ab m e).6.2.1,(ab m e).7.1,(ab m e).7.2,(ab m e).7.3,aO m e,(ab m e).5,()))∧((m.2 != 1)=false→(cond (!e.5) m.1.1 m.1.1,cond (!e.5) m.1.2 m.1.2,cond (!e.5) m.1.3 m.1.3,cond (!e.5) m.1.4 m.1.4,cond (!e.5) m.1.5 m.1.5,cond (!e.5) m.1.6 m.1.6,cond (!e.5) m.1.7 m.1.7,cond (!e.5) m.1.8 m.1.8,cond (!e.5) m.1.9 m.1.9,cond (!e.5) m.1.10 m.1.10,cond (!e.5) m.1.11 m.1.11,cond (!e.5) m.1.12 m.1.12,cond (!e.5) m.1.13 m.1.13,cond (!e.5) m.1.14 m.1.14,2,cond (!e.5) (cg e.2) e.2,cond (!e.5) m.4 m.4,cond (!e.5) m.6.1 m.6.1,cond (!e.5) m.6.2.1 m.6.2.1,cond (!e.5) m.7.1 m.7.1,cond (!e.5) m.7.2 m.7.2,cond (!e.5) m.7.3 m.7.3,0,m.5,()) =((ab m e).1.1,(ab m e).1.2,(ab m e).1.3,(ab m e).1.4,(ab m e).1.5,(ab m e).1.6,(ab m e).1.7,(ab m e).1.8,(ab m e).1.9,(ab m e).1.10,(ab m e).1.11,(ab m e).1.12,(ab m e).1.13,(ab m e).1.14,(ab m e).2,(ab m e).3,(ab m e).4,(ab m e).6.1,(ab m e).6.2.1,(ab m e).7.1,(ab m e).7.2,(ab m e).7.3,aO m e,(ab m e).5,())))∧((e.1==1)=false→((e.1==2)=true→((m.2 != 2)=true→(m.1.1,m.1.2,m.1.3,m.1.4,m.1.5,m.1.6,m.1.7,m.1.8,m.1.9,m.1.10,m.1.11,m.1.12,m.1.13,m.1.14,m.2,m.3,m.4,m.6.1,m.6.2.1,m.7.1,m.7.2,m.7.3,1,m.5,()) =((ab m e).1.1,(ab m e).1.2,(ab m e).1.3,(ab m e).1.4,(ab m e).1.5,(ab m e).1.6,(ab m e).1.7,(ab m e).1.8,(ab m e).1.9,(ab m e).1.10,(ab m e).1.11,(ab m e).1.12,(ab m e).1.13,(ab m e).1.14,(ab m e).2,(ab m e).3,(ab m e).4,(ab m e).6.1,(ab m e).6.2.1,(ab m e).7.1,(ab m e).7.2,(ab m e).7.3,aO m e,(ab m e).5,()))∧((m.2 != 2)=false→aK m∧aR m=true∧m.2=2∧((aa m e).1.1,(aa m e).1.2,(aa m e).1.3,(aa m e).1.4,(aa m e).1.5,(aa m e).1.6,(aa m e).1.7,(aa m e).1.8,(aa m e).1.9,(aa m e).1.10,(aa m e).1.11,(aa m e).1.12,(aa m e).1.13,(aa m e).1.14,(aa m e).2,(aa m e).3,(aa m e).4,(aa m e).6.1,(aa m e).6.2.1,(aa m e).7.1,(aa m e).7.2,(aa m e).7.3,aQ m e,(aa m e).5,()) =((ab m e).1.1,(ab m e).1.2,(ab m e).1.3,(ab m e).1.4,(ab m e).1.5,(ab m e).1.6,(ab m e).1.7,(ab m e).1.8,(ab m e).1.9,(ab m e).1.10,(ab m e).1.11,(ab m e).1.12,(ab m e).1.13,(ab m e).1.14,(ab m e).2,(ab m e).3,(ab m e).4,(ab m e).6.1,(ab m e).6.2.1,(ab m e).7.1,(ab m e).7.2,(ab m e).7.3,aO m e,(ab m e).5,())))∧((e.1==2)=false→((e.1==12)=true→((m.2 != 4)=true→(m.1.1,m.1.2,m.1.3,m.1.4,m.1.5,m.1.6,m.1.7,m.1.8,m.1.9,m.1.10,m.1.11,m.1.12,m.1.13,m.1.14,m.2,m.3,m.4,m.6.1,m.6.2.1,m.7.1,m.7.2,m.7.3,1,m.5,()) =((ab m e).1.1,(ab m e).1.2,(ab m e).1.3,(ab m e).1.4,(ab m e).1.5,(ab m e).1.6,(ab m e).1.7,(ab m e).1.8,(ab m e).1.9,(ab m e).1.10,(ab m e).1.11,(ab m e).1.12,(ab m e).1.13,(ab m e).1.14,(ab m e).2,(ab m e).3,(ab m e).4,(ab m e).6.1,(ab m e).6.2.1,(ab m e).7.1,(ab m e).7.2,(ab m e).7.3,aO m e,(ab m e).5,()))∧((m.2 != 4)=false→((e.2 != m.3)=true→(m.1.1,m.1.2,m.1.3,m.1.4,m.1.5,m.1.6,m.1.7,m.1.8,m.1.9,m.1.10,m.1.11,m.1.12,m.1.13,m.1.14,m.2,m.3,m.4,m.6.1,m.6.2.1,m.7.1,m.7.2,m.7.3,2,m.5,()) =((ab m e).1.1,(ab m e).1.2,(ab m e).1.3,(ab m e).1.4,(ab m e).1.5,(ab m e).1.6,(ab m e).1.7,(ab m e).1.8,(ab m e).1.9,(ab m e).1.10,(ab m e).1.11,(ab m e).1.12,(ab m e).1.13,(ab m e).1.14,(ab m e).2,(ab m e).3,(ab m e).4,(ab m e).6.1,(ab m e).6.2.1,(ab m e).7.1,(ab m e).7.2,(ab m e).7.3,aO m e,(ab m e).5,()))∧((e.2 != m.3)=false→(m.1.1,m.1.2,m.1.3,m.1.4,m.1.5,m.1.6,m.1.7,m.1.8,m.1.9,m.1.10,m.1.11,m.1.12,m.1.13,m.1.14,2,m.3,e.5,m.6.1,m.6.2.1,m.7.1,m.7.2,m.7.3,0,m.5,()) =((ab m e).1.1,(ab m e).1.2,(ab m e).1.3,(ab m e).1.4,(ab m e).1.5,(ab m e).1.6,(ab m e).1.7,(ab m e).1.8,(ab m e).1.9,(ab m e).1.10,(ab m e).1.11,(ab m e).1.12,(ab m e).1.13,(ab m e).1.14,(ab m e).2,(ab m e).3,(ab m e).4,(ab m e).6.1,(ab m e).6.2.1,(ab m e).7.1,(ab m e).7.2,(ab m e).7.3,aO m e,(ab m e).5,()))))∧((e.1==12)=false→((e.1==16)=true→(((m.2==3)=true→(0≤r1∧r1 <(↑m.5.length:Int))∧True)∧((m.2==3)=false→True))∧(true=true→(cond (m.1.4==0) m.1.1 m.1.1,cond (m.1.4==0) m.1.2 m.1.2,cond (m.1.4==0) m.1.3 m.1.3,cond (m.1.4==0) m.1.4 m.1.4,cond (m.1.4==0) m.1.5 m.1.5,cond (m.1.4==0) m.1.6 m.1.6,cond (m.1.4==0) m.1.7 m.1.7,cond (m.1.4==0) m.1.8 m.1.8,cond (m.1.4==0) m.1.9 m.1.9,cond (m.1.4==0) m.1.10 m.1.10,cond (m.1.4==0) m.1.11 m.1.11,cond (m.1.4==0) m.1.12 m.1.12,cond (m.1.4==0) m.1.13 m.1.13,cond (m.1.4==0) m.1.14 m.1.14,cond (m.1.4==0) 5 5,cond (m.1.4==0) m.3 m.3,cond (m.1.4==0) m.4 m.4,cond (m.1.4==0) m.6.1 m.6.1,cond (m.1.4==0) m.6.2.1 m.6.2.1,cond (m.1.4==0) 5 6,r2,r2,0,cond (m.2==3) (m.5.set r1.toNat (Innings.mk r3.1 r3.2 r3.3 r3.4 r3.5 r3.6 r3.7 r3.8 r3.9 r3.10 r3.11 r3.12 r3.13 r3.14 r3.15 r3.16 r3.17 r3.18 r3.19 r3.20 r3.21 r3.22 5)) m.5,()) =((ab m e).1.1,(ab m e).1.2,(ab m e).1.3,(ab m e).1.4,(ab m e).1.5,(ab m e).1.6,(ab m e).1.7,(ab m e).1.8,(ab m e).1.9,(ab m e).1.10,(ab m e).1.11,(ab m e).1.12,(ab m e).1.13,(ab m e).1.14,(ab m e).2,(ab m e).3,(ab m e).4,(ab m e).6.1,(ab m e).6.2.1,(ab m e).7.1,(ab m e).7.2,(ab m e).7.3,aO m e,(ab m e).5,())))∧((e.1==16)=false→((m.2 != 3)=true→(m.1.1,m.1.2,m.1.3,m.1.4,m.1.5,m.1.6,m.1.7,m.1.8,m.1.9,m.1.10,m.1.11,m.1.12,m.1.13,m.1.14,m.2,m.3,m.4,m.6.1,m.6.2.1,m.7.1,m.7.2,m.7.3,1,m.5,()) =((ab m e).1.1,(ab m e).1.2,(ab m e).1.3,(ab m e).1.4,(ab m e).1.5,(ab m e).1.6,(ab m e).1.7,(ab m e).1.8,(ab m e).1.9,(ab m e).1.10,(ab m e).1.11,(ab m e).1.12,(ab m e).1.13,(ab m e).1.14,(ab m e).2,(ab m e).3,(ab m e).4,(ab m e).6.1,(ab m e).6.2.1,(ab m e).7.1,(ab m e).7.2,(ab m e).7.3,aO m e,(ab m e).5,()))∧((m.2 != 3)=false→aK m∧aR m=true∧m.2=3∧bB e=0∧((ag m e).1.1,(ag m e).1.2,(ag m e).1.3,(ag m e).1.4,(ag m e).1.5,(ag m e).1.6,(ag m e).1.7,(ag m e).1.8,(ag m e).1.9,(ag m e).1.10,(ag m e).1.11,(ag m e).1.12,(ag m e).1.13,(ag m e).1.14,(ag m e).2,(ag m e).3,(ag m e).4,(ag m e).6.1,(ag m e).6.2.1,(ag m e).7.1,(ag m e).7.2,(ag m e).7.3,ch m e,(ag m e).5,()) =((ab m e).1.1,(ab m e).1.2,(ab m e).1.3,(ab m e).1.4,(ab m e).1.5,(ab m e).1.6,(ab m e).1.7,(ab m e).1.8,(ab m e).1.9,(ab m e).1.10,(ab m e).1.11,(ab m e).1.12,(ab m e).1.13,(ab m e).1.14,(ab m e).2,(ab m e).3,(ab m e).4,(ab m e).6.1,(ab m e).6.2.1,(ab m e).7.1,(ab m e).7.2,(ab m e).7.3,aO m e,(ab m e).5,())))))))
 intro r1 r2 r3
 clear_value (hr1:r1=_) (hr2:r2=_) (hr3:r3=_)
 simp only [Bool.cond_self] at *
 have hx:=hm.2.1
 have ho:jk m:=fun h=>dX hv h
 have no :∀ k:Int,k≠0→aO m e=k→ab m e=m:=fun k hk hL=>by
  unfold ab;rw [hL]
  have :(k != 0)=true:=by simpa using hk
  rw [this];rfl
 refine ⟨fun k1=>⟨fun a=>?_,fun a=>?_⟩,fun n1=>⟨fun k2=>⟨fun a=>?_,fun a=>⟨hm,hv,by simpa using a,?_⟩⟩,fun n2=>⟨fun k12=>⟨fun a=>?_,fun a=>⟨fun b=>?_,fun b=>?_⟩⟩,fun n12=>⟨fun k16=>⟨⟨fun c=>⟨?_,trivial⟩,fun _=>trivial⟩,fun _=>?_⟩,fun n16=>⟨fun a=>?_,fun a=>⟨hm,hv,by simpa using a,he,?_⟩⟩⟩⟩⟩⟩
 ·have hL:aO m e=1:=by unfold aO;rw [k1,a];rfl
  rw [no _ (by decide) hL,hL]
 ·have hL:aO m e=0:=by unfold aO;rw [k1,a];rfl
  have hY:ab m e=FQ m e:=by unfold ab fW;rw [hL,k1];rfl
  rw [hL,hY];unfold FQ;cases e.Yes <;> rfl
 ·have hL:aO m e=1:=by unfold aO aQ;rw [n1,k2,a];rfl
  rw [no _ (by decide) hL,hL]
 ·have hL:aO m e=aQ m e:=by unfold aO;rw [n1,k2];rfl
  have hY:ab m e=aa m e:=by
   unfold ab fW;rw [hL,n1,k2]
   cases h:aQ m e != 0 with
   | true=>rw [EC h];rfl
   | false=>rfl
  rw [hL,hY]
 ·have hL:aO m e=1:=by unfold aO;rw [n1,n2,k12,a];rfl
  rw [no _ (by decide) hL,hL]
 ·have hL:aO m e=2:=by unfold aO;rw [n1,n2,k12,a,b];rfl
  rw [no _ (by decide) hL,hL]
 ·have hL:aO m e=0:=by unfold aO;rw [n1,n2,k12,a,b];rfl
  have hY:ab m e=Bm m e:=by unfold ab fW;rw [hL,n1,n2,k12];rfl
  rw [hL,hY];rfl
 ·have h0:=ho (by simpa using c)
  rw [hr1,bc (n:=(m.Innings.length:Int) - 1) (by omega) (by omega)]
  omega
 ·have hL:aO m e=0:=by unfold aO;rw [n1,n2,n12,k16];rfl
  have hY:ab m e=dF m:=by unfold ab fW;rw [hL,n1,n2,n12,k16];rfl
  have hw:cR m.Rules=bif m.Rules.Overs==0 then 5 else 6:=by unfold cR;cases m.Rules.Overs==0 <;> rfl
  rw [hL,hY]
  unfold dF
  rw [hw,hr2]
  cases c:m.Stage==3 with
  | true=>
   have h0:=ho (by simpa using c)
   have e1:r1.toNat=Kf m:=by rw [hr1];exact BN h0 hx
   have e2:r3=bt m:=by rw [hr3,e1];rfl
   have eS:bO m=FM m (Kf m) { bt m with Ending:=5 }:=by unfold bO;rw [c];rfl
   rw [eS,e1,e2];rfl
  | false=>
   have eS:bO m=m:=by unfold bO;rw [c];rfl
   rw [eS];rfl
 ·have hL:aO m e=1:=by unfold aO ch;rw [n1,n2,n12,n16,a];rfl
  rw [no _ (by decide) hL,hL]
 ·have hL:aO m e=ch m e:=by unfold aO;rw [n1,n2,n12,n16];rfl
  have hY:ab m e=ag m e:=by
   unfold ab fW;rw [hL,n1,n2,n12,n16]
   cases h:ch m e != 0 with
   | true=>rw [EM h];rfl
   | false=>rfl
  rw [hL,hY]
def Ja:FuncId×Ctr:=(194,ae KE uz uA N1)
theorem M8:CtrOK Tryz.prog KE 194 (ae KE uz uA N1):=by
 refine an (C:=al [eg,DX,DY] Tryz.f194) (aj (.consU ka rfl (.consU KA rfl (.consU KC rfl .nil))) _) mixed (fn:=Tryz.f194) Tryz.func194 (by kernel_rfl) (by kernel_rfl) (by kernel_rfl) (by kernel_rfl) (by kernel_rfl) (by kernel_rfl) (Λ:=fun _ _=>none) ?_ ?_
 ·exact fun _ _ _ _ _ _ _ _ h=>by cases h
 ·rintro ⟨v1,v2,v3,v4,v5,v6,v7,v8,v9,v10,v11,v12,v13,v14,v15,v16,v17,v18,v19,v20,v21,v22,e,xs,⟨⟩⟩ hw hn
  exact Ll (mkM v1 v2 v3 v4 v5 v6 v7 v8 v9 v10 v11 v12 v13 v14 v15 v16 v17 v18 v19 v20 v21 v22 xs) e (hn _ List.mem_cons_self) (hn _ (List.mem_cons_of_mem _ List.mem_cons_self)) (hn _ (List.mem_cons_of_mem _ (List.mem_cons_of_mem _ List.mem_cons_self)))
theorem HE (m:Match) (e:Mir.Event) (hm:aK m) :(evPat (al [zK,jE,rl,Ja,oR,wB] Tryz.f145) (fun _=>none) Tryz.f145 qME mY (m,e,())).sat fun z_=>z_ =(sW (m,e,())).2:=by
 refine cast (by kernel_rfl) (?_:let r1:Bool:=(ab m e).2==3;let r2:Bool:=cond (!cW m) true (bB e != 0);let r3:Bool:=cond r1 ((bt (ab m e)).23 != 0) false;aK m∧(dd m∧((!cW m)=true→True)∧((!cW m)=false→True))∧(true=true→(r2=true→(m,1,()) =(aZ m e,bp m e,()))∧(r2=false→((m.2==5)=true→(m,26,()) =(aZ m e,bp m e,()))∧((m.2==5)=false→aK m∧aK m∧aR m=true∧bB e=0∧((aO m e != 0)=true→(m,aO m e,()) =(aZ m e,bp m e,()))∧((aO m e != 0)=false→(((r1=true→lO (ab m e)∧True)∧(r1=false→True))∧(true=true→(r3=true→aK (ab m e)∧lO (ab m e)∧True)∧(r3=false→True)))∧(true=true→(Match.mk (Rules.mk (cond r3 (aE (ab m e)).1.1 (ab m e).1.1) (cond r3 (aE (ab m e)).1.2 (ab m e).1.2) (cond r3 (aE (ab m e)).1.3 (ab m e).1.3) (cond r3 (aE (ab m e)).1.4 (ab m e).1.4) (cond r3 (aE (ab m e)).1.5 (ab m e).1.5) (cond r3 (aE (ab m e)).1.6 (ab m e).1.6) (cond r3 (aE (ab m e)).1.7 (ab m e).1.7) (cond r3 (aE (ab m e)).1.8 (ab m e).1.8) (cond r3 (aE (ab m e)).1.9 (ab m e).1.9) (cond r3 (aE (ab m e)).1.10 (ab m e).1.10) (cond r3 (aE (ab m e)).1.11 (ab m e).1.11) (cond r3 (aE (ab m e)).1.12 (ab m e).1.12) (cond r3 (aE (ab m e)).1.13 (ab m e).1.13) (cond r3 (aE (ab m e)).1.14 (ab m e).1.14)) (cond r3 (aE (ab m e)).2 (ab m e).2) (cond r3 (aE (ab m e)).3 (ab m e).3) (cond r3 (aE (ab m e)).4 (ab m e).4) (cond r3 (aE (ab m e)).5 (ab m e).5) (cond r3 (aE (ab m e)).6.1 (ab m e).6.1,cond r3 (aE (ab m e)).6.2.1 (ab m e).6.2.1,()) (Result.mk (cond r3 (aE (ab m e)).7.1 (ab m e).7.1) (cond r3 (aE (ab m e)).7.2 (ab m e).7.2) (cond r3 (aE (ab m e)).7.3 (ab m e).7.3)),0,()) =(aZ m e,bp m e,())))))))
 intro r1 r2 r3
 clear_value (hr1:r1=_) (hr2:r2=_) (hr3:r3=_)
 rw [←s6] at *
 have e2:r2 =(!aR m||bB e != 0):=by rw [hr2];cases aR m <;> rfl
 have hq:r2=false→aR m=true∧bB e=0:=fun h=>by rw [e2] at h;simpa using h
 clear hr2
 refine ⟨hm,⟨hm.1,fun _=>trivial,fun _=>trivial⟩,fun _=>⟨fun a=>?_,fun a=>⟨fun b=>?_,fun b=>⟨hm,hm,(hq a).1,(hq a).2,fun c=>?_,fun c=>?_⟩⟩⟩⟩
 ·have hL:bp m e=1:=by unfold bp;rw [←e2,a];rfl
  rw [lP (by rw [hL];rfl),hL]
 ·have hL:bp m e=26:=by unfold bp;rw [←e2,a,b];rfl
  rw [lP (by rw [hL];rfl),hL]
 ·have hL:bp m e=aO m e:=by unfold bp;rw [←e2,a,b];rfl
  rw [lP (by rw [hL];exact c),hL]
 ·have hL:bp m e=aO m e:=by unfold bp;rw [←e2,a,b];rfl
  have h0:aO m e=0:=by simpa using c
  have hY:aZ m e=ar (ab m e):=by unfold aZ;rw [hL,c];rfl
  have hn:=nJ e hm (hq a).1
  have ho:=rI e (hq a).1
  rw [hY,hL,h0]
  clear hY hL h0 c b a hq e2
  generalize ab m e=y at *
  have hC:ar y=if r3 then aE y else y:=by
   unfold ar aE
   rw [hr3,hr1]
   cases hs:y.Stage==3 <;> cases he :(bt y).Ending==0 <;> simp [bne,hs,he]
  have hs:r1=true→lO y:=fun h=>⟨ho (by rw [hr1] at h;simpa using h),hn.2.1⟩
  have h31:r3=true→r1=true:=fun h=>by rw [hr3] at h;cases r1 with|true=>rfl|false=>cases h
  rw [hC]
  refine ⟨⟨⟨fun h=>⟨hs h,trivial⟩,fun _=>trivial⟩,fun _=>⟨fun h=>⟨hn,hs (h31 h),trivial⟩,fun _=>trivial⟩⟩,fun _=>?_⟩
  cases r3 <;> rfl
def lF:FuncId×Ctr:=(145,ae KE qME mY sW)
theorem o9:CtrOK Tryz.prog KE 145 (ae KE qME mY sW):=by
 refine an (C:=al [zK,jE,rl,Ja,oR,wB] Tryz.f145) (aj (.consU GP rfl (.consU qt rfl (.consU Ah rfl (.consU M8 rfl (.consU w7 rfl (.consU Ex rfl .nil)))))) _) mixed (fn:=Tryz.f145) Tryz.func145 (by kernel_rfl) (by kernel_rfl) (by kernel_rfl) (by kernel_rfl) (by kernel_rfl) (by kernel_rfl) (Λ:=fun _ _=>none) ?_ ?_
 ·exact fun _ _ _ _ _ _ _ _ h=>by cases h
 ·rintro ⟨m,e,⟨⟩⟩ hw hn
  exact HE m e (hn _ List.mem_cons_self)
abbrev Evs:Ty:= .slice (.nm .Event)
abbrev RU:Ty:= .slice (.nm .Delivered)
abbrev Qd:Pat:=bX [.nm .Match,I,.nm .Event]
abbrev P7:Pat:=bX [I,.nm .Match,.nm .Match,.nm .Delivery]
abbrev JC:Pat:=bX [.nm .Delivered]
abbrev qRL:Pat:=bX [.nm .Rules,Evs]
abbrev qy:Pat:=bX [RU,.nm .Match,I,I]
abbrev nO:Pat:=bX [.nm .Match,I,I]
def kz (m:Match) (i:Int) (e:Mir.Event):Int:=if decide (i≥4000) then 26 else bp m e
def dK (m:Match) (i:Int) (e:Mir.Event):Match:=if decide (i≥4000) then m else aZ m e
def xB:Den (tyP Qd)→List Prop×Den (tyP mY):=fun x=>([aK x.1],(dK x.1 x.2.1 x.2.2.1,kz x.1 x.2.1 x.2.2.1,()))
def lY (r:Rules) (i:Int) (a b:Match) (d:Delivery):Delivered:=
 { Event:=i,Innings:=W ((a.Innings.length:Int) - 1),Over:=(bt a).Complete,Ball:=(bt a).InOver,Bowler:=(bt a).Bowler,Striker:=(bt a).Striker,Partner:=(bt a).Other,Free:=(bt a).FreeHit,Delivery:=d,Credit:=ao r d,Runs:=(bt b).Runs,Wickets:=(bt b).Wickets }
def LR (a b:Match):Prop:=lO a∧b.Innings.length=a.Innings.length
def HS:Den (tyP P7)→List Prop×Den (tyP JC):=fun x=>([LR x.2.1 x.2.2.1],(lY x.2.1.Rules x.1 x.2.1 x.2.2.1 x.2.2.2.1,()))
def x5 (r:Rules) (i:Int) (m y:Match) (e:Mir.Event) (o:List Delivered):List Delivered:=if e.Kind==4 then o++[lY r i m y e.Ball] else o
def dP:Match→List Mir.Event→Int→List Delivered→List Delivered×Match×Int×Int
 | m,[],_,o=>(o,m,-1,0)
 | m,e::l,i,o=>if kz m i e != 0 then (o,m,i,kz m i e) else dP (dK m i e) l (i+1) (x5 m.Rules i m (dK m i e) e o)
def kA (r:Rules):Match:={ Match.zero with Rules:=r,Stage:=1 }
def aF (r:Rules) (l:List Mir.Event):List Delivered×Match×Int×Int:=if aq r != 0 then ([],Match.zero,0,1) else dP (kA r) l 0 []
def sT:Den (tyP qRL)→List Prop×Den (tyP qy):=fun x=>([],((aF x.1 x.2.1).1,(aF x.1 x.2.1).2.1,(aF x.1 x.2.1).2.2.1,(aF x.1 x.2.1).2.2.2,()))
def pj:Den (tyP qRL)→List Prop×Den (tyP nO):=fun x=>([],((aF x.1 x.2.1).2.1,(aF x.1 x.2.1).2.2.1,(aF x.1 x.2.1).2.2.2,()))
def bW (r:Rules) (l:List Mir.Event):Int:=if aq r != 0 then aq r else if decide ((l.length:Int)>4000) then 9 else if (aF r l).2.2.2 != 0 then 10 else 0
def pd:Den (tyP qRL)→List Prop×Den (tyP bb):=fun x=>([],(bW x.1 x.2.1,()))
abbrev Ug:List (Nat×PB):= [(0,.dat (.nm .Match)),(1,.dat (.nm .Match)),(2,.row 3 (.nm .Delivered))]
abbrev qPy:Pat:=⟨[(5,.c (.ptr 0 0)),(8,.c (.ptr 1 0)),(10,.c (.osl 2 3)),(23,.h Evs),(24,.h I),(25,.h I)],Ug,4⟩
abbrev xPy:List (Lf×Pat):= [(.ret,⟨[(4,.c (.osl 2 3)),(5,.c (.ptr 0 0)),(6,.h I),(7,.h I)],[(0,.dat (.nm .Match)),(2,.row 3 (.nm .Delivered))],4⟩),(.ext 0,⟨[(5,.c (.ptr 0 0)),(8,.c (.ptr 1 0)),(10,.c (.osl 2 3))],Ug,4⟩)]
abbrev TPy:Type:=List Mir.Event×Int×Int×Match×Match×List Delivered×Unit
abbrev OPy:Type:=Sum (Int×Int×Match×List Delivered×Unit) (Match×Match×List Delivered×Unit)
def tF (x:TPy):Prop:=(x.2.1 =(x.1.length:Int)∧0≤x.2.2.1∧x.2.2.1≤x.2.1∧x.1.length≤aJ)∧aK x.2.2.2.2.1∧(x.2.2.2.2.2.1.length:Int)≤x.2.2.1∧x.2.2.2.2.2.1.length≤4000
def yr (x:TPy):Nat:=(x.2.1 - x.2.2.1).toNat
def w9 (z:Match) (p:List Delivered×Match×Int×Int):OPy:=if p.2.2.2 != 0 then .inl (p.2.2.1,p.2.2.2,p.2.1,p.1,()) else .inr (z,p.2.1,p.1,())
def jh (x:TPy):OPy:=w9 x.2.2.2.1 (dP x.2.2.2.2.1 (x.1.drop x.2.2.1.toNat) x.2.2.1 x.2.2.2.2.2.1)
theorem Gp {m:Match} (h:aK m) (i:Int) (e:Mir.Event):aK (dK m i e):=by
 unfold dK
 split
 ·exact h
 ·exact ot e h
theorem Gn {m:Match} {i:Int} {e:Mir.Event} (h :(kz m i e != 0)=false):i<4000∧bp m e=0:=by
 unfold kz at h
 by_cases hi:i≥4000
 ·rw [if_pos (decide_eq_true hi)] at h;cases h
 ·rw [if_neg (by simpa using hi)] at h
  exact ⟨by omega,by simpa using h⟩
theorem xh :∀ (l:List Mir.Event) (m:Match) (i:Int) (o:List Delivered),(dP m l i o).2.2.2=0→(dP m l i o).2.2.1 = -1
 | [],_,_,_,_=>rfl
 | e::l,m,i,o,h=>by
  unfold dP at h ⊢
  by_cases hc :(kz m i e != 0)=true
  ·rw [if_pos hc] at h
   have h:kz m i e=0:=h
   rw [h] at hc;cases hc
  ·rw [if_neg hc] at h ⊢
   exact xh l _ _ _ h
theorem qg {r:Rules} (h:aq r=0):aK (kA r):=⟨fun z hz=>(by cases hz),Nat.zero_le _,by have:=m8 h;show r.Power.length≤_;omega⟩
theorem BK {r:Rules} (h:aq r=0):jr r=kA r:=by unfold jr;rw [h];rfl
theorem NS (m:Match) (i:Int) (e:Mir.Event) (hm:aK m) :(evPat (al [Mx] Tryz.f129) (fun _=>none) Tryz.f129 Qd mY (m,i,e,())).sat fun z_=>z_ =(xB (m,i,e,())).2:=by
 refine cast (by kernel_rfl) (?_:let r1:Bool:=decide (i≥4000);(r1=true→(m,26,()) =(dK m i e,kz m i e,()))∧(r1=false→aK m∧(aZ m e,bp m e,()) =(dK m i e,kz m i e,())))
 intro r1
 clear_value (hr1:r1=_)
 refine ⟨fun h=>?_,fun h=>⟨hm,?_⟩⟩
 ·rw [hr1] at h;simp only [dK,kz,h];rfl
 ·rw [hr1] at h;simp only [dK,kz,h];rfl
def Gk:FuncId×Ctr:=(129,ae KE Qd mY xB)
theorem Jt:CtrOK Tryz.prog KE 129 (ae KE Qd mY xB):=by
 refine an (C:=al [Mx] Tryz.f129) (aj (.consU PE rfl .nil) _) mixed (fn:=Tryz.f129) Tryz.func129 (by kernel_rfl) (by kernel_rfl) (by kernel_rfl) (by kernel_rfl) (by kernel_rfl) (by kernel_rfl) (Λ:=fun _ _=>none) ?_ ?_
 ·exact fun _ _ _ _ _ _ _ _ h=>by cases h
 ·rintro ⟨m,i,e,⟨⟩⟩ hw hn
  exact NS m i e (hn _ List.mem_cons_self)
theorem yB (i:Int) (a:Match) (b:Match) (d:Delivery) (hd:LR a b) :(evPat (al [jS] Tryz.f130) (fun _=>none) Tryz.f130 P7 JC (i,a,b,d,())).sat fun z_=>z_ =(HS (i,a,b,d,())).2:=by
 refine cast (by kernel_rfl) (?_:let r1:Int:=IntKind.i64.wrap ((↑a.5.length:Int) - 1);let r2:Innings:=a.5.getD r1.toNat (dflt (Ty.nm Nm.Innings));let r3:Innings:=b.5.getD r1.toNat (dflt (Ty.nm Nm.Innings));(0≤r1∧r1 <(↑a.5.length:Int))∧(0≤r1∧r1 <(↑b.5.length:Int))∧(Delivered.mk i r1 r2.7 r2.8 r2.12 r2.9 r2.10 r2.17 d (ao a.1 d) r3.4 r3.5,()) =(lY a.1 i a b d,()))
 intro r1 r2 r3
 clear_value (hr1:r1=_) (hr2:r2=_) (hr3:r3=_)
 obtain ⟨⟨h0,hx⟩,hl⟩:=hd
 have e0:r1 =(a.Innings.length:Int) - 1:=by rw [hr1];exact bc (by omega) (by omega)
 have e1:r1.toNat=a.Innings.length - 1:=by omega
 have e2:r2=bt a:=by rw [hr2,e1];rfl
 have e3:r3=bt b:=by rw [hr3,e1,←hl];rfl
 refine ⟨⟨by omega,by omega⟩,⟨by omega,by omega⟩,?_⟩
 rw [e2,e3,hr1];rfl
def ns:FuncId×Ctr:=(130,ae KE P7 JC HS)
theorem rF:CtrOK Tryz.prog KE 130 (ae KE P7 JC HS):=by
 refine an (C:=al [jS] Tryz.f130) (aj (.consU o0 rfl .nil) _) mixed (fn:=Tryz.f130) Tryz.func130 (by kernel_rfl) (by kernel_rfl) (by kernel_rfl) (by kernel_rfl) (by kernel_rfl) (by kernel_rfl) (Λ:=fun _ _=>none) ?_ ?_
 ·exact fun _ _ _ _ _ _ _ _ h=>by cases h
 ·rintro ⟨i,a,b,d,⟨⟩⟩ hw hn
  exact yB i a b d (hn _ List.mem_cons_self)
noncomputable def lpPy:Lp:=(⟨0,al [Gk,ns] Tryz.f76,(fun _=>none),(az Tryz.f76 0),qPy,xPy⟩:Lp)
theorem TI (xs:List Mir.Event) (n:Int) (i:Int) (z:Match) (m:Match) (o:List Delivered) (hi:tF (xs,n,i,z,m,o,())) :(Go.Mir.stepG lpPy jh (fun y:Den (tyP lpPy.q)=>tF y∧yr y<yr (xs,n,i,z,m,o,())) (xs,n,i,z,m,o,())∧Go.Mir.stepE lpPy jh (xs,n,i,z,m,o,())=jh (xs,n,i,z,m,o,())):=by
 refine cast (by kernel_rfl) (?_:let r1:Innings:=bt (dK m i (xs.getD i.toNat (dflt (Ty.nm Nm.Event))));let r2:Int:=IntKind.i64.wrap (i+1);let r3:Bool:=(xs.getD i.toNat (dflt (Ty.nm Nm.Event))).1==4;let r4:Bool:=kz m i (xs.getD i.toNat (dflt (Ty.nm Nm.Event))) != 0;let r5:List Delivered:= [Delivered.mk i (W ((↑m.5.length:Int) - 1)) (bt m).7 (bt m).8 (bt m).12 (bt m).9 (bt m).10 (bt m).17 (xs.getD i.toNat (dflt (Ty.nm Nm.Event))).8 (ao m.1 (xs.getD i.toNat (dflt (Ty.nm Nm.Event))).8) r1.4 r1.5];((decide (i<n)=true→(0≤i∧i <(↑xs.length:Int))∧aK m∧(r4=true→True)∧(r4=false→(r3=true→LR m (dK m i (xs.getD i.toNat (dflt (Ty.nm Nm.Event))))∧(o.length+r5.length) *(216:Nat)≤(70368744177664:Nat)∧tF (xs,n,r2,z,dK m i (xs.getD i.toNat (dflt (Ty.nm Nm.Event))),o++r5,())∧yr (xs,n,r2,z,dK m i (xs.getD i.toNat (dflt (Ty.nm Nm.Event))),o++r5,())<yr (xs,n,i,z,m,o,()))∧(r3=false→tF (xs,n,r2,z,dK m i (xs.getD i.toNat (dflt (Ty.nm Nm.Event))),o,())∧yr (xs,n,r2,z,dK m i (xs.getD i.toNat (dflt (Ty.nm Nm.Event))),o,())<yr (xs,n,i,z,m,o,()))))∧(decide (i<n)=false→True))∧(cond (decide (i<n)) (cond r4 (Sum.inl (i,kz m i (xs.getD i.toNat (dflt (Ty.nm Nm.Event))),m,o,())) (cond r3 (jh (xs,n,r2,z,dK m i (xs.getD i.toNat (dflt (Ty.nm Nm.Event))),o++r5,())) (jh (xs,n,r2,z,dK m i (xs.getD i.toNat (dflt (Ty.nm Nm.Event))),o,())))) (Sum.inr (z,m,o,())))=jh (xs,n,i,z,m,o,()))
 intro r1 r2 r3 r4 r5
 clear_value (hr1:r1=_) (hr2:r2=_) (hr3:r3=_) (hr4:r4=_) (hr5:r5=_)
 obtain ⟨⟨h1,h2,h3,h4⟩,hm,h5,h6⟩:=hi
 simp only at h1 h2 h3 h4 hm h5 h6
 have hx :(xs.length:Int)≤140737488355328:=by have:xs.length≤140737488355328:=h4;omega
 by_cases h:i<n
 ·have e:xs.drop i.toNat=xs.getD i.toNat (dflt (Ty.nm Nm.Event))::xs.drop (i+1).toNat:=b8 h2 (by omega) _
  have e2:r2=i+1:=by rw [hr2];exact bc (by omega) (by omega)
  rw [decide_eq_true h,cond_true]
  generalize xs.getD i.toNat (dflt (Ty.nm Nm.Event))=v at *
  have hs:aK (dK m i v):=Gp hm i v
  have hA:r5=[lY m.Rules i m (dK m i v) v.Ball]:=by rw [hr5,hr1];rfl
  have hq:r4=false→i<4000∧bp m v=0:=fun a=>Gn (by rw [←hr4];exact a)
  have hK :∀ o':List Delivered,(o'.length:Int)≤i+1→o'.length≤4000→tF (xs,n,r2,z,dK m i v,o',())∧yr (xs,n,r2,z,dK m i v,o',())<yr (xs,n,i,z,m,o,()):=fun o' k1 k2=>
   ⟨⟨⟨h1,by simp only;omega,by simp only;omega,h4⟩,hs,by simp only;omega,k2⟩,by simp only [yr];omega⟩
  refine ⟨⟨fun _=>⟨⟨h2,by omega⟩,hm,fun _=>trivial,fun a=>⟨fun b=>⟨?_,?_,?_⟩,fun _=>hK o (by omega) h6⟩⟩,fun z=>Bool.noConfusion z⟩,?_⟩
  ·have hy:dK m i v=aZ m v:=by unfold dK;rw [decide_eq_false (by have:=(hq a).1;omega)];rfl
   have hb:=AQ (hq a).2 (by rw [hr3] at b;exact eq_of_beq b)
   exact ⟨⟨hb.1,hm.2.1⟩,by rw [hy];exact hb.2⟩
  ·rw [hA,List.length_singleton];omega
  ·refine hK _ ?_ ?_ <;> rw [hA,List.length_append,List.length_singleton]
   ·omega
   ·have:=(hq a).1;omega
  ·have eP:dP m (xs.drop i.toNat) i o=if r4 then (o,m,i,kz m i v) else dP (dK m i v) (xs.drop (i+1).toNat) (i+1) (x5 m.Rules i m (dK m i v) v o):=by rw [e,hr4];rfl
   have eD:x5 m.Rules i m (dK m i v) v o=bif r3 then o++r5 else o:=by unfold x5;rw [←hr3,hA];cases r3 <;> rfl
   simp only [jh]
   rw [eP,e2,eD]
   cases r4 with
   | true=>unfold w9;simp only [if_true];rw [←hr4];rfl
   | false=>cases r3 <;> rfl
 ·rw [decide_eq_false h,cond_false]
  refine ⟨⟨fun z=>Bool.noConfusion z,fun _=>trivial⟩,?_⟩
  simp only [jh]
  rw [bJ (l:=xs) (by omega)]
  rfl
noncomputable def RJ:LoopSum:=aM lpPy jh tF
noncomputable def Rj:Nat:=rid (az Tryz.f76 0)
theorem Sz:LoopOKp Tryz.prog 0 Tryz.f76.ntmps (az Tryz.f76 0) (aM lpPy jh tF):=
 bk lpPy (aj (.consU Jt rfl (.consU rF rfl .nil)) _) mixed (fun b hb S hS=>by cases hS) jh tF yr (fun |⟨xs,n,i,z,m,o,⟨⟩⟩,hi=>TI xs n i z m o hi)
theorem NR (r:Rules) (l:List Mir.Event) (hx:l.length≤aJ) :(evPat (al [QR,Gk,ns] Tryz.f76) (find [(Rj,RJ)]) Tryz.f76 qRL qy (r,l,())).sat fun z_=>z_ =(sT (r,l,())).2:=by
 refine cast (by kernel_rfl) (?_:let r1:Match:=Match.mk (Rules.mk ByteArray.empty 0 0 0 0 0 0 0 false 0 0 0 0 []) 0 0 false [] (0,0,()) (Result.mk 0 0 0);let r2:Bool:=isL (jh (l,(↑l.length:Int),0,r1,jr r,[],()));let r3:Int×Int×Match×List Delivered×PUnit:=jm (dflt (I.prod (I.prod ((Ty.nm Nm.Match).prod ((Ty.nm Nm.Delivered).slice.prod Ty.unit))))) (jh (l,(↑l.length:Int),0,r1,jr r,[],()));((aq r != 0)=true→([],r1,0,1,()) =((aF r l).1,(aF r l).2.1,(aF r l).2.2.1,(aF r l).2.2.2,()))∧((aq r != 0)=false→((cZ fun x=>none)∧((↑l.length:Int) =(↑l.length:Int)∧(0:Int)≤0∧0≤(↑l.length:Int)∧l.length≤aJ)∧aK (jr r)∧(↑(0:Nat):Int)≤0∧(0:Nat)≤(4000:Nat))∧(r2=true→(r3.2.2.2.1,r3.2.2.1,r3.1,r3.2.1,()) =((aF r l).1,(aF r l).2.1,(aF r l).2.2.1,(aF r l).2.2.2,()))∧(r2=false→((si (dflt ((Ty.nm Nm.Match).prod ((Ty.nm Nm.Match).prod ((Ty.nm Nm.Delivered).slice.prod Ty.unit)))) (jh (l,(↑l.length:Int),0,r1,jr r,[],()))).2.2.1,(si (dflt ((Ty.nm Nm.Match).prod ((Ty.nm Nm.Match).prod ((Ty.nm Nm.Delivered).slice.prod Ty.unit)))) (jh (l,(↑l.length:Int),0,r1,jr r,[],()))).2.1,(-1:Int),0,()) =((aF r l).1,(aF r l).2.1,(aF r l).2.2.1,(aF r l).2.2.2,()))))
 intro r1 r2 r3
 clear_value (hr1:r1=_) (hr2:r2=_) (hr3:r3=_)
 refine ⟨fun h=>?_,fun h=>?_⟩
 ·have:aF r l =([],Match.zero,0,1):=by unfold aF;rw [h];rfl
  rw [this,hr1];rfl
 ·have h0:aq r=0:=by simpa using h
  have hP:aF r l=dP (kA r) l 0 []:=by unfold aF;rw [h];rfl
  have er:jh (l,(l.length:Int),0,r1,jr r,[],())=w9 r1 (aF r l):=by rw [hP,BK h0];rfl
  rw [er] at hr2 hr3 ⊢
  refine ⟨⟨rfl,⟨rfl,Int.le_refl _,by omega,hx⟩,by rw [BK h0];exact qg h0,Int.le_refl _,Nat.zero_le _⟩,?_⟩
  cases hl :(aF r l).2.2.2 != 0 with
  | true=>
   have eo:w9 r1 (aF r l) = .inl ((aF r l).2.2.1,(aF r l).2.2.2,(aF r l).2.1,(aF r l).1,()):=by unfold w9;rw [hl];rfl
   rw [eo] at hr2 hr3
   have e2:r2=true:=hr2
   subst e2 hr3
   exact ⟨fun _=>rfl,fun z=>Bool.noConfusion z⟩
  | false=>
   have eo:w9 r1 (aF r l) = .inr (r1,(aF r l).2.1,(aF r l).1,()):=by unfold w9;rw [hl];rfl
   rw [eo] at hr2 ⊢
   have e2:r2=false:=hr2
   have k1 :(aF r l).2.2.2=0:=by simpa using hl
   have k2 :(aF r l).2.2.1 = -1:=by rw [hP] at k1 ⊢;exact xh l _ _ _ k1
   subst e2
   refine ⟨fun z=>Bool.noConfusion z,fun _=>?_⟩
   rw [k1,k2];rfl
def Bw:FuncId×Ctr:=(76,ae KE qRL qy sT)
theorem Js:CtrOK Tryz.prog KE 76 (ae KE qRL qy sT):=by
 refine an (C:=al [QR,Gk,ns] Tryz.f76) (aj (.consU SU rfl (.consU Jt rfl (.consU rF rfl .nil))) _) mixed (fn:=Tryz.f76) Tryz.func76 (by kernel_rfl) (by kernel_rfl) (by kernel_rfl) (by kernel_rfl) (by kernel_rfl) (by kernel_rfl) (Λ:=fun x=>find [(Rj,RJ)]) ?_ ?_
 ·rintro ⟨r,l,⟨⟩⟩ hw hn
  exact LoopsOKp.at (by kernel_rfl) (.cons (by kernel_rfl) (Sz) .nil)
 ·rintro ⟨r,l,⟨⟩⟩ hw hn
  exact NR r l (cN (aU (aN hw)))
theorem Hr (r:Rules) (l:List Mir.Event) :(evPat (al [Bw] Tryz.f91) (fun _=>none) Tryz.f91 qRL nO (r,l,())).sat fun z_=>z_ =(pj (r,l,())).2:=by
 refine cast (by kernel_rfl) (?_ :((aF r l).2.1,(aF r l).2.2.1,(aF r l).2.2.2,()) =((aF r l).2.1,(aF r l).2.2.1,(aF r l).2.2.2,()))
 rfl
def DM:FuncId×Ctr:=(91,ae KE qRL nO pj)
theorem Kr:CtrOK Tryz.prog KE 91 (ae KE qRL nO pj):=by
 refine an (C:=al [Bw] Tryz.f91) (aj (.consU Js rfl .nil) _) mixed (fn:=Tryz.f91) Tryz.func91 (by kernel_rfl) (by kernel_rfl) (by kernel_rfl) (by kernel_rfl) (by kernel_rfl) (by kernel_rfl) (Λ:=fun _ _=>none) ?_ ?_
 ·exact fun _ _ _ _ _ _ _ _ h=>by cases h
 ·rintro ⟨r,l,⟨⟩⟩ hw hn
  exact Hr r l
theorem K1 (r:Rules) (l:List Mir.Event) :(evPat (al [k85,DM] Tryz.f32) (fun _=>none) Tryz.f32 qRL bb (r,l,())).sat fun z_=>z_ =(pd (r,l,())).2:=by
 refine cast (by kernel_rfl) (?_:let r1:Bool:=(aF r l).2.2.2 != 0;let r2:Bool:=decide ((↑l.length:Int)>4000);((aq r != 0)=true→(aq r,()) =(bW r l,()))∧((aq r != 0)=false→(r2=true→(9,()) =(bW r l,()))∧(r2=false→(r1=true→(10,()) =(bW r l,()))∧(r1=false→(0,()) =(bW r l,())))))
 intro r1 r2
 clear_value (hr1:r1=_) (hr2:r2=_)
 refine ⟨fun h=>?_,fun h=>⟨fun a=>?_,fun a=>⟨fun b=>?_,fun b=>?_⟩⟩⟩
 ·simp only [bW,h,if_true]
 ·have:bW r l=9:=by unfold bW;rw [h,←hr2,a];rfl
  rw [this]
 ·have:bW r l=10:=by unfold bW;rw [h,←hr2,a,←hr1,b];rfl
  rw [this]
 ·have:bW r l=0:=by unfold bW;rw [h,←hr2,a,←hr1,b];rfl
  rw [this]
def I4:FuncId×Ctr:=(32,ae KE qRL bb pd)
theorem MY:CtrOK Tryz.prog KE 32 (ae KE qRL bb pd):=by
 refine an (C:=al [k85,DM] Tryz.f32) (aj (.consU wR rfl (.consU Kr rfl .nil)) _) mixed (fn:=Tryz.f32) Tryz.func32 (by kernel_rfl) (by kernel_rfl) (by kernel_rfl) (by kernel_rfl) (by kernel_rfl) (by kernel_rfl) (Λ:=fun _ _=>none) ?_ ?_
 ·exact fun _ _ _ _ _ _ _ _ h=>by cases h
 ·rintro ⟨r,l,⟨⟩⟩ hw hn
  exact K1 r l
end
end Go.Proofs.YtffdpnmioidloaaGreatDoor
