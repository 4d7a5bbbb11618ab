/- Texts of the mirror and contracts, put together. -/
import Derived.Test.YtkgplaoappjkcaaGreatPS4
namespace Go.Proofs.YtkgplaoappjkcaaGreat
open Go Go.Mir
attribute [local irreducible] Go.Mir.DT.sat Go.Mir.evPat Go.Mir.RT.sat Go.Mir.evFn
abbrev NL:Pat:=⟨[(8,.h I),(9,.h I),(7,.h U8s),(3,.c (.osl 1 2))],[(1,.row 2 I)],3⟩
abbrev Oz:List (Lf×Pat):= [(.ext 0,⟨[(3,.c (.osl 1 2))],[(1,.row 2 I)],3⟩)]
def dY (x:Int×Int×List Int×List Int×Unit):Prop:=cx (x.2.2.1,x.1,x.2.1,())∧x.2.2.1.length≤1000000∧x.2.2.2.1.length≤x.2.1
def dW (x:Int×Int×List Int×List Int×Unit):Nat:=(x.1 - x.2.1).toNat
def ck (x:Int×Int×List Int×List Int×Unit):List Int×Unit:=(x.2.2.2.1++oA (x.2.2.1.drop x.2.1.toNat) x.2.1,())
noncomputable def lpLLc:Lp:=(⟨0,ao [] Tryz.f146,(fun _=>none),(aA Tryz.f146 0),NL,Oz⟩:Lp)
theorem Nl (n:Int) (i:Int) (xs:List Int) (out:List Int) (hi:dY (n,i,xs,out,())) :(Go.Mir.stepG lpLLc ck (fun y:Den (tyP lpLLc.q)=>dY y∧dW y<dW (n,i,xs,out,())) (n,i,xs,out,())∧Go.Mir.stepE lpLLc ck (n,i,xs,out,())=ck (n,i,xs,out,())):=by
 refine cast (by kernel_rfl) (?_:let r1:Int:=IntKind.i64.wrap (i +(1:Int));let r2:List Int:= [r1];let r3:Bool:=bif xs.getD i.toNat (dflt (Ty.int IntKind.u8)) ==(0:Int) then true else xs.getD i.toNat (dflt (Ty.int IntKind.u8)) ==(3:Int);((decide (i<n)=true→((0:Int)≤i∧i <(↑xs.length:Int))∧(r3=true→(out.length+r2.length) *(8:Nat)≤(70368744177664:Nat)∧dY (n,r1,xs,out++r2,())∧dW (n,r1,xs,out++r2,())<dW (n,i,xs,out,()))∧(r3=false→dY (n,r1,xs,out,())∧dW (n,r1,xs,out,())<dW (n,i,xs,out,())))∧(decide (i<n)=false→True))∧(bif decide (i<n) then bif r3 then ck (n,r1,xs,out++r2,()) else ck (n,r1,xs,out,()) else (out,()))=ck (n,i,xs,out,()))
 intro r1 r2 r3
 clear_value (hr1:r1=_) (hr2:r2=_) (hr3:r3=_)
 obtain ⟨⟨h1,h2,h3,h4⟩,h6,h7⟩:=hi
 simp only at h1 h2 h3 h4 h6 h7
 have hw:i<n→r1=i+1:=fun h=>by rw [hr1];exact bi (by omega) (by omega)
 have hl:r2.length=1:=by rw [hr2];rfl
 refine ⟨⟨fun h=>?_,fun _=>trivial⟩,?_⟩
 ·have h:i<n:=of_decide_eq_true h
  have hw:=hw h
  refine ⟨⟨h2,by omega⟩,fun _=>⟨by omega,⟨⟨h1,by simp only;omega,by simp only;omega,h4⟩,h6,by simp only [List.length_append];omega⟩,by simp only [dW];omega⟩,fun _=>⟨⟨⟨h1,by simp only;omega,by simp only;omega,h4⟩,h6,by simp only;omega⟩,by simp only [dW];omega⟩⟩
 ·by_cases h:i<n
  ·have hw:=hw h
   have e:xs.drop i.toNat=xs.getD i.toNat (dflt (Ty.int IntKind.u8))::xs.drop (i+1).toNat:=b7 h2 (by omega) _
   have e3:r3=wg (xs.getD i.toNat (dflt (Ty.int IntKind.u8))):=by
    rw [hr3]
    generalize xs.getD i.toNat (dflt (Ty.int IntKind.u8))=v
    simp only [wg]
    cases v==0 <;> rfl
   rw [decide_eq_true h,cond_true,e3,hr2,hw]
   generalize xs.getD i.toNat (dflt (Ty.int IntKind.u8))=v at e ⊢
   simp only [ck,e,oA]
   cases wg v <;> simp
  ·rw [decide_eq_false h,cond_false]
   simp only [ck]
   rw [bK (l:=xs) (by omega)]
   simp [oA]
noncomputable def LD:LoopSum:=aI lpLLc ck dY
noncomputable def KC:Nat:=rid (aA Tryz.f146 0)
theorem L5:LoopOKp Tryz.prog 0 Tryz.f146.ntmps (aA Tryz.f146 0) (aI lpLLc ck dY):=
 bj lpLLc (al (CtrsOK.nil) _) mixed (fun b hb S hS=>by cases hS) ck dY dW (fun |⟨n,i,xs,out,⟨⟩⟩,hi=>Nl n i xs out hi)
theorem KQ (x:Innings) (hs:aj x) :(evPat (ao [] Tryz.f146) (find [(KC,LD)]) Tryz.f146 qIn qIs (x,())).sat fun z_=>z_ =(yu (x,())).2:=by
 refine cast (by kernel_rfl) (?_ :((cR fun x=>none)∧cx (x.11,(↑x.11.length:Int),(0:Int),())∧x.11.length≤(1000000:Nat)∧(↑(0:Nat):Int)≤(0:Int))∧([]++oA (List.drop (Int.toNat (0:Int)) x.11) (0:Int),()) =(sj x,()))
 refine ⟨⟨rfl,⟨rfl,Int.le_refl _,by simp only;omega,?_⟩,hs.1,Int.le_refl _⟩,rfl⟩
 have:=hs.1
 show x.Batters.length≤140737488355328
 omega
def zr:FuncId×Ctr:=(146,ae KE qIn qIs yu)
theorem GF:CtrOK Tryz.prog KE 146 (ae KE qIn qIs yu):=by
 refine aq (C:=ao [] Tryz.f146) (al (CtrsOK.nil) _) mixed (fn:=Tryz.f146) Tryz.func146 (by kernel_rfl) (by kernel_rfl) (by kernel_rfl) (by kernel_rfl) (by kernel_rfl) (by kernel_rfl) (Λ:=fun x=>find [(KC,LD)]) ?_ ?_
 ·rintro ⟨x,⟨⟩⟩ hw hn
  exact LoopsOKp.at (by kernel_rfl) (.cons (by kernel_rfl) (L5) .nil)
 ·rintro ⟨x,⟨⟩⟩ hw hn
  exact KQ x (hn _ List.mem_cons_self)
noncomputable def lpLLr:Lp:=(⟨0,ao [] Tryz.f198,(fun _=>none),(aA Tryz.f198 0),NL,Oz⟩:Lp)
theorem Nn (n:Int) (i:Int) (xs:List Int) (out:List Int) (hi:dY (n,i,xs,out,())) :(Go.Mir.stepG lpLLr ck (fun y:Den (tyP lpLLr.q)=>dY y∧dW y<dW (n,i,xs,out,())) (n,i,xs,out,())∧Go.Mir.stepE lpLLr ck (n,i,xs,out,())=ck (n,i,xs,out,())):=by
 refine cast (by kernel_rfl) (?_:let r1:Int:=IntKind.i64.wrap (i +(1:Int));let r2:List Int:= [r1];let r3:Bool:=bif xs.getD i.toNat (dflt (Ty.int IntKind.u8)) ==(0:Int) then true else xs.getD i.toNat (dflt (Ty.int IntKind.u8)) ==(3:Int);((decide (i<n)=true→((0:Int)≤i∧i <(↑xs.length:Int))∧(r3=true→(out.length+r2.length) *(8:Nat)≤(70368744177664:Nat)∧dY (n,r1,xs,out++r2,())∧dW (n,r1,xs,out++r2,())<dW (n,i,xs,out,()))∧(r3=false→dY (n,r1,xs,out,())∧dW (n,r1,xs,out,())<dW (n,i,xs,out,())))∧(decide (i<n)=false→True))∧(bif decide (i<n) then bif r3 then ck (n,r1,xs,out++r2,()) else ck (n,r1,xs,out,()) else (out,()))=ck (n,i,xs,out,()))
 intro r1 r2 r3
 clear_value (hr1:r1=_) (hr2:r2=_) (hr3:r3=_)
 obtain ⟨⟨h1,h2,h3,h4⟩,h6,h7⟩:=hi
 simp only at h1 h2 h3 h4 h6 h7
 have hw:i<n→r1=i+1:=fun h=>by rw [hr1];exact bi (by omega) (by omega)
 have hl:r2.length=1:=by rw [hr2];rfl
 refine ⟨⟨fun h=>?_,fun _=>trivial⟩,?_⟩
 ·have h:i<n:=of_decide_eq_true h
  have hw:=hw h
  refine ⟨⟨h2,by omega⟩,fun _=>⟨by omega,⟨⟨h1,by simp only;omega,by simp only;omega,h4⟩,h6,by simp only [List.length_append];omega⟩,by simp only [dW];omega⟩,fun _=>⟨⟨⟨h1,by simp only;omega,by simp only;omega,h4⟩,h6,by simp only;omega⟩,by simp only [dW];omega⟩⟩
 ·by_cases h:i<n
  ·have hw:=hw h
   have e:xs.drop i.toNat=xs.getD i.toNat (dflt (Ty.int IntKind.u8))::xs.drop (i+1).toNat:=b7 h2 (by omega) _
   have e3:r3=wg (xs.getD i.toNat (dflt (Ty.int IntKind.u8))):=by
    rw [hr3]
    generalize xs.getD i.toNat (dflt (Ty.int IntKind.u8))=v
    simp only [wg]
    cases v==0 <;> rfl
   rw [decide_eq_true h,cond_true,e3,hr2,hw]
   generalize xs.getD i.toNat (dflt (Ty.int IntKind.u8))=v at e ⊢
   simp only [ck,e,oA]
   cases wg v <;> simp
  ·rw [decide_eq_false h,cond_false]
   simp only [ck]
   rw [bK (l:=xs) (by omega)]
   simp [oA]
noncomputable def LE:LoopSum:=aI lpLLr ck dY
noncomputable def KD:Nat:=rid (aA Tryz.f198 0)
theorem L6:LoopOKp Tryz.prog 0 Tryz.f198.ntmps (aA Tryz.f198 0) (aI lpLLr ck dY):=
 bj lpLLr (al (CtrsOK.nil) _) mixed (fun b hb S hS=>by cases hS) ck dY dW (fun |⟨n,i,xs,out,⟨⟩⟩,hi=>Nn n i xs out hi)
theorem E7 (x:Innings) (hs:aj x) :(evPat (ao [] Tryz.f198) (find [(KD,LE)]) Tryz.f198 qIn qIs (x,())).sat fun z_=>z_ =(yu (x,())).2:=by
 refine cast (by kernel_rfl) (?_ :((cR fun x=>none)∧cx (x.11,(↑x.11.length:Int),(0:Int),())∧x.11.length≤(1000000:Nat)∧(↑(0:Nat):Int)≤(0:Int))∧([]++oA (List.drop (Int.toNat (0:Int)) x.11) (0:Int),()) =(sj x,()))
 refine ⟨⟨rfl,⟨rfl,Int.le_refl _,by simp only;omega,?_⟩,hs.1,Int.le_refl _⟩,rfl⟩
 have:=hs.1
 show x.Batters.length≤140737488355328
 omega
def pU:FuncId×Ctr:=(198,ae KE qIn qIs yu)
theorem x7:CtrOK Tryz.prog KE 198 (ae KE qIn qIs yu):=by
 refine aq (C:=ao [] Tryz.f198) (al (CtrsOK.nil) _) mixed (fn:=Tryz.f198) Tryz.func198 (by kernel_rfl) (by kernel_rfl) (by kernel_rfl) (by kernel_rfl) (by kernel_rfl) (by kernel_rfl) (Λ:=fun x=>find [(KD,LE)]) ?_ ?_
 ·rintro ⟨x,⟨⟩⟩ hw hn
  exact LoopsOKp.at (by kernel_rfl) (.cons (by kernel_rfl) (L6) .nil)
 ·rintro ⟨x,⟨⟩⟩ hw hn
  exact E7 x (hn _ List.mem_cons_self)
theorem sA {x:Innings} {p:Int} {hurt:Bool} (h1:aC x p=true) (h2 :(x.Striker==0||x.Other==0)=false) (h3 :(p != x.Striker&&p != x.Other)=false) (h4 :(hurt&&jl x)=false) :
  bI x p hurt=0∧cm x p hurt={ cB x (p==x.Striker) with Batters:=x.Batters.set (p - 1).toNat (bif hurt then 3 else 2),Wickets:=(bif hurt then x.Wickets else W (x.Wickets+1)) }:=by
 have e:bI x p hurt=0:=by simp only [bI,h1,h2,h3,h4];rfl
 refine ⟨e,?_⟩
 have kb :∀ b,(cB x b).Batters=x.Batters∧(cB x b).Wickets=x.Wickets:=fun b=>by cases b <;> exact ⟨rfl,rfl⟩
 simp only [cm,e]
 obtain ⟨k1,k2⟩:=kb (p==x.Striker)
 have kk:aC (cB x (p==x.Striker)) p=true:=by unfold aC at h1 ⊢;rw [k1];exact h1
 cases hurt with
 | true=>simp [cc,k1,←k2]
 | false=>simp [fc,kk,cc,k1,k2]
theorem EV (x:Innings) (p:Int) (hurt:Bool) (hs:aj x) (hp:gl p) :(evPat (ao [l4,jI,zr,iT] Tryz.f136) (fun _=>none) Tryz.f136 vD q2L (x,p,hurt,())).sat fun z_=>z_ =(oc (x,p,hurt,())).2:=by
 refine cast (by kernel_rfl) (?_:let r1:Int:=bif p==x.9 then x.1 else x.1;let r2:Int:=bif p==x.9 then x.2 else x.2;let r3:Int:=bif p==x.9 then x.3 else x.3;let r4:Int:=bif p==x.9 then x.4 else x.4;let r5:Int:=bif p==x.9 then x.5 else x.5;let r6:Int:=bif p==x.9 then x.7 else x.7;let r7:Int:=bif p==x.9 then x.8 else x.8;let r8:Int:=bif p==x.9 then x.12 else x.12;let r9:Bool:=bif p==x.9 then x.15 else x.15;let r10:Bool:=bif p==x.9 then x.17 else x.17;let r11:Int:=bif p==x.9 then x.18 else x.18;let r12:Int:=bif p==x.9 then x.19 else x.19;let r13:Int:=bif p==x.9 then x.20 else x.20;let r14:Int:=bif p==x.9 then x.23 else x.23;let r15:Int:=IntKind.i64.wrap (p - (1:Int));let r16:Int:=bif p==x.9 then x.6.1 else x.6.1;let r17:Int:=bif p==x.9 then x.6.2 else x.6.2;let r18:Int:=bif p==x.9 then x.6.3 else x.6.3;let r19:Int:=bif p==x.9 then x.6.4 else x.6.4;let r20:Int:=bif p==x.9 then x.6.5 else x.6.5;let r21:Int:=bif p==x.9 then x.22.1 else x.22.1;let r22:Int:=bif p==x.9 then (0:Int) else x.9;let r23:Int:=bif p==x.9 then x.10 else (0:Int);let r24:Int:=bif p==x.9 then x.22.2.1 else x.22.2.1;let r25:Bool:=bif p != x.9 then p != x.10 else false;let r26:Bool:=bif hurt then (↑(sj x).length:Int) ==(0:Int) else false;let r27:Bool:=bif x.9 ==(0:Int) then true else x.10 ==(0:Int);let r28:Innings:=inn (r1,r2,r3,r4,r5,r16,r17,r18,r19,r20,r6,r7,r22,r23,r8,r9,r10,r11,r12,r13,r21,r24,r14,x.11,x.13,x.14,x.16,x.21,());let r29:Bool:=aC r28 p;let r30:Innings:=if r29=true then cc r28 p (2:Int) else r28;aj x∧((!aC x p)=true→(x,(3:Int),()) =(cm x p hurt,bI x p hurt,()))∧((!aC x p)=false→(r27=true→(x,(6:Int),()) =(cm x p hurt,bI x p hurt,()))∧(r27=false→(r25=true→(x,(4:Int),()) =(cm x p hurt,bI x p hurt,()))∧(r25=false→((hurt=true→aj x∧True)∧(hurt=false→True))∧(true=true→(r26=true→(x,(19:Int),()) =(cm x p hurt,bI x p hurt,()))∧(r26=false→((hurt=true→((0:Int)≤r15∧r15 <(↑x.11.length:Int))∧True)∧(hurt=false→True))∧(true=true→(Innings.mk (bif hurt then r1 else r30.1) (bif hurt then r2 else r30.2) (bif hurt then r3 else r30.3) (bif hurt then r4 else r30.4) (bif hurt then r5 else W (r5 +(1:Int))) (Extras.mk (bif hurt then r16 else r30.6.1) (bif hurt then r17 else r30.6.2) (bif hurt then r18 else r30.6.3) (bif hurt then r19 else r30.6.4) (bif hurt then r20 else r30.6.5)) (bif hurt then r6 else r30.7) (bif hurt then r7 else r30.8) (bif hurt then r22 else r30.9) (bif hurt then r23 else r30.10) (bif hurt then x.11.set r15.toNat (3:Int) else r30.11) (bif hurt then r8 else r30.12) (bif hurt then x.13 else r30.13) (bif hurt then x.14 else r30.14) (bif hurt then r9 else r30.15) (bif hurt then x.16 else r30.16) (bif hurt then r10 else r30.17) (bif hurt then r11 else r30.18) (bif hurt then r12 else r30.19) (bif hurt then r13 else r30.20) (bif hurt then x.21 else r30.21) (bif hurt then r21 else r30.22.1,bif hurt then r24 else r30.22.2.1,()) (bif hurt then r14 else r30.23),(0:Int),()) =(cm x p hurt,bI x p hurt,()))))))))
 intro r1 r2 r3 r4 r5 r6 r7 r8 r9 r10 r11 r12 r13 r14 r15 r16 r17 r18 r19 r20 r21 r22 r23 r24 r25 r26 r27 r28 r29 r30
 clear_value (hr1:r1=_) (hr2:r2=_) (hr3:r3=_) (hr4:r4=_) (hr5:r5=_) (hr6:r6=_) (hr7:r7=_) (hr8:r8=_) (hr9:r9=_) (hr10:r10=_) (hr11:r11=_) (hr12:r12=_) (hr13:r13=_) (hr14:r14=_) (hr15:r15=_) (hr16:r16=_) (hr17:r17=_) (hr18:r18=_) (hr19:r19=_) (hr20:r20=_) (hr21:r21=_) (hr22:r22=_) (hr23:r23=_) (hr24:r24=_) (hr25:r25=_) (hr26:r26=_) (hr27:r27=_) (hr28:r28=_) (hr29:r29=_) (hr30:r30=_)
 simp only [Bool.cond_self] at *
 have t1 :∀ a b:Bool,(bif a then true else b) =(a||b):=by decide
 have t2 :∀ a b:Bool,(bif a then b else false) =(a&&b):=by decide
 have e27:r27 =(x.Striker==0||x.Other==0):=by rw [hr27,t1]
 have e26:r26 =(hurt&&jl x):=by rw [hr26,t2];rfl
 have e25:r25 =(p != x.Striker&&p != x.Other):=by rw [hr25,t2]
 have kb:aC x p=true→(0:Int)≤r15∧r15 <(x.Batters.length:Int)∧r15=p - 1:=fun k=>by
  have k2:1≤p∧p≤x.Batters.length:=by simpa [aC] using k
  have e1:r15=p - 1:=by rw [hr15];exact fo k2.1 hp
  omega
 have f1 :∀ {k:Int},k≠0→bI x p hurt=k→(x,k,()) =(cm x p hurt,bI x p hurt,()):=fun {k} hk e=>by
  have :(bI x p hurt != 0)=true:=by rw [e];simpa using hk
  rw [e]
  simp only [cm,this];rfl
 refine ⟨hs,fun h=>f1 (by decide) ?_,fun h1=>⟨fun h=>f1 (by decide) ?_,fun h2=>⟨fun h=>f1 (by decide) ?_,fun h3=>⟨⟨fun _=>⟨hs,trivial⟩,fun _=>trivial⟩,fun _=>⟨fun h=>f1 (by decide) ?_,fun h4=>⟨⟨fun _=>⟨?_,trivial⟩,fun _=>trivial⟩,fun _=>?_⟩⟩⟩⟩⟩⟩
 ·simp only [bI,h];rfl
 ·rw [e27] at h;simp only [bI,h1,h];rfl
 ·rw [e27] at h2;rw [e25] at h;simp only [bI,h1,h2,h];rfl
 ·rw [e27] at h2;rw [e25] at h3;rw [e26] at h;simp only [bI,h1,h2,h3,h];rfl
 ·have k1:aC x p=true:=by simpa using h1
  exact ⟨(kb k1).1,(kb k1).2.1⟩
 ·have k1:aC x p=true:=by simpa using h1
  obtain ⟨e,ey⟩:=sA k1 (e27▸h2) (e25▸h3) (e26▸h4)
  have e28:r28=cB x (p==x.Striker):=by
   rw [hr28,hr22,hr23];simp only [cB];cases p==x.Striker <;> simp only [*] <;> rfl
  have k29:r29=true:=by
   rw [hr29,e28]
   unfold aC at k1 ⊢
   cases p==x.Striker <;> exact k1
  have e30:r30=cc (cB x (p==x.Striker)) p 2:=by rw [hr30,k29,e28];rfl
  rw [e,ey,e30,(kb k1).2.2]
  subst hr1 hr2 hr3 hr4 hr5 hr6 hr7 hr8 hr9 hr10 hr11 hr12 hr13 hr14 hr16 hr17 hr18 hr19 hr20 hr21 hr24
  rw [hr22,hr23]
  cases hurt <;> cases p==x.Striker <;> rfl
def BN:FuncId×Ctr:=(136,ae KE vD q2L oc)
theorem HO:CtrOK Tryz.prog KE 136 (ae KE vD q2L oc):=by
 refine aq (C:=ao [l4,jI,zr,iT] Tryz.f136) (al (.consU rh rfl (.consU qg rfl (.consU GF rfl (.consU pj rfl .nil)))) _) mixed (fn:=Tryz.f136) Tryz.func136 (by kernel_rfl) (by kernel_rfl) (by kernel_rfl) (by kernel_rfl) (by kernel_rfl) (by kernel_rfl) (Λ:=fun _ _=>none) ?_ ?_
 ·exact fun _ _ _ _ _ _ _ _ h=>by cases h
 ·rintro ⟨x,p,hurt,⟨⟩⟩ hw hn
  exact EV x p hurt (hn _ List.mem_cons_self) (dd (aY (aP hw)))
theorem Af (x:Innings) (p:Int) (hurt:Bool) (hs:aj x) (hp:gl p) :(evPat (ao [k44,ed,pU] Tryz.f190) (fun _=>none) Tryz.f190 vD q2L (x,p,hurt,())).sat fun z_=>z_ =(oc (x,p,hurt,())).2:=by
 refine cast (by kernel_rfl) (?_:let r1:Int:=bif x.9==p then x.1 else x.1;let r2:Int:=bif x.9==p then x.2 else x.2;let r3:Int:=bif x.9==p then x.3 else x.3;let r4:Int:=bif x.9==p then x.4 else x.4;let r5:Int:=bif x.9==p then x.5 else x.5;let r6:Int:=bif x.9==p then x.7 else x.7;let r7:Int:=bif x.9==p then x.8 else x.8;let r8:Int:=bif x.9==p then x.12 else x.12;let r9:Bool:=bif x.9==p then x.15 else x.15;let r10:Bool:=bif x.9==p then x.17 else x.17;let r11:Int:=bif x.9==p then x.18 else x.18;let r12:Int:=bif x.9==p then x.19 else x.19;let r13:Int:=bif x.9==p then x.20 else x.20;let r14:Int:=bif x.9==p then x.23 else x.23;let r15:Int:=IntKind.i64.wrap (p - (1:Int));let r16:Int:=bif x.9==p then x.6.1 else x.6.1;let r17:Int:=bif x.9==p then x.6.2 else x.6.2;let r18:Int:=bif x.9==p then x.6.3 else x.6.3;let r19:Int:=bif x.9==p then x.6.4 else x.6.4;let r20:Int:=bif x.9==p then x.6.5 else x.6.5;let r21:Int:=bif x.9==p then x.22.1 else x.22.1;let r22:Int:=bif x.9==p then (0:Int) else x.9;let r23:Int:=bif x.9==p then x.10 else (0:Int);let r24:Int:=bif x.9==p then x.22.2.1 else x.22.2.1;let r25:Bool:=bif x.9 != p then x.10 != p else false;let r26:Bool:=bif hurt then (↑(sj x).length:Int) ==(0:Int) else false;let r27:Bool:=bif x.9 ==(0:Int) then true else x.10 ==(0:Int);let r28:List Int:=x.11.set r15.toNat (3:Int);aj x∧((!aC x p)=true→(x,(3:Int),()) =(cm x p hurt,bI x p hurt,()))∧((!aC x p)=false→(r27=true→(x,(6:Int),()) =(cm x p hurt,bI x p hurt,()))∧(r27=false→(r25=true→(x,(4:Int),()) =(cm x p hurt,bI x p hurt,()))∧(r25=false→((hurt=true→aj x∧True)∧(hurt=false→True))∧(true=true→(r26=true→(x,(19:Int),()) =(cm x p hurt,bI x p hurt,()))∧(r26=false→((0:Int)≤r15∧r15 <(↑x.11.length:Int))∧(((!hurt)=true→((0:Int)≤r15∧r15 <(↑r28.length:Int))∧True)∧((!hurt)=false→True))∧(true=true→(Innings.mk (bif !hurt then r1 else r1) (bif !hurt then r2 else r2) (bif !hurt then r3 else r3) (bif !hurt then r4 else r4) (bif !hurt then IntKind.i64.wrap (r5 +(1:Int)) else r5) (Extras.mk (bif !hurt then r16 else r16) (bif !hurt then r17 else r17) (bif !hurt then r18 else r18) (bif !hurt then r19 else r19) (bif !hurt then r20 else r20)) (bif !hurt then r6 else r6) (bif !hurt then r7 else r7) (bif !hurt then r22 else r22) (bif !hurt then r23 else r23) (bif !hurt then r28.set r15.toNat (2:Int) else r28) (bif !hurt then r8 else r8) x.13 x.14 (bif !hurt then r9 else r9) x.16 (bif !hurt then r10 else r10) (bif !hurt then r11 else r11) (bif !hurt then r12 else r12) (bif !hurt then r13 else r13) x.21 (bif !hurt then r21 else r21,bif !hurt then r24 else r24,()) (bif !hurt then r14 else r14),(0:Int),()) =(cm x p hurt,bI x p hurt,()))))))))
 intro r1 r2 r3 r4 r5 r6 r7 r8 r9 r10 r11 r12 r13 r14 r15 r16 r17 r18 r19 r20 r21 r22 r23 r24 r25 r26 r27 r28
 clear_value (hr1:r1=_) (hr2:r2=_) (hr3:r3=_) (hr4:r4=_) (hr5:r5=_) (hr6:r6=_) (hr7:r7=_) (hr8:r8=_) (hr9:r9=_) (hr10:r10=_) (hr11:r11=_) (hr12:r12=_) (hr13:r13=_) (hr14:r14=_) (hr15:r15=_) (hr16:r16=_) (hr17:r17=_) (hr18:r18=_) (hr19:r19=_) (hr20:r20=_) (hr21:r21=_) (hr22:r22=_) (hr23:r23=_) (hr24:r24=_) (hr25:r25=_) (hr26:r26=_) (hr27:r27=_) (hr28:r28=_)
 simp only [Bool.cond_self] at *
 have t1 :∀ a b:Bool,(bif a then true else b) =(a||b):=by decide
 have t2 :∀ a b:Bool,(bif a then b else false) =(a&&b):=by decide
 have e27:r27 =(x.Striker==0||x.Other==0):=by rw [hr27,t1]
 have e26:r26 =(hurt&&jl x):=by rw [hr26,t2];rfl
 have e25:r25 =(p != x.Striker&&p != x.Other):=by rw [hr25,t2];rw [show (x.Striker != p) =(p != x.Striker) from by simp only [bne,BEq.comm],show (x.Other != p) =(p != x.Other) from by simp only [bne,BEq.comm]]
 have kb:aC x p=true→(0:Int)≤r15∧r15 <(x.Batters.length:Int)∧r15=p - 1:=fun k=>by
  have k2:1≤p∧p≤x.Batters.length:=by simpa [aC] using k
  have e1:r15=p - 1:=by rw [hr15];exact fo k2.1 hp
  omega
 have f1 :∀ {k:Int},k≠0→bI x p hurt=k→(x,k,()) =(cm x p hurt,bI x p hurt,()):=fun {k} hk e=>by
  have :(bI x p hurt != 0)=true:=by rw [e];simpa using hk
  rw [e]
  simp only [cm,this];rfl
 have eS :(x.Striker==p) =(p==x.Striker):=BEq.comm
 refine ⟨hs,fun h=>f1 (by decide) ?_,fun h1=>⟨fun h=>f1 (by decide) ?_,fun h2=>⟨fun h=>f1 (by decide) ?_,fun h3=>⟨⟨fun _=>⟨hs,trivial⟩,fun _=>trivial⟩,fun _=>⟨fun h=>f1 (by decide) ?_,fun h4=>?_⟩⟩⟩⟩⟩
 ·simp only [bI,h];rfl
 ·rw [e27] at h;simp only [bI,h1,h];rfl
 ·rw [e27] at h2;rw [e25] at h;simp only [bI,h1,h2,h];rfl
 ·rw [e27] at h2;rw [e25] at h3;rw [e26] at h;simp only [bI,h1,h2,h3,h];rfl
 ·have k1:aC x p=true:=by simpa using h1
  obtain ⟨e,ey⟩:=sA k1 (e27▸h2) (e25▸h3) (e26▸h4)
  obtain ⟨b1,b2,b3⟩:=kb k1
  have hl:r28.length=x.Batters.length:=by rw [hr28];simp
  refine ⟨⟨b1,b2⟩,⟨fun _=>⟨⟨b1,by rw [hl];exact b2⟩,trivial⟩,fun _=>trivial⟩,fun _=>?_⟩
  rw [e,ey,hr28,b3]
  have ss :((x.Batters.set (p - 1).toNat 3).set (p - 1).toNat 2)=x.Batters.set (p - 1).toNat 2:=by simp
  subst hr1 hr2 hr3 hr4 hr5 hr6 hr7 hr8 hr9 hr10 hr11 hr12 hr13 hr14 hr16 hr17 hr18 hr19 hr20 hr21 hr24
  rw [hr22,hr23,eS,ss]
  cases hurt <;> cases p==x.Striker <;> rfl
def uJ:FuncId×Ctr:=(190,ae KE vD q2L oc)
theorem Cl:CtrOK Tryz.prog KE 190 (ae KE vD q2L oc):=by
 refine aq (C:=ao [k44,ed,pU] Tryz.f190) (al (.consU rg rfl (.consU jN rfl (.consU x7 rfl .nil))) _) mixed (fn:=Tryz.f190) Tryz.func190 (by kernel_rfl) (by kernel_rfl) (by kernel_rfl) (by kernel_rfl) (by kernel_rfl) (by kernel_rfl) (Λ:=fun _ _=>none) ?_ ?_
 ·exact fun _ _ _ _ _ _ _ _ h=>by cases h
 ·rintro ⟨x,p,hurt,⟨⟩⟩ hw hn
  exact Af x p hurt (hn _ List.mem_cons_self) (dd (aY (aP hw)))
end Go.Proofs.YtkgplaoappjkcaaGreat
namespace Go.Proofs.YtkgplaoappjkcaaGreat
open Go Go.Mir
attribute [local irreducible] Go.Mir.RT.sat Go.Mir.evFn Go.Mir.stepObl
theorem PW (xs:List Int) (v:Int) (hx:xs.length≤aS) (i:Nat) (hi:F4 xs v i) :(stepObl (J79 xs v) (F4 xs v) (fun i=>xs.length - i) i (T79 xs v) (bQ (cf8 [] Tryz.f126) (fun _=>none) (aA Tryz.f126 0) (J79 xs v i)) (L79 i)).1:=by
 refine cast (by kernel_rfl) (?_ :(decide ((↑i:Int) <(↑xs.length:Int))=true→((0:Int)≤(↑i:Int)∧(↑i:Int) <(↑xs.length:Int))∧((v==xs.getD (↑i:Int).toNat (dflt (Ty.int IntKind.i64)))=true→xs.contains v=true∧((↑i:Int)=idx xs v (0:Int)∧True)∧True)∧((v==xs.getD (↑i:Int).toNat (dflt (Ty.int IntKind.i64)))=false→F4 xs v (i +(1:Nat))∧xs.length - (i +(1:Nat))<xs.length - i∧(RowD.mk (Ty.int IntKind.i64) xs=RowD.mk (Ty.int IntKind.i64) xs∧v=v∧(↑xs.length:Int) =(↑xs.length:Int)∧IntKind.i64.wrap ((↑i:Int) +(1:Int)) =(↑(i +(1:Nat)):Int)∧True)∧True))∧(decide ((↑i:Int) <(↑xs.length:Int))=false→xs.contains v=false∧True∧True))
 have e :(i:Int).toNat=i:=by simp
 rw [e]
 refine ⟨fun h1=>?_,fun h1=>?_⟩
 ·have h1:i<xs.length:=by simpa using h1
  refine ⟨⟨by omega,by omega⟩,fun h2=>?_,fun h2=>?_⟩
  ·have h2:v=xs.getD i (dflt (Ty.int IntKind.i64)):=eq_of_beq h2
   have h3:xs[i]?=some v:=by rw [h2];exact lh _ h1
   refine ⟨by simpa using List.mem_of_getElem? h3,⟨?_,trivial⟩,trivial⟩
   rw [D0 xs v 0 i h3 hi.2];omega
  ·have h2:v≠xs.getD i (0:Int):=ne_of_beq_false h2
   have h3:xs.getD i (0:Int)=xs[i]:=by rw [List.getD_eq_getElem?_getD,List.getElem?_eq_getElem h1];rfl
   refine ⟨⟨by omega,?_⟩,by omega,⟨rfl,rfl,rfl,?_,trivial⟩,trivial⟩
   ·rw [List.take_succ_eq_append_getElem h1,List.mem_append,List.mem_singleton,not_or]
    exact ⟨hi.2,by rw [←h3];exact h2⟩
   ·have:xs.length≤140737488355328:=hx
    rw [de (by omega) (by omega)];omega
 ·have h1 :¬ i<xs.length:=by simpa using h1
  refine ⟨?_,trivial,trivial⟩
  have:=hi.2
  rw [List.take_of_length_le (by omega)] at this
  simpa using this
theorem OW (xs:List Int) (v:Int) (hx:xs.length≤aS):LoopOK Tryz.prog Tryz.f126.ntmps (aA Tryz.f126 0) (b8 ⟨[],[],0⟩ (J79 xs v 0) (T79 xs v)):=
 fq (bp (CtrsOK.nil) _) mixed (J79 xs v) (fun _=>rfl) (F4 xs v) (fun i=>xs.length - i) (fun _ _=>none) (fun _ _ _ _ _ h=>by cases h) (T79 xs v) [] [] 0 (⟨Nat.zero_le _,by simp⟩) L79 (fun i hi=>PW xs v hx i hi)
theorem RE (xs:List Int) (v:Int) (hx:xs.length≤aS) :(evFn (cf8 [] Tryz.f126) (Λ79 xs v) Tryz.f126 (bh vz (xs,v,()))).sat fun v' rows=>leV v' (AV (xs,v,())).v∧rows =(AV (xs,v,())).rows:=by
 refine cast (by kernel_rfl) (?_ :((cR fun x=>none)∧(RowD.mk (Ty.int IntKind.i64) xs=RowD.mk (Ty.int IntKind.i64) xs∧v=v∧(↑xs.length:Int) =(↑xs.length:Int)∧(0:Int) =(↑(0:Nat):Int)∧True)∧True)∧(xs.contains v=true→idx xs v (0:Int)=idx xs v (0:Int)∧([]:List RowD)=[])∧(xs.contains v=false→(-1:Int)=idx xs v (0:Int)∧([]:List RowD)=[]))
 refine ⟨⟨rfl,⟨rfl,rfl,rfl,rfl,trivial⟩,trivial⟩,fun _=>⟨rfl,rfl⟩,fun h=>⟨?_,rfl⟩⟩
 rw [ux]
 simpa using h
theorem Sz:CtrOK Tryz.prog K8 126 (ap K8 vz AV):=by
 refine aJ (C:=cf8 [] Tryz.f126) (bp (CtrsOK.nil) _) mixed (fn:=Tryz.f126) Tryz.func126 (by kernel_rfl) (by kernel_rfl) (by kernel_rfl) (Λ:=fun x=>Λ79 x.1 x.2.1) ?_ ?_ ?_
 ·rintro ⟨xs,v,⟨⟩⟩ hw hn
  exact LoopsOK.at (by kernel_rfl) (.cons (by kernel_rfl) (OW xs v (cu (aY hw))) .nil)
 ·rintro ⟨xs,v,⟨⟩⟩
  exact of_decide_eq_true (by kernel_rfl)
 ·rintro ⟨xs,v,⟨⟩⟩ hw hn
  exact RE xs v (cu (aY hw))
theorem Re (xs:List Int) (v:Int) :(evFn (cf8 [k79] Tryz.f105) (fun _=>none) Tryz.f105 (bh vz (xs,v,()))).sat fun v' rows=>leV v' (m8 (xs,v,())).v∧rows =(m8 (xs,v,())).rows:=by
 refine cast (by kernel_rfl) (?_:decide (idx xs v (0:Int)≥(0:Int))=cE xs v∧([]:List RowD)=[])
 exact ⟨F0 xs v 0 (Int.le_refl 0),rfl⟩
theorem Mi:CtrOK Tryz.prog K8 105 (ap K8 vz m8):=by
 refine aJ (C:=cf8 [k79] Tryz.f105) (bp (.cons Sz .nil) _) mixed (fn:=Tryz.f105) Tryz.func105 (by kernel_rfl) (by kernel_rfl) (by kernel_rfl) (Λ:=fun _ _=>none) ?_ ?_ ?_
 ·exact fun _ _ _ _ _ _ _ _ h=>by cases h
 ·rintro ⟨xs,v,⟨⟩⟩
  exact of_decide_eq_true (by kernel_rfl)
 ·rintro ⟨xs,v,⟨⟩⟩ hw hn
  exact Re xs v
end Go.Proofs.YtkgplaoappjkcaaGreat
namespace Go.Proofs.YtkgplaoappjkcaaGreat
open Go Go.Mir
attribute [local irreducible] Go.Mir.DT.sat Go.Mir.evPat Go.Mir.RT.sat Go.Mir.evFn
def fP (n:Int):Bool:=!inW n 0 1000000000
def PM:Den (tyP be)→List Prop×Den (tyP ax):=fun x=>([],(fP x.1,()))
abbrev qNI (f:Nat):Pat:=⟨[(0,.h Is),(1,.c (.fn f [])),(7,.h I),(8,.h I)],[],0⟩
def kF (x:List Int×Int×Int×Unit):Sum (Int×Unit) Unit:=Jx (c0 fP (x.1.drop x.2.2.1.toNat) x.2.2.1)
abbrev qNF (f:Nat):Pat:=⟨[(0,.h Is),(1,.c (.fn f []))],[],0⟩
def d5 (l:List Int):Bool:=l.any fP
def sNI (f:Nat):Den (tyP (qNF f))→List Prop×Den (tyP be):=fun x=>([],(qf (c0 fP x.1 0),()))
def sNC (f:Nat):Den (tyP (qNF f))→List Prop×Den (tyP ax):=fun x=>([],(d5 x.1,()))
def rJ (most:Int):List Int→List Int→Bool
 | _,[]=>true
 | seen,n::r=>if !inW n 1 most||cE seen n then false else rJ most (seen++[n]) r
def cZ (l:List Int) (most:Int):Bool:=rJ most [] l
abbrev qLM:Pat:=cg [Is,I]
def yr:Den (tyP qLM)→List Prop×Den (tyP ax):=fun x=>([],(cZ x.1 x.2.1,()))
abbrev qDf:Pat:=⟨[(0,.h Is),(1,.h I),(7,.h Is),(8,.h I),(9,.h I)],[],0⟩
abbrev xDf:List (Lf×Pat):= [(.ret,⟨[(4,.h .bool)],[],0⟩),(.ext 0,⟨[],[],0⟩)]
abbrev TDf:Type:=List Int×Int×List Int×Int×Int×Unit
def lY (x:TDf):Prop:=x.2.2.1=x.1∧cx (x.1,x.2.2.2.1,x.2.2.2.2.1,())
def sM (x:TDf):Nat:=(x.2.2.2.1 - x.2.2.2.2.1).toNat
def qe (b:Bool):Sum (Bool×Unit) Unit:=if b then .inr () else .inl (false,())
def dv (x:TDf):Sum (Bool×Unit) Unit:=qe (rJ x.2.1 (x.1.take x.2.2.2.2.1.toNat) (x.1.drop x.2.2.2.2.1.toNat))
abbrev qFi:Pat:=⟨[(0,.h Is),(1,.h I),(9,.h Is),(10,.h I),(11,.h I),(6,.h I),(22,.h Is),(23,.h I),(24,.h I)],[],0⟩
abbrev xFi:List (Lf×Pat):= [(.ret,⟨[(4,.h .bool)],[],0⟩),(.ext 2,⟨[(0,.h Is),(1,.h I),(9,.h Is),(10,.h I),(11,.h I)],[],0⟩)]
abbrev TFi:Type:=List Int×Int×List Int×Int×Int×Int×List Int×Int×Int×Unit
def NA (b:Bool) (y:List Int×Int×List Int×Int×Int×Unit):Sum (Bool×Unit) (List Int×Int×List Int×Int×Int×Unit):=if b then .inl (false,()) else .inr y
def xw (x:TFi):Prop:=cx (x.2.2.2.2.2.2.1,x.2.2.2.2.2.2.2.1,x.2.2.2.2.2.2.2.2.1,())
def HC (x:TFi):Nat:=(x.2.2.2.2.2.2.2.1 - x.2.2.2.2.2.2.2.2.1).toNat
def jT (x:TFi):Sum (Bool×Unit) (List Int×Int×List Int×Int×Int×Unit):=
 NA (cE (x.2.2.2.2.2.2.1.drop x.2.2.2.2.2.2.2.2.1.toNat) x.2.2.2.2.2.1) (x.1,x.2.1,x.2.2.1,x.2.2.2.1,x.2.2.2.2.1,())
abbrev qFo:Pat:=⟨[(0,.h Is),(1,.h I),(9,.h Is),(10,.h I),(11,.h I)],[],0⟩
def pf (x:Innings):Bool:=!d5 ([x.Target,x.Runs,x.Extras.Wides,x.Extras.NoBalls,x.Extras.Byes,x.Extras.LegByes,x.Extras.Penalties,x.Complete,x.BallAge,x.Outside,x.Reviews.1,x.Reviews.2.1]++x.Bowled)
def Li:Den (tyP qIn)→List Prop×Den (tyP ax):=fun x=>([aj x.1],(pf x.1,()))
theorem CY (n:Int) (lo:Int) (hi:Int) :(evPat (ao [] Tryz.f86) (fun _=>none) Tryz.f86 q3 ax (n,lo,hi,())).sat fun z_=>z_ =(sIn (n,lo,hi,())).2:=by
 refine cast (by kernel_rfl) (?_ :(bif decide (n≥lo) then decide (n≤hi) else false,()) =(inW n lo hi,()))
 grind [inW]
def dg:FuncId×Ctr:=(86,ae KE q3 ax sIn)
theorem fB:CtrOK Tryz.prog KE 86 (ae KE q3 ax sIn):=by
 refine aq (C:=ao [] Tryz.f86) (al (CtrsOK.nil) _) mixed (fn:=Tryz.f86) Tryz.func86 (by kernel_rfl) (by kernel_rfl) (by kernel_rfl) (by kernel_rfl) (by kernel_rfl) (by kernel_rfl) (Λ:=fun _ _=>none) ?_ ?_
 ·exact fun _ _ _ _ _ _ _ _ h=>by cases h
 ·rintro ⟨n,lo,hi,⟨⟩⟩ hw hn
  exact CY n lo hi
theorem K7 (n:Int) (lo:Int) (hi:Int) :(evPat (ao [] Tryz.f173) (fun _=>none) Tryz.f173 q3 ax (n,lo,hi,())).sat fun z_=>z_ =(sIn (n,lo,hi,())).2:=by
 refine cast (by kernel_rfl) (?_ :(bif decide (n≥lo) then decide (n≤hi) else false,()) =(inW n lo hi,()))
 grind [inW]
def jg:FuncId×Ctr:=(173,ae KE q3 ax sIn)
theorem lx:CtrOK Tryz.prog KE 173 (ae KE q3 ax sIn):=by
 refine aq (C:=ao [] Tryz.f173) (al (CtrsOK.nil) _) mixed (fn:=Tryz.f173) Tryz.func173 (by kernel_rfl) (by kernel_rfl) (by kernel_rfl) (by kernel_rfl) (by kernel_rfl) (by kernel_rfl) (Λ:=fun _ _=>none) ?_ ?_
 ·exact fun _ _ _ _ _ _ _ _ h=>by cases h
 ·rintro ⟨n,lo,hi,⟨⟩⟩ hw hn
  exact K7 n lo hi
theorem KW (n:Int) :(evPat (ao [dg] Tryz.f107) (fun _=>none) Tryz.f107 be ax (n,())).sat fun z_=>z_ =(PM (n,())).2:=by
 refine cast (by kernel_rfl) (?_ :(!inW n (0:Int) (1000000000:Int),()) =(fP n,()))
 rfl
def D4:FuncId×Ctr:=(107,ae KE be ax PM)
theorem GG:CtrOK Tryz.prog KE 107 (ae KE be ax PM):=by
 refine aq (C:=ao [dg] Tryz.f107) (al (.consU fB rfl .nil) _) mixed (fn:=Tryz.f107) Tryz.func107 (by kernel_rfl) (by kernel_rfl) (by kernel_rfl) (by kernel_rfl) (by kernel_rfl) (by kernel_rfl) (Λ:=fun _ _=>none) ?_ ?_
 ·exact fun _ _ _ _ _ _ _ _ h=>by cases h
 ·rintro ⟨n,⟨⟩⟩ hw hn
  exact KW n
noncomputable def lpNIl:Lp:=(⟨0,ao [D4] Tryz.f127,(fun _=>none),(aA Tryz.f127 0),(qNI 107),xLI⟩:Lp)
theorem No (xs:List Int) (n:Int) (i:Int) (hi:cx (xs,n,i,())) :(Go.Mir.stepG lpNIl kF (fun y:Den (tyP lpNIl.q)=>cx y∧mb y<mb (xs,n,i,())) (xs,n,i,())∧Go.Mir.stepE lpNIl kF (xs,n,i,())=kF (xs,n,i,())):=by
 refine cast (by kernel_rfl) (?_ :((decide (i<n)=true→((0:Int)≤i∧i <(↑xs.length:Int))∧(fP (xs.getD i.toNat (dflt (Ty.int IntKind.i64)))=true→True)∧(fP (xs.getD i.toNat (dflt (Ty.int IntKind.i64)))=false→cx (xs,n,IntKind.i64.wrap (i +(1:Int)),())∧mb (xs,n,IntKind.i64.wrap (i +(1:Int)),())<mb (xs,n,i,())))∧(decide (i<n)=false→True))∧(bif decide (i<n) then bif fP (xs.getD i.toNat (dflt (Ty.int IntKind.i64))) then Sum.inl (i,()) else kF (xs,n,IntKind.i64.wrap (i +(1:Int)),()) else Sum.inr ())=kF (xs,n,i,()))
 obtain ⟨h1,h2,h3,h4⟩:=hi
 simp only at h1 h2 h3 h4
 have h5 :(xs.length:Int)≤140737488355328:=by have:xs.length≤140737488355328:=h4;omega
 refine ⟨⟨fun h=>?_,fun _=>trivial⟩,?_⟩
 ·have h:i<n:=of_decide_eq_true h
  rw [bi (n:=i+1) (by omega) (by omega)]
  refine ⟨⟨h2,by omega⟩,fun _=>trivial,fun _=>⟨⟨h1,by simp only;omega,by simp only;omega,h4⟩,by simp only [mb];omega⟩⟩
 ·by_cases h:i<n
  ·rw [decide_eq_true h,cond_true,bi (n:=i+1) (by omega) (by omega)]
   have e:xs.drop i.toNat=xs.getD i.toNat (dflt (Ty.int IntKind.i64))::xs.drop (i+1).toNat:=b7 h2 (by omega) _
   generalize xs.getD i.toNat (dflt (Ty.int IntKind.i64))=v at e ⊢
   simp only [kF,e,c0]
   cases fP v <;> rfl
  ·rw [decide_eq_false h,cond_false]
   simp only [kF]
   rw [bK (l:=xs) (by omega)]
   rfl
noncomputable def LF:LoopSum:=aI lpNIl kF cx
noncomputable def KF:Nat:=rid (aA Tryz.f127 0)
theorem L7:LoopOKp Tryz.prog 0 Tryz.f127.ntmps (aA Tryz.f127 0) (aI lpNIl kF cx):=
 bj lpNIl (al (.consU GG rfl .nil) _) mixed (fun b hb S hS=>by cases hS) kF cx mb (fun |⟨xs,n,i,⟨⟩⟩,hi=>No xs n i hi)
theorem KM (xs:List Int) (hx:xs.length≤aS) :(evPat (ao [D4] Tryz.f127) (find [(KF,LF)]) Tryz.f127 (qNF 107) be (xs,())).sat fun z_=>z_ =((sNI 107) (xs,())).2:=by
 refine cast (by kernel_rfl) (?_:let r1:Bool:=isL (kF (xs,(↑xs.length:Int),(0:Int),()));((cR fun x=>none)∧(↑xs.length:Int) =(↑xs.length:Int)∧(0:Int)≤(0:Int)∧(0:Int)≤(↑xs.length:Int)∧xs.length≤aS)∧(r1=true→ij (dflt (I.prod Ty.unit)) (kF (xs,(↑xs.length:Int),(0:Int),())) =(qf (c0 fP xs (0:Int)),()))∧(r1=false→((-1:Int),()) =(qf (c0 fP xs (0:Int)),())))
 intro r1
 clear_value (hr1:r1=_)
 have e:kF (xs,(xs.length:Int),0,())=Jx (c0 fP xs 0):=rfl
 try subst hr1
 rw [e]
 refine ⟨⟨rfl,rfl,Int.le_refl _,by omega,hx⟩,fun h=>?_,fun h=>?_⟩ <;> cases hf:c0 fP xs 0 <;> rw [hf] at h <;> first|rfl|cases h
def JD:FuncId×Ctr:=(127,ae KE (qNF 107) be (sNI 107))
theorem Ms:CtrOK Tryz.prog KE 127 (ae KE (qNF 107) be (sNI 107)):=by
 refine aq (C:=ao [D4] Tryz.f127) (al (.consU GG rfl .nil) _) mixed (fn:=Tryz.f127) Tryz.func127 (by kernel_rfl) (by kernel_rfl) (by kernel_rfl) (by kernel_rfl) (by kernel_rfl) (by kernel_rfl) (Λ:=fun x=>find [(KF,LF)]) ?_ ?_
 ·rintro ⟨xs,⟨⟩⟩ hw hn
  exact LoopsOKp.at (by kernel_rfl) (.cons (by kernel_rfl) (L7) .nil)
 ·rintro ⟨xs,⟨⟩⟩ hw hn
  exact KM xs (cu (aY hw))
theorem KH (xs:List Int) :(evPat (ao [JD] Tryz.f106) (fun _=>none) Tryz.f106 (qNF 107) ax (xs,())).sat fun z_=>z_ =((sNC 107) (xs,())).2:=by
 refine cast (by kernel_rfl) (?_ :(decide (qf (c0 fP xs (0:Int))≥(0:Int)),()) =(d5 xs,()))
 have e:=lf (p:=fP) (l:=xs) (i:=0)
 unfold d5
 rw [←e]
 cases hf:c0 fP xs 0 with
 | none=>rfl
 | some k=>
  have:=pK hf
  simp [this,qf]
def JA:FuncId×Ctr:=(106,ae KE (qNF 107) ax (sNC 107))
theorem Mp:CtrOK Tryz.prog KE 106 (ae KE (qNF 107) ax (sNC 107)):=by
 refine aq (C:=ao [JD] Tryz.f106) (al (.consU Ms rfl .nil) _) mixed (fn:=Tryz.f106) Tryz.func106 (by kernel_rfl) (by kernel_rfl) (by kernel_rfl) (by kernel_rfl) (by kernel_rfl) (by kernel_rfl) (Λ:=fun _ _=>none) ?_ ?_
 ·exact fun _ _ _ _ _ _ _ _ h=>by cases h
 ·rintro ⟨xs,⟨⟩⟩ hw hn
  exact KH xs
noncomputable def lpDf:Lp:=(⟨0,ao [dg,k47] Tryz.f88,(fun _=>none),(aA Tryz.f88 0),qDf,xDf⟩:Lp)
theorem P8 (l:List Int) (most:Int) (l2:List Int) (n:Int) (i:Int) (hi:lY (l,most,l2,n,i,())) :(Go.Mir.stepG lpDf dv (fun y:Den (tyP lpDf.q)=>lY y∧sM y<sM (l,most,l2,n,i,())) (l,most,l2,n,i,())∧Go.Mir.stepE lpDf dv (l,most,l2,n,i,())=dv (l,most,l2,n,i,())):=by
 refine cast (by kernel_rfl) (?_:let r1:Bool:=!inW (l2.getD i.toNat (dflt (Ty.int IntKind.i64))) (1:Int) most;let r2:Bool:=bif r1 then true else cE (List.drop (Int.toNat (0:Int)) (List.take i.toNat l)) (l2.getD i.toNat (dflt (Ty.int IntKind.i64)));((decide (i<n)=true→((0:Int)≤i∧i <(↑l2.length:Int))∧((r1=true→True)∧(r1=false→((0:Int)≤(0:Int)∧(0:Int)≤i∧i≤(↑l.length:Int))∧True))∧(true=true→(r2=true→True)∧(r2=false→lY (l,most,l2,n,IntKind.i64.wrap (i +(1:Int)),())∧sM (l,most,l2,n,IntKind.i64.wrap (i +(1:Int)),())<sM (l,most,l2,n,i,()))))∧(decide (i<n)=false→True))∧(bif decide (i<n) then bif true&&true then bif r2 then Sum.inl (false,()) else dv (l,most,l2,n,IntKind.i64.wrap (i +(1:Int)),()) else bif true then bif r2 then Sum.inl (false,()) else dv (l,most,l2,n,IntKind.i64.wrap (i +(1:Int)),()) else bif r1 then Sum.inl (dflt (Ty.bool.prod Ty.unit)) else Sum.inl (dflt (Ty.bool.prod Ty.unit)) else Sum.inr ())=dv (l,most,l2,n,i,()))
 intro r1 r2
 clear_value (hr1:r1=_) (hr2:r2=_)
 obtain ⟨h0,h1,h2,h3,h4⟩:=hi
 simp only at h0 h1 h2 h3 h4
 subst h0
 have h5 :(l2.length:Int)≤140737488355328:=by have:l2.length≤140737488355328:=h4;omega
 refine ⟨⟨fun h=>?_,fun _=>trivial⟩,?_⟩
 ·have h:i<n:=of_decide_eq_true h
  rw [bi (n:=i+1) (by omega) (by omega)]
  exact ⟨⟨h2,by omega⟩,⟨fun _=>trivial,fun _=>⟨⟨Int.le_refl _,h2,by omega⟩,trivial⟩⟩,fun _=>⟨fun _=>trivial,fun _=>⟨⟨rfl,h1,by simp only;omega,by simp only;omega,h4⟩,by simp only [sM];omega⟩⟩⟩
 ·by_cases h:i<n
  ·rw [decide_eq_true h,cond_true,bi (n:=i+1) (by omega) (by omega)]
   have e:l2.drop i.toNat=l2.getD i.toNat (dflt (Ty.int IntKind.i64))::l2.drop (i+1).toNat:=b7 h2 (by omega) _
   have et:l2.take (i+1).toNat=l2.take i.toNat++[l2.getD i.toNat (dflt (Ty.int IntKind.i64))]:=He h2 (by omega) _
   rw [hr2,hr1]
   generalize l2.getD i.toNat (dflt (Ty.int IntKind.i64))=v at e et ⊢
   simp only [dv,e,et,rJ,Int.toNat_zero,List.drop_zero]
   cases inW v 1 most <;> cases cE (l2.take i.toNat) v <;> rfl
  ·rw [decide_eq_false h]
   show (Sum.inr ():Sum (Bool×Unit) Unit)=_
   simp only [dv]
   rw [bK (l:=l2) (by omega)]
   rfl
noncomputable def Og:LoopSum:=aI lpDf dv lY
noncomputable def NS:Nat:=rid (aA Tryz.f88 0)
theorem O8:LoopOKp Tryz.prog 0 Tryz.f88.ntmps (aA Tryz.f88 0) (aI lpDf dv lY):=
 bj lpDf (al (.consU fB rfl (.consU Mi rfl .nil)) _) mixed (fun b hb S hS=>by cases hS) dv lY sM (fun |⟨l,most,l2,n,i,⟨⟩⟩,hi=>P8 l most l2 n i hi)
theorem KV (l:List Int) (most:Int) (hx:l.length≤aS) :(evPat (ao [dg,k47] Tryz.f88) (find [(NS,Og)]) Tryz.f88 qLM ax (l,most,())).sat fun z_=>z_ =(yr (l,most,())).2:=by
 refine cast (by kernel_rfl) (?_:let r1:Bool:=isL (dv (l,most,l,(↑l.length:Int),(0:Int),()));((cR fun x=>none)∧l=l∧cx (l,(↑l.length:Int),(0:Int),()))∧(r1=true→ij (dflt (Ty.bool.prod Ty.unit)) (dv (l,most,l,(↑l.length:Int),(0:Int),())) =(cZ l most,()))∧(r1=false→(true,()) =(cZ l most,())))
 intro r1
 clear_value (hr1:r1=_)
 have e:dv (l,most,l,(l.length:Int),0,())=qe (cZ l most):=rfl
 try subst hr1
 rw [e]
 refine ⟨⟨rfl,rfl,rfl,Int.le_refl _,by simp only;omega,hx⟩,fun h=>?_,fun h=>?_⟩ <;> cases hf:cZ l most <;> rw [hf] at h <;> first|rfl|cases h
def JK:FuncId×Ctr:=(88,ae KE qLM ax yr)
theorem MA:CtrOK Tryz.prog KE 88 (ae KE qLM ax yr):=by
 refine aq (C:=ao [dg,k47] Tryz.f88) (al (.consU fB rfl (.consU Mi rfl .nil)) _) mixed (fn:=Tryz.f88) Tryz.func88 (by kernel_rfl) (by kernel_rfl) (by kernel_rfl) (by kernel_rfl) (by kernel_rfl) (by kernel_rfl) (Λ:=fun x=>find [(NS,Og)]) ?_ ?_
 ·rintro ⟨l,most,⟨⟩⟩ hw hn
  exact LoopsOKp.at (by kernel_rfl) (.cons (by kernel_rfl) (O8) .nil)
 ·rintro ⟨l,most,⟨⟩⟩ hw hn
  exact KV l most (cu (aY hw))
noncomputable def lpFi:Lp:=(⟨0,ao [jg] Tryz.f174,(fun _=>none),(Ee Tryz.f174 0 0),qFi,xFi⟩:Lp)
theorem Qa (l:List Int) (most:Int) (l2:List Int) (n:Int) (i:Int) (v:Int) (ys:List Int) (m:Int) (j:Int) (hi:xw (l,most,l2,n,i,v,ys,m,j,())) :(Go.Mir.stepG lpFi jT (fun y:Den (tyP lpFi.q)=>xw y∧HC y<HC (l,most,l2,n,i,v,ys,m,j,())) (l,most,l2,n,i,v,ys,m,j,())∧Go.Mir.stepE lpFi jT (l,most,l2,n,i,v,ys,m,j,())=jT (l,most,l2,n,i,v,ys,m,j,())):=by
 refine cast (by kernel_rfl) (?_:let r1:Bool:=v==ys.getD j.toNat (dflt (Ty.int IntKind.i64));((decide (j<m)=true→((0:Int)≤j∧j <(↑ys.length:Int))∧(r1=true→True)∧(r1=false→xw (l,most,l2,n,i,v,ys,m,IntKind.i64.wrap (j +(1:Int)),())∧HC (l,most,l2,n,i,v,ys,m,IntKind.i64.wrap (j +(1:Int)),())<HC (l,most,l2,n,i,v,ys,m,j,())))∧(decide (j<m)=false→True))∧(bif decide (j<m) then bif r1 then Sum.inl (false,()) else jT (l,most,l2,n,i,v,ys,m,IntKind.i64.wrap (j +(1:Int)),()) else Sum.inr (l,most,l2,n,i,()))=jT (l,most,l2,n,i,v,ys,m,j,()))
 intro r1
 clear_value (hr1:r1=_)
 obtain ⟨h1,h2,h3,h4⟩:=hi
 simp only at h1 h2 h3 h4
 have h5 :(ys.length:Int)≤140737488355328:=by have:ys.length≤140737488355328:=h4;omega
 refine ⟨⟨fun h=>?_,fun _=>trivial⟩,?_⟩
 ·have h:j<m:=of_decide_eq_true h
  rw [bi (n:=j+1) (by omega) (by omega)]
  refine ⟨⟨h2,by omega⟩,fun _=>trivial,fun _=>⟨⟨h1,by simp only;omega,by simp only;omega,h4⟩,by simp only [HC];omega⟩⟩
 ·by_cases h:j<m
  ·rw [decide_eq_true h,cond_true,bi (n:=j+1) (by omega) (by omega)]
   have e:ys.drop j.toNat=ys.getD j.toNat (dflt (Ty.int IntKind.i64))::ys.drop (j+1).toNat:=b7 h2 (by omega) _
   rw [hr1]
   generalize ys.getD j.toNat (dflt (Ty.int IntKind.i64))=u at e ⊢
   simp only [jT,e,cE,List.contains_cons]
   cases v==u <;> rfl
  ·rw [decide_eq_false h,cond_false]
   simp only [jT]
   rw [bK (l:=ys) (by omega)]
   rfl
noncomputable def RZ:LoopSum:=aI lpFi jT xw
noncomputable def Q0:Nat:=rid (Ee Tryz.f174 0 0)
theorem Pa:LoopOKp Tryz.prog 0 Tryz.f174.ntmps (Ee Tryz.f174 0 0) (aI lpFi jT xw):=
 bj lpFi (al (.consU lx rfl .nil) _) mixed (fun b hb S hS=>by cases hS) jT xw HC (fun |⟨l,most,l2,n,i,v,ys,m,j,⟨⟩⟩,hi=>Qa l most l2 n i v ys m j hi)
noncomputable def lpFo:Lp:=(⟨0,ao [jg] Tryz.f174,(find [(Q0,RZ)]),(aA Tryz.f174 0),qFo,xDf⟩:Lp)
theorem Qc (l:List Int) (most:Int) (l2:List Int) (n:Int) (i:Int) (hi:lY (l,most,l2,n,i,())) :(Go.Mir.stepG lpFo dv (fun y:Den (tyP lpFo.q)=>lY y∧sM y<sM (l,most,l2,n,i,())) (l,most,l2,n,i,())∧Go.Mir.stepE lpFo dv (l,most,l2,n,i,())=dv (l,most,l2,n,i,())):=by
 refine cast (by kernel_rfl) (?_:let r1:List Int:=List.drop (Int.toNat (0:Int)) (List.take i.toNat l);let r2:Bool:=!inW (l2.getD i.toNat (dflt (Ty.int IntKind.i64))) (1:Int) most;let r3:Int:=(↑r1.length:Int);let r4:Bool:=isL (jT (l,most,l2,n,i,l2.getD i.toNat (dflt (Ty.int IntKind.i64)),r1,r3,(0:Int),()));let r5:List Int×Int×List Int×Int×Int×PUnit:=pN (dflt (Is.prod (I.prod (Is.prod (I.prod (I.prod Ty.unit)))))) (jT (l,most,l2,n,i,l2.getD i.toNat (dflt (Ty.int IntKind.i64)),r1,r3,(0:Int),()));((decide (i<n)=true→((0:Int)≤i∧i <(↑l2.length:Int))∧(r2=true→True)∧(r2=false→((0:Int)≤(0:Int)∧(0:Int)≤i∧i≤(↑l.length:Int))∧((cR fun x=>none)∧r3 =(↑r1.length:Int)∧(0:Int)≤(0:Int)∧(0:Int)≤r3∧r1.length≤aS)∧(r4=true→True)∧(r4=false→lY (r5.1,r5.2.1,r5.2.2.1,r5.2.2.2.1,IntKind.i64.wrap (r5.2.2.2.2.1 +(1:Int)),())∧sM (r5.1,r5.2.1,r5.2.2.1,r5.2.2.2.1,IntKind.i64.wrap (r5.2.2.2.2.1 +(1:Int)),())<sM (l,most,l2,n,i,()))))∧(decide (i<n)=false→True))∧(bif decide (i<n) then bif r2 then Sum.inl (false,()) else bif r4 then Sum.inl (ij (dflt (Ty.bool.prod Ty.unit)) (jT (l,most,l2,n,i,l2.getD i.toNat (dflt (Ty.int IntKind.i64)),r1,r3,(0:Int),()))) else dv (r5.1,r5.2.1,r5.2.2.1,r5.2.2.2.1,IntKind.i64.wrap (r5.2.2.2.2.1 +(1:Int)),()) else Sum.inr ())=dv (l,most,l2,n,i,()))
 intro r1 r2 r3 r4 r5
 clear_value (hr1:r1=_) (hr2:r2=_) (hr3:r3=_) (hr4:r4=_) (hr5:r5=_)
 obtain ⟨h0,h1,h2,h3,h4⟩:=hi
 simp only at h0 h1 h2 h3 h4
 subst h0
 have h5 :(l2.length:Int)≤140737488355328:=by have:l2.length≤140737488355328:=h4;omega
 have e1:r1=l2.take i.toNat:=by rw [hr1];rfl
 have er:jT (l2,most,l2,n,i,l2.getD i.toNat (dflt (Ty.int IntKind.i64)),r1,r3,(0:Int),())=NA (cE (l2.take i.toNat) (l2.getD i.toNat (dflt (Ty.int IntKind.i64)))) (l2,most,l2,n,i,()):=by rw [e1];rfl
 rw [er] at hr4 hr5 ⊢
 have hl:r1.length≤l2.length:=by rw [e1];simp;omega
 refine ⟨⟨fun h=>?_,fun _=>trivial⟩,?_⟩
 ·have h:i<n:=of_decide_eq_true h
  refine ⟨⟨h2,by omega⟩,fun _=>trivial,fun _=>⟨⟨Int.le_refl _,h2,by omega⟩,⟨rfl,hr3,Int.le_refl _,by omega,Nat.le_trans hl h4⟩,fun _=>trivial,fun hf=>?_⟩⟩
  cases hk:cE (l2.take i.toNat) (l2.getD i.toNat (dflt (Ty.int IntKind.i64))) with
  | true=>rw [hk] at hr4;rw [hr4] at hf;cases hf
  | false=>
   rw [hk] at hr5
   have e5:r5 =(l2,most,l2,n,i,()):=hr5
   rw [e5]
   simp only
   rw [bi (n:=i+1) (by omega) (by omega)]
   exact ⟨⟨rfl,h1,by simp only;omega,by simp only;omega,h4⟩,by simp only [sM];omega⟩
 ·by_cases h:i<n
  ·rw [decide_eq_true h,cond_true]
   have e:l2.drop i.toNat=l2.getD i.toNat (dflt (Ty.int IntKind.i64))::l2.drop (i+1).toNat:=b7 h2 (by omega) _
   have et:l2.take (i+1).toNat=l2.take i.toNat++[l2.getD i.toNat (dflt (Ty.int IntKind.i64))]:=He h2 (by omega) _
   rw [hr2]
   generalize l2.getD i.toNat (dflt (Ty.int IntKind.i64))=v at e et hr4 hr5 ⊢
   cases hk:cE (l2.take i.toNat) v with
   | true=>
    rw [hk] at hr4
    have e4:r4=true:=hr4
    rw [e4]
    simp only [dv,e,rJ,hk,Bool.or_true,if_true]
    cases inW v 1 most <;> rfl
   | false=>
    rw [hk] at hr4 hr5
    have e4:r4=false:=hr4
    have e5:r5 =(l2,most,l2,n,i,()):=hr5
    rw [e4,e5]
    simp only
    rw [bi (n:=i+1) (by omega) (by omega)]
    simp only [dv,e,et,rJ,hk]
    cases inW v 1 most <;> rfl
  ·rw [decide_eq_false h]
   show (Sum.inr ():Sum (Bool×Unit) Unit)=_
   simp only [dv]
   rw [bK (l:=l2) (by omega)]
   rfl
noncomputable def Oj:LoopSum:=aI lpFo dv lY
noncomputable def NV:Nat:=rid (aA Tryz.f174 0)
theorem Pc:LoopOKp Tryz.prog 0 Tryz.f174.ntmps (aA Tryz.f174 0) (aI lpFo dv lY):=
 bj lpFo (al (.consU lx rfl .nil) _) mixed (LoopsOKp.cons (by kernel_rfl) Pa .nil) dv lY sM (fun |⟨l,most,l2,n,i,⟨⟩⟩,hi=>Qc l most l2 n i hi)
theorem IG (l:List Int) (most:Int) (hx:l.length≤aS) :(evPat (ao [jg] Tryz.f174) (find [(NV,Oj)]) Tryz.f174 qLM ax (l,most,())).sat fun z_=>z_ =(yr (l,most,())).2:=by
 refine cast (by kernel_rfl) (?_:let r1:Bool:=isL (dv (l,most,l,(↑l.length:Int),(0:Int),()));((cR fun x=>none)∧l=l∧cx (l,(↑l.length:Int),(0:Int),()))∧(r1=true→ij (dflt (Ty.bool.prod Ty.unit)) (dv (l,most,l,(↑l.length:Int),(0:Int),())) =(cZ l most,()))∧(r1=false→(true,()) =(cZ l most,())))
 intro r1
 clear_value (hr1:r1=_)
 have e:dv (l,most,l,(l.length:Int),0,())=qe (cZ l most):=rfl
 try subst hr1
 rw [e]
 refine ⟨⟨rfl,rfl,rfl,Int.le_refl _,by simp only;omega,hx⟩,fun h=>?_,fun h=>?_⟩ <;> cases hf:cZ l most <;> rw [hf] at h <;> first|rfl|cases h
def tt:FuncId×Ctr:=(174,ae KE qLM ax yr)
theorem Cn:CtrOK Tryz.prog KE 174 (ae KE qLM ax yr):=by
 refine aq (C:=ao [jg] Tryz.f174) (al (.consU lx rfl .nil) _) mixed (fn:=Tryz.f174) Tryz.func174 (by kernel_rfl) (by kernel_rfl) (by kernel_rfl) (by kernel_rfl) (by kernel_rfl) (by kernel_rfl) (Λ:=fun x=>find [(NV,Oj)]) ?_ ?_
 ·rintro ⟨l,most,⟨⟩⟩ hw hn
  exact LoopsOKp.at (by kernel_rfl) (.cons (by kernel_rfl) (Pc) .nil)
 ·rintro ⟨l,most,⟨⟩⟩ hw hn
  exact IG l most (cu (aY hw))
theorem C0 (x:Innings) (hs:aj x) :(evPat (ao [JA] Tryz.f89) (fun _=>none) Tryz.f89 qIn ax (x,())).sat fun z_=>z_ =(Li (x,())).2:=by
 refine cast (by kernel_rfl) (?_:let r1:List Int:= [x.2,x.4,x.6.1,x.6.2,x.6.3,x.6.4,x.6.5,x.7,x.18,x.20,x.22.1,x.22.2.1];((0:Int)≤(0:Int)∧(0:Int) <(↑(2:Nat):Int))∧((0:Int)≤(1:Int)∧(1:Int) <(↑(2:Nat):Int))∧(r1.length+x.16.length) *(8:Nat)≤(70368744177664:Nat)∧(!d5 (r1++x.16),()) =(pf x,()))
 intro r1
 clear_value (hr1:r1=_)
 have hl:r1.length=12:=by rw [hr1];rfl
 have:=hs.2.2.2.1
 refine ⟨by omega,by omega,by omega,?_⟩
 rw [hr1];rfl
def xH:FuncId×Ctr:=(89,ae KE qIn ax Li)
theorem En:CtrOK Tryz.prog KE 89 (ae KE qIn ax Li):=by
 refine aq (C:=ao [JA] Tryz.f89) (al (.consU Mp rfl .nil) _) mixed (fn:=Tryz.f89) Tryz.func89 (by kernel_rfl) (by kernel_rfl) (by kernel_rfl) (by kernel_rfl) (by kernel_rfl) (by kernel_rfl) (Λ:=fun _ _=>none) ?_ ?_
 ·exact fun _ _ _ _ _ _ _ _ h=>by cases h
 ·rintro ⟨x,⟨⟩⟩ hw hn
  exact C0 x (hn _ List.mem_cons_self)
end Go.Proofs.YtkgplaoappjkcaaGreat
namespace Go.Proofs.YtkgplaoappjkcaaGreat
open Go Go.Mir
attribute [local irreducible] Go.Mir.DT.sat Go.Mir.evPat Go.Mir.RT.sat Go.Mir.evFn
def ie (S O:Int):List Int→Int→Int→Int→Bool→Option (Int×Int×Bool)
 | [],_,o,b,g=>some (o,b,g)
 | s::r,i,o,b,g=>if s>3 then none
  else if s==1 then (if S != i+1&&O != i+1 then none else ie S O r (i+1) o (b+1) true)
  else ie S O r (i+1) (if s==2 then o+1 else o) b (g||s != 0)
def iZ (S O:Int):List Int→Int→Int→Int→Option (Int×Int)
 | [],_,o,a=>some (o,a)
 | s::r,i,o,a=>if s>3 then none else if (s==1) !=(S==i+1||O==i+1) then none
  else iZ S O r (i+1) (if s==2 then o+1 else o) (if s==1 then a+1 else a)
abbrev qBc:Pat:=⟨[(2,.c (.ptr 0 0)),(1,.h I),(5,.h I),(6,.h I),(7,.h .bool),(12,.h U8s),(13,.h I),(14,.h I)],[(0,.dat (.nm .Innings))],1⟩
abbrev xBc:List (Lf×Pat):= [(.ret,⟨[(4,.h .bool)],[],0⟩),(.ext 0,⟨[(2,.c (.ptr 0 0)),(1,.h I),(5,.h I),(6,.h I),(7,.h .bool)],[(0,.dat (.nm .Innings))],1⟩)]
abbrev TBc:Type:=Int×Int×Int×Bool×List Int×Int×Int×Innings×Unit
def uz (x:TBc):Prop:=cx (x.2.2.2.2.1,x.2.2.2.2.2.1,x.2.2.2.2.2.2.1,())∧x.2.2.2.2.1.length≤1000000∧(0≤x.2.1∧x.2.1≤x.2.2.2.2.2.2.1)∧(0≤x.2.2.1∧x.2.2.1≤x.2.2.2.2.2.2.1)
def B8 (x:TBc):Nat:=(x.2.2.2.2.2.1 - x.2.2.2.2.2.2.1).toNat
def yg (side:Int) (x:Innings):Option (Int×Int×Bool)→Sum (Bool×Unit) (Int×Int×Int×Bool×Innings×Unit)
 | none=> .inl (false,())
 | some (o,b,g)=> .inr (side,o,b,g,x,())
def g9 (x:TBc):Sum (Bool×Unit) (Int×Int×Int×Bool×Innings×Unit):=
 yg x.1 x.2.2.2.2.2.2.2.1 (ie x.2.2.2.2.2.2.2.1.Striker x.2.2.2.2.2.2.2.1.Other (x.2.2.2.2.1.drop x.2.2.2.2.2.2.1.toNat) x.2.2.2.2.2.2.1 x.2.1 x.2.2.1 x.2.2.2.1)
def iE (x:Innings):Int:=(if x.Striker != 0 then 1 else 0) +(if x.Other != 0 then 1 else 0)
def mf (x:Innings) (side:Int):Option (Int×Int×Bool)→Bool
 | none=>false
 | some (o,b,g)=>if !inW x.Striker 0 side||!inW x.Other 0 side||x.Striker==x.Other&&x.Striker != 0 then false
  else iE x==b&&(!g||decide (iE x>0))&&o==x.Wickets
def ma (x:Innings) (side:Int):Bool:=mf x side (ie x.Striker x.Other x.Batters 0 0 0 false)
def Lc:Den (tyP fi)→List Prop×Den (tyP ax):=fun x=>([aj x.1],(ma x.1 x.2.1,()))
def sF (x:Innings):Bool:=match iZ x.Striker x.Other x.Batters 0 0 0 with
 | none=>false
 | some (o,a)=>if ch x&&decide (a<1)||x.Striker != 0&&x.Striker==x.Other then false else x.Wickets==o
def Ld:Den (tyP qIn)→List Prop×Den (tyP ax):=fun x=>([aj x.1],(sF x.1,()))
abbrev qBd:Pat:=⟨[(1,.c (.ptr 0 0)),(3,.h I),(4,.h I),(8,.h U8s),(9,.h I),(10,.h I)],[(0,.dat (.nm .Innings))],1⟩
abbrev xBd:List (Lf×Pat):= [(.ret,⟨[(2,.h .bool)],[],0⟩),(.ext 0,⟨[(1,.c (.ptr 0 0)),(3,.h I),(4,.h I)],[(0,.dat (.nm .Innings))],1⟩)]
abbrev TBd:Type:=Int×Int×List Int×Int×Int×Innings×Unit
def uA (x:TBd):Prop:=cx (x.2.2.1,x.2.2.2.1,x.2.2.2.2.1,())∧x.2.2.1.length≤1000000∧(0≤x.1∧x.1≤x.2.2.2.2.1)∧(0≤x.2.1∧x.2.1≤x.2.2.2.2.1)
def B9 (x:TBd):Nat:=(x.2.2.2.1 - x.2.2.2.2.1).toNat
def yh (x:Innings):Option (Int×Int)→Sum (Bool×Unit) (Int×Int×Innings×Unit)
 | none=> .inl (false,())
 | some (o,a)=> .inr (o,a,x,())
def iw (x:TBd):Sum (Bool×Unit) (Int×Int×Innings×Unit):=
 yh x.2.2.2.2.2.1 (iZ x.2.2.2.2.2.1.Striker x.2.2.2.2.2.1.Other (x.2.2.1.drop x.2.2.2.2.1.toNat) x.2.2.2.2.1 x.1 x.2.1)
noncomputable def lpBc:Lp:=(⟨0,ao [dg] Tryz.f87,(fun _=>none),(aA Tryz.f87 0),qBc,xBc⟩:Lp)
theorem P3 (side:Int) (o:Int) (b:Int) (g:Bool) (xs:List Int) (n:Int) (i:Int) (x:Innings) (hi:uz (side,o,b,g,xs,n,i,x,())) :(Go.Mir.stepG lpBc g9 (fun y:Den (tyP lpBc.q)=>uz y∧B8 y<B8 (side,o,b,g,xs,n,i,x,())) (side,o,b,g,xs,n,i,x,())∧Go.Mir.stepE lpBc g9 (side,o,b,g,xs,n,i,x,())=g9 (side,o,b,g,xs,n,i,x,())):=by
 refine cast (by kernel_rfl) (?_:let r1:Int:=IntKind.i64.wrap (i +(1:Int));let r2:Bool:=xs.getD i.toNat (dflt (Ty.int IntKind.u8)) ==(1:Int);let r3:Bool:=xs.getD i.toNat (dflt (Ty.int IntKind.u8)) ==(2:Int);let r4:Bool:=bif g then true else xs.getD i.toNat (dflt (Ty.int IntKind.u8)) !=(0:Int);let r5:Bool:=decide (xs.getD i.toNat (dflt (Ty.int IntKind.u8)) >(3:Int));let r6:Bool:=bif x.9 != r1 then x.10 != r1 else false;let r7:Bool:=bif r5 then false else bif r2 then !r6 else true;((decide (i<n)=true→(r7=true→(((0:Int)≤i∧i <(↑xs.length:Int))∧(r5=true→False)∧(r5=false→(r2=true→(r6=true→False)∧(r6=false→True))∧(r2=false→(r3=true→True)∧(r3=false→True))))∧uz (side,bif r2 then o else bif r3 then IntKind.i64.wrap (o +(1:Int)) else o,bif r2 then IntKind.i64.wrap (b +(1:Int)) else b,bif r2 then r4 else bif r3 then r4 else r4,xs,n,r1,x,())∧B8 (side,bif r2 then o else bif r3 then IntKind.i64.wrap (o +(1:Int)) else o,bif r2 then IntKind.i64.wrap (b +(1:Int)) else b,bif r2 then r4 else bif r3 then r4 else r4,xs,n,r1,x,())<B8 (side,o,b,g,xs,n,i,x,()))∧(r7=false→((0:Int)≤i∧i <(↑xs.length:Int))∧(r5=true→True)∧(r5=false→(r2=true→(r6=true→True)∧(r6=false→True))∧(r2=false→(r3=true→True)∧(r3=false→True)))))∧(decide (i<n)=false→True))∧(bif decide (i<n) then bif false&&(false&&true&&(true&&true)) then g9 (side,bif r2 then o else bif r3 then IntKind.i64.wrap (o +(1:Int)) else o,bif r2 then IntKind.i64.wrap (b +(1:Int)) else b,bif r2 then r4 else bif r3 then r4 else r4,xs,n,r1,x,()) else bif r7 then g9 (side,bif r2 then o else bif r3 then IntKind.i64.wrap (o +(1:Int)) else o,bif r2 then IntKind.i64.wrap (b +(1:Int)) else b,bif r2 then r4 else bif r3 then r4 else r4,xs,n,r1,x,()) else bif r5 then Sum.inl (false,()) else bif r2 then bif r6 then Sum.inl (false,()) else Sum.inl (dflt (Ty.bool.prod Ty.unit)) else bif r3 then Sum.inl (dflt (Ty.bool.prod Ty.unit)) else Sum.inl (dflt (Ty.bool.prod Ty.unit)) else Sum.inr (side,o,b,g,x,()))=g9 (side,o,b,g,xs,n,i,x,()))
 intro r1 r2 r3 r4 r5 r6 r7
 clear_value (hr1:r1=_) (hr2:r2=_) (hr3:r3=_) (hr4:r4=_) (hr5:r5=_) (hr6:r6=_) (hr7:r7=_)
 obtain ⟨⟨h1,h2,h3,h4⟩,h6,⟨h7,h8⟩,⟨h9,h10⟩⟩:=hi
 simp only at h1 h2 h3 h4 h6 h7 h8 h9 h10
 by_cases h:i<n
 ·have e:xs.drop i.toNat=xs.getD i.toNat (dflt (Ty.int IntKind.u8))::xs.drop (i+1).toNat:=b7 h2 (by omega) _
  have hw:r1=i+1:=by rw [hr1];exact bi (by omega) (by omega)
  have ho:IntKind.i64.wrap (o+1)=o+1:=bi (by omega) (by omega)
  have hb:IntKind.i64.wrap (b+1)=b+1:=bi (by omega) (by omega)
  generalize xs.getD i.toNat (dflt (Ty.int IntKind.u8))=v at *
  have hx :(0:Int)≤i∧i <(xs.length:Int):=by omega
  have inv :∀ o' b' g',(o'=o∨o'=o+1)→(b'=b∨b'=b+1)→uz (side,o',b',g',xs,n,i+1,x,())∧B8 (side,o',b',g',xs,n,i+1,x,())<B8 (side,o,b,g,xs,n,i,x,()):=fun o' b' g' ho hb=>by
   refine ⟨⟨⟨h1,by simp only;omega,by simp only;omega,h4⟩,h6,⟨?_,?_⟩,⟨?_,?_⟩⟩,?_⟩ <;> simp only [B8] <;> omega
  have er:g9 (side,o,b,g,xs,n,i,x,())=yg side x (ie x.Striker x.Other (v::xs.drop (i+1).toNat) i o b g):=by rw [←e];rfl
  have er2 :∀ o' b' g',g9 (side,o',b',g',xs,n,i+1,x,())=yg side x (ie x.Striker x.Other (xs.drop (i+1).toNat) (i+1) o' b' g'):=fun _ _ _=>rfl
  rw [er,hw,ho,hb]
  rw [hw] at hr6
  by_cases hv:v>3
  ·have e5:r5=true:=by rw [hr5];simpa using hv
   subst hr7
   simp [e5,h,hx,ie,hv,yg]
  ·have e5:r5=false:=by rw [hr5];simpa using hv
   have hv2 :¬(3:Int)<v:=hv
   by_cases hs:v=1
   ·have e2:r2=true:=by rw [hr2,hs];rfl
    have e4:r4=true:=by rw [hr4,hs];cases g <;> rfl
    cases h6':r6 with
    | true=>
     have h6'' :(x.Striker != i+1&&x.Other != i+1)=true:=by grind
     have hn:ie x.Striker x.Other (v::xs.drop (i+1).toNat) i o b g=none:=by
      rw [hs];unfold ie;rw [if_neg (by omega),h6''];rfl
     rw [hn]
     subst hr7
     simp [e5,e2,h,hx,h6',yg]
    | false=>
     have h6'' :(x.Striker != i+1&&x.Other != i+1)=false:=by grind
     have hn:ie x.Striker x.Other (v::xs.drop (i+1).toNat) i o b g=ie x.Striker x.Other (xs.drop (i+1).toNat) (i+1) o (b+1) true:=by
      rw [hs]
      conv=>lhs;unfold ie
      rw [if_neg (by omega),h6''];rfl
     rw [hn,←er2]
     subst hr7
     have:=inv o (b+1) true (.inl rfl) (.inr rfl)
     simp [e5,e2,e4,h,hx,h6',this]
   ·have e2:r2=false:=by rw [hr2];simpa using hs
    have e4:r4 =(g||v != 0):=by rw [hr4];cases g <;> rfl
    have hn:ie x.Striker x.Other (v::xs.drop (i+1).toNat) i o b g=ie x.Striker x.Other (xs.drop (i+1).toNat) (i+1) (if r3 then o+1 else o) b r4:=by
     conv=>lhs;unfold ie
     rw [if_neg hv,←hr2,e2,←hr3,←e4];rfl
    rw [hn,←er2]
    subst hr7
    have:=inv (if r3 then o+1 else o) b r4 (by split <;> simp) (.inl rfl)
    cases h3':r3 <;> rw [h3'] at this <;> simp at this <;> simp [e5,e2,h,hx,this]
 ·have er:g9 (side,o,b,g,xs,n,i,x,()) = .inr (side,o,b,g,x,()):=by
   simp only [g9]
   rw [bK (l:=xs) (by omega)]
   rfl
  rw [er]
  simp [h]
noncomputable def N9:LoopSum:=aI lpBc g9 uz
noncomputable def NN:Nat:=rid (aA Tryz.f87 0)
theorem O3:LoopOKp Tryz.prog 0 Tryz.f87.ntmps (aA Tryz.f87 0) (aI lpBc g9 uz):=
 bj lpBc (al (.consU fB rfl .nil) _) mixed (fun b hb S hS=>by cases hS) g9 uz B8 (fun |⟨side,o,b,g,xs,n,i,x,⟨⟩⟩,hi=>P3 side o b g xs n i x hi)
theorem CX (x:Innings) (side:Int) (hs:aj x) :(evPat (ao [dg] Tryz.f87) (find [(NN,N9)]) Tryz.f87 fi ax (x,side,())).sat fun z_=>z_ =(Lc (x,side,())).2:=by
 refine cast (by kernel_rfl) (?_:let r1:Bool:=isL (g9 (side,(0:Int),(0:Int),false,x.11,(↑x.11.length:Int),(0:Int),x,()));let r2:Int×Int×Int×Bool×Innings×PUnit:=pN (dflt (I.prod (I.prod (I.prod (Ty.bool.prod ((Ty.nm Nm.Innings).prod Ty.unit)))))) (g9 (side,(0:Int),(0:Int),false,x.11,(↑x.11.length:Int),(0:Int),x,()));let r3:Bool:=r2.2.2.2.2.1.9 !=(0:Int);let r4:Int:=bif r3 then IntKind.i64.wrap ((0:Int) +(1:Int)) else (0:Int);let r5:Bool:=r2.2.1==r2.2.2.2.2.1.5;let r6:Int:=bif r2.2.2.2.2.1.10 !=(0:Int) then IntKind.i64.wrap (r4 +(1:Int)) else r4;let r7:Bool:=bif !inW r2.2.2.2.2.1.9 (0:Int) r2.1 then true else bif !inW r2.2.2.2.2.1.10 (0:Int) r2.1 then true else bif r2.2.2.2.2.1.9==r2.2.2.2.2.1.10 then r3 else false;((cR fun x=>none)∧cx (x.11,(↑x.11.length:Int),(0:Int),())∧x.11.length≤(1000000:Nat)∧((0:Int)≤(0:Int)∧(0:Int)≤(0:Int))∧(0:Int)≤(0:Int)∧(0:Int)≤(0:Int))∧(r1=true→ij (dflt (Ty.bool.prod Ty.unit)) (g9 (side,(0:Int),(0:Int),false,x.11,(↑x.11.length:Int),(0:Int),x,())) =(ma x side,()))∧(r1=false→(r7=true→(false,()) =(ma x side,()))∧(r7=false→(bif r6==r2.2.2.1 then bif !r2.2.2.2.1 then r5 else bif decide (r6 >(0:Int)) then r5 else false else false,()) =(ma x side,()))))
 intro r1 r2 r3 r4 r5 r6 r7
 clear_value (hr1:r1=_) (hr2:r2=_) (hr3:r3=_) (hr4:r4=_) (hr5:r5=_) (hr6:r6=_) (hr7:r7=_)
 have er:g9 (side,0,0,false,x.Batters,(x.Batters.length:Int),0,x,())=yg side x (ie x.Striker x.Other x.Batters 0 0 0 false):=rfl
 try rw [er] at hr1
 try rw [er] at hr2
 try rw [er]
 have hw1:IntKind.i64.wrap ((0:Int)+1)=1:=rfl
 have hw2:IntKind.i64.wrap ((1:Int)+1)=2:=rfl
 refine ⟨⟨rfl,⟨rfl,Int.le_refl _,by simp only;omega,?_⟩,hs.1,⟨Int.le_refl _,Int.le_refl _⟩,Int.le_refl _,Int.le_refl _⟩,fun h=>?_,fun h=>?_⟩
 ·have:=hs.1
  show x.Batters.length≤140737488355328
  omega
 ·cases hb:ie x.Striker x.Other x.Batters 0 0 0 false with
  | none=>simp only [ma,hb];rfl
  | some q=>rw [hb] at hr1;rw [hr1] at h;cases h
 ·cases hb:ie x.Striker x.Other x.Batters 0 0 0 false with
  | none=>rw [hb] at hr1;rw [hr1] at h;cases h
  | some q=>
   obtain ⟨o,b,g⟩:=q
   rw [hb] at hr2
   have e2:r2 =(side,o,b,g,x,()):=hr2
   subst e2
   simp only at hr3 hr5 hr6 hr7 ⊢
   have e6:r6=iE x:=by
    rw [hr6,hr4,hr3,hw1]
    unfold iE
    cases x.Striker != 0 <;> cases x.Other != 0 <;> rfl
   have e7:r7 =(!inW x.Striker 0 side||!inW x.Other 0 side||x.Striker==x.Other&&x.Striker != 0):=by
    rw [hr7,hr3]
    cases inW x.Striker 0 side <;> cases inW x.Other 0 side <;> cases x.Striker==x.Other <;> rfl
   rw [e6,hr5]
   simp only [ma,hb,mf]
   rw [←e7]
   refine ⟨fun h7=>by rw [h7];rfl,fun h7=>?_⟩
   rw [h7]
   cases iE x==b <;> cases g <;> cases decide (iE x>0) <;> rfl
def xF:FuncId×Ctr:=(87,ae KE fi ax Lc)
theorem Ek:CtrOK Tryz.prog KE 87 (ae KE fi ax Lc):=by
 refine aq (C:=ao [dg] Tryz.f87) (al (.consU fB rfl .nil) _) mixed (fn:=Tryz.f87) Tryz.func87 (by kernel_rfl) (by kernel_rfl) (by kernel_rfl) (by kernel_rfl) (by kernel_rfl) (by kernel_rfl) (Λ:=fun x=>find [(NN,N9)]) ?_ ?_
 ·rintro ⟨x,side,⟨⟩⟩ hw hn
  exact LoopsOKp.at (by kernel_rfl) (.cons (by kernel_rfl) (O3) .nil)
 ·rintro ⟨x,side,⟨⟩⟩ hw hn
  exact CX x side (hn _ List.mem_cons_self)
noncomputable def lpBd:Lp:=(⟨0,ao [] Tryz.f175,(fun _=>none),(aA Tryz.f175 0),qBd,xBd⟩:Lp)
theorem P4 (o:Int) (a:Int) (xs:List Int) (n:Int) (i:Int) (x:Innings) (hi:uA (o,a,xs,n,i,x,())) :(Go.Mir.stepG lpBd iw (fun y:Den (tyP lpBd.q)=>uA y∧B9 y<B9 (o,a,xs,n,i,x,())) (o,a,xs,n,i,x,())∧Go.Mir.stepE lpBd iw (o,a,xs,n,i,x,())=iw (o,a,xs,n,i,x,())):=by
 refine cast (by kernel_rfl) (?_:let r1:Int:=IntKind.i64.wrap (i +(1:Int));let r2:Bool:=xs.getD i.toNat (dflt (Ty.int IntKind.u8)) ==(1:Int);let r3:Bool:=decide (xs.getD i.toNat (dflt (Ty.int IntKind.u8)) >(3:Int));let r4:Bool:=bif x.9==r1 then !r2==true else !r2 ==(x.10==r1);((decide (i<n)=true→((0:Int)≤i∧i <(↑xs.length:Int))∧(r3=true→True)∧(r3=false→(r4=true→True)∧(r4=false→uA (bif xs.getD i.toNat (dflt (Ty.int IntKind.u8)) ==(2:Int) then IntKind.i64.wrap (o +(1:Int)) else o,bif r2 then IntKind.i64.wrap (a +(1:Int)) else a,xs,n,r1,x,())∧B9 (bif xs.getD i.toNat (dflt (Ty.int IntKind.u8)) ==(2:Int) then IntKind.i64.wrap (o +(1:Int)) else o,bif r2 then IntKind.i64.wrap (a +(1:Int)) else a,xs,n,r1,x,())<B9 (o,a,xs,n,i,x,()))))∧(decide (i<n)=false→True))∧(bif decide (i<n) then bif r3 then Sum.inl (false,()) else bif r4 then Sum.inl (false,()) else iw (bif xs.getD i.toNat (dflt (Ty.int IntKind.u8)) ==(2:Int) then IntKind.i64.wrap (o +(1:Int)) else o,bif r2 then IntKind.i64.wrap (a +(1:Int)) else a,xs,n,r1,x,()) else Sum.inr (o,a,x,()))=iw (o,a,xs,n,i,x,()))
 intro r1 r2 r3 r4
 clear_value (hr1:r1=_) (hr2:r2=_) (hr3:r3=_) (hr4:r4=_)
 obtain ⟨⟨h1,h2,h3,h4⟩,h6,⟨h7,h8⟩,⟨h9,h10⟩⟩:=hi
 simp only at h1 h2 h3 h4 h6 h7 h8 h9 h10
 by_cases h:i<n
 ·have e:xs.drop i.toNat=xs.getD i.toNat (dflt (Ty.int IntKind.u8))::xs.drop (i+1).toNat:=b7 h2 (by omega) _
  have hw:r1=i+1:=by rw [hr1];exact bi (by omega) (by omega)
  have ho:IntKind.i64.wrap (o+1)=o+1:=bi (by omega) (by omega)
  have hb:IntKind.i64.wrap (a+1)=a+1:=bi (by omega) (by omega)
  generalize xs.getD i.toNat (dflt (Ty.int IntKind.u8))=v at *
  have hx :(0:Int)≤i∧i <(xs.length:Int):=by omega
  have inv :∀ o' a',(o'=o∨o'=o+1)→(a'=a∨a'=a+1)→uA (o',a',xs,n,i+1,x,())∧B9 (o',a',xs,n,i+1,x,())<B9 (o,a,xs,n,i,x,()):=fun o' a' ho hb=>by
   refine ⟨⟨⟨h1,by simp only;omega,by simp only;omega,h4⟩,h6,⟨?_,?_⟩,⟨?_,?_⟩⟩,?_⟩ <;> simp only [B9] <;> omega
  have er:iw (o,a,xs,n,i,x,())=yh x (iZ x.Striker x.Other (v::xs.drop (i+1).toNat) i o a):=by rw [←e];rfl
  have er2 :∀ o' a',iw (o',a',xs,n,i+1,x,())=yh x (iZ x.Striker x.Other (xs.drop (i+1).toNat) (i+1) o' a'):=fun _ _=>rfl
  rw [er,hw,ho,hb]
  rw [hw] at hr4
  have e4:r4 =((v==1) !=(x.Striker==i+1||x.Other==i+1)):=by
   rw [hr4,hr2]
   cases x.Striker==i+1 <;> rfl
  by_cases hv:v>3
  ·have e5:r3=true:=by rw [hr3];simpa using hv
   have hn:iZ x.Striker x.Other (v::xs.drop (i+1).toNat) i o a=none:=by unfold iZ;rw [if_pos hv]
   rw [hn]
   simp [e5,h,hx,yh]
  ·have e5:r3=false:=by rw [hr3];simpa using hv
   cases h4':r4 with
   | true=>
    have hn:iZ x.Striker x.Other (v::xs.drop (i+1).toNat) i o a=none:=by unfold iZ;rw [if_neg hv,←e4,h4'];rfl
    rw [hn]
    simp [e5,h,hx,yh]
   | false=>
    have hn:iZ x.Striker x.Other (v::xs.drop (i+1).toNat) i o a=iZ x.Striker x.Other (xs.drop (i+1).toNat) (i+1) (bif v==2 then o+1 else o) (bif v==1 then a+1 else a):=by
     conv=>lhs;unfold iZ
     rw [if_neg hv,←e4,h4']
     cases v==2 <;> cases v==1 <;> rfl
    rw [hn,←er2,hr2]
    have:=inv (bif v==2 then o+1 else o) (bif v==1 then a+1 else a) (by cases v==2 <;> simp) (by cases v==1 <;> simp)
    simp [e5,h,hx,this]
 ·have er:iw (o,a,xs,n,i,x,()) = .inr (o,a,x,()):=by
   simp only [iw]
   rw [bK (l:=xs) (by omega)]
   rfl
  rw [er]
  simp [h]
noncomputable def Oa:LoopSum:=aI lpBd iw uA
noncomputable def NO:Nat:=rid (aA Tryz.f175 0)
theorem O4:LoopOKp Tryz.prog 0 Tryz.f175.ntmps (aA Tryz.f175 0) (aI lpBd iw uA):=
 bj lpBd (al (CtrsOK.nil) _) mixed (fun b hb S hS=>by cases hS) iw uA B9 (fun |⟨o,a,xs,n,i,x,⟨⟩⟩,hi=>P4 o a xs n i x hi)
theorem wZ (x:Innings) (hs:aj x) :(evPat (ao [fH] Tryz.f175) (find [(NO,Oa)]) Tryz.f175 qIn ax (x,())).sat fun z_=>z_ =(Ld (x,())).2:=by
 refine cast (by kernel_rfl) (?_:let r1:Bool:=isL (iw ((0:Int),(0:Int),x.11,(↑x.11.length:Int),(0:Int),x,()));let r2:Int×Int×Innings×PUnit:=pN (dflt (I.prod (I.prod ((Ty.nm Nm.Innings).prod Ty.unit)))) (iw ((0:Int),(0:Int),x.11,(↑x.11.length:Int),(0:Int),x,()));let r3:Bool:=bif r2.2.2.1.9 !=(0:Int) then r2.2.2.1.9==r2.2.2.1.10 else false;let r4:Bool:=bif ch r2.2.2.1 then bif decide (r2.2.1 <(1:Int)) then true else r3 else r3;((cR fun x=>none)∧cx (x.11,(↑x.11.length:Int),(0:Int),())∧x.11.length≤(1000000:Nat)∧((0:Int)≤(0:Int)∧(0:Int)≤(0:Int))∧(0:Int)≤(0:Int)∧(0:Int)≤(0:Int))∧(r1=true→ij (dflt (Ty.bool.prod Ty.unit)) (iw ((0:Int),(0:Int),x.11,(↑x.11.length:Int),(0:Int),x,())) =(sF x,()))∧(r1=false→(r4=true→(false,()) =(sF x,()))∧(r4=false→(r2.2.2.1.5==r2.1,()) =(sF x,()))))
 intro r1 r2 r3 r4
 clear_value (hr1:r1=_) (hr2:r2=_) (hr3:r3=_) (hr4:r4=_)
 have er:iw (0,0,x.Batters,(x.Batters.length:Int),0,x,())=yh x (iZ x.Striker x.Other x.Batters 0 0 0):=rfl
 try rw [er] at hr1
 try rw [er] at hr2
 try rw [er]
 refine ⟨⟨rfl,⟨rfl,Int.le_refl _,by simp only;omega,?_⟩,hs.1,⟨Int.le_refl _,Int.le_refl _⟩,Int.le_refl _,Int.le_refl _⟩,fun h=>?_,fun h=>?_⟩
 ·have:=hs.1
  show x.Batters.length≤140737488355328
  omega
 ·cases hb:iZ x.Striker x.Other x.Batters 0 0 0 with
  | none=>simp only [sF,hb];rfl
  | some q=>rw [hb] at hr1;rw [hr1] at h;cases h
 ·cases hb:iZ x.Striker x.Other x.Batters 0 0 0 with
  | none=>rw [hb] at hr1;rw [hr1] at h;cases h
  | some q=>
   obtain ⟨o,a⟩:=q
   rw [hb] at hr2
   have e2:r2 =(o,a,x,()):=hr2
   subst e2
   simp only at hr3 hr4 ⊢
   have e4:r4 =(ch x&&decide (a<1)||x.Striker != 0&&x.Striker==x.Other):=by
    rw [hr4,hr3]
    cases ch x <;> cases decide (a<1) <;> cases x.Striker != 0 <;> rfl
   simp only [sF,hb]
   rw [←e4]
   exact ⟨fun h7=>by rw [h7];rfl,fun h7=>by rw [h7];rfl⟩
def jJ:FuncId×Ctr:=(175,ae KE qIn ax Ld)
theorem qj:CtrOK Tryz.prog KE 175 (ae KE qIn ax Ld):=by
 refine aq (C:=ao [fH] Tryz.f175) (al (.consU lu rfl .nil) _) mixed (fn:=Tryz.f175) Tryz.func175 (by kernel_rfl) (by kernel_rfl) (by kernel_rfl) (by kernel_rfl) (by kernel_rfl) (by kernel_rfl) (Λ:=fun x=>find [(NO,Oa)]) ?_ ?_
 ·rintro ⟨x,⟨⟩⟩ hw hn
  exact LoopsOKp.at (by kernel_rfl) (.cons (by kernel_rfl) (O4) .nil)
 ·rintro ⟨x,⟨⟩⟩ hw hn
  exact wZ x (hn _ List.mem_cons_self)
end Go.Proofs.YtkgplaoappjkcaaGreat
namespace Go.Proofs.YtkgplaoappjkcaaGreat
open Go Go.Mir
def az (n lo hi:Int):Bool:=decide (n≥lo)&&decide (n≤hi)
def cp (r:Rules):Bool:=
 az r.Side 2 11&&(az r.Innings 1 2&&(az r.Overs 0 90&&(az r.Balls 4 8&&(az r.Quota 0 90&&(az r.Wide 1 5&&(az r.NoBall 1 5&&(
 az r.NewBall 0 200&&(az r.FollowOn 0 1000&&(az r.Reviews 0 9&&az r.Outside 0 11)))))))))
def bM (r:Rules) (i:Nat):Phase:=r.Power.getD i Phase.zero
def mW (r:Rules) (p:Phase):Bool:=decide (p.From<1) ||(decide (p.From>p.To) ||(decide (p.To>r.Overs)||!az p.Outside 0 11))
def ir (r:Rules) (i:Nat):Int:=
 if mW r (bM r i) then 2 else if decide ((i:Int)>0)&&decide ((bM r i).From≤(bM r (i - 1)).To) then 8 else 0
def cq (r:Rules):Nat→Nat→Int
 | _,0=>0
 | i,n+1=>if ir r i != 0 then ir r i else cq r (i+1) n
def dZ (r:Rules):Int:=if (r.Power.length:Int)>8 then 9 else cq r 0 r.Power.length
def kV (s:ByteArray) (i:Nat):Int:=((s.data.getD i 0).toNat:Int)
def nM (c:Int):Bool:=decide (c≥65)&&decide (c≤90)
def tJ (i:Int) (c:Int):Bool:=!nM c&&(i==0 ||(c != 95&&(c != 45&&(decide (c<48)||decide (c>57)))))
def gX (s:ByteArray):Bool:=(List.range s.size).all (fun i=>!tJ i (kV s i))&&(decide ((s.size:Int)≥1)&&decide ((s.size:Int)≤16))
def EH:Ty:= .prod (.int .i64) (.prod (.int .i64) (.prod (.int .i64) .unit))
def nl:Den EH→PRes:=fun x=>⟨[],.bool (az x.1 x.2.1 x.2.2.1),[]⟩
def pz:Ty:= .prod (.nm .Rules) .unit
def A1:Den pz→PRes:=fun x=>⟨[],.bool (cp x.1),[]⟩
def A2:Den pz→PRes:=fun x=>⟨[],.int .i64 (dZ x.1),[]⟩
def EJ:Ty:= .prod .str .unit
def nk:Den EJ→PRes:=fun x=>⟨[],.bool (gX x.1),[]⟩
def bC (x:Innings) (p:Int):Bool:=decide (p≥1)&&decide (p≤(x.Bowled.length:Int))
def ni:Den eg→PRes:=fun x=>⟨[],.bool (bC x.1 x.2.1),[]⟩
def k97:FuncId×Ctr:=(85,ap K8 EH nl)
def k96:FuncId×Ctr:=(43,ap K8 EH nl)
def k93:FuncId×Ctr:=(56,ap K8 pz A1)
def k94:FuncId×Ctr:=(57,ap K8 pz A2)
def k95:FuncId×Ctr:=(42,ap K8 EJ nk)
def k92:FuncId×Ctr:=(55,ap K8 EJ nk)
def k84:FuncId×Ctr:=(180,ap K8 eg ni)
def k87:FuncId×Ctr:=(223,ap K8 eg ni)
def k83:FuncId×Ctr:=(160,ap K8 psI eV)
def k88:FuncId×Ctr:=(225,ap K8 vz m8)
def F5 (xs:List Int) (v:Int) (i:Nat):Prop:=i≤xs.length∧v∉xs.take i
def L88 (i:Nat):List (Lspec Nat):= [.out [true] [] [],.next (i+1) [] [],.out [false] [] []]
def J88 (xs:List Int) (v:Int) (i:Nat):St:=⟨[(1,.int .i64 v),(7,.fsl (.int .i64) xs),(8,.int .i64 xs.length),(9,.int .i64 i)],[],fun _=>none,0⟩
def T88 (xs:List Int) (v:Int):Tr:= .br (xs.contains v) (.leaf .ret ⟨[(4,.kb true)],[]⟩ 0) (.leaf (.ext 0) ⟨[],[]⟩ 0)
def Λ88 (xs:List Int) (v:Int):Nat→Option LoopSum:=find [(2,b8 ⟨[],[],0⟩ (J88 xs v 0) (T88 xs v))]
def rW (r:Rules) (i:Nat):Prop:=i≤r.Power.length∧cq r 0 r.Power.length=cq r i (r.Power.length - i)
def L94 (i:Nat):List (Lspec Nat):= [.out [true] [] [],.out [true] [] [],.next (i+1) [] [],.out [false] [] []]
def J94 (r:Rules) (i:Nat):St:=⟨[(1,.ptr 0 0),(10,.fsl (.nm .Phase) r.Power),(11,.int .i64 r.Power.length),(12,.int .i64 i)],[(0,.cells (flat fw (.nm .Rules) r))],fun _=>none,8⟩
def T94 (r:Rules):Tr:= .br (cq r 0 r.Power.length != 0) (.leaf .ret ⟨[(2,.int .i64 (cq r 0 r.Power.length))],[]⟩ 8) (.leaf (.ext 0) ⟨[],[]⟩ 8)
def Λ94 (r:Rules):Nat→Option LoopSum:=find [(4,b8 ⟨[],[],8⟩ (J94 r 0) (T94 r))]
def d8 (s:ByteArray) (i:Nat):Bool:=(List.range i).all (fun k=>!tJ k (kV s k))
def rX (s:ByteArray) (i:Nat):Prop:=i≤s.size∧d8 s i=true
def L95 (i:Nat):List (Lspec Nat):= [.out [false] [] [],.next (i+1) [] [],.out [true] [] []]
def J95 (s:ByteArray) (i:Nat):St:=⟨[(0,.str s),(3,.int .i64 i)],[],fun _=>none,0⟩
def T95 (s:ByteArray):Tr:= .br (d8 s s.size) (.leaf (.ext 0) ⟨[],[]⟩ 0) (.leaf .ret ⟨[(2,.kb false)],[]⟩ 0)
def Λ95 (s:ByteArray):Nat→Option LoopSum:=find [(4,b8 ⟨[],[],0⟩ (J95 s 0) (T95 s))]
end Go.Proofs.YtkgplaoappjkcaaGreat
namespace Go.Proofs.YtkgplaoappjkcaaGreat
open Go Go.Mir
def qI (r:Rules):Bool:=(r.FollowOn != 0&&r.Innings==1) ||((r.Quota != 0||decide ((r.Power.length:Int)>0))&&r.Overs==0)
def yW (r:Rules):Bool:=r.Quota != 0&&decide (IntKind.i64.wrap (r.Quota*r.Side)<r.Overs)
def ar (r:Rules):Int:=if !gX r.Name then 5 else if !cp r then 2 else if qI r then 1 else if yW r then 13 else dZ r
def nj:Den pz→PRes:=fun x=>⟨[],.int .i64 (ar x.1),[]⟩
def k85:FuncId×Ctr:=(40,ap K8 pz nj)
def k86:FuncId×Ctr:=(28,ap K8 pz nj)
def l7:Ty:= .prod (.nm .Rules) (.prod (.nm .Innings) (.prod (.int .i64) .unit))
def c8 (r:Rules) (x:Innings) (p:Int):Int:=
 if !bC x p||ar r != 0 then 0 else if r.Quota==0 then -1
 else rb (IntKind.i64.wrap (IntKind.i64.wrap (r.Quota*r.Balls) - rb (x.Bowled.getD (p - 1).toNat 0) 0)) 0
def AW:Den l7→PRes:=fun x=>⟨[],.int .i64 (c8 x.1 x.2.1 x.2.2.1),[]⟩
def k81:FuncId×Ctr:=(181,ap K8 l7 AW)
def J86 (r:Rules) (i:Nat):St:=⟨[(1,.ptr 0 0),(115,.fsl (.nm .Phase) r.Power),(116,.int .i64 r.Power.length),(117,.int .i64 i)],[(0,.cells (flat fw (.nm .Rules) r))],fun _=>none,8⟩
def Λ86 (r:Rules):Nat→Option LoopSum:=find [(12,b8 ⟨[],[],8⟩ (J86 r 0) (T94 r))]
end Go.Proofs.YtkgplaoappjkcaaGreat
namespace Go.Proofs.YtkgplaoappjkcaaGreat
open Go Go.Mir
def cz (r:Rules) (x:Innings) (p:Int):Int:=
 if !bC x p||ar r != 0 then 3
 else if p==x.Keeper ||(p==x.Bowler||aF x p) then 7
 else if cE x.Before p then 8
 else if c8 r x p != -1&&decide (x.InOver<IntKind.i64.wrap (r.Balls - c8 r x p)) then 9 else 0
def AX:Den l7→PRes:=fun x=>⟨[],.int .i64 (cz x.1 x.2.1 x.2.2.1),[]⟩
def k82:FuncId×Ctr:=(161,ap K8 l7 AX)
def ca (r:Rules) (x:Innings) (p:Int):Innings:=if cz r x p==0 then { x with Bowler:=p } else x
def AM:Den l7→PRes:=fun x=>⟨[aj x.2.1],.tup [CR (ca x.1 x.2.1 x.2.2.1),.int .i64 (cz x.1 x.2.1 x.2.2.1)],sB (ca x.1 x.2.1 x.2.2.1)⟩
def k50:FuncId×Ctr:=(132,ap K8 l7 AM)
def x3 (r:Rules) (x:Innings):Bool:=ar r != 0 ||(r.NewBall==0||decide (x.BallAge<IntKind.i64.wrap (r.NewBall*r.Balls)))
def aU (r:Rules) (x:Innings):Innings:=if x3 r x then x else { x with BallAge:=0 }
def oq (r:Rules) (x:Innings):Int:=if x3 r x then 22 else 0
def na:Den qn→PRes:=fun x=>⟨[aj x.2.1],.tup [CR (aU x.1 x.2.1),.int .i64 (oq x.1 x.2.1)],sB (aU x.1 x.2.1)⟩
def k55:FuncId×Ctr:=(140,ap K8 qn na)
def k56:FuncId×Ctr:=(194,ap K8 qn na)
def dw (x:Innings):List Int:=if cE x.Bowlers x.Bowler then x.Bowlers else x.Bowlers++[x.Bowler]
def mh (x:Innings):List Int:=x.Bowled.set (x.Bowler - 1).toNat (IntKind.i64.wrap (x.Bowled.getD (x.Bowler - 1).toNat 0+1))
def ci (x:Innings) (c:Bool):Innings:=
 if c then { x with Bowlers:=dw x,Bowled:=mh x,InOver:=IntKind.i64.wrap (x.InOver+1),BallAge:=IntKind.i64.wrap (x.BallAge+1) } else { x with Bowlers:=dw x }
def vo (y:Innings):Innings:={ y with Complete:=IntKind.i64.wrap (y.Complete+1),InOver:=0,Before:=y.Bowlers,Bowlers:= [],Bowler:=0 }
def eM (r:Rules) (x:Innings):Bool:=!bC x x.Bowler||ar r != 0
def ah (r:Rules) (x:Innings) (c:Bool):Innings:=if eM r x then x else if (ci x c).InOver<r.Balls then ci x c else vo (ci x c)
def eC (r:Rules) (x:Innings) (c:Bool):Bool:=if eM r x then false else if (ci x c).InOver<r.Balls then false else true
def vA:Ty:= .prod (.nm .Rules) (.prod (.nm .Innings) (.prod .bool .unit))
def m9:Den vA→PRes:=fun x=>⟨[aj x.2.1],.tup [CR (ah x.1 x.2.1 x.2.2.1),.bool (eC x.1 x.2.1 x.2.2.1)],sB (ah x.1 x.2.1 x.2.2.1)⟩
def k51:FuncId×Ctr:=(165,ap K8 vA m9)
def k54:FuncId×Ctr:=(212,ap K8 vA m9)
end Go.Proofs.YtkgplaoappjkcaaGreat
namespace Go.Proofs.YtkgplaoappjkcaaGreat
open Go Go.Mir
def J92 (s:ByteArray) (i:Nat):St:=⟨[(0,.str s),(7,.osl 16 16),(8,.int .i64 (bn s).length),(9,.int .i64 i)],[(16,.row 16 true (.int .u8) (bn s))],fun _=>none,40⟩
def T92 (s:ByteArray):Tr:= .br (d8 s s.size) (.leaf (.ext 0) ⟨[(0,.str s)],[]⟩ 40) (.leaf .ret ⟨[(2,.kb false)],[]⟩ 40)
def Λ92 (s:ByteArray):Nat→Option LoopSum:=find [(2,b8 ⟨[],[],40⟩ (J92 s 0) (T92 s))]
end Go.Proofs.YtkgplaoappjkcaaGreat
namespace Go.Proofs.YtkgplaoappjkcaaGreat
open Go Go.Mir
attribute [local irreducible] Go.Mir.RT.sat Go.Mir.evFn Go.Mir.stepObl
theorem RW (n:Int) (lo:Int) (hi:Int) :(evFn (cf8 [] Tryz.f85) (fun _=>none) Tryz.f85 (bh EH (n,lo,hi,()))).sat fun v' rows=>leV v' (nl (n,lo,hi,())).v∧rows =(nl (n,lo,hi,())).rows:=by
 refine cast (by kernel_rfl) (?_ :(bif decide (n≥lo) then decide (n≤hi) else false)=az n lo hi∧([]:List RowD)=[])
 simp only [az];grind
theorem Pu:CtrOK Tryz.prog K8 85 (ap K8 EH nl):=by
 refine aJ (C:=cf8 [] Tryz.f85) (bp (CtrsOK.nil) _) mixed (fn:=Tryz.f85) Tryz.func85 (by kernel_rfl) (by kernel_rfl) (by kernel_rfl) (Λ:=fun _ _=>none) ?_ ?_ ?_
 ·exact fun _ _ _ _ _ _ _ _ h=>by cases h
 ·rintro ⟨n,lo,hi,⟨⟩⟩
  exact of_decide_eq_true (by kernel_rfl)
 ·rintro ⟨n,lo,hi,⟨⟩⟩ hw hn
  exact RW n lo hi
theorem RV (n:Int) (lo:Int) (hi:Int) :(evFn (cf8 [] Tryz.f43) (fun _=>none) Tryz.f43 (bh EH (n,lo,hi,()))).sat fun v' rows=>leV v' (nl (n,lo,hi,())).v∧rows =(nl (n,lo,hi,())).rows:=by
 refine cast (by kernel_rfl) (?_ :(bif decide (n≥lo) then decide (n≤hi) else false)=az n lo hi∧([]:List RowD)=[])
 simp only [az];grind
theorem QT:CtrOK Tryz.prog K8 43 (ap K8 EH nl):=by
 refine aJ (C:=cf8 [] Tryz.f43) (bp (CtrsOK.nil) _) mixed (fn:=Tryz.f43) Tryz.func43 (by kernel_rfl) (by kernel_rfl) (by kernel_rfl) (Λ:=fun _ _=>none) ?_ ?_ ?_
 ·exact fun _ _ _ _ _ _ _ _ h=>by cases h
 ·rintro ⟨n,lo,hi,⟨⟩⟩
  exact of_decide_eq_true (by kernel_rfl)
 ·rintro ⟨n,lo,hi,⟨⟩⟩ hw hn
  exact RV n lo hi
theorem RI (x:Innings) (p:Int) :(evFn (cf8 [] Tryz.f180) (fun _=>none) Tryz.f180 (bh eg (x,p,()))).sat fun v' rows=>leV v' (ni (x,p,())).v∧rows =(ni (x,p,())).rows:=by
 refine cast (by kernel_rfl) (?_ :(bif decide (p≥(1:Int)) then decide (p≤(↑x.16.length:Int)) else false)=bC x p∧([]:List RowD)=[])
 simp only [bC];grind
theorem Ps:CtrOK Tryz.prog K8 180 (ap K8 eg ni):=by
 refine aJ (C:=cf8 [] Tryz.f180) (bp (CtrsOK.nil) _) mixed (fn:=Tryz.f180) Tryz.func180 (by kernel_rfl) (by kernel_rfl) (by kernel_rfl) (Λ:=fun _ _=>none) ?_ ?_ ?_
 ·exact fun _ _ _ _ _ _ _ _ h=>by cases h
 ·rintro ⟨x,p,⟨⟩⟩
  exact of_decide_eq_true (by kernel_rfl)
 ·rintro ⟨x,p,⟨⟩⟩ hw hn
  exact RI x p
theorem RL (x:Innings) (p:Int) :(evFn (cf8 [] Tryz.f223) (fun _=>none) Tryz.f223 (bh eg (x,p,()))).sat fun v' rows=>leV v' (ni (x,p,())).v∧rows =(ni (x,p,())).rows:=by
 refine cast (by kernel_rfl) (?_ :(bif decide (p≥(1:Int)) then decide (p≤(↑x.16.length:Int)) else false)=bC x p∧([]:List RowD)=[])
 simp only [bC];grind
theorem Pt:CtrOK Tryz.prog K8 223 (ap K8 eg ni):=by
 refine aJ (C:=cf8 [] Tryz.f223) (bp (CtrsOK.nil) _) mixed (fn:=Tryz.f223) Tryz.func223 (by kernel_rfl) (by kernel_rfl) (by kernel_rfl) (Λ:=fun _ _=>none) ?_ ?_ ?_
 ·exact fun _ _ _ _ _ _ _ _ h=>by cases h
 ·rintro ⟨x,p,⟨⟩⟩
  exact of_decide_eq_true (by kernel_rfl)
 ·rintro ⟨x,p,⟨⟩⟩ hw hn
  exact RL x p
theorem RH (x:Innings) (hs:aj x) :(evFn (cf8 [k45,k90,k91] Tryz.f160) (fun _=>none) Tryz.f160 (bh psI (x,()))).sat fun v' rows=>leV v' (eV (x,())).v∧rows =(eV (x,())).rows:=by
 refine cast (by kernel_rfl) (?_:x.11.length≤(1000000:Nat)∧x.13.length≤(1000000:Nat)∧x.14.length≤(1000000:Nat)∧x.16.length≤(1000000:Nat)∧x.21.length≤(1000000:Nat)∧(x.1=x.1∧x.2=x.2∧x.3=x.3∧x.4=x.4∧x.5=x.5∧x.6.1=x.6.1∧x.6.2=x.6.2∧x.6.3=x.6.3∧x.6.4=x.6.4∧x.6.5=x.6.5∧x.7=x.7∧x.8=x.8∧x.9=x.9∧x.10=x.10∧(nat_lit 0=nat_lit 0∧nat_lit 0=nat_lit 0)∧x.12=x.12∧(nat_lit 1=nat_lit 1∧nat_lit 1=nat_lit 1)∧(nat_lit 2=nat_lit 2∧nat_lit 2=nat_lit 2)∧x.15=x.15∧(nat_lit 3=nat_lit 3∧nat_lit 3=nat_lit 3)∧x.17=x.17∧x.18=x.18∧x.19=x.19∧x.20=x.20∧(nat_lit 4=nat_lit 4∧nat_lit 4=nat_lit 4)∧x.22.1=x.22.1∧x.22.2.1=x.22.2.1∧x.23=x.23∧True)∧ [RowD.mk (Ty.int IntKind.u8) x.11,RowD.mk (Ty.int IntKind.i64) x.13,RowD.mk (Ty.int IntKind.i64) x.14,RowD.mk (Ty.int IntKind.i64) x.16,RowD.mk Ty.bool x.21]=[RowD.mk (Ty.int IntKind.u8) x.11,RowD.mk (Ty.int IntKind.i64) x.13,RowD.mk (Ty.int IntKind.i64) x.14,RowD.mk (Ty.int IntKind.i64) x.16,RowD.mk Ty.bool x.21])
 obtain ⟨h1,h2,h3,h4,h5⟩:=hs
 simp [h1,h2,h3,h4,h5]
theorem Pr:CtrOK Tryz.prog K8 160 (ap K8 psI eV):=by
 refine aJ (C:=cf8 [k45,k90,k91] Tryz.f160) (bp (.cons Mh (.cons Mn (.cons Mo .nil))) _) mixed (fn:=Tryz.f160) Tryz.func160 (by kernel_rfl) (by kernel_rfl) (by kernel_rfl) (Λ:=fun _ _=>none) ?_ ?_ ?_
 ·exact fun _ _ _ _ _ _ _ _ h=>by cases h
 ·rintro ⟨x,⟨⟩⟩
  exact of_decide_eq_true (by kernel_rfl)
 ·rintro ⟨x,⟨⟩⟩ hw hn
  exact RH x (hn _ (List.mem_singleton.2 rfl))
theorem PY (xs:List Int) (v:Int) (hx:xs.length≤aS) (i:Nat) (hi:F5 xs v i) :(stepObl (J88 xs v) (F5 xs v) (fun i=>xs.length - i) i (T88 xs v) (bQ (cf8 [] Tryz.f225) (fun _=>none) (aA Tryz.f225 0) (J88 xs v i)) (L88 i)).1:=by
 refine cast (by kernel_rfl) (?_ :(decide ((↑i:Int) <(↑xs.length:Int))=true→((0:Int)≤(↑i:Int)∧(↑i:Int) <(↑xs.length:Int))∧((xs.getD (↑i:Int).toNat (dflt (Ty.int IntKind.i64))==v)=true→xs.contains v=true∧(true=true∧True)∧True)∧((xs.getD (↑i:Int).toNat (dflt (Ty.int IntKind.i64))==v)=false→F5 xs v (i +(1:Nat))∧xs.length - (i +(1:Nat))<xs.length - i∧(v=v∧RowD.mk (Ty.int IntKind.i64) xs=RowD.mk (Ty.int IntKind.i64) xs∧(↑xs.length:Int) =(↑xs.length:Int)∧IntKind.i64.wrap ((↑i:Int) +(1:Int)) =(↑(i +(1:Nat)):Int)∧True)∧True))∧(decide ((↑i:Int) <(↑xs.length:Int))=false→xs.contains v=false∧True∧True))
 have e :(i:Int).toNat=i:=by simp
 rw [e]
 refine ⟨fun h1=>?_,fun h1=>?_⟩
 ·have h1:i<xs.length:=by simpa using h1
  refine ⟨⟨by omega,by omega⟩,fun h2=>?_,fun h2=>?_⟩
  ·have h2:xs.getD i (0:Int)=v:=eq_of_beq h2
   have h3:xs[i]?=some v:=by rw [←h2];exact lh _ h1
   exact ⟨by simpa using List.mem_of_getElem? h3,⟨rfl,trivial⟩,trivial⟩
  ·have h2:xs.getD i (0:Int)≠v:=ne_of_beq_false h2
   have h3:xs.getD i (0:Int)=xs[i]:=by rw [List.getD_eq_getElem?_getD,List.getElem?_eq_getElem h1];rfl
   refine ⟨⟨by omega,?_⟩,by omega,⟨rfl,rfl,rfl,?_,trivial⟩,trivial⟩
   ·rw [List.take_succ_eq_append_getElem h1,List.mem_append,List.mem_singleton,not_or]
    exact ⟨hi.2,by rw [←h3];exact fun h=>h2 h.symm⟩
   ·have:xs.length≤140737488355328:=hx
    rw [de (by omega) (by omega)];omega
 ·have h1 :¬ i<xs.length:=by simpa using h1
  refine ⟨?_,trivial,trivial⟩
  have:=hi.2
  rw [List.take_of_length_le (by omega)] at this
  simpa using this
theorem OY (xs:List Int) (v:Int) (hx:xs.length≤aS):LoopOK Tryz.prog Tryz.f225.ntmps (aA Tryz.f225 0) (b8 ⟨[],[],0⟩ (J88 xs v 0) (T88 xs v)):=
 fq (bp (CtrsOK.nil) _) mixed (J88 xs v) (fun _=>rfl) (F5 xs v) (fun i=>xs.length - i) (fun _ _=>none) (fun _ _ _ _ _ h=>by cases h) (T88 xs v) [] [] 0 (⟨Nat.zero_le _,by simp⟩) L88 (fun i hi=>PY xs v hx i hi)
theorem RM (xs:List Int) (v:Int) (hx:xs.length≤aS) :(evFn (cf8 [] Tryz.f225) (Λ88 xs v) Tryz.f225 (bh vz (xs,v,()))).sat fun v' rows=>leV v' (m8 (xs,v,())).v∧rows =(m8 (xs,v,())).rows:=by
 refine cast (by kernel_rfl) (?_ :((cR fun x=>none)∧(v=v∧RowD.mk (Ty.int IntKind.i64) xs=RowD.mk (Ty.int IntKind.i64) xs∧(↑xs.length:Int) =(↑xs.length:Int)∧(0:Int) =(↑(0:Nat):Int)∧True)∧True)∧(xs.contains v=true→true=cE xs v∧([]:List RowD)=[])∧(xs.contains v=false→false=cE xs v∧([]:List RowD)=[]))
 exact ⟨⟨rfl,⟨rfl,rfl,rfl,rfl,trivial⟩,trivial⟩,fun h=>⟨h.symm,rfl⟩,fun h=>⟨h.symm,rfl⟩⟩
theorem QR:CtrOK Tryz.prog K8 225 (ap K8 vz m8):=by
 refine aJ (C:=cf8 [] Tryz.f225) (bp (CtrsOK.nil) _) mixed (fn:=Tryz.f225) Tryz.func225 (by kernel_rfl) (by kernel_rfl) (by kernel_rfl) (Λ:=fun x=>Λ88 x.1 x.2.1) ?_ ?_ ?_
 ·rintro ⟨xs,v,⟨⟩⟩ hw hn
  exact LoopsOK.at (by kernel_rfl) (.cons (by kernel_rfl) (OY xs v (cu (aY hw))) .nil)
 ·rintro ⟨xs,v,⟨⟩⟩
  exact of_decide_eq_true (by kernel_rfl)
 ·rintro ⟨xs,v,⟨⟩⟩ hw hn
  exact RM xs v (cu (aY hw))
theorem RR (r:Rules) :(evFn (cf8 [k97] Tryz.f56) (fun _=>none) Tryz.f56 (bh pz (r,()))).sat fun v' rows=>leV v' (A1 (r,())).v∧rows =(A1 (r,())).rows:=by
 refine cast (by kernel_rfl) (?_ :(bif az r.2 (2:Int) (11:Int) then bif az r.3 (1:Int) (2:Int) then bif az r.4 (0:Int) (90:Int) then bif az r.5 (4:Int) (8:Int) then bif az r.6 (0:Int) (90:Int) then bif az r.7 (1:Int) (5:Int) then bif az r.8 (1:Int) (5:Int) then bif az r.10 (0:Int) (200:Int) then bif az r.11 (0:Int) (1000:Int) then bif az r.12 (0:Int) (9:Int) then az r.13 (0:Int) (11:Int) else false else false else false else false else false else false else false else false else false else false)=cp r∧([]:List RowD)=[])
 simp only [cp,Bool.cond_false_right,and_self]
theorem SF:CtrOK Tryz.prog K8 56 (ap K8 pz A1):=by
 refine aJ (C:=cf8 [k97] Tryz.f56) (bp (.cons Pu .nil) _) mixed (fn:=Tryz.f56) Tryz.func56 (by kernel_rfl) (by kernel_rfl) (by kernel_rfl) (Λ:=fun _ _=>none) ?_ ?_ ?_
 ·exact fun _ _ _ _ _ _ _ _ h=>by cases h
 ·rintro ⟨r,⟨⟩⟩
  exact of_decide_eq_true (by kernel_rfl)
 ·rintro ⟨r,⟨⟩⟩ hw hn
  exact RR r
theorem vV (r:Rules) (i n:Nat):cq r i (n+1)=if ir r i != 0 then ir r i else cq r (i+1) n:=rfl
theorem Bb {s:ByteArray} (h:wfD .str s):s.size≤aS:=by
 obtain ⟨S,w,cs,h⟩:=h
 cases h with|str h=>exact h
theorem P0 (r:Rules) (hx:r.Power.length≤aS) (i:Nat) (hi:rW r i) :(stepObl (J94 r) (rW r) (fun i=>r.Power.length - i) i (T94 r) (bQ (cf8 [k97] Tryz.f57) (fun _=>none) (aA Tryz.f57 0) (J94 r i)) (L94 i)).1:=by
 refine cast (by kernel_rfl) (?_ :(decide ((↑i:Int) <(↑r.14.length:Int))=true→((0:Int)≤(↑i:Int)∧(↑i:Int) <(↑r.14.length:Int))∧((bif decide ((r.14.getD (↑i:Int).toNat (dflt (Ty.nm Nm.Phase))).1 <(1:Int)) then true else bif decide ((r.14.getD (↑i:Int).toNat (dflt (Ty.nm Nm.Phase))).1 >(r.14.getD (↑i:Int).toNat (dflt (Ty.nm Nm.Phase))).2) then true else bif decide ((r.14.getD (↑i:Int).toNat (dflt (Ty.nm Nm.Phase))).2>r.4) then true else !az (r.14.getD (↑i:Int).toNat (dflt (Ty.nm Nm.Phase))).3 (0:Int) (11:Int))=true→(cq r (0:Nat) r.14.length !=(0:Int))=true∧((2:Int)=cq r (0:Nat) r.14.length∧True)∧True)∧((bif decide ((r.14.getD (↑i:Int).toNat (dflt (Ty.nm Nm.Phase))).1 <(1:Int)) then true else bif decide ((r.14.getD (↑i:Int).toNat (dflt (Ty.nm Nm.Phase))).1 >(r.14.getD (↑i:Int).toNat (dflt (Ty.nm Nm.Phase))).2) then true else bif decide ((r.14.getD (↑i:Int).toNat (dflt (Ty.nm Nm.Phase))).2>r.4) then true else !az (r.14.getD (↑i:Int).toNat (dflt (Ty.nm Nm.Phase))).3 (0:Int) (11:Int))=false→((decide ((↑i:Int) >(0:Int))=true→((0:Int)≤IntKind.i64.wrap ((↑i:Int) - (1:Int))∧IntKind.i64.wrap ((↑i:Int) - (1:Int)) <(↑r.14.length:Int))∧True)∧(decide ((↑i:Int) >(0:Int))=false→True))∧(true=true→((bif decide ((↑i:Int) >(0:Int)) then decide ((r.14.getD (↑i:Int).toNat (dflt (Ty.nm Nm.Phase))).1≤(r.14.getD (IntKind.i64.wrap ((↑i:Int) - (1:Int))).toNat (dflt (Ty.nm Nm.Phase))).2) else false)=true→(cq r (0:Nat) r.14.length !=(0:Int))=true∧((8:Int)=cq r (0:Nat) r.14.length∧True)∧True)∧((bif decide ((↑i:Int) >(0:Int)) then decide ((r.14.getD (↑i:Int).toNat (dflt (Ty.nm Nm.Phase))).1≤(r.14.getD (IntKind.i64.wrap ((↑i:Int) - (1:Int))).toNat (dflt (Ty.nm Nm.Phase))).2) else false)=false→rW r (i +(1:Nat))∧r.14.length - (i +(1:Nat))<r.14.length - i∧(True∧RowD.mk (Ty.nm Nm.Phase) r.14=RowD.mk (Ty.nm Nm.Phase) r.14∧(↑r.14.length:Int) =(↑r.14.length:Int)∧IntKind.i64.wrap ((↑i:Int) +(1:Int)) =(↑(i +(1:Nat)):Int)∧True)∧(r.1=r.1∧r.2=r.2∧r.3=r.3∧r.4=r.4∧r.5=r.5∧r.6=r.6∧r.7=r.7∧r.8=r.8∧r.9=r.9∧r.10=r.10∧r.11=r.11∧r.12=r.12∧r.13=r.13∧RowD.mk (Ty.nm Nm.Phase) r.14=RowD.mk (Ty.nm Nm.Phase) r.14∧True)∧True))))∧(decide ((↑i:Int) <(↑r.14.length:Int))=false→(cq r (0:Nat) r.14.length !=(0:Int))=false∧True∧True))
 have e :(i:Int).toNat=i:=by simp
 rw [e]
 have hb:r.Power.length≤140737488355328:=hx
 have hp:r.Power.getD i (dflt (Ty.nm Nm.Phase))=bM r i:=rfl
 rw [hp]
 have hpb :(bif decide ((bM r i).From<1) then true else bif decide ((bM r i).From >(bM r i).To) then true else bif decide ((bM r i).To>r.Overs) then true else !az (bM r i).Outside 0 11)=mW r (bM r i):=by
  simp only [mW,Bool.cond_true_left]
 rw [hpb]
 obtain ⟨hi1,hi2⟩:=hi
 refine ⟨fun h1=>?_,fun h1=>?_⟩
 ·have h1:i<r.Power.length:=by simpa using h1
  have hn:r.Power.length - i =(r.Power.length - (i+1))+1:=by omega
  rw [hn,vV] at hi2
  have hw1:0<i→IntKind.i64.wrap ((i:Int) - 1) =((i - 1:Nat):Int):=fun h=>by rw [de (by omega) (by omega)];omega
  refine ⟨⟨by omega,by omega⟩,fun h2=>?_,fun h2=>⟨⟨fun h3=>?_,fun _=>trivial⟩,fun _=>⟨fun h3=>?_,fun h3=>?_⟩⟩⟩
  ·have hE:ir r i=2:=by simp only [ir,h2];rfl
   rw [hE] at hi2
   have hi2:cq r 0 r.Power.length=2:=hi2
   rw [hi2]
   exact ⟨rfl,⟨rfl,trivial⟩,trivial⟩
  ·have h3:0<i:=by simpa using h3
   rw [hw1 h3]
   exact ⟨⟨by omega,by omega⟩,trivial⟩
  ·have h4:0<i:=by
    by_cases h4:0<i
    ·exact h4
    ·have:i=0:=by omega
     subst this
     simp at h3
   rw [hw1 h4,Int.toNat_natCast] at h3
   have hq:r.Power.getD (i - 1) (dflt (Ty.nm Nm.Phase))=bM r (i - 1):=rfl
   rw [hq] at h3
   have h5 :(decide ((i:Int)>0)&&decide ((bM r i).From≤(bM r (i - 1)).To))=true:=by rw [←h3];cases decide ((i:Int)>0) <;> rfl
   have hE:ir r i=8:=by simp only [ir,h2,h5];rfl
   rw [hE] at hi2
   have hi2:cq r 0 r.Power.length=8:=hi2
   rw [hi2]
   exact ⟨rfl,⟨rfl,trivial⟩,trivial⟩
  ·have h5 :(decide ((i:Int)>0)&&decide ((bM r i).From≤(bM r (i - 1)).To))=false:=by
    by_cases h4:0<i
    ·rw [hw1 h4,Int.toNat_natCast] at h3
     have hq:r.Power.getD (i - 1) (dflt (Ty.nm Nm.Phase))=bM r (i - 1):=rfl
     rw [hq] at h3
     rw [←h3];cases decide ((i:Int)>0) <;> rfl
    ·have:i=0:=by omega
     subst this;rfl
   have hE:ir r i=0:=by simp only [ir,h2,h5];rfl
   rw [hE] at hi2
   have hi2:cq r 0 r.Power.length=cq r (i+1) (r.Power.length - (i+1)):=hi2
   exact ⟨⟨by omega,hi2⟩,by omega,⟨trivial,rfl,rfl,by rw [de (by omega) (by omega)];omega,trivial⟩,by simp⟩
 ·have h1:r.Power.length≤i:=by simpa using h1
  have h2:r.Power.length - i=0:=by omega
  rw [h2] at hi2
  have hi2:cq r 0 r.Power.length=0:=hi2
  rw [hi2]
  exact ⟨rfl,trivial,trivial⟩
theorem O0 (r:Rules) (hx:r.Power.length≤aS):LoopOK Tryz.prog Tryz.f57.ntmps (aA Tryz.f57 0) (b8 ⟨[],[],8⟩ (J94 r 0) (T94 r)):=
 fq (bp (.cons Pu .nil) _) mixed (J94 r) (fun _=>rfl) (rW r) (fun i=>r.Power.length - i) (fun _ _=>none) (fun _ _ _ _ _ h=>by cases h) (T94 r) [] [] 0 (⟨Nat.zero_le _,rfl⟩) L94 (fun i hi=>P0 r hx i hi)
theorem RS (r:Rules) (hx:r.Power.length≤aS) :(evFn (cf8 [k97] Tryz.f57) (Λ94 r) Tryz.f57 (bh pz (r,()))).sat fun v' rows=>leV v' (A2 (r,())).v∧rows =(A2 (r,())).rows:=by
 refine cast (by kernel_rfl) (?_ :(decide ((↑r.14.length:Int) >(8:Int))=true→(9:Int)=dZ r∧([]:List RowD)=[])∧(decide ((↑r.14.length:Int) >(8:Int))=false→((cR fun x=>none)∧(True∧RowD.mk (Ty.nm Nm.Phase) r.14=RowD.mk (Ty.nm Nm.Phase) r.14∧(↑r.14.length:Int) =(↑r.14.length:Int)∧(0:Int) =(↑(0:Nat):Int)∧True)∧(r.1=r.1∧r.2=r.2∧r.3=r.3∧r.4=r.4∧r.5=r.5∧r.6=r.6∧r.7=r.7∧r.8=r.8∧r.9=r.9∧r.10=r.10∧r.11=r.11∧r.12=r.12∧r.13=r.13∧RowD.mk (Ty.nm Nm.Phase) r.14=RowD.mk (Ty.nm Nm.Phase) r.14∧True)∧True)∧((cq r (0:Nat) r.14.length !=(0:Int))=true→cq r (0:Nat) r.14.length=dZ r∧([]:List RowD)=[])∧((cq r (0:Nat) r.14.length !=(0:Int))=false→(0:Int)=dZ r∧([]:List RowD)=[])))
 refine ⟨fun h=>⟨?_,rfl⟩,fun h=>⟨⟨rfl,⟨trivial,rfl,rfl,rfl,trivial⟩,by simp⟩,fun h2=>⟨?_,rfl⟩,fun h2=>⟨?_,rfl⟩⟩⟩
 ·simp only [dZ];rw [if_pos (of_decide_eq_true h)]
 ·simp only [dZ];rw [if_neg (of_decide_eq_false h)]
 ·simp only [dZ];rw [if_neg (of_decide_eq_false h)]
  have h2:cq r 0 r.Power.length=0:=by simpa using h2
  exact h2.symm
theorem SG:CtrOK Tryz.prog K8 57 (ap K8 pz A2):=by
 refine aJ (C:=cf8 [k97] Tryz.f57) (bp (.cons Pu .nil) _) mixed (fn:=Tryz.f57) Tryz.func57 (by kernel_rfl) (by kernel_rfl) (by kernel_rfl) (Λ:=fun x=>Λ94 x.1) ?_ ?_ ?_
 ·rintro ⟨r,⟨⟩⟩ hw hn
  exact LoopsOK.at (by kernel_rfl) (.cons (by kernel_rfl) (O0 r (ic (aY hw))) .nil)
 ·rintro ⟨r,⟨⟩⟩
  exact of_decide_eq_true (by kernel_rfl)
 ·rintro ⟨r,⟨⟩⟩ hw hn
  exact RS r (ic (aY hw))
theorem P1 (s:ByteArray) (hx:s.size≤aS) (i:Nat) (hi:rX s i) :(stepObl (J95 s) (rX s) (fun i=>s.size - i) i (T95 s) (bQ (cf8 [] Tryz.f42) (fun _=>none) (aA Tryz.f42 0) (J95 s i)) (L95 i)).1:=by
 refine cast (by kernel_rfl) (?_ :(decide ((↑i:Int) <(↑s.size:Int))=true→(((0:Int)≤(↑i:Int)∧(↑i:Int) <(↑s.size:Int))∧((bif decide ((↑(s.1.getD (↑i:Int).toNat (0:UInt8)).toNat:Int)≥(65:Int)) then decide ((↑(s.1.getD (↑i:Int).toNat (0:UInt8)).toNat:Int)≤(90:Int)) else false)=true→True)∧((bif decide ((↑(s.1.getD (↑i:Int).toNat (0:UInt8)).toNat:Int)≥(65:Int)) then decide ((↑(s.1.getD (↑i:Int).toNat (0:UInt8)).toNat:Int)≤(90:Int)) else false)=false→((bif (↑i:Int) ==(0:Int) then true else bif (↑(s.1.getD (↑i:Int).toNat (0:UInt8)).toNat:Int) !=(95:Int) then bif (↑(s.1.getD (↑i:Int).toNat (0:UInt8)).toNat:Int) !=(45:Int) then bif decide ((↑(s.1.getD (↑i:Int).toNat (0:UInt8)).toNat:Int) <(48:Int)) then true else decide ((↑(s.1.getD (↑i:Int).toNat (0:UInt8)).toNat:Int) >(57:Int)) else false else false)=true→d8 s s.size=false∧(false=false∧True)∧True)∧((bif (↑i:Int) ==(0:Int) then true else bif (↑(s.1.getD (↑i:Int).toNat (0:UInt8)).toNat:Int) !=(95:Int) then bif (↑(s.1.getD (↑i:Int).toNat (0:UInt8)).toNat:Int) !=(45:Int) then bif decide ((↑(s.1.getD (↑i:Int).toNat (0:UInt8)).toNat:Int) <(48:Int)) then true else decide ((↑(s.1.getD (↑i:Int).toNat (0:UInt8)).toNat:Int) >(57:Int)) else false else false)=false→True)))∧((bif bif decide ((↑(s.1.getD (↑i:Int).toNat (0:UInt8)).toNat:Int)≥(65:Int)) then decide ((↑(s.1.getD (↑i:Int).toNat (0:UInt8)).toNat:Int)≤(90:Int)) else false then true else !bif (↑i:Int) ==(0:Int) then true else bif (↑(s.1.getD (↑i:Int).toNat (0:UInt8)).toNat:Int) !=(95:Int) then bif (↑(s.1.getD (↑i:Int).toNat (0:UInt8)).toNat:Int) !=(45:Int) then bif decide ((↑(s.1.getD (↑i:Int).toNat (0:UInt8)).toNat:Int) <(48:Int)) then true else decide ((↑(s.1.getD (↑i:Int).toNat (0:UInt8)).toNat:Int) >(57:Int)) else false else false)=true→rX s (i +(1:Nat))∧s.size - (i +(1:Nat))<s.size - i∧(s=s∧IntKind.i64.wrap ((↑i:Int) +(1:Int)) =(↑(i +(1:Nat)):Int)∧True)∧True))∧(decide ((↑i:Int) <(↑s.size:Int))=false→d8 s s.size=true∧True∧True))
 have e :(i:Int).toNat=i:=by simp
 rw [e]
 have hb:s.size≤140737488355328:=hx
 have hby :(((s.data.getD i 0).toNat:Nat):Int)=kV s i:=rfl
 rw [hby]
 generalize hc:kV s i=c
 have hl :(bif decide (c≥65) then decide (c≤90) else false)=nM c:=by simp only [nM,Bool.cond_false_right]
 rw [hl]
 have hr :(bif (i:Int)==0 then true else bif c != 95 then bif c != 45 then bif decide (c<48) then true else decide (c>57) else false else false) =((i:Int)==0 ||(c != 95&&(c != 45&&(decide (c<48)||decide (c>57))))):=by
  simp only [Bool.cond_true_left,Bool.cond_false_right]
 rw [hr]
 have hbad:tJ i c =(!nM c&&((i:Int)==0 ||(c != 95&&(c != 45&&(decide (c<48)||decide (c>57)))))):=rfl
 generalize ((i:Int)==0 ||(c != 95&&(c != 45&&(decide (c<48)||decide (c>57)))))=q at hbad ⊢
 obtain ⟨hi1,hi2⟩:=hi
 refine ⟨fun h1=>?_,fun h1=>⟨?_,trivial,trivial⟩⟩
 ·have h1:i<s.size:=by simpa using h1
  refine ⟨⟨⟨by omega,by omega⟩,fun _=>trivial,fun h2=>⟨fun h3=>⟨?_,⟨rfl,trivial⟩,trivial⟩,fun _=>trivial⟩⟩,fun h2=>⟨⟨by omega,?_⟩,by omega,⟨rfl,by rw [de (by omega) (by omega)];omega,trivial⟩,trivial⟩⟩
  ·have hb2:tJ i (kV s i)=true:=by rw [hc,hbad,h2,h3];rfl
   unfold d8
   rw [List.all_eq_false]
   exact ⟨i,List.mem_range.2 h1,by rw [hb2];decide⟩
  ·have hb2:tJ i (kV s i)=false:=by
    rw [hc,hbad]
    cases hL:nM c with
    | true=>rfl
    | false=>rw [hL] at h2;simpa using h2
   unfold d8 at hi2 ⊢
   rw [List.range_succ,List.all_append,hi2]
   simp [hb2]
 ·have h1:s.size≤i:=by simpa using h1
  have:i=s.size:=by omega
  rw [←this];exact hi2
theorem O1 (s:ByteArray) (hx:s.size≤aS):LoopOK Tryz.prog Tryz.f42.ntmps (aA Tryz.f42 0) (b8 ⟨[],[],0⟩ (J95 s 0) (T95 s)):=
 fq (bp (CtrsOK.nil) _) mixed (J95 s) (fun _=>rfl) (rX s) (fun i=>s.size - i) (fun _ _=>none) (fun _ _ _ _ _ h=>by cases h) (T95 s) [] [] 0 (⟨Nat.zero_le _,rfl⟩) L95 (fun i hi=>P1 s hx i hi)
theorem RU (s:ByteArray) (hx:s.size≤aS) :(evFn (cf8 [] Tryz.f42) (Λ95 s) Tryz.f42 (bh EJ (s,()))).sat fun v' rows=>leV v' (nk (s,())).v∧rows =(nk (s,())).rows:=by
 refine cast (by kernel_rfl) (?_ :((bif s.toList ==(ByteArray.mk #[]).toList then true else decide ((↑s.size:Int) >(16:Int)))=true→false=gX s∧([]:List RowD)=[])∧((bif s.toList ==(ByteArray.mk #[]).toList then true else decide ((↑s.size:Int) >(16:Int)))=false→((cR fun x=>none)∧(s=s∧(0:Int) =(↑(0:Nat):Int)∧True)∧True)∧(d8 s s.size=true→true=gX s∧([]:List RowD)=[])∧(d8 s s.size=false→false=gX s∧([]:List RowD)=[])))
 have hz :(s.toList ==(ByteArray.mk #[]).toList)=decide ((s.size:Int)<1):=by
  rw [Bool.eq_iff_iff,beq_iff_eq,decide_eq_true_eq,ByteArray.toList_eq,ByteArray.toList_eq]
  constructor
  ·intro h
   have:=congrArg List.length h
   simp at this
   have h2:s.size=0:=by rw [←ByteArray.size_data];simp [this]
   omega
  ·intro h
   have h2:s.data.size=0:=by rw [ByteArray.size_data];omega
   have h3:s.data=#[]:=Array.eq_empty_of_size_eq_zero h2
   rw [h3]
 have hn:gX s =(d8 s s.size&&(decide ((s.size:Int)≥1)&&decide ((s.size:Int)≤16))):=rfl
 rw [hz,hn]
 refine ⟨fun h=>⟨?_,rfl⟩,fun h=>⟨⟨rfl,⟨rfl,rfl,trivial⟩,trivial⟩,fun h2=>⟨?_,rfl⟩,fun h2=>⟨?_,rfl⟩⟩⟩
 ·have :(decide ((s.size:Int)≥1)&&decide ((s.size:Int)≤16))=false:=by
   by_cases h1 :(s.size:Int)<1
   ·have :¬(s.size:Int)≥1:=by omega
    simp [this]
   ·rw [decide_eq_false h1] at h
    have h :(s.size:Int)>16:=of_decide_eq_true h
    have :¬(s.size:Int)≤16:=by omega
    simp [this]
  rw [this,Bool.and_false]
 ·have h1 :¬(s.size:Int)<1:=fun h1=>by rw [decide_eq_true h1] at h;cases h
  rw [decide_eq_false h1] at h
  have h :¬(s.size:Int)>16:=of_decide_eq_false h
  rw [h2,decide_eq_true (show (s.size:Int)≥1 by omega),decide_eq_true (show (s.size:Int)≤16 by omega)]
  rfl
 ·rw [h2];rfl
theorem QS:CtrOK Tryz.prog K8 42 (ap K8 EJ nk):=by
 refine aJ (C:=cf8 [] Tryz.f42) (bp (CtrsOK.nil) _) mixed (fn:=Tryz.f42) Tryz.func42 (by kernel_rfl) (by kernel_rfl) (by kernel_rfl) (Λ:=fun x=>Λ95 x.1) ?_ ?_ ?_
 ·rintro ⟨s,⟨⟩⟩ hw hn
  exact LoopsOK.at (by kernel_rfl) (.cons (by kernel_rfl) (O1 s (Bb (aY hw))) .nil)
 ·rintro ⟨s,⟨⟩⟩
  exact of_decide_eq_true (by kernel_rfl)
 ·rintro ⟨s,⟨⟩⟩ hw hn
  exact RU s (Bb (aY hw))
end Go.Proofs.YtkgplaoappjkcaaGreat
namespace Go.Proofs.YtkgplaoappjkcaaGreat
open Go Go.Mir
attribute [local irreducible] Go.Mir.RT.sat Go.Mir.evFn Go.Mir.stepObl
theorem Hm (s:ByteArray) :(bn s).length=s.size:=by
 have:s.data.size=s.size:=ByteArray.size_data
 simp [bn,this]
theorem Jb (s:ByteArray) (i:Nat) (h:i<s.size) :(bn s).getD i (0:Int)=kV s i:=by
 have h1:i<s.data.size:=by rw [ByteArray.size_data];exact h
 simp [bn,kV,Array.getElem?_eq_getElem h1]
theorem PZ (s:ByteArray) (hx:s.size≤aS) (i:Nat) (hi:rX s i) :(stepObl (J92 s) (rX s) (fun i=>s.size - i) i (T92 s) (bQ (cf8 [] Tryz.f55) (fun _=>none) (aA Tryz.f55 0) (J92 s i)) (L95 i)).1:=by
 refine cast (by kernel_rfl) (?_ :(decide ((↑i:Int) <(↑(bn s).length:Int))=true→((0:Int)≤(↑i:Int)∧(↑i:Int) <(↑(bn s).length:Int))∧((bif !bif decide ((bn s).getD (↑i:Int).toNat (dflt (Ty.int IntKind.u8))≥(65:Int)) then decide ((bn s).getD (↑i:Int).toNat (dflt (Ty.int IntKind.u8))≤(90:Int)) else false then bif (↑i:Int) ==(0:Int) then true else bif (bn s).getD (↑i:Int).toNat (dflt (Ty.int IntKind.u8)) !=(95:Int) then bif (bn s).getD (↑i:Int).toNat (dflt (Ty.int IntKind.u8)) !=(45:Int) then bif decide ((bn s).getD (↑i:Int).toNat (dflt (Ty.int IntKind.u8)) <(48:Int)) then true else decide ((bn s).getD (↑i:Int).toNat (dflt (Ty.int IntKind.u8)) >(57:Int)) else false else false else false)=true→d8 s s.size=false∧(false=false∧True)∧True)∧((bif !bif decide ((bn s).getD (↑i:Int).toNat (dflt (Ty.int IntKind.u8))≥(65:Int)) then decide ((bn s).getD (↑i:Int).toNat (dflt (Ty.int IntKind.u8))≤(90:Int)) else false then bif (↑i:Int) ==(0:Int) then true else bif (bn s).getD (↑i:Int).toNat (dflt (Ty.int IntKind.u8)) !=(95:Int) then bif (bn s).getD (↑i:Int).toNat (dflt (Ty.int IntKind.u8)) !=(45:Int) then bif decide ((bn s).getD (↑i:Int).toNat (dflt (Ty.int IntKind.u8)) <(48:Int)) then true else decide ((bn s).getD (↑i:Int).toNat (dflt (Ty.int IntKind.u8)) >(57:Int)) else false else false else false)=false→rX s (i +(1:Nat))∧s.size - (i +(1:Nat))<s.size - i∧(s=s∧True∧(↑(bn s).length:Int) =(↑(bn s).length:Int)∧IntKind.i64.wrap ((↑i:Int) +(1:Int)) =(↑(i +(1:Nat)):Int)∧True)∧RowD.mk (Ty.int IntKind.u8) (bn s)=RowD.mk (Ty.int IntKind.u8) (bn s)∧True))∧(decide ((↑i:Int) <(↑(bn s).length:Int))=false→d8 s s.size=true∧(s=s∧True)∧True))
 have e :(i:Int).toNat=i:=by simp
 rw [e]
 have hb:s.size≤140737488355328:=hx
 have hlen:=Hm s
 obtain ⟨hi1,hi2⟩:=hi
 have hbad :∀ c:Int,(bif !(bif decide (c≥65) then decide (c≤90) else false) then bif (i:Int)==0 then true else bif c != 95 then bif c != 45 then bif decide (c<48) then true else decide (c>57) else false else false else false)=tJ i c:=fun c=>by
  simp only [tJ,nM,Bool.cond_true_left,Bool.cond_false_right]
 rw [hbad]
 refine ⟨fun h1=>?_,fun h1=>⟨?_,⟨rfl,trivial⟩,trivial⟩⟩
 ·have h1:i <(bn s).length:=by simpa using h1
  have hat :(bn s).getD i (dflt (Ty.int IntKind.u8))=kV s i:=Jb s i (by omega)
  rw [hat]
  refine ⟨⟨by omega,by omega⟩,fun h2=>⟨?_,⟨rfl,trivial⟩,trivial⟩,fun h2=>⟨⟨by omega,?_⟩,by omega,⟨rfl,trivial,rfl,by rw [de (by omega) (by omega)];omega,trivial⟩,rfl,trivial⟩⟩
  ·unfold d8
   rw [List.all_eq_false]
   exact ⟨i,List.mem_range.2 (by omega),by rw [h2];decide⟩
  ·unfold d8 at hi2 ⊢
   rw [List.range_succ,List.all_append,hi2]
   simp [h2]
 ·have h1 :(bn s).length≤i:=by simpa using h1
  have:i=s.size:=by omega
  rw [←this];exact hi2
theorem OZ (s:ByteArray) (hx:s.size≤aS):LoopOK Tryz.prog Tryz.f55.ntmps (aA Tryz.f55 0) (b8 ⟨[],[],40⟩ (J92 s 0) (T92 s)):=
 fq (bp (CtrsOK.nil) _) mixed (J92 s) (fun _=>rfl) (rX s) (fun i=>s.size - i) (fun _ _=>none) (fun _ _ _ _ _ h=>by cases h) (T92 s) [] [] 0 (⟨Nat.zero_le _,rfl⟩) L95 (fun i hi=>PZ s hx i hi)
theorem RQ (s:ByteArray) (hx:s.size≤aS) :(evFn (cf8 [] Tryz.f55) (Λ92 s) Tryz.f55 (bh EJ (s,()))).sat fun v' rows=>leV v' (nk (s,())).v∧rows =(nk (s,())).rows:=by
 refine cast (by kernel_rfl) (?_ :((cR fun x=>none)∧(s=s∧True∧(↑(bn s).length:Int) =(↑(bn s).length:Int)∧(0:Int) =(↑(0:Nat):Int)∧True)∧RowD.mk (Ty.int IntKind.u8) (bn s)=RowD.mk (Ty.int IntKind.u8) (bn s)∧True)∧(d8 s s.size=true→(bif decide ((↑s.size:Int)≥(1:Int)) then decide ((↑s.size:Int)≤(16:Int)) else false)=gX s∧([]:List RowD)=[])∧(d8 s s.size=false→false=gX s∧([]:List RowD)=[]))
 have hn:gX s =(d8 s s.size&&(decide ((s.size:Int)≥1)&&decide ((s.size:Int)≤16))):=rfl
 refine ⟨⟨rfl,⟨rfl,trivial,rfl,rfl,trivial⟩,rfl,trivial⟩,fun h=>⟨?_,rfl⟩,fun h=>⟨?_,rfl⟩⟩
 ·rw [hn,h,Bool.true_and,Bool.cond_false_right]
 ·rw [hn,h,Bool.false_and]
theorem SD:CtrOK Tryz.prog K8 55 (ap K8 EJ nk):=by
 refine aJ (C:=cf8 [] Tryz.f55) (bp (CtrsOK.nil) _) mixed (fn:=Tryz.f55) Tryz.func55 (by kernel_rfl) (by kernel_rfl) (by kernel_rfl) (Λ:=fun x=>Λ92 x.1) ?_ ?_ ?_
 ·rintro ⟨s,⟨⟩⟩ hw hn
  exact LoopsOK.at (by kernel_rfl) (.cons (by kernel_rfl) (OZ s (Bb (aY hw))) .nil)
 ·rintro ⟨s,⟨⟩⟩
  exact of_decide_eq_true (by kernel_rfl)
 ·rintro ⟨s,⟨⟩⟩ hw hn
  exact RQ s (Bb (aY hw))
end Go.Proofs.YtkgplaoappjkcaaGreat
namespace Go.Proofs.YtkgplaoappjkcaaGreat
open Go Go.Mir
attribute [local irreducible] Go.Mir.RT.sat Go.Mir.evFn Go.Mir.stepObl
theorem I8 (r:Rules) :(bif bif r.FollowOn != 0 then r.Innings==1 else false then bif r.FollowOn != 0 then r.Innings==1 else false else bif r.Quota != 0 then r.Overs==0 else bif decide ((r.Power.length:Int)>0) then r.Overs==0 else false)=qI r:=by
 simp only [qI]
 generalize (r.FollowOn != 0)=a
 generalize (r.Innings==1)=b
 generalize (r.Quota != 0)=c
 generalize decide ((r.Power.length:Int)>0)=d
 generalize (r.Overs==0)=e
 cases a <;> cases b <;> cases c <;> cases d <;> cases e <;> rfl
theorem Hj (r:Rules) :(bif r.FollowOn != 0 then bif r.Innings==1 then true else bif r.Overs==0 then bif r.Quota != 0 then true else decide ((r.Power.length:Int)>0) else false else bif r.Overs==0 then bif r.Quota != 0 then true else decide ((r.Power.length:Int)>0) else false)=qI r:=by
 simp only [qI]
 generalize (r.FollowOn != 0)=a
 generalize (r.Innings==1)=b
 generalize (r.Quota != 0)=c
 generalize decide ((r.Power.length:Int)>0)=d
 generalize (r.Overs==0)=e
 cases a <;> cases b <;> cases c <;> cases d <;> cases e <;> rfl
theorem tN (r:Rules) :(bif r.Quota != 0 then decide (IntKind.i64.wrap (r.Quota*r.Side)<r.Overs) else false)=yW r:=by
 simp only [yW,Bool.cond_false_right]
theorem PX (r:Rules) (hx:r.Power.length≤aS) (i:Nat) (hi:rW r i) :(stepObl (J86 r) (rW r) (fun i=>r.Power.length - i) i (T94 r) (bQ (cf8 [k95,k96] Tryz.f28) (fun _=>none) (aA Tryz.f28 0) (J86 r i)) (L94 i)).1:=by
 refine cast (by kernel_rfl) (?_ :(decide ((↑i:Int) <(↑r.14.length:Int))=true→((0:Int)≤(↑i:Int)∧(↑i:Int) <(↑r.14.length:Int))∧((bif decide ((r.14.getD (↑i:Int).toNat (dflt (Ty.nm Nm.Phase))).1 <(1:Int)) then true else bif decide ((r.14.getD (↑i:Int).toNat (dflt (Ty.nm Nm.Phase))).2 <(r.14.getD (↑i:Int).toNat (dflt (Ty.nm Nm.Phase))).1) then true else bif decide ((r.14.getD (↑i:Int).toNat (dflt (Ty.nm Nm.Phase))).2>r.4) then true else !az (r.14.getD (↑i:Int).toNat (dflt (Ty.nm Nm.Phase))).3 (0:Int) (11:Int))=true→(cq r (0:Nat) r.14.length !=(0:Int))=true∧((2:Int)=cq r (0:Nat) r.14.length∧True)∧True)∧((bif decide ((r.14.getD (↑i:Int).toNat (dflt (Ty.nm Nm.Phase))).1 <(1:Int)) then true else bif decide ((r.14.getD (↑i:Int).toNat (dflt (Ty.nm Nm.Phase))).2 <(r.14.getD (↑i:Int).toNat (dflt (Ty.nm Nm.Phase))).1) then true else bif decide ((r.14.getD (↑i:Int).toNat (dflt (Ty.nm Nm.Phase))).2>r.4) then true else !az (r.14.getD (↑i:Int).toNat (dflt (Ty.nm Nm.Phase))).3 (0:Int) (11:Int))=false→((decide ((↑i:Int) >(0:Int))=true→((0:Int)≤IntKind.i64.wrap ((↑i:Int) - (1:Int))∧IntKind.i64.wrap ((↑i:Int) - (1:Int)) <(↑r.14.length:Int))∧True)∧(decide ((↑i:Int) >(0:Int))=false→True))∧(true=true→((bif decide ((↑i:Int) >(0:Int)) then decide ((r.14.getD (↑i:Int).toNat (dflt (Ty.nm Nm.Phase))).1≤(r.14.getD (IntKind.i64.wrap ((↑i:Int) - (1:Int))).toNat (dflt (Ty.nm Nm.Phase))).2) else false)=true→(cq r (0:Nat) r.14.length !=(0:Int))=true∧((8:Int)=cq r (0:Nat) r.14.length∧True)∧True)∧((bif decide ((↑i:Int) >(0:Int)) then decide ((r.14.getD (↑i:Int).toNat (dflt (Ty.nm Nm.Phase))).1≤(r.14.getD (IntKind.i64.wrap ((↑i:Int) - (1:Int))).toNat (dflt (Ty.nm Nm.Phase))).2) else false)=false→rW r (i +(1:Nat))∧r.14.length - (i +(1:Nat))<r.14.length - i∧(True∧RowD.mk (Ty.nm Nm.Phase) r.14=RowD.mk (Ty.nm Nm.Phase) r.14∧(↑r.14.length:Int) =(↑r.14.length:Int)∧IntKind.i64.wrap ((↑i:Int) +(1:Int)) =(↑(i +(1:Nat)):Int)∧True)∧(r.1=r.1∧r.2=r.2∧r.3=r.3∧r.4=r.4∧r.5=r.5∧r.6=r.6∧r.7=r.7∧r.8=r.8∧r.9=r.9∧r.10=r.10∧r.11=r.11∧r.12=r.12∧r.13=r.13∧RowD.mk (Ty.nm Nm.Phase) r.14=RowD.mk (Ty.nm Nm.Phase) r.14∧True)∧True))))∧(decide ((↑i:Int) <(↑r.14.length:Int))=false→(cq r (0:Nat) r.14.length !=(0:Int))=false∧True∧True))
 have e :(i:Int).toNat=i:=by simp
 rw [e]
 have hb:r.Power.length≤140737488355328:=hx
 have hp:r.Power.getD i (dflt (Ty.nm Nm.Phase))=bM r i:=rfl
 rw [hp]
 have hpb :(bif decide ((bM r i).From<1) then true else bif decide ((bM r i).To <(bM r i).From) then true else bif decide ((bM r i).To>r.Overs) then true else !az (bM r i).Outside 0 11)=mW r (bM r i):=by
  simp only [mW,Bool.cond_true_left,gt_iff_lt]
 rw [hpb]
 obtain ⟨hi1,hi2⟩:=hi
 refine ⟨fun h1=>?_,fun h1=>?_⟩
 ·have h1:i<r.Power.length:=by simpa using h1
  have hn:r.Power.length - i =(r.Power.length - (i+1))+1:=by omega
  rw [hn,vV] at hi2
  have hw1:0<i→IntKind.i64.wrap ((i:Int) - 1) =((i - 1:Nat):Int):=fun h=>by rw [de (by omega) (by omega)];omega
  refine ⟨⟨by omega,by omega⟩,fun h2=>?_,fun h2=>⟨⟨fun h3=>?_,fun _=>trivial⟩,fun _=>⟨fun h3=>?_,fun h3=>?_⟩⟩⟩
  ·have hE:ir r i=2:=by simp only [ir,h2];rfl
   rw [hE] at hi2
   have hi2:cq r 0 r.Power.length=2:=hi2
   rw [hi2]
   exact ⟨rfl,⟨rfl,trivial⟩,trivial⟩
  ·have h3:0<i:=by simpa using h3
   rw [hw1 h3]
   exact ⟨⟨by omega,by omega⟩,trivial⟩
  ·have h4:0<i:=by
    by_cases h4:0<i
    ·exact h4
    ·have:i=0:=by omega
     subst this
     simp at h3
   rw [hw1 h4,Int.toNat_natCast] at h3
   have hq:r.Power.getD (i - 1) (dflt (Ty.nm Nm.Phase))=bM r (i - 1):=rfl
   rw [hq] at h3
   have h5 :(decide ((i:Int)>0)&&decide ((bM r i).From≤(bM r (i - 1)).To))=true:=by rw [←h3];cases decide ((i:Int)>0) <;> rfl
   have hE:ir r i=8:=by simp only [ir,h2,h5];rfl
   rw [hE] at hi2
   have hi2:cq r 0 r.Power.length=8:=hi2
   rw [hi2]
   exact ⟨rfl,⟨rfl,trivial⟩,trivial⟩
  ·have h5 :(decide ((i:Int)>0)&&decide ((bM r i).From≤(bM r (i - 1)).To))=false:=by
    by_cases h4:0<i
    ·rw [hw1 h4,Int.toNat_natCast] at h3
     have hq:r.Power.getD (i - 1) (dflt (Ty.nm Nm.Phase))=bM r (i - 1):=rfl
     rw [hq] at h3
     rw [←h3];cases decide ((i:Int)>0) <;> rfl
    ·have:i=0:=by omega
     subst this;rfl
   have hE:ir r i=0:=by simp only [ir,h2,h5];rfl
   rw [hE] at hi2
   have hi2:cq r 0 r.Power.length=cq r (i+1) (r.Power.length - (i+1)):=hi2
   exact ⟨⟨by omega,hi2⟩,by omega,⟨trivial,rfl,rfl,by rw [de (by omega) (by omega)];omega,trivial⟩,by simp⟩
 ·have h1:r.Power.length≤i:=by simpa using h1
  have h2:r.Power.length - i=0:=by omega
  rw [h2] at hi2
  have hi2:cq r 0 r.Power.length=0:=hi2
  rw [hi2]
  exact ⟨rfl,trivial,trivial⟩
theorem OX (r:Rules) (hx:r.Power.length≤aS):LoopOK Tryz.prog Tryz.f28.ntmps (aA Tryz.f28 0) (b8 ⟨[],[],8⟩ (J86 r 0) (T94 r)):=
 fq (bp (.cons QS (.cons QT .nil)) _) mixed (J86 r) (fun _=>rfl) (rW r) (fun i=>r.Power.length - i) (fun _ _=>none) (fun _ _ _ _ _ h=>by cases h) (T94 r) [] [] 0 (⟨Nat.zero_le _,rfl⟩) L94 (fun i hi=>PX r hx i hi)
theorem RK (r:Rules) (hx:r.Power.length≤aS) :(evFn (cf8 [k95,k96] Tryz.f28) (Λ86 r) Tryz.f28 (bh pz (r,()))).sat fun v' rows=>leV v' (nj (r,())).v∧rows =(nj (r,())).rows:=by
 refine cast (by kernel_rfl) (?_ :((!gX r.1)=true→(5:Int)=ar r∧([]:List RowD)=[])∧((!gX r.1)=false→((bif !az r.2 (2:Int) (11:Int) then true else bif !az r.3 (1:Int) (2:Int) then true else bif !az r.4 (0:Int) (90:Int) then true else bif !az r.5 (4:Int) (8:Int) then true else bif !az r.6 (0:Int) (90:Int) then true else bif !az r.7 (1:Int) (5:Int) then true else bif !az r.8 (1:Int) (5:Int) then true else bif !az r.10 (0:Int) (200:Int) then true else bif !az r.11 (0:Int) (1000:Int) then true else bif !az r.12 (0:Int) (9:Int) then true else !az r.13 (0:Int) (11:Int))=true→(2:Int)=ar r∧([]:List RowD)=[])∧((bif !az r.2 (2:Int) (11:Int) then true else bif !az r.3 (1:Int) (2:Int) then true else bif !az r.4 (0:Int) (90:Int) then true else bif !az r.5 (4:Int) (8:Int) then true else bif !az r.6 (0:Int) (90:Int) then true else bif !az r.7 (1:Int) (5:Int) then true else bif !az r.8 (1:Int) (5:Int) then true else bif !az r.10 (0:Int) (200:Int) then true else bif !az r.11 (0:Int) (1000:Int) then true else bif !az r.12 (0:Int) (9:Int) then true else !az r.13 (0:Int) (11:Int))=false→((bif r.11 !=(0:Int) then bif r.3 ==(1:Int) then true else bif r.4 ==(0:Int) then bif r.6 !=(0:Int) then true else decide ((↑r.14.length:Int) >(0:Int)) else false else bif r.4 ==(0:Int) then bif r.6 !=(0:Int) then true else decide ((↑r.14.length:Int) >(0:Int)) else false)=true→(1:Int)=ar r∧([]:List RowD)=[])∧((bif r.11 !=(0:Int) then bif r.3 ==(1:Int) then true else bif r.4 ==(0:Int) then bif r.6 !=(0:Int) then true else decide ((↑r.14.length:Int) >(0:Int)) else false else bif r.4 ==(0:Int) then bif r.6 !=(0:Int) then true else decide ((↑r.14.length:Int) >(0:Int)) else false)=false→((bif r.6 !=(0:Int) then decide (IntKind.i64.wrap (r.6*r.2)<r.4) else false)=true→(13:Int)=ar r∧([]:List RowD)=[])∧((bif r.6 !=(0:Int) then decide (IntKind.i64.wrap (r.6*r.2)<r.4) else false)=false→(decide ((↑r.14.length:Int) >(8:Int))=true→(9:Int)=ar r∧([]:List RowD)=[])∧(decide ((↑r.14.length:Int) >(8:Int))=false→((cR fun x=>none)∧(True∧RowD.mk (Ty.nm Nm.Phase) r.14=RowD.mk (Ty.nm Nm.Phase) r.14∧(↑r.14.length:Int) =(↑r.14.length:Int)∧(0:Int) =(↑(0:Nat):Int)∧True)∧(r.1=r.1∧r.2=r.2∧r.3=r.3∧r.4=r.4∧r.5=r.5∧r.6=r.6∧r.7=r.7∧r.8=r.8∧r.9=r.9∧r.10=r.10∧r.11=r.11∧r.12=r.12∧r.13=r.13∧RowD.mk (Ty.nm Nm.Phase) r.14=RowD.mk (Ty.nm Nm.Phase) r.14∧True)∧True)∧((cq r (0:Nat) r.14.length !=(0:Int))=true→cq r (0:Nat) r.14.length=ar r∧([]:List RowD)=[])∧((cq r (0:Nat) r.14.length !=(0:Int))=false→(0:Int)=ar r∧([]:List RowD)=[])))))))
 have hR :(bif !az r.Side 2 11 then true else bif !az r.Innings 1 2 then true else bif !az r.Overs 0 90 then true else bif !az r.Balls 4 8 then true else bif !az r.Quota 0 90 then true else bif !az r.Wide 1 5 then true else bif !az r.NoBall 1 5 then true else bif !az r.NewBall 0 200 then true else bif !az r.FollowOn 0 1000 then true else bif !az r.Reviews 0 9 then true else !az r.Outside 0 11)=!cp r:=by
  simp only [cp,Bool.cond_true_left,Bool.not_and]
 rw [hR,Hj,tN]
 have hP1 :(r.Power.length:Int)>8→dZ r=9:=fun h=>by simp only [dZ];rw [if_pos h]
 have hP2 :¬(r.Power.length:Int)>8→dZ r=cq r 0 r.Power.length:=fun h=>by simp only [dZ];rw [if_neg h]
 refine ⟨fun h1=>⟨?_,rfl⟩,fun h1=>⟨fun h2=>⟨?_,rfl⟩,fun h2=>⟨fun h3=>⟨?_,rfl⟩,fun h3=>⟨fun h4=>⟨?_,rfl⟩,fun h4=>⟨fun h5=>⟨?_,rfl⟩,fun h5=>⟨⟨rfl,⟨trivial,rfl,rfl,rfl,trivial⟩,by simp⟩,fun h6=>⟨?_,rfl⟩,fun h6=>⟨?_,rfl⟩⟩⟩⟩⟩⟩⟩
 ·simp only [ar,h1,if_true]
 ·simp only [ar,h1,h2,if_true];rfl
 ·simp only [ar,h1,h2,h3,if_true];rfl
 ·simp only [ar,h1,h2,h3,h4,if_true];rfl
 ·simp only [ar,h1,h2,h3,h4];rw [hP1 (of_decide_eq_true h5)];rfl
 ·simp only [ar,h1,h2,h3,h4];rw [hP2 (of_decide_eq_false h5)];rfl
 ·simp only [ar,h1,h2,h3,h4];rw [hP2 (of_decide_eq_false h5)]
  have h6:cq r 0 r.Power.length=0:=by simpa using h6
  rw [h6];rfl
theorem u9:CtrOK Tryz.prog K8 28 (ap K8 pz nj):=by
 refine aJ (C:=cf8 [k95,k96] Tryz.f28) (bp (.cons QS (.cons QT .nil)) _) mixed (fn:=Tryz.f28) Tryz.func28 (by kernel_rfl) (by kernel_rfl) (by kernel_rfl) (Λ:=fun x=>Λ86 x.1) ?_ ?_ ?_
 ·rintro ⟨r,⟨⟩⟩ hw hn
  exact LoopsOK.at (by kernel_rfl) (.cons (by kernel_rfl) (OX r (ic (aY hw))) .nil)
 ·rintro ⟨r,⟨⟩⟩
  exact of_decide_eq_true (by kernel_rfl)
 ·rintro ⟨r,⟨⟩⟩ hw hn
  exact RK r (ic (aY hw))
theorem RJ (r:Rules) :(evFn (cf8 [k92,k93,k94] Tryz.f40) (fun _=>none) Tryz.f40 (bh pz (r,()))).sat fun v' rows=>leV v' (nj (r,())).v∧rows =(nj (r,())).rows:=by
 refine cast (by kernel_rfl) (?_ :((!gX r.1)=true→(5:Int)=ar r∧([]:List RowD)=[])∧((!gX r.1)=false→((!cp r)=true→(2:Int)=ar r∧([]:List RowD)=[])∧((!cp r)=false→((bif bif r.11 !=(0:Int) then r.3 ==(1:Int) else false then bif r.11 !=(0:Int) then r.3 ==(1:Int) else false else bif r.6 !=(0:Int) then r.4 ==(0:Int) else bif decide ((↑r.14.length:Int) >(0:Int)) then r.4 ==(0:Int) else false)=true→(1:Int)=ar r∧([]:List RowD)=[])∧((bif bif r.11 !=(0:Int) then r.3 ==(1:Int) else false then bif r.11 !=(0:Int) then r.3 ==(1:Int) else false else bif r.6 !=(0:Int) then r.4 ==(0:Int) else bif decide ((↑r.14.length:Int) >(0:Int)) then r.4 ==(0:Int) else false)=false→((bif r.6 !=(0:Int) then decide (IntKind.i64.wrap (r.6*r.2)<r.4) else false)=true→(13:Int)=ar r∧([]:List RowD)=[])∧((bif r.6 !=(0:Int) then decide (IntKind.i64.wrap (r.6*r.2)<r.4) else false)=false→dZ r=ar r∧([]:List RowD)=[])))))
 rw [I8,tN]
 simp only [ar]
 repeat' first|refine And.intro ?_ ?_|intro _
 all_goals first|rfl |(simp_all;done)|grind
theorem zK:CtrOK Tryz.prog K8 40 (ap K8 pz nj):=by
 refine aJ (C:=cf8 [k92,k93,k94] Tryz.f40) (bp (.cons SD (.cons SF (.cons SG .nil))) _) mixed (fn:=Tryz.f40) Tryz.func40 (by kernel_rfl) (by kernel_rfl) (by kernel_rfl) (Λ:=fun _ _=>none) ?_ ?_ ?_
 ·exact fun _ _ _ _ _ _ _ _ h=>by cases h
 ·rintro ⟨r,⟨⟩⟩
  exact of_decide_eq_true (by kernel_rfl)
 ·rintro ⟨r,⟨⟩⟩ hw hn
  exact RJ r
theorem nC {x:Innings} {p:Int} (hp:gl p) (h:bC x p=true):IntKind.i64.wrap (p - 1)=p - 1∧0≤p - 1∧p - 1 <(x.Bowled.length:Int):=by
 simp only [bC,Bool.and_eq_true,decide_eq_true_eq] at h
 have:=hp.2
 exact ⟨de (by omega) (by omega),by omega,by omega⟩
theorem RF (r:Rules) (x:Innings) (p:Int) (hp:gl p) :(evFn (cf8 [k84,k85] Tryz.f181) (fun _=>none) Tryz.f181 (bh l7 (r,x,p,()))).sat fun v' rows=>leV v' (AW (r,x,p,())).v∧rows =(AW (r,x,p,())).rows:=by
 refine cast (by kernel_rfl) (?_ :((bif !bC x p then true else ar r !=(0:Int))=true→(0:Int)=c8 r x p∧([]:List RowD)=[])∧((bif !bC x p then true else ar r !=(0:Int))=false→((r.6 ==(0:Int))=true→(-1:Int)=c8 r x p∧([]:List RowD)=[])∧((r.6 ==(0:Int))=false→((0:Int)≤IntKind.i64.wrap (p - (1:Int))∧IntKind.i64.wrap (p - (1:Int)) <(↑x.16.length:Int))∧(if (0:Int)>IntKind.i64.wrap (IntKind.i64.wrap (r.6*r.5) - if (0:Int)>x.16.getD (IntKind.i64.wrap (p - (1:Int))).toNat (dflt (Ty.int IntKind.i64)) then (0:Int) else x.16.getD (IntKind.i64.wrap (p - (1:Int))).toNat (dflt (Ty.int IntKind.i64))) then (0:Int) else IntKind.i64.wrap (IntKind.i64.wrap (r.6*r.5) - if (0:Int)>x.16.getD (IntKind.i64.wrap (p - (1:Int))).toNat (dflt (Ty.int IntKind.i64)) then (0:Int) else x.16.getD (IntKind.i64.wrap (p - (1:Int))).toNat (dflt (Ty.int IntKind.i64))))=c8 r x p∧([]:List RowD)=[])))
 have h0 :(bif !bC x p then true else ar r != 0) =(!bC x p||ar r != 0):=by cases bC x p <;> rfl
 rw [h0]
 refine ⟨fun h=>⟨?_,rfl⟩,fun h=>⟨fun h2=>⟨?_,rfl⟩,fun h2=>⟨?_,?_,rfl⟩⟩⟩
 ·simp only [c8,h,if_true]
 ·simp only [c8,h,h2,if_true];rfl
 ·have hk:bC x p=true:=by
   cases hk:bC x p with
   | true=>rfl
   | false=>rw [hk] at h;cases h
  obtain ⟨e,h3,h4⟩:=nC hp hk
  rw [e];exact ⟨h3,h4⟩
 ·have hk:bC x p=true:=by
   cases hk:bC x p with
   | true=>rfl
   | false=>rw [hk] at h;cases h
  obtain ⟨e,h3,h4⟩:=nC hp hk
  rw [e]
  simp only [c8,h,h2]
  rfl
theorem SA:CtrOK Tryz.prog K8 181 (ap K8 l7 AW):=by
 refine aJ (C:=cf8 [k84,k85] Tryz.f181) (bp (.cons Ps (.cons zK .nil)) _) mixed (fn:=Tryz.f181) Tryz.func181 (by kernel_rfl) (by kernel_rfl) (by kernel_rfl) (Λ:=fun _ _=>none) ?_ ?_ ?_
 ·exact fun _ _ _ _ _ _ _ _ h=>by cases h
 ·rintro ⟨r,x,p,⟨⟩⟩
  exact of_decide_eq_true (by kernel_rfl)
 ·rintro ⟨r,x,p,⟨⟩⟩ hw hn
  exact RF r x p (dd (aY (aP (aP hw))))
end Go.Proofs.YtkgplaoappjkcaaGreat
namespace Go.Proofs.YtkgplaoappjkcaaGreat
open Go Go.Mir
attribute [local irreducible] Go.Mir.RT.sat Go.Mir.evFn Go.Mir.stepObl
theorem RG (r:Rules) (x:Innings) (p:Int) (hp:gl p) :(evFn (cf8 [k47,k81,k84,k85] Tryz.f161) (fun _=>none) Tryz.f161 (bh l7 (r,x,p,()))).sat fun v' rows=>leV v' (AX (r,x,p,())).v∧rows =(AX (r,x,p,())).rows:=by
 refine cast (by kernel_rfl) (?_ :((bif !bC x p then true else ar r !=(0:Int))=true→(3:Int)=cz r x p∧([]:List RowD)=[])∧((bif !bC x p then true else ar r !=(0:Int))=false→((decide (p≤(↑x.21.length:Int))=true→((0:Int)≤IntKind.i64.wrap (p - (1:Int))∧IntKind.i64.wrap (p - (1:Int)) <(↑x.21.length:Int))∧True)∧(decide (p≤(↑x.21.length:Int))=false→True))∧(true=true→((bif p==x.19 then true else bif p==x.12 then true else bif decide (p≤(↑x.21.length:Int)) then x.21.getD (IntKind.i64.wrap (p - (1:Int))).toNat (dflt Ty.bool) else false)=true→(7:Int)=cz r x p∧([]:List RowD)=[])∧((bif p==x.19 then true else bif p==x.12 then true else bif decide (p≤(↑x.21.length:Int)) then x.21.getD (IntKind.i64.wrap (p - (1:Int))).toNat (dflt Ty.bool) else false)=false→(cE x.14 p=true→(8:Int)=cz r x p∧([]:List RowD)=[])∧(cE x.14 p=false→((bif c8 r x p !=(-1:Int) then decide (x.8<IntKind.i64.wrap (r.5 - c8 r x p)) else false)=true→(9:Int)=cz r x p∧([]:List RowD)=[])∧((bif c8 r x p !=(-1:Int) then decide (x.8<IntKind.i64.wrap (r.5 - c8 r x p)) else false)=false→(0:Int)=cz r x p∧([]:List RowD)=[]))))))
 have h0 :(bif !bC x p then true else ar r != 0) =(!bC x p||ar r != 0):=by cases bC x p <;> rfl
 rw [h0]
 refine ⟨fun h=>⟨?_,rfl⟩,fun h=>?_⟩
 ·simp only [cz,h,if_true]
 ·have hk:bC x p=true:=by
   cases hk:bC x p with
   | true=>rfl
   | false=>rw [hk] at h;cases h
  have hp1:p≥1:=by
   simp only [bC,Bool.and_eq_true,decide_eq_true_eq] at hk
   exact hk.1
  have hw:IntKind.i64.wrap (p - 1)=p - 1:=by have:=hp.2;exact de (by omega) (by omega)
  rw [hw]
  have hrep :(bif decide (p≤(x.Subs.length:Int)) then x.Subs.getD (p - 1).toNat (dflt Ty.bool) else false)=aF x p:=by
   simp only [aF,aX,decide_eq_true hp1,Bool.true_and]
   cases decide (p≤(x.Subs.length:Int)) <;> rfl
  rw [hrep]
  have hq :(bif p==x.Keeper then true else bif p==x.Bowler then true else aF x p) =(p==x.Keeper ||(p==x.Bowler||aF x p)):=by simp only [Bool.cond_true_left]
  rw [hq,Bool.cond_false_right]
  refine ⟨⟨fun h1=>⟨?_,trivial⟩,fun _=>trivial⟩,fun _=>⟨fun h1=>⟨?_,rfl⟩,fun h1=>⟨fun h2=>⟨?_,rfl⟩,fun h2=>⟨fun h3=>⟨?_,rfl⟩,fun h3=>⟨?_,rfl⟩⟩⟩⟩⟩
  ·have h1:p≤(x.Subs.length:Int):=of_decide_eq_true h1
   exact ⟨by omega,by omega⟩
  ·simp only [cz,h,h1];rfl
  ·simp only [cz,h,h1,h2];rfl
  ·simp only [cz,h,h1,h2,h3];rfl
  ·simp only [cz,h,h1,h2,h3];rfl
theorem SB:CtrOK Tryz.prog K8 161 (ap K8 l7 AX):=by
 refine aJ (C:=cf8 [k47,k81,k84,k85] Tryz.f161) (bp (.cons Mi (.cons SA (.cons Ps (.cons zK .nil)))) _) mixed (fn:=Tryz.f161) Tryz.func161 (by kernel_rfl) (by kernel_rfl) (by kernel_rfl) (Λ:=fun _ _=>none) ?_ ?_ ?_
 ·exact fun _ _ _ _ _ _ _ _ h=>by cases h
 ·rintro ⟨r,x,p,⟨⟩⟩
  exact of_decide_eq_true (by kernel_rfl)
 ·rintro ⟨r,x,p,⟨⟩⟩ hw hn
  exact RG r x p (dd (aY (aP (aP hw))))
theorem Rf (r:Rules) (x:Innings) (p:Int) (hs:aj x) :(evFn (cf8 [k82,k83] Tryz.f132) (fun _=>none) Tryz.f132 (bh l7 (r,x,p,()))).sat fun v' rows=>leV v' (AM (r,x,p,())).v∧rows =(AM (r,x,p,())).rows:=by
 refine cast (by kernel_rfl) (?_:aj x∧(((bif cz r x p ==(0:Int) then x.1 else x.1) =(ca r x p).1∧(bif cz r x p ==(0:Int) then x.2 else x.2) =(ca r x p).2∧(bif cz r x p ==(0:Int) then x.3 else x.3) =(ca r x p).3∧(bif cz r x p ==(0:Int) then x.4 else x.4) =(ca r x p).4∧(bif cz r x p ==(0:Int) then x.5 else x.5) =(ca r x p).5∧(bif cz r x p ==(0:Int) then x.6.1 else x.6.1) =(ca r x p).6.1∧(bif cz r x p ==(0:Int) then x.6.2 else x.6.2) =(ca r x p).6.2∧(bif cz r x p ==(0:Int) then x.6.3 else x.6.3) =(ca r x p).6.3∧(bif cz r x p ==(0:Int) then x.6.4 else x.6.4) =(ca r x p).6.4∧(bif cz r x p ==(0:Int) then x.6.5 else x.6.5) =(ca r x p).6.5∧(bif cz r x p ==(0:Int) then x.7 else x.7) =(ca r x p).7∧(bif cz r x p ==(0:Int) then x.8 else x.8) =(ca r x p).8∧(bif cz r x p ==(0:Int) then x.9 else x.9) =(ca r x p).9∧(bif cz r x p ==(0:Int) then x.10 else x.10) =(ca r x p).10∧(nat_lit 0=nat_lit 0∧nat_lit 0=nat_lit 0)∧(bif cz r x p ==(0:Int) then p else x.12) =(ca r x p).12∧(nat_lit 1=nat_lit 1∧nat_lit 1=nat_lit 1)∧(nat_lit 2=nat_lit 2∧nat_lit 2=nat_lit 2)∧(bif cz r x p ==(0:Int) then x.15 else x.15) =(ca r x p).15∧(nat_lit 3=nat_lit 3∧nat_lit 3=nat_lit 3)∧(bif cz r x p ==(0:Int) then x.17 else x.17) =(ca r x p).17∧(bif cz r x p ==(0:Int) then x.18 else x.18) =(ca r x p).18∧(bif cz r x p ==(0:Int) then x.19 else x.19) =(ca r x p).19∧(bif cz r x p ==(0:Int) then x.20 else x.20) =(ca r x p).20∧(nat_lit 4=nat_lit 4∧nat_lit 4=nat_lit 4)∧(bif cz r x p ==(0:Int) then x.22.1 else x.22.1) =(ca r x p).22.1∧(bif cz r x p ==(0:Int) then x.22.2.1 else x.22.2.1) =(ca r x p).22.2.1∧(bif cz r x p ==(0:Int) then x.23 else x.23) =(ca r x p).23∧True)∧cz r x p=cz r x p∧True)∧ [RowD.mk (Ty.int IntKind.u8) x.11,RowD.mk (Ty.int IntKind.i64) x.13,RowD.mk (Ty.int IntKind.i64) x.14,RowD.mk (Ty.int IntKind.i64) x.16,RowD.mk Ty.bool x.21]=[RowD.mk (Ty.int IntKind.u8) (ca r x p).11,RowD.mk (Ty.int IntKind.i64) (ca r x p).13,RowD.mk (Ty.int IntKind.i64) (ca r x p).14,RowD.mk (Ty.int IntKind.i64) (ca r x p).16,RowD.mk Ty.bool (ca r x p).21])
 refine ⟨hs,?_⟩
 cases hm :(cz r x p==0) with
 | false=>
  have e:ca r x p=x:=by simp only [ca,hm];rfl
  rw [e];simp
 | true=>
  have e:ca r x p={ x with Bowler:=p }:=by simp only [ca,hm];rfl
  rw [e];simp
theorem Sh:CtrOK Tryz.prog K8 132 (ap K8 l7 AM):=by
 refine aJ (C:=cf8 [k82,k83] Tryz.f132) (bp (.cons SB (.cons Pr .nil)) _) mixed (fn:=Tryz.f132) Tryz.func132 (by kernel_rfl) (by kernel_rfl) (by kernel_rfl) (Λ:=fun _ _=>none) ?_ ?_ ?_
 ·exact fun _ _ _ _ _ _ _ _ h=>by cases h
 ·rintro ⟨r,x,p,⟨⟩⟩
  exact of_decide_eq_true (by kernel_rfl)
 ·rintro ⟨r,x,p,⟨⟩⟩ hw hn
  exact Rf r x p (hn _ (List.mem_singleton.2 rfl))
theorem Ri (r:Rules) (x:Innings) (hs:aj x) :(evFn (cf8 [k83,k85] Tryz.f140) (fun _=>none) Tryz.f140 (bh qn (r,x,()))).sat fun v' rows=>leV v' (na (r,x,())).v∧rows =(na (r,x,())).rows:=by
 refine cast (by kernel_rfl) (?_:aj x∧((bif ar r !=(0:Int) then true else bif r.10 ==(0:Int) then true else decide (x.18<IntKind.i64.wrap (r.10*r.5)))=true→((x.1 =(aU r x).1∧x.2 =(aU r x).2∧x.3 =(aU r x).3∧x.4 =(aU r x).4∧x.5 =(aU r x).5∧x.6.1 =(aU r x).6.1∧x.6.2 =(aU r x).6.2∧x.6.3 =(aU r x).6.3∧x.6.4 =(aU r x).6.4∧x.6.5 =(aU r x).6.5∧x.7 =(aU r x).7∧x.8 =(aU r x).8∧x.9 =(aU r x).9∧x.10 =(aU r x).10∧(nat_lit 0=nat_lit 0∧nat_lit 0=nat_lit 0)∧x.12 =(aU r x).12∧(nat_lit 1=nat_lit 1∧nat_lit 1=nat_lit 1)∧(nat_lit 2=nat_lit 2∧nat_lit 2=nat_lit 2)∧x.15 =(aU r x).15∧(nat_lit 3=nat_lit 3∧nat_lit 3=nat_lit 3)∧x.17 =(aU r x).17∧x.18 =(aU r x).18∧x.19 =(aU r x).19∧x.20 =(aU r x).20∧(nat_lit 4=nat_lit 4∧nat_lit 4=nat_lit 4)∧x.22.1 =(aU r x).22.1∧x.22.2.1 =(aU r x).22.2.1∧x.23 =(aU r x).23∧True)∧(22:Int)=oq r x∧True)∧ [RowD.mk (Ty.int IntKind.u8) x.11,RowD.mk (Ty.int IntKind.i64) x.13,RowD.mk (Ty.int IntKind.i64) x.14,RowD.mk (Ty.int IntKind.i64) x.16,RowD.mk Ty.bool x.21]=[RowD.mk (Ty.int IntKind.u8) (aU r x).11,RowD.mk (Ty.int IntKind.i64) (aU r x).13,RowD.mk (Ty.int IntKind.i64) (aU r x).14,RowD.mk (Ty.int IntKind.i64) (aU r x).16,RowD.mk Ty.bool (aU r x).21])∧((bif ar r !=(0:Int) then true else bif r.10 ==(0:Int) then true else decide (x.18<IntKind.i64.wrap (r.10*r.5)))=false→((x.1 =(aU r x).1∧x.2 =(aU r x).2∧x.3 =(aU r x).3∧x.4 =(aU r x).4∧x.5 =(aU r x).5∧x.6.1 =(aU r x).6.1∧x.6.2 =(aU r x).6.2∧x.6.3 =(aU r x).6.3∧x.6.4 =(aU r x).6.4∧x.6.5 =(aU r x).6.5∧x.7 =(aU r x).7∧x.8 =(aU r x).8∧x.9 =(aU r x).9∧x.10 =(aU r x).10∧(nat_lit 0=nat_lit 0∧nat_lit 0=nat_lit 0)∧x.12 =(aU r x).12∧(nat_lit 1=nat_lit 1∧nat_lit 1=nat_lit 1)∧(nat_lit 2=nat_lit 2∧nat_lit 2=nat_lit 2)∧x.15 =(aU r x).15∧(nat_lit 3=nat_lit 3∧nat_lit 3=nat_lit 3)∧x.17 =(aU r x).17∧(0:Int) =(aU r x).18∧x.19 =(aU r x).19∧x.20 =(aU r x).20∧(nat_lit 4=nat_lit 4∧nat_lit 4=nat_lit 4)∧x.22.1 =(aU r x).22.1∧x.22.2.1 =(aU r x).22.2.1∧x.23 =(aU r x).23∧True)∧(0:Int)=oq r x∧True)∧ [RowD.mk (Ty.int IntKind.u8) x.11,RowD.mk (Ty.int IntKind.i64) x.13,RowD.mk (Ty.int IntKind.i64) x.14,RowD.mk (Ty.int IntKind.i64) x.16,RowD.mk Ty.bool x.21]=[RowD.mk (Ty.int IntKind.u8) (aU r x).11,RowD.mk (Ty.int IntKind.i64) (aU r x).13,RowD.mk (Ty.int IntKind.i64) (aU r x).14,RowD.mk (Ty.int IntKind.i64) (aU r x).16,RowD.mk Ty.bool (aU r x).21]))
 have hc :(bif ar r != 0 then true else bif r.NewBall==0 then true else decide (x.BallAge<IntKind.i64.wrap (r.NewBall*r.Balls)))=x3 r x:=by simp only [x3,Bool.cond_true_left]
 rw [hc]
 refine ⟨hs,fun h=>?_,fun h=>?_⟩
 ·have e:aU r x=x:=by simp only [aU,h];rfl
  have l:oq r x=22:=by simp only [oq,h];rfl
  rw [e,l];simp
 ·have e:aU r x={ x with BallAge:=0 }:=by simp only [aU,h];rfl
  have l:oq r x=0:=by simp only [oq,h];rfl
  rw [e,l];simp
theorem Sk:CtrOK Tryz.prog K8 140 (ap K8 qn na):=by
 refine aJ (C:=cf8 [k83,k85] Tryz.f140) (bp (.cons Pr (.cons zK .nil)) _) mixed (fn:=Tryz.f140) Tryz.func140 (by kernel_rfl) (by kernel_rfl) (by kernel_rfl) (Λ:=fun _ _=>none) ?_ ?_ ?_
 ·exact fun _ _ _ _ _ _ _ _ h=>by cases h
 ·rintro ⟨r,x,⟨⟩⟩
  exact of_decide_eq_true (by kernel_rfl)
 ·rintro ⟨r,x,⟨⟩⟩ hw hn
  exact Ri r x (hn _ (List.mem_singleton.2 rfl))
theorem Rj (r:Rules) (x:Innings) (hs:aj x) :(evFn (cf8 [k44,k86] Tryz.f194) (fun _=>none) Tryz.f194 (bh qn (r,x,()))).sat fun v' rows=>leV v' (na (r,x,())).v∧rows =(na (r,x,())).rows:=by
 refine cast (by kernel_rfl) (?_:aj x∧((bif ar r !=(0:Int) then true else bif r.10 ==(0:Int) then true else decide (x.18<IntKind.i64.wrap (r.10*r.5)))=true→((x.1 =(aU r x).1∧x.2 =(aU r x).2∧x.3 =(aU r x).3∧x.4 =(aU r x).4∧x.5 =(aU r x).5∧x.6.1 =(aU r x).6.1∧x.6.2 =(aU r x).6.2∧x.6.3 =(aU r x).6.3∧x.6.4 =(aU r x).6.4∧x.6.5 =(aU r x).6.5∧x.7 =(aU r x).7∧x.8 =(aU r x).8∧x.9 =(aU r x).9∧x.10 =(aU r x).10∧(nat_lit 0=nat_lit 0∧nat_lit 0=nat_lit 0)∧x.12 =(aU r x).12∧(nat_lit 1=nat_lit 1∧nat_lit 1=nat_lit 1)∧(nat_lit 2=nat_lit 2∧nat_lit 2=nat_lit 2)∧x.15 =(aU r x).15∧(nat_lit 3=nat_lit 3∧nat_lit 3=nat_lit 3)∧x.17 =(aU r x).17∧x.18 =(aU r x).18∧x.19 =(aU r x).19∧x.20 =(aU r x).20∧(nat_lit 4=nat_lit 4∧nat_lit 4=nat_lit 4)∧x.22.1 =(aU r x).22.1∧x.22.2.1 =(aU r x).22.2.1∧x.23 =(aU r x).23∧True)∧(22:Int)=oq r x∧True)∧ [RowD.mk (Ty.int IntKind.u8) x.11,RowD.mk (Ty.int IntKind.i64) x.13,RowD.mk (Ty.int IntKind.i64) x.14,RowD.mk (Ty.int IntKind.i64) x.16,RowD.mk Ty.bool x.21]=[RowD.mk (Ty.int IntKind.u8) (aU r x).11,RowD.mk (Ty.int IntKind.i64) (aU r x).13,RowD.mk (Ty.int IntKind.i64) (aU r x).14,RowD.mk (Ty.int IntKind.i64) (aU r x).16,RowD.mk Ty.bool (aU r x).21])∧((bif ar r !=(0:Int) then true else bif r.10 ==(0:Int) then true else decide (x.18<IntKind.i64.wrap (r.10*r.5)))=false→((x.1 =(aU r x).1∧x.2 =(aU r x).2∧x.3 =(aU r x).3∧x.4 =(aU r x).4∧x.5 =(aU r x).5∧x.6.1 =(aU r x).6.1∧x.6.2 =(aU r x).6.2∧x.6.3 =(aU r x).6.3∧x.6.4 =(aU r x).6.4∧x.6.5 =(aU r x).6.5∧x.7 =(aU r x).7∧x.8 =(aU r x).8∧x.9 =(aU r x).9∧x.10 =(aU r x).10∧(nat_lit 0=nat_lit 0∧nat_lit 0=nat_lit 0)∧x.12 =(aU r x).12∧(nat_lit 1=nat_lit 1∧nat_lit 1=nat_lit 1)∧(nat_lit 2=nat_lit 2∧nat_lit 2=nat_lit 2)∧x.15 =(aU r x).15∧(nat_lit 3=nat_lit 3∧nat_lit 3=nat_lit 3)∧x.17 =(aU r x).17∧(0:Int) =(aU r x).18∧x.19 =(aU r x).19∧x.20 =(aU r x).20∧(nat_lit 4=nat_lit 4∧nat_lit 4=nat_lit 4)∧x.22.1 =(aU r x).22.1∧x.22.2.1 =(aU r x).22.2.1∧x.23 =(aU r x).23∧True)∧(0:Int)=oq r x∧True)∧ [RowD.mk (Ty.int IntKind.u8) x.11,RowD.mk (Ty.int IntKind.i64) x.13,RowD.mk (Ty.int IntKind.i64) x.14,RowD.mk (Ty.int IntKind.i64) x.16,RowD.mk Ty.bool x.21]=[RowD.mk (Ty.int IntKind.u8) (aU r x).11,RowD.mk (Ty.int IntKind.i64) (aU r x).13,RowD.mk (Ty.int IntKind.i64) (aU r x).14,RowD.mk (Ty.int IntKind.i64) (aU r x).16,RowD.mk Ty.bool (aU r x).21]))
 have hc :(bif ar r != 0 then true else bif r.NewBall==0 then true else decide (x.BallAge<IntKind.i64.wrap (r.NewBall*r.Balls)))=x3 r x:=by simp only [x3,Bool.cond_true_left]
 rw [hc]
 refine ⟨hs,fun h=>?_,fun h=>?_⟩
 ·have e:aU r x=x:=by simp only [aU,h];rfl
  have l:oq r x=22:=by simp only [oq,h];rfl
  rw [e,l];simp
 ·have e:aU r x={ x with BallAge:=0 }:=by simp only [aU,h];rfl
  have l:oq r x=0:=by simp only [oq,h];rfl
  rw [e,l];simp
theorem Sl:CtrOK Tryz.prog K8 194 (ap K8 qn na):=by
 refine aJ (C:=cf8 [k44,k86] Tryz.f194) (bp (.cons rg (.cons u9 .nil)) _) mixed (fn:=Tryz.f194) Tryz.func194 (by kernel_rfl) (by kernel_rfl) (by kernel_rfl) (Λ:=fun _ _=>none) ?_ ?_ ?_
 ·exact fun _ _ _ _ _ _ _ _ h=>by cases h
 ·rintro ⟨r,x,⟨⟩⟩
  exact of_decide_eq_true (by kernel_rfl)
 ·rintro ⟨r,x,⟨⟩⟩ hw hn
  exact Rj r x (hn _ (List.mem_singleton.2 rfl))
theorem yO {x:Innings} (h:wfD (.nm .Innings) x):gl x.Bowler:=
 dd (aY (aP (aP (aP (aP (aP (aP (aP (aP (aP (aP (aP (Hh h)))))))))))))
theorem Bq (x:Innings) (c:Bool) :(ci x c).InOver =(bif c then IntKind.i64.wrap (x.InOver+1) else x.InOver):=by cases c <;> rfl
theorem s8 {r:Rules} {x:Innings} (c:Bool) (h:eM r x=true):ah r x c=x∧eC r x c=false:=by
 unfold ah eC
 rw [if_pos h,if_pos h]
 exact ⟨rfl,rfl⟩
theorem jC {r:Rules} {x:Innings} {c:Bool} (h:eM r x=false) (h2:decide ((bif c then IntKind.i64.wrap (x.InOver+1) else x.InOver)<r.Balls)=true):ah r x c=ci x c∧eC r x c=false:=by
 have h3 :(ci x c).InOver<r.Balls:=by rw [Bq];exact of_decide_eq_true h2
 unfold ah eC
 simp only [h,h3,if_true,Bool.false_eq_true,if_false,and_self]
theorem fF {r:Rules} {x:Innings} {c:Bool} (h:eM r x=false) (h2:decide ((bif c then IntKind.i64.wrap (x.InOver+1) else x.InOver)<r.Balls)=false):ah r x c=vo (ci x c)∧eC r x c=true:=by
 have h3 :¬(ci x c).InOver<r.Balls:=by rw [Bq];exact of_decide_eq_false h2
 unfold ah eC
 simp only [h,h3,Bool.false_eq_true,if_false,and_self]
theorem Rg (r:Rules) (x:Innings) (c:Bool) (hs:aj x) (hb:gl x.Bowler) :(evFn (cf8 [k47,k83,k84,k85] Tryz.f165) (fun _=>none) Tryz.f165 (bh vA (r,x,c,()))).sat fun v' rows=>leV v' (m9 (r,x,c,())).v∧rows =(m9 (r,x,c,())).rows:=by
 refine cast (by kernel_rfl) (?_:aj x∧((bif !bC x x.12 then true else ar r !=(0:Int))=true→((x.1 =(ah r x c).1∧x.2 =(ah r x c).2∧x.3 =(ah r x c).3∧x.4 =(ah r x c).4∧x.5 =(ah r x c).5∧x.6.1 =(ah r x c).6.1∧x.6.2 =(ah r x c).6.2∧x.6.3 =(ah r x c).6.3∧x.6.4 =(ah r x c).6.4∧x.6.5 =(ah r x c).6.5∧x.7 =(ah r x c).7∧x.8 =(ah r x c).8∧x.9 =(ah r x c).9∧x.10 =(ah r x c).10∧(nat_lit 0=nat_lit 0∧nat_lit 0=nat_lit 0)∧x.12 =(ah r x c).12∧(nat_lit 1=nat_lit 1∧nat_lit 1=nat_lit 1)∧(nat_lit 2=nat_lit 2∧nat_lit 2=nat_lit 2)∧x.15 =(ah r x c).15∧(nat_lit 3=nat_lit 3∧nat_lit 3=nat_lit 3)∧x.17 =(ah r x c).17∧x.18 =(ah r x c).18∧x.19 =(ah r x c).19∧x.20 =(ah r x c).20∧(nat_lit 4=nat_lit 4∧nat_lit 4=nat_lit 4)∧x.22.1 =(ah r x c).22.1∧x.22.2.1 =(ah r x c).22.2.1∧x.23 =(ah r x c).23∧True)∧false=eC r x c∧True)∧ [RowD.mk (Ty.int IntKind.u8) x.11,RowD.mk (Ty.int IntKind.i64) x.13,RowD.mk (Ty.int IntKind.i64) x.14,RowD.mk (Ty.int IntKind.i64) x.16,RowD.mk Ty.bool x.21]=[RowD.mk (Ty.int IntKind.u8) (ah r x c).11,RowD.mk (Ty.int IntKind.i64) (ah r x c).13,RowD.mk (Ty.int IntKind.i64) (ah r x c).14,RowD.mk (Ty.int IntKind.i64) (ah r x c).16,RowD.mk Ty.bool (ah r x c).21])∧((bif !bC x x.12 then true else ar r !=(0:Int))=false→((!cE x.13 x.12)=true→(x.13.length+[x.12].length) *(8:Nat)≤(70368744177664:Nat)∧((c=true→((0:Int)≤IntKind.i64.wrap (x.12 - (1:Int))∧IntKind.i64.wrap (x.12 - (1:Int)) <(↑x.16.length:Int))∧((0:Int)≤IntKind.i64.wrap (x.12 - (1:Int))∧IntKind.i64.wrap (x.12 - (1:Int)) <(↑x.16.length:Int))∧True)∧(c=false→True))∧(true=true→(decide ((bif c then IntKind.i64.wrap (x.8 +(1:Int)) else x.8)<r.5)=true→(((bif c then x.1 else x.1) =(ah r x c).1∧(bif c then x.2 else x.2) =(ah r x c).2∧(bif c then x.3 else x.3) =(ah r x c).3∧(bif c then x.4 else x.4) =(ah r x c).4∧(bif c then x.5 else x.5) =(ah r x c).5∧(bif c then x.6.1 else x.6.1) =(ah r x c).6.1∧(bif c then x.6.2 else x.6.2) =(ah r x c).6.2∧(bif c then x.6.3 else x.6.3) =(ah r x c).6.3∧(bif c then x.6.4 else x.6.4) =(ah r x c).6.4∧(bif c then x.6.5 else x.6.5) =(ah r x c).6.5∧(bif c then x.7 else x.7) =(ah r x c).7∧(bif c then IntKind.i64.wrap (x.8 +(1:Int)) else x.8) =(ah r x c).8∧(bif c then x.9 else x.9) =(ah r x c).9∧(bif c then x.10 else x.10) =(ah r x c).10∧(nat_lit 0=nat_lit 0∧nat_lit 0=nat_lit 0)∧(bif c then x.12 else x.12) =(ah r x c).12∧(nat_lit 1=nat_lit 1∧nat_lit 1=nat_lit 1)∧(nat_lit 2=nat_lit 2∧nat_lit 2=nat_lit 2)∧(bif c then x.15 else x.15) =(ah r x c).15∧(nat_lit 3=nat_lit 3∧nat_lit 3=nat_lit 3)∧(bif c then x.17 else x.17) =(ah r x c).17∧(bif c then IntKind.i64.wrap (x.18 +(1:Int)) else x.18) =(ah r x c).18∧(bif c then x.19 else x.19) =(ah r x c).19∧(bif c then x.20 else x.20) =(ah r x c).20∧(nat_lit 4=nat_lit 4∧nat_lit 4=nat_lit 4)∧(bif c then x.22.1 else x.22.1) =(ah r x c).22.1∧(bif c then x.22.2.1 else x.22.2.1) =(ah r x c).22.2.1∧(bif c then x.23 else x.23) =(ah r x c).23∧True)∧false=eC r x c∧True)∧ [RowD.mk (Ty.int IntKind.u8) x.11,RowD.mk (Ty.int IntKind.i64) (x.13++[x.12]),RowD.mk (Ty.int IntKind.i64) x.14,RowD.mk (Ty.int IntKind.i64) (bif c then x.16.set (IntKind.i64.wrap (x.12 - (1:Int))).toNat (IntKind.i64.wrap (x.16.getD (IntKind.i64.wrap (x.12 - (1:Int))).toNat (dflt (Ty.int IntKind.i64)) +(1:Int))) else x.16),RowD.mk Ty.bool x.21]=[RowD.mk (Ty.int IntKind.u8) (ah r x c).11,RowD.mk (Ty.int IntKind.i64) (ah r x c).13,RowD.mk (Ty.int IntKind.i64) (ah r x c).14,RowD.mk (Ty.int IntKind.i64) (ah r x c).16,RowD.mk Ty.bool (ah r x c).21])∧(decide ((bif c then IntKind.i64.wrap (x.8 +(1:Int)) else x.8)<r.5)=false→(((bif c then x.1 else x.1) =(ah r x c).1∧(bif c then x.2 else x.2) =(ah r x c).2∧(bif c then x.3 else x.3) =(ah r x c).3∧(bif c then x.4 else x.4) =(ah r x c).4∧(bif c then x.5 else x.5) =(ah r x c).5∧(bif c then x.6.1 else x.6.1) =(ah r x c).6.1∧(bif c then x.6.2 else x.6.2) =(ah r x c).6.2∧(bif c then x.6.3 else x.6.3) =(ah r x c).6.3∧(bif c then x.6.4 else x.6.4) =(ah r x c).6.4∧(bif c then x.6.5 else x.6.5) =(ah r x c).6.5∧IntKind.i64.wrap ((bif c then x.7 else x.7) +(1:Int)) =(ah r x c).7∧(0:Int) =(ah r x c).8∧(bif c then x.9 else x.9) =(ah r x c).9∧(bif c then x.10 else x.10) =(ah r x c).10∧(nat_lit 0=nat_lit 0∧nat_lit 0=nat_lit 0)∧(0:Int) =(ah r x c).12∧(nat_lit 1=nat_lit 1∧nat_lit 1=nat_lit 1)∧(nat_lit 2=nat_lit 2∧nat_lit 2=nat_lit 2)∧(bif c then x.15 else x.15) =(ah r x c).15∧(nat_lit 3=nat_lit 3∧nat_lit 3=nat_lit 3)∧(bif c then x.17 else x.17) =(ah r x c).17∧(bif c then IntKind.i64.wrap (x.18 +(1:Int)) else x.18) =(ah r x c).18∧(bif c then x.19 else x.19) =(ah r x c).19∧(bif c then x.20 else x.20) =(ah r x c).20∧(nat_lit 4=nat_lit 4∧nat_lit 4=nat_lit 4)∧(bif c then x.22.1 else x.22.1) =(ah r x c).22.1∧(bif c then x.22.2.1 else x.22.2.1) =(ah r x c).22.2.1∧(bif c then x.23 else x.23) =(ah r x c).23∧True)∧true=eC r x c∧True)∧ [RowD.mk (Ty.int IntKind.u8) x.11,RowD.mk (Ty.int IntKind.i64) [],RowD.mk (Ty.int IntKind.i64) (x.13++[x.12]),RowD.mk (Ty.int IntKind.i64) (bif c then x.16.set (IntKind.i64.wrap (x.12 - (1:Int))).toNat (IntKind.i64.wrap (x.16.getD (IntKind.i64.wrap (x.12 - (1:Int))).toNat (dflt (Ty.int IntKind.i64)) +(1:Int))) else x.16),RowD.mk Ty.bool x.21]=[RowD.mk (Ty.int IntKind.u8) (ah r x c).11,RowD.mk (Ty.int IntKind.i64) (ah r x c).13,RowD.mk (Ty.int IntKind.i64) (ah r x c).14,RowD.mk (Ty.int IntKind.i64) (ah r x c).16,RowD.mk Ty.bool (ah r x c).21])))∧((!cE x.13 x.12)=false→((c=true→((0:Int)≤IntKind.i64.wrap (x.12 - (1:Int))∧IntKind.i64.wrap (x.12 - (1:Int)) <(↑x.16.length:Int))∧((0:Int)≤IntKind.i64.wrap (x.12 - (1:Int))∧IntKind.i64.wrap (x.12 - (1:Int)) <(↑x.16.length:Int))∧True)∧(c=false→True))∧(true=true→(decide ((bif c then IntKind.i64.wrap (x.8 +(1:Int)) else x.8)<r.5)=true→(((bif c then x.1 else x.1) =(ah r x c).1∧(bif c then x.2 else x.2) =(ah r x c).2∧(bif c then x.3 else x.3) =(ah r x c).3∧(bif c then x.4 else x.4) =(ah r x c).4∧(bif c then x.5 else x.5) =(ah r x c).5∧(bif c then x.6.1 else x.6.1) =(ah r x c).6.1∧(bif c then x.6.2 else x.6.2) =(ah r x c).6.2∧(bif c then x.6.3 else x.6.3) =(ah r x c).6.3∧(bif c then x.6.4 else x.6.4) =(ah r x c).6.4∧(bif c then x.6.5 else x.6.5) =(ah r x c).6.5∧(bif c then x.7 else x.7) =(ah r x c).7∧(bif c then IntKind.i64.wrap (x.8 +(1:Int)) else x.8) =(ah r x c).8∧(bif c then x.9 else x.9) =(ah r x c).9∧(bif c then x.10 else x.10) =(ah r x c).10∧(nat_lit 0=nat_lit 0∧nat_lit 0=nat_lit 0)∧(bif c then x.12 else x.12) =(ah r x c).12∧(nat_lit 1=nat_lit 1∧nat_lit 1=nat_lit 1)∧(nat_lit 2=nat_lit 2∧nat_lit 2=nat_lit 2)∧(bif c then x.15 else x.15) =(ah r x c).15∧(nat_lit 3=nat_lit 3∧nat_lit 3=nat_lit 3)∧(bif c then x.17 else x.17) =(ah r x c).17∧(bif c then IntKind.i64.wrap (x.18 +(1:Int)) else x.18) =(ah r x c).18∧(bif c then x.19 else x.19) =(ah r x c).19∧(bif c then x.20 else x.20) =(ah r x c).20∧(nat_lit 4=nat_lit 4∧nat_lit 4=nat_lit 4)∧(bif c then x.22.1 else x.22.1) =(ah r x c).22.1∧(bif c then x.22.2.1 else x.22.2.1) =(ah r x c).22.2.1∧(bif c then x.23 else x.23) =(ah r x c).23∧True)∧false=eC r x c∧True)∧ [RowD.mk (Ty.int IntKind.u8) x.11,RowD.mk (Ty.int IntKind.i64) x.13,RowD.mk (Ty.int IntKind.i64) x.14,RowD.mk (Ty.int IntKind.i64) (bif c then x.16.set (IntKind.i64.wrap (x.12 - (1:Int))).toNat (IntKind.i64.wrap (x.16.getD (IntKind.i64.wrap (x.12 - (1:Int))).toNat (dflt (Ty.int IntKind.i64)) +(1:Int))) else x.16),RowD.mk Ty.bool x.21]=[RowD.mk (Ty.int IntKind.u8) (ah r x c).11,RowD.mk (Ty.int IntKind.i64) (ah r x c).13,RowD.mk (Ty.int IntKind.i64) (ah r x c).14,RowD.mk (Ty.int IntKind.i64) (ah r x c).16,RowD.mk Ty.bool (ah r x c).21])∧(decide ((bif c then IntKind.i64.wrap (x.8 +(1:Int)) else x.8)<r.5)=false→(((bif c then x.1 else x.1) =(ah r x c).1∧(bif c then x.2 else x.2) =(ah r x c).2∧(bif c then x.3 else x.3) =(ah r x c).3∧(bif c then x.4 else x.4) =(ah r x c).4∧(bif c then x.5 else x.5) =(ah r x c).5∧(bif c then x.6.1 else x.6.1) =(ah r x c).6.1∧(bif c then x.6.2 else x.6.2) =(ah r x c).6.2∧(bif c then x.6.3 else x.6.3) =(ah r x c).6.3∧(bif c then x.6.4 else x.6.4) =(ah r x c).6.4∧(bif c then x.6.5 else x.6.5) =(ah r x c).6.5∧IntKind.i64.wrap ((bif c then x.7 else x.7) +(1:Int)) =(ah r x c).7∧(0:Int) =(ah r x c).8∧(bif c then x.9 else x.9) =(ah r x c).9∧(bif c then x.10 else x.10) =(ah r x c).10∧(nat_lit 0=nat_lit 0∧nat_lit 0=nat_lit 0)∧(0:Int) =(ah r x c).12∧(nat_lit 1=nat_lit 1∧nat_lit 1=nat_lit 1)∧(nat_lit 2=nat_lit 2∧nat_lit 2=nat_lit 2)∧(bif c then x.15 else x.15) =(ah r x c).15∧(nat_lit 3=nat_lit 3∧nat_lit 3=nat_lit 3)∧(bif c then x.17 else x.17) =(ah r x c).17∧(bif c then IntKind.i64.wrap (x.18 +(1:Int)) else x.18) =(ah r x c).18∧(bif c then x.19 else x.19) =(ah r x c).19∧(bif c then x.20 else x.20) =(ah r x c).20∧(nat_lit 4=nat_lit 4∧nat_lit 4=nat_lit 4)∧(bif c then x.22.1 else x.22.1) =(ah r x c).22.1∧(bif c then x.22.2.1 else x.22.2.1) =(ah r x c).22.2.1∧(bif c then x.23 else x.23) =(ah r x c).23∧True)∧true=eC r x c∧True)∧ [RowD.mk (Ty.int IntKind.u8) x.11,RowD.mk (Ty.int IntKind.i64) [],RowD.mk (Ty.int IntKind.i64) x.13,RowD.mk (Ty.int IntKind.i64) (bif c then x.16.set (IntKind.i64.wrap (x.12 - (1:Int))).toNat (IntKind.i64.wrap (x.16.getD (IntKind.i64.wrap (x.12 - (1:Int))).toNat (dflt (Ty.int IntKind.i64)) +(1:Int))) else x.16),RowD.mk Ty.bool x.21]=[RowD.mk (Ty.int IntKind.u8) (ah r x c).11,RowD.mk (Ty.int IntKind.i64) (ah r x c).13,RowD.mk (Ty.int IntKind.i64) (ah r x c).14,RowD.mk (Ty.int IntKind.i64) (ah r x c).16,RowD.mk Ty.bool (ah r x c).21])))))
 have h0 :(bif !bC x x.Bowler then true else ar r != 0)=eM r x:=by simp only [eM];cases bC x x.Bowler <;> cases (ar r != 0) <;> rfl
 rw [h0]
 have hk:eM r x=false→IntKind.i64.wrap (x.Bowler - 1)=x.Bowler - 1∧0≤x.Bowler - 1∧x.Bowler - 1 <(x.Bowled.length:Int):=fun h=>nC hb (by
  cases hk:bC x x.Bowler with
  | true=>rfl
  | false=>simp only [eM,hk] at h;cases h)
 refine ⟨hs,fun h=>?_,fun h=>?_⟩
 ·rw [(s8 c h).1,(s8 c h).2];simp
 ·obtain ⟨ew,k1,k2⟩:=hk h
  rw [ew]
  have hd:x.Bowled.getD (x.Bowler - 1).toNat (dflt (Ty.int IntKind.i64))=x.Bowled.getD (x.Bowler - 1).toNat 0:=rfl
  refine ⟨fun h1=>⟨?_,⟨fun _=>⟨⟨k1,k2⟩,⟨k1,k2⟩,trivial⟩,fun _=>trivial⟩,fun _=>⟨fun h2=>?_,fun h2=>?_⟩⟩,fun h1=>⟨⟨fun _=>⟨⟨k1,k2⟩,⟨k1,k2⟩,trivial⟩,fun _=>trivial⟩,fun _=>⟨fun h2=>?_,fun h2=>?_⟩⟩⟩
  ·have:=hs.2.1
   simp only [List.length_cons,List.length_nil]
   omega
  ·have h1:cE x.Bowlers x.Bowler=false:=by simpa using h1
   rw [(jC h h2).1,(jC h h2).2]
   cases c <;> simp [ci,dw,mh,h1] <;> first|rfl|exact ⟨rfl,rfl⟩
  ·have h1:cE x.Bowlers x.Bowler=false:=by simpa using h1
   rw [(fF h h2).1,(fF h h2).2]
   cases c <;> simp [vo,ci,dw,mh,h1] <;> first|rfl|exact ⟨rfl,rfl⟩
  ·have h1:cE x.Bowlers x.Bowler=true:=by simpa using h1
   rw [(jC h h2).1,(jC h h2).2]
   cases c <;> simp [ci,dw,mh,h1] <;> first|rfl|exact ⟨rfl,rfl⟩
  ·have h1:cE x.Bowlers x.Bowler=true:=by simpa using h1
   rw [(fF h h2).1,(fF h h2).2]
   cases c <;> simp [vo,ci,dw,mh,h1] <;> first|rfl|exact ⟨rfl,rfl⟩
theorem Si:CtrOK Tryz.prog K8 165 (ap K8 vA m9):=by
 refine aJ (C:=cf8 [k47,k83,k84,k85] Tryz.f165) (bp (.cons Mi (.cons Pr (.cons Ps (.cons zK .nil)))) _) mixed (fn:=Tryz.f165) Tryz.func165 (by kernel_rfl) (by kernel_rfl) (by kernel_rfl) (Λ:=fun _ _=>none) ?_ ?_ ?_
 ·exact fun _ _ _ _ _ _ _ _ h=>by cases h
 ·rintro ⟨r,x,c,⟨⟩⟩
  exact of_decide_eq_true (by kernel_rfl)
 ·rintro ⟨r,x,c,⟨⟩⟩ hw hn
  exact Rg r x c (hn _ (List.mem_singleton.2 rfl)) (yO (aY (aP hw)))
theorem Rh (r:Rules) (x:Innings) (c:Bool) (hs:aj x) (hb:gl x.Bowler) :(evFn (cf8 [k44,k86,k87,k88] Tryz.f212) (fun _=>none) Tryz.f212 (bh vA (r,x,c,()))).sat fun v' rows=>leV v' (m9 (r,x,c,())).v∧rows =(m9 (r,x,c,())).rows:=by
 refine cast (by kernel_rfl) (?_:aj x∧((bif ar r !=(0:Int) then true else !bC x x.12)=true→((x.1 =(ah r x c).1∧x.2 =(ah r x c).2∧x.3 =(ah r x c).3∧x.4 =(ah r x c).4∧x.5 =(ah r x c).5∧x.6.1 =(ah r x c).6.1∧x.6.2 =(ah r x c).6.2∧x.6.3 =(ah r x c).6.3∧x.6.4 =(ah r x c).6.4∧x.6.5 =(ah r x c).6.5∧x.7 =(ah r x c).7∧x.8 =(ah r x c).8∧x.9 =(ah r x c).9∧x.10 =(ah r x c).10∧(nat_lit 0=nat_lit 0∧nat_lit 0=nat_lit 0)∧x.12 =(ah r x c).12∧(nat_lit 1=nat_lit 1∧nat_lit 1=nat_lit 1)∧(nat_lit 2=nat_lit 2∧nat_lit 2=nat_lit 2)∧x.15 =(ah r x c).15∧(nat_lit 3=nat_lit 3∧nat_lit 3=nat_lit 3)∧x.17 =(ah r x c).17∧x.18 =(ah r x c).18∧x.19 =(ah r x c).19∧x.20 =(ah r x c).20∧(nat_lit 4=nat_lit 4∧nat_lit 4=nat_lit 4)∧x.22.1 =(ah r x c).22.1∧x.22.2.1 =(ah r x c).22.2.1∧x.23 =(ah r x c).23∧True)∧false=eC r x c∧True)∧ [RowD.mk (Ty.int IntKind.u8) x.11,RowD.mk (Ty.int IntKind.i64) x.13,RowD.mk (Ty.int IntKind.i64) x.14,RowD.mk (Ty.int IntKind.i64) x.16,RowD.mk Ty.bool x.21]=[RowD.mk (Ty.int IntKind.u8) (ah r x c).11,RowD.mk (Ty.int IntKind.i64) (ah r x c).13,RowD.mk (Ty.int IntKind.i64) (ah r x c).14,RowD.mk (Ty.int IntKind.i64) (ah r x c).16,RowD.mk Ty.bool (ah r x c).21])∧((bif ar r !=(0:Int) then true else !bC x x.12)=false→((!cE x.13 x.12)=true→(x.13.length+[x.12].length) *(8:Nat)≤(70368744177664:Nat)∧((c=true→((0:Int)≤IntKind.i64.wrap (x.12 - (1:Int))∧IntKind.i64.wrap (x.12 - (1:Int)) <(↑x.16.length:Int))∧((0:Int)≤IntKind.i64.wrap (x.12 - (1:Int))∧IntKind.i64.wrap (x.12 - (1:Int)) <(↑x.16.length:Int))∧True)∧(c=false→True))∧(true=true→(decide ((bif c then IntKind.i64.wrap (x.8 +(1:Int)) else x.8)<r.5)=true→(((bif c then x.1 else x.1) =(ah r x c).1∧(bif c then x.2 else x.2) =(ah r x c).2∧(bif c then x.3 else x.3) =(ah r x c).3∧(bif c then x.4 else x.4) =(ah r x c).4∧(bif c then x.5 else x.5) =(ah r x c).5∧(bif c then x.6.1 else x.6.1) =(ah r x c).6.1∧(bif c then x.6.2 else x.6.2) =(ah r x c).6.2∧(bif c then x.6.3 else x.6.3) =(ah r x c).6.3∧(bif c then x.6.4 else x.6.4) =(ah r x c).6.4∧(bif c then x.6.5 else x.6.5) =(ah r x c).6.5∧(bif c then x.7 else x.7) =(ah r x c).7∧(bif c then IntKind.i64.wrap (x.8 +(1:Int)) else x.8) =(ah r x c).8∧(bif c then x.9 else x.9) =(ah r x c).9∧(bif c then x.10 else x.10) =(ah r x c).10∧(nat_lit 0=nat_lit 0∧nat_lit 0=nat_lit 0)∧(bif c then x.12 else x.12) =(ah r x c).12∧(nat_lit 1=nat_lit 1∧nat_lit 1=nat_lit 1)∧(nat_lit 2=nat_lit 2∧nat_lit 2=nat_lit 2)∧(bif c then x.15 else x.15) =(ah r x c).15∧(nat_lit 3=nat_lit 3∧nat_lit 3=nat_lit 3)∧(bif c then x.17 else x.17) =(ah r x c).17∧(bif c then IntKind.i64.wrap (x.18 +(1:Int)) else x.18) =(ah r x c).18∧(bif c then x.19 else x.19) =(ah r x c).19∧(bif c then x.20 else x.20) =(ah r x c).20∧(nat_lit 4=nat_lit 4∧nat_lit 4=nat_lit 4)∧(bif c then x.22.1 else x.22.1) =(ah r x c).22.1∧(bif c then x.22.2.1 else x.22.2.1) =(ah r x c).22.2.1∧(bif c then x.23 else x.23) =(ah r x c).23∧True)∧false=eC r x c∧True)∧ [RowD.mk (Ty.int IntKind.u8) x.11,RowD.mk (Ty.int IntKind.i64) (x.13++[x.12]),RowD.mk (Ty.int IntKind.i64) x.14,RowD.mk (Ty.int IntKind.i64) (bif c then x.16.set (IntKind.i64.wrap (x.12 - (1:Int))).toNat (IntKind.i64.wrap (x.16.getD (IntKind.i64.wrap (x.12 - (1:Int))).toNat (dflt (Ty.int IntKind.i64)) +(1:Int))) else x.16),RowD.mk Ty.bool x.21]=[RowD.mk (Ty.int IntKind.u8) (ah r x c).11,RowD.mk (Ty.int IntKind.i64) (ah r x c).13,RowD.mk (Ty.int IntKind.i64) (ah r x c).14,RowD.mk (Ty.int IntKind.i64) (ah r x c).16,RowD.mk Ty.bool (ah r x c).21])∧(decide ((bif c then IntKind.i64.wrap (x.8 +(1:Int)) else x.8)<r.5)=false→(((bif c then x.1 else x.1) =(ah r x c).1∧(bif c then x.2 else x.2) =(ah r x c).2∧(bif c then x.3 else x.3) =(ah r x c).3∧(bif c then x.4 else x.4) =(ah r x c).4∧(bif c then x.5 else x.5) =(ah r x c).5∧(bif c then x.6.1 else x.6.1) =(ah r x c).6.1∧(bif c then x.6.2 else x.6.2) =(ah r x c).6.2∧(bif c then x.6.3 else x.6.3) =(ah r x c).6.3∧(bif c then x.6.4 else x.6.4) =(ah r x c).6.4∧(bif c then x.6.5 else x.6.5) =(ah r x c).6.5∧IntKind.i64.wrap ((bif c then x.7 else x.7) +(1:Int)) =(ah r x c).7∧(0:Int) =(ah r x c).8∧(bif c then x.9 else x.9) =(ah r x c).9∧(bif c then x.10 else x.10) =(ah r x c).10∧(nat_lit 0=nat_lit 0∧nat_lit 0=nat_lit 0)∧(0:Int) =(ah r x c).12∧(nat_lit 1=nat_lit 1∧nat_lit 1=nat_lit 1)∧(nat_lit 2=nat_lit 2∧nat_lit 2=nat_lit 2)∧(bif c then x.15 else x.15) =(ah r x c).15∧(nat_lit 3=nat_lit 3∧nat_lit 3=nat_lit 3)∧(bif c then x.17 else x.17) =(ah r x c).17∧(bif c then IntKind.i64.wrap (x.18 +(1:Int)) else x.18) =(ah r x c).18∧(bif c then x.19 else x.19) =(ah r x c).19∧(bif c then x.20 else x.20) =(ah r x c).20∧(nat_lit 4=nat_lit 4∧nat_lit 4=nat_lit 4)∧(bif c then x.22.1 else x.22.1) =(ah r x c).22.1∧(bif c then x.22.2.1 else x.22.2.1) =(ah r x c).22.2.1∧(bif c then x.23 else x.23) =(ah r x c).23∧True)∧true=eC r x c∧True)∧ [RowD.mk (Ty.int IntKind.u8) x.11,RowD.mk (Ty.int IntKind.i64) [],RowD.mk (Ty.int IntKind.i64) (x.13++[x.12]),RowD.mk (Ty.int IntKind.i64) (bif c then x.16.set (IntKind.i64.wrap (x.12 - (1:Int))).toNat (IntKind.i64.wrap (x.16.getD (IntKind.i64.wrap (x.12 - (1:Int))).toNat (dflt (Ty.int IntKind.i64)) +(1:Int))) else x.16),RowD.mk Ty.bool x.21]=[RowD.mk (Ty.int IntKind.u8) (ah r x c).11,RowD.mk (Ty.int IntKind.i64) (ah r x c).13,RowD.mk (Ty.int IntKind.i64) (ah r x c).14,RowD.mk (Ty.int IntKind.i64) (ah r x c).16,RowD.mk Ty.bool (ah r x c).21])))∧((!cE x.13 x.12)=false→((c=true→((0:Int)≤IntKind.i64.wrap (x.12 - (1:Int))∧IntKind.i64.wrap (x.12 - (1:Int)) <(↑x.16.length:Int))∧((0:Int)≤IntKind.i64.wrap (x.12 - (1:Int))∧IntKind.i64.wrap (x.12 - (1:Int)) <(↑x.16.length:Int))∧True)∧(c=false→True))∧(true=true→(decide ((bif c then IntKind.i64.wrap (x.8 +(1:Int)) else x.8)<r.5)=true→(((bif c then x.1 else x.1) =(ah r x c).1∧(bif c then x.2 else x.2) =(ah r x c).2∧(bif c then x.3 else x.3) =(ah r x c).3∧(bif c then x.4 else x.4) =(ah r x c).4∧(bif c then x.5 else x.5) =(ah r x c).5∧(bif c then x.6.1 else x.6.1) =(ah r x c).6.1∧(bif c then x.6.2 else x.6.2) =(ah r x c).6.2∧(bif c then x.6.3 else x.6.3) =(ah r x c).6.3∧(bif c then x.6.4 else x.6.4) =(ah r x c).6.4∧(bif c then x.6.5 else x.6.5) =(ah r x c).6.5∧(bif c then x.7 else x.7) =(ah r x c).7∧(bif c then IntKind.i64.wrap (x.8 +(1:Int)) else x.8) =(ah r x c).8∧(bif c then x.9 else x.9) =(ah r x c).9∧(bif c then x.10 else x.10) =(ah r x c).10∧(nat_lit 0=nat_lit 0∧nat_lit 0=nat_lit 0)∧(bif c then x.12 else x.12) =(ah r x c).12∧(nat_lit 1=nat_lit 1∧nat_lit 1=nat_lit 1)∧(nat_lit 2=nat_lit 2∧nat_lit 2=nat_lit 2)∧(bif c then x.15 else x.15) =(ah r x c).15∧(nat_lit 3=nat_lit 3∧nat_lit 3=nat_lit 3)∧(bif c then x.17 else x.17) =(ah r x c).17∧(bif c then IntKind.i64.wrap (x.18 +(1:Int)) else x.18) =(ah r x c).18∧(bif c then x.19 else x.19) =(ah r x c).19∧(bif c then x.20 else x.20) =(ah r x c).20∧(nat_lit 4=nat_lit 4∧nat_lit 4=nat_lit 4)∧(bif c then x.22.1 else x.22.1) =(ah r x c).22.1∧(bif c then x.22.2.1 else x.22.2.1) =(ah r x c).22.2.1∧(bif c then x.23 else x.23) =(ah r x c).23∧True)∧false=eC r x c∧True)∧ [RowD.mk (Ty.int IntKind.u8) x.11,RowD.mk (Ty.int IntKind.i64) x.13,RowD.mk (Ty.int IntKind.i64) x.14,RowD.mk (Ty.int IntKind.i64) (bif c then x.16.set (IntKind.i64.wrap (x.12 - (1:Int))).toNat (IntKind.i64.wrap (x.16.getD (IntKind.i64.wrap (x.12 - (1:Int))).toNat (dflt (Ty.int IntKind.i64)) +(1:Int))) else x.16),RowD.mk Ty.bool x.21]=[RowD.mk (Ty.int IntKind.u8) (ah r x c).11,RowD.mk (Ty.int IntKind.i64) (ah r x c).13,RowD.mk (Ty.int IntKind.i64) (ah r x c).14,RowD.mk (Ty.int IntKind.i64) (ah r x c).16,RowD.mk Ty.bool (ah r x c).21])∧(decide ((bif c then IntKind.i64.wrap (x.8 +(1:Int)) else x.8)<r.5)=false→(((bif c then x.1 else x.1) =(ah r x c).1∧(bif c then x.2 else x.2) =(ah r x c).2∧(bif c then x.3 else x.3) =(ah r x c).3∧(bif c then x.4 else x.4) =(ah r x c).4∧(bif c then x.5 else x.5) =(ah r x c).5∧(bif c then x.6.1 else x.6.1) =(ah r x c).6.1∧(bif c then x.6.2 else x.6.2) =(ah r x c).6.2∧(bif c then x.6.3 else x.6.3) =(ah r x c).6.3∧(bif c then x.6.4 else x.6.4) =(ah r x c).6.4∧(bif c then x.6.5 else x.6.5) =(ah r x c).6.5∧IntKind.i64.wrap ((bif c then x.7 else x.7) +(1:Int)) =(ah r x c).7∧(0:Int) =(ah r x c).8∧(bif c then x.9 else x.9) =(ah r x c).9∧(bif c then x.10 else x.10) =(ah r x c).10∧(nat_lit 0=nat_lit 0∧nat_lit 0=nat_lit 0)∧(0:Int) =(ah r x c).12∧(nat_lit 1=nat_lit 1∧nat_lit 1=nat_lit 1)∧(nat_lit 2=nat_lit 2∧nat_lit 2=nat_lit 2)∧(bif c then x.15 else x.15) =(ah r x c).15∧(nat_lit 3=nat_lit 3∧nat_lit 3=nat_lit 3)∧(bif c then x.17 else x.17) =(ah r x c).17∧(bif c then IntKind.i64.wrap (x.18 +(1:Int)) else x.18) =(ah r x c).18∧(bif c then x.19 else x.19) =(ah r x c).19∧(bif c then x.20 else x.20) =(ah r x c).20∧(nat_lit 4=nat_lit 4∧nat_lit 4=nat_lit 4)∧(bif c then x.22.1 else x.22.1) =(ah r x c).22.1∧(bif c then x.22.2.1 else x.22.2.1) =(ah r x c).22.2.1∧(bif c then x.23 else x.23) =(ah r x c).23∧True)∧true=eC r x c∧True)∧ [RowD.mk (Ty.int IntKind.u8) x.11,RowD.mk (Ty.int IntKind.i64) [],RowD.mk (Ty.int IntKind.i64) x.13,RowD.mk (Ty.int IntKind.i64) (bif c then x.16.set (IntKind.i64.wrap (x.12 - (1:Int))).toNat (IntKind.i64.wrap (x.16.getD (IntKind.i64.wrap (x.12 - (1:Int))).toNat (dflt (Ty.int IntKind.i64)) +(1:Int))) else x.16),RowD.mk Ty.bool x.21]=[RowD.mk (Ty.int IntKind.u8) (ah r x c).11,RowD.mk (Ty.int IntKind.i64) (ah r x c).13,RowD.mk (Ty.int IntKind.i64) (ah r x c).14,RowD.mk (Ty.int IntKind.i64) (ah r x c).16,RowD.mk Ty.bool (ah r x c).21])))))
 have h0 :(bif ar r != 0 then true else !bC x x.Bowler)=eM r x:=by simp only [eM];cases bC x x.Bowler <;> cases (ar r != 0) <;> rfl
 rw [h0]
 have hk:eM r x=false→IntKind.i64.wrap (x.Bowler - 1)=x.Bowler - 1∧0≤x.Bowler - 1∧x.Bowler - 1 <(x.Bowled.length:Int):=fun h=>nC hb (by
  cases hk:bC x x.Bowler with
  | true=>rfl
  | false=>simp only [eM,hk] at h;cases h)
 refine ⟨hs,fun h=>?_,fun h=>?_⟩
 ·rw [(s8 c h).1,(s8 c h).2];simp
 ·obtain ⟨ew,k1,k2⟩:=hk h
  rw [ew]
  have hd:x.Bowled.getD (x.Bowler - 1).toNat (dflt (Ty.int IntKind.i64))=x.Bowled.getD (x.Bowler - 1).toNat 0:=rfl
  refine ⟨fun h1=>⟨?_,⟨fun _=>⟨⟨k1,k2⟩,⟨k1,k2⟩,trivial⟩,fun _=>trivial⟩,fun _=>⟨fun h2=>?_,fun h2=>?_⟩⟩,fun h1=>⟨⟨fun _=>⟨⟨k1,k2⟩,⟨k1,k2⟩,trivial⟩,fun _=>trivial⟩,fun _=>⟨fun h2=>?_,fun h2=>?_⟩⟩⟩
  ·have:=hs.2.1
   simp only [List.length_cons,List.length_nil]
   omega
  ·have h1:cE x.Bowlers x.Bowler=false:=by simpa using h1
   rw [(jC h h2).1,(jC h h2).2]
   cases c <;> simp [ci,dw,mh,h1] <;> first|rfl|exact ⟨rfl,rfl⟩
  ·have h1:cE x.Bowlers x.Bowler=false:=by simpa using h1
   rw [(fF h h2).1,(fF h h2).2]
   cases c <;> simp [vo,ci,dw,mh,h1] <;> first|rfl|exact ⟨rfl,rfl⟩
  ·have h1:cE x.Bowlers x.Bowler=true:=by simpa using h1
   rw [(jC h h2).1,(jC h h2).2]
   cases c <;> simp [ci,dw,mh,h1] <;> first|rfl|exact ⟨rfl,rfl⟩
  ·have h1:cE x.Bowlers x.Bowler=true:=by simpa using h1
   rw [(fF h h2).1,(fF h h2).2]
   cases c <;> simp [vo,ci,dw,mh,h1] <;> first|rfl|exact ⟨rfl,rfl⟩
theorem Sj:CtrOK Tryz.prog K8 212 (ap K8 vA m9):=by
 refine aJ (C:=cf8 [k44,k86,k87,k88] Tryz.f212) (bp (.cons rg (.cons u9 (.cons Pt (.cons QR .nil)))) _) mixed (fn:=Tryz.f212) Tryz.func212 (by kernel_rfl) (by kernel_rfl) (by kernel_rfl) (Λ:=fun _ _=>none) ?_ ?_ ?_
 ·exact fun _ _ _ _ _ _ _ _ h=>by cases h
 ·rintro ⟨r,x,c,⟨⟩⟩
  exact of_decide_eq_true (by kernel_rfl)
 ·rintro ⟨r,x,c,⟨⟩⟩ hw hn
  exact Rh r x c (hn _ (List.mem_singleton.2 rfl)) (yO (aY (aP hw)))
end Go.Proofs.YtkgplaoappjkcaaGreat
